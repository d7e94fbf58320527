/-
  SymTy, Sym7, Sym8, Sym9, SymKit, SymMan, PlB, PlNum, PlWire, PlDec, PlRec, SymEq, SymTab, SymLab, SymLen: put together by a program of mine (a claim may have 60 files at most). Conditions: none.
-/
import Derived.Orders
import Derived.OrdersHeld
import Derived.Defers
import Derived.Recover
import Derived.Lib.BitFns
import Derived.ChangeKeysEq
import Derived.Test.YthpbihppfijegaaProg
import Derived.Test.YthpbihppfijegaaMgA1
namespace Go.Proofs.Ythpbihppfijegaa.Sym
open Go.RowKit
set_option linter.unusedVariables false
set_option linter.unusedSimpArgs false

def zok : AV → Bool
  | .int .. | .bool _ | .nilp | .nili => true
  | .str s => Nat.ble s.size 65536
  | .sl none none 0 0 _ _ => true
  | .raw v => v.oneCell'
  | _ => false
theorem zok_ok {v : AV} (h : zok v = true) : v.one = true ∧ ∀ m w, Ok m w v := by
  unfold zok at h
  split at h
  · exact ⟨rfl, fun m w => .int _ _⟩
  · exact ⟨rfl, fun m w => .bool _⟩
  · exact ⟨rfl, fun m w => .nilp⟩
  · exact ⟨rfl, fun m w => .nili⟩
  · exact ⟨rfl, fun m w => .str _ (by have := Nat.le_of_ble_eq_true h; simp only [maxLen]; omega)⟩
  · exact ⟨rfl, fun m w => .sl _ _ _ _ _ _ (Nat.le_refl _) (by simp) (fun i hi => by omega) (fun i hi => by omega) (fun i hi => by omega) (fun i hi => by omega) (fun i hi => by omega)⟩
  · exact ⟨h, fun m w => .raw _⟩
  · cases h
section
variable {P : Program}
def aggB (P : Program) (t : Nat) : Option Bool := (P.underlying t).map fun d => match d with
  | .struct _ | .array _ _ => true
  | _ => false
theorem aggB_ok {t : Nat} {b : Bool} (h : aggB P t = some b) (w : World) : (isAgg t).run P w = .ok b w := by
  unfold aggB at h
  obtain ⟨d, hd, rfl⟩ := Option.map_eq_some_iff.1 h
  simp only [isAgg, Sem.run_bind, run_underlying hd, Result.andThen_ok]
  cases d <;> rfl
def sizeB (P : Program) (t : Nat) : Option Nat := (P.info? t).map (·.size)
theorem sizeB_ok {t n : Nat} (h : sizeB P t = some n) (w : World) : (sizeOf t).run P w = .ok n w := by
  unfold sizeB at h
  obtain ⟨d, hd, rfl⟩ := Option.map_eq_some_iff.1 h
  simp [sizeOf, typeInfo, hd]
def fieldsB (P : Program) : List Field → List (Nat × Nat × Bool) → Bool
  | [], [] => true
  | f :: fs, (off, n, g) :: l => f.offset == off && sizeB P f.type == some n && n != 0 && aggB P f.type == some g && fieldsB P fs l
  | _, _ => false
theorem fieldsB_ok : ∀ {fs : List Field} {l : List (Nat × Nat × Bool)}, fieldsB P fs l = true →
    (∀ (f : Nat) x, l[f]? = some x → ∃ fd : Field, fs[f]? = some fd ∧ fd.offset = x.1 ∧ sizeB P fd.type = some x.2.1 ∧ x.2.1 ≠ 0 ∧ aggB P fd.type = some x.2.2) ∧ fs.mapM (fun f => (P.info? f.type).map fun i => (f.offset, i.size)) = some (l.map fun x => (x.1, x.2.1))
  | [], [], _ => ⟨fun f x h => by simp at h, rfl⟩
  | [], _ :: _, h => by simp [fieldsB] at h
  | _ :: _, [], h => by simp [fieldsB] at h
  | f :: fs, (off, n, g) :: l, h => by
    simp only [fieldsB, Bool.and_eq_true, beq_iff_eq, bne_iff_ne] at h
    obtain ⟨⟨⟨⟨h1, h2⟩, h3⟩, h4⟩, h5⟩ := h
    obtain ⟨i1, i2⟩ := fieldsB_ok h5
    refine ⟨fun k x hx => ?_, ?_⟩
    · cases k with
      | zero => simp at hx; subst hx; exact ⟨f, rfl, h1, h2, h3, h4⟩
      | succ k => exact i1 k x (by simpa using hx)
    · unfold sizeB at h2
      obtain ⟨d, hd, hn⟩ := Option.map_eq_some_iff.1 h2
      simp [List.mapM_cons, hd, i2, h1, hn]
def tyB (P : Program) (t : Nat) (i : TI) : Bool :=
  sizeB P t == some i.size && aggB P t == some i.agg && i.zero.all zok &&
  (i.fields.isEmpty || match P.underlying t with | some (.struct fs) => fieldsB P fs.toList i.fields | _ => false) &&
  (match i.elem with | none => true | some (e, k) => (match P.underlying t with | some (.slice e') => e' == e | _ => false) && sizeB P e == some k) &&
  (!i.str || match P.underlying t with | some .string => true | _ => false) &&
  (!i.bool || match P.underlying t with | some .bool => true | _ => false) &&
  (match i.elem with | some (e, k) => (i.ebytes == 0 || (match P.info? e with | some inf => inf.bytes == i.ebytes && inf.size == k && k != 0 && (match inf.zero with | some z => z.cells.size == k | none => false) | none => false)) | none => true) &&
  (match i.int with | none => true | some k => match P.underlying t with | some (.int k') => k' == k | _ => false) &&
  (match P.underlying t with | some (.pointer _) => true | some _ => !i.ptr | none => false) &&
  (match P.underlying t with | some (.interface _) => i.itf | some _ => !i.itf | none => false) &&
  (!i.bytes || match P.underlying t with | some (.slice e) => (match P.underlying e with | some (.int .u8) => true | _ => false) | _ => false) &&
  (!i.arr || match P.underlying t with | some (.array _ e) => (sizeB P e).isSome | _ => false)
theorem tyB_ok {t : Nat} {i : TI} (h : tyB P t i = true) (hz : ((P.info? t).bind (·.zero)).map Value.cells = some (i.zero.map AV.den).toArray) : TyOK P t i := by
  simp only [tyB, Bool.and_eq_true, beq_iff_eq] at h
  obtain ⟨⟨⟨⟨⟨⟨⟨⟨⟨⟨⟨⟨h1, h2⟩, h3⟩, h4⟩, h5⟩, h6⟩, h7⟩, h8⟩, h9⟩, h10⟩, h11⟩, h12⟩, h13⟩ := h
  have hf : i.fields.isEmpty = false → ∃ fs, P.underlying t = some (.struct fs) ∧ fieldsB P fs.toList i.fields = true := by
    intro hne
    simp only [hne, Bool.false_or] at h4
    split at h4
    · rename_i fs hu; exact ⟨fs, hu, h4⟩
    · cases h4
  refine ⟨sizeB_ok h1, aggB_ok h2, ?_, ?_, ?_, ?_, ?_, ?_, ?_, ?_, ?_, ?_, ?_, ?_, ?_⟩
  · cases hi : P.info? t with
    | none => simp [hi] at hz
    | some inf =>
      cases hzz : inf.zero with
      | none => simp [hi, hzz] at hz
      | some z =>
        simp [hi, hzz] at hz
        refine ⟨z, fun w => by simp [zeroValue, typeInfo, hi, hzz], hz, fun v hv => ?_⟩
        have := List.all_eq_true.1 h3 v hv
        exact zok_ok this
  · intro f x hx
    obtain ⟨fs, hu, hb⟩ := hf (by cases hl : i.fields with | nil => simp [hl] at hx | cons => rfl)
    obtain ⟨fd, g1, g2, g3, g4, g5⟩ := (fieldsB_ok hb).1 f x hx
    exact ⟨fs, hu, fd, by simpa using g1, g2, sizeB_ok g3, g4, aggB_ok g5⟩
  · intro hne
    obtain ⟨fs, hu, hb⟩ := hf hne
    obtain ⟨g1, g2⟩ := fieldsB_ok hb
    refine ⟨fs, (i.fields.map fun x => (x.1, x.2.1)).toArray, hu, fun w => ?_, fun f x hx => by simp [hx]⟩
    have := run_places (P := P) w fs.toList _ g2
    have e : (fs.mapM fun f => do pure (f.offset, ← sizeOf f.type) : Sem (Array (Nat × Nat))) = (do pure (← fs.toList.mapM fun f => Prod.mk f.offset <$> sizeOf f.type).toArray) := by
      rw [← Array.toArray_toList (xs := fs), Array.mapM_eq_mapM_toList]
      simp
    rw [e]
    simp [this]
  · intro e k he
    rw [he] at h5
    simp only [Bool.and_eq_true, beq_iff_eq] at h5
    obtain ⟨g1, g2⟩ := h5
    split at g1
    · rename_i e' hu
      have : e' = e := by simpa using g1
      subst this
      exact ⟨hu, sizeB_ok g2⟩
    · cases g1
  · intro hs
    simp only [hs, Bool.not_true, Bool.false_or] at h6
    split at h6
    · rename_i hu; exact hu
    · cases h6
  · intro hs
    simp only [hs, Bool.not_true, Bool.false_or] at h7
    split at h7
    · rename_i hu; exact hu
    · cases h7
  · intro e k he hne
    rw [he] at h8 h5
    simp only [Bool.or_eq_true, beq_iff_eq] at h8
    rcases h8 with h8 | h8
    · exact absurd h8 hne
    · simp only [Bool.and_eq_true, beq_iff_eq] at h5
      obtain ⟨g1, _⟩ := h5
      split at g1
      · rename_i e' hu
        have : e' = e := by simpa using g1
        subst this
        split at h8
        · rename_i inf hi
          simp only [Bool.and_eq_true, beq_iff_eq, bne_iff_ne] at h8
          obtain ⟨⟨⟨p1, p2⟩, p3⟩, p4⟩ := h8
          split at p4
          · rename_i z hz
            exact ⟨z, hu, by simp [hi, hz, p1, p2], by simpa using p4, Nat.pos_of_ne_zero p3⟩
          · cases p4
        · cases h8
      · cases g1
  · intro k hk
    rw [hk] at h9
    simp only at h9
    split at h9
    · rename_i k' hu
      have : k' = k := by simpa using h9
      subst this; exact hu
    · cases h9
  · intro hp
    split at h10
    · rename_i e hu; exact ⟨e, hu⟩
    · simp [hp] at h10
    · cases h10
  · intro hp
    split at h11
    · rename_i ms hu; exact ⟨ms, hu⟩
    · simp [hp] at h11
    · cases h11
  · intro hp
    split at h11
    · simp [hp] at h11
    · rename_i d hne hu; exact ⟨d, hu, fun ms he => hne ms he⟩
    · cases h11
  · intro hp
    simp only [hp, Bool.not_true, Bool.false_or] at h12
    split at h12
    · rename_i e hu
      split at h12
      · rename_i hue; exact ⟨e, hu, hue⟩
      · cases h12
    · cases h12
  · intro hp
    simp only [hp, Bool.not_true, Bool.false_or] at h13
    split at h13
    · rename_i n e hu
      obtain ⟨s, hs⟩ := Option.isSome_iff_exists.1 h13
      exact ⟨n, e, s, hu, sizeB_ok hs⟩
    · cases h13
end
end Go.Proofs.Ythpbihppfijegaa.Sym

namespace Go.Proofs.Ythpbihppfijegaa.Sym
open Go.RowKit
set_option linter.unusedVariables false
set_option linter.unusedSimpArgs false

def startT : Nat → List AV → List (Nat × AV)
  | _, [] => []
  | i, v :: l => (i, v) :: startT (i + 1) l
theorem startT_look : ∀ (l : List AV) (i t : Nat), (look (startT i l) t).known = true → i ≤ t ∧ l[t - i]? = some (look (startT i l) t)
  | [], i, t, h => by cases h
  | v :: l, i, t, h => by
    simp only [startT, look_cons] at h ⊢
    by_cases he : i = t
    · subst he; simp
    · rw [if_neg he] at h ⊢
      obtain ⟨h1, h2⟩ := startT_look l (i + 1) t h
      refine ⟨by omega, ?_⟩
      rw [show t - i = (t - (i + 1)) + 1 by omega, List.getElem?_cons_succ]
      exact h2
theorem start_ok {m : Nat → Nat → Prop} {w : World} (hm : ∀ b o, m b o → b < w.heap.size) {args : List AV} (hargs : ∀ v ∈ args, Ok m w v) {n : Nat} (hn : args.length ≤ n) :
    Fits ⟨m, w, fun _ => False, [], noK⟩ ⟨n, startT 0 args, [], [], []⟩ { tmps := (args.map AV.den).toArray ++ Array.replicate (n - args.length) Go.undef, defers := [] } w := by
  have mono : ∀ v, Ok m w v → Ok (St.m ⟨n, startT 0 args, [], [], []⟩ ⟨m, w, fun _ => False, [], noK⟩) w v := fun v hv => hv.mono fun b o u h1 h2 => ⟨h1, fun h => by
    rcases h with h | h
    · exact h2 h
    · rcases h with ⟨k, e, he, _⟩ | ⟨k, e, he, _⟩ <;> cases he⟩
  refine ⟨by simp; omega, rfl, fun t ht => ?_, fun t p v he => (by cases he), fun k e he => (by cases he), fun k k' e e' he => (by cases he), (fun k t ht => by cases ht), (fun k t k' e ht => by cases ht), (fun k t k' t' b ht => by cases ht), Chg.refl _ _, hm, trivial⟩
  obtain ⟨_, h1⟩ := startT_look args 0 t ht
  rw [Nat.sub_zero] at h1
  have hlt := (List.getElem?_eq_some_iff.1 h1).1
  refine ⟨?_, mono _ (hargs _ (List.mem_of_getElem? h1))⟩
  rw [Array.getElem?_append_left (by simpa using hlt)]
  simp [h1]
section
variable {P : Program} {T : List (Nat × TI)} {C : Cx} {s : St} {a : Act} {w : World}
theorem enter {m : Nat → Nat → Prop} (hm : ∀ b o, m b o → b < w.heap.size) {args : List AV} (hargs : ∀ v ∈ args, Ok m w v) {f : FuncId} {fn : Func} {c : Code} {R : Ending → World → Prop} (hf : P.funcs[f]? = some fn) (hb : fn.body = some c)
    (hn : args.length ≤ fn.ntmps) (h : ∀ a, Fits ⟨m, w, fun _ => False, [], noK⟩ ⟨fn.ntmps, startT 0 args, [], [], []⟩ a w → c.wp P (bodyPost P fn R) a w) : Calls P f (args.map AV.den).toArray w R := by
  refine calls_of_wp hf hb ?_
  have := h _ (start_ok hm hargs hn)
  simpa using this
def resV (T : List (Nat × TI)) (s : St) : ResultVar → Option (AV × List Ob)
  | .tmp t => if (look s.tmps t).known then some (look s.tmps t, []) else none
  | .cell t ty => match look s.tmps t, lookT T ty with
    | .ptr key b off, some ti => match lookM s.mem key with
      | some blk => (cut blk.cells off ti.size ti.agg).map fun v => (v, [.eqN blk.at_ b])
      | none => none
    | _, _ => none
def resL (T : List (Nat × TI)) (s : St) : List ResultVar → Option (List AV × List Ob)
  | [] => some ([], [])
  | r :: l => match resV T s r, resL T s l with
    | some (v, o), some (vs, os) => some (v :: vs, o ++ os)
    | _, _ => none
def resA : List AV → AV
  | [v] => v
  | l => .tup l
def resS (a : Act) : ResultVar → Sem Value
  | .tmp t => pure (a.tmps.getD t Go.undef)
  | .cell a' t => do loadVar t (← asAddr (a.tmps.getD a' Go.undef))
theorem resV_ok (hT : TabOK P T) (h : Fits C s a w) {r : ResultVar} {v : AV} {o : List Ob} (hr : resV T s r = some (v, o)) (ho : AllOb P C.K o) :
    (resS a r).run P w = .ok v.den w ∧ Ok (s.m C) w v := by
  cases r with
  | tmp t =>
    simp only [resV] at hr
    split at hr
    · rename_i hk
      injection hr with hr; injection hr with h1 h2; subst h1; subst h2
      have := h.slot t hk
      refine ⟨?_, this.2⟩
      simp [resS, this.1]
    · cases hr
  | cell t ty =>
    simp only [resV] at hr
    split at hr
    · rename_i key b off ti hp hti
      split at hr
      · rename_i blk hb
        obtain ⟨x, hx, he⟩ := Option.map_eq_some_iff.1 hr
        injection he with h1 h2; subst h1; subst h2
        have hat : blk.at_ = b := ho.1
        obtain ⟨h1, h2, _⟩ := h.mem _ _ hb
        obtain ⟨hok, hv⟩ := cut_ok hx h2
        have hsl := (h.slot t (by rw [hp]; rfl)).1
        rw [hp] at hsl
        have hl := run_load (P := P) (w := w) (b := blk.at_) (base := 0) (lookT_ok hT hti) (fun j u hu => by
          rw [cell_of_row w _ _ _ _ _ h1]; simpa using hu) hv
        rw [hat, Nat.zero_add] at hl
        refine ⟨?_, hok⟩
        have hl' : (loadVar ty ⟨b, off, none⟩).run P w = .ok x.den w := by simpa [Instr.loadAt, Instr.sureAddr] using hl
        simp [resS, hsl, AV.den, asAddr, hl']
      · cases hr
    · cases hr
theorem resL_ok (hT : TabOK P T) (h : Fits C s a w) : ∀ {l : List ResultVar} {vs : List AV} {o : List Ob}, resL T s l = some (vs, o) → AllOb P C.K o →
    (l.mapM (resS a)).run P w = .ok (vs.map AV.den) w ∧ ∀ v ∈ vs, Ok (s.m C) w v
  | [], vs, o, hr, _ => by simp [resL] at hr; obtain ⟨rfl, rfl⟩ := hr; simp
  | r :: l, vs, o, hr, ho => by
    simp only [resL] at hr
    split at hr
    · rename_i v o1 vs' os h1 h2
      injection hr with hr; injection hr with e1 e2; subst e1; subst e2
      obtain ⟨g1, g2⟩ := AllOb.app.1 ho
      obtain ⟨r1, k1⟩ := resV_ok hT h h1 g1
      obtain ⟨r2, k2⟩ := resL_ok hT h h2 g2
      refine ⟨?_, fun x hx => ?_⟩
      · rw [List.mapM_cons, Sem.run_bind, r1]
        simp only [Result.andThen_ok, Sem.run_bind, r2, Sem.run_pure, List.map_cons]
      · rcases List.mem_cons.1 hx with rfl | hx
        · exact k1
        · exact k2 x hx
    · cases hr
/-- the end of a call -/
theorem results_ok (hT : TabOK P T) (h : Fits C s a w) {fn : Func} {rs : List ResultVar} (hfn : fn.results = rs.toArray) {r : List AV × List Ob} (hr : resL T s rs = some r) (ho : AllOb P C.K r.2) :
    (results fn a.tmps).run P w = .ok (resA r.1).den w ∧ Ok (s.m C) w (resA r.1) := by
  obtain ⟨vs, o⟩ := r
  obtain ⟨h1, h2⟩ := resL_ok hT h hr ho
  constructor
  · have h1' : (fn.results.mapM (resS a)).run P w = .ok (vs.map AV.den).toArray w := by
      rw [hfn, List.mapM_toArray]
      simp [h1]
    have e : results fn a.tmps = (do let vs ← fn.results.mapM (resS a); pure (if h : vs.size = 1 then vs[0] else .tuple vs)) := by
      unfold results
      congr 2
    rw [e, Sem.run_bind, h1']
    cases vs with
    | nil => rfl
    | cons v vs => cases vs with
      | nil => rfl
      | cons u us => simp [resA, AV.den, denL_map, AV.denL]
  · cases vs with
    | nil => exact .tup _ (fun v hv => by cases hv)
    | cons v vs => cases vs with
      | nil => exact h2 v (by simp)
      | cons u us => exact .tup _ h2
theorem ret_ok (hT : TabOK P T) (h : Fits C s a w) (hds : C.ds = []) {fn : Func} {R : Ending → World → Prop} {rs : List ResultVar} (hfn : fn.results = rs.toArray) {r : List AV × List Ob} (hr : resL T s rs = some r) (ho : AllOb P C.K r.2)
    (hR : Ok (s.m C) w (resA r.1) → R (.returned (resA r.1).den) w) : bodyPost P fn R .ret a w ∧ bodyPost P fn R .normal a w := by
  obtain ⟨h1, h2⟩ := results_ok hT h hfn hr ho
  exact ⟨⟨h.defers.trans hds, _, h1, hR h2⟩, ⟨h.defers.trans hds, _, h1, hR h2⟩⟩
/-- what a call's end says, to those who called: only new memory -/
theorem done_ok {Kk : Kn} {m : Nat → Nat → Prop} {w0 : World} (h : Fits ⟨m, w0, fun _ => False, [], Kk⟩ s a w) {v : AV} (hv : Ok (s.m ⟨m, w0, fun _ => False, [], Kk⟩) w v) : Ok m w v ∧ Below w0.heap.size w0 w :=
  ⟨hv.mono fun b o u h1 h2 => ⟨h1, fun hm => h2 (.inl hm)⟩, h.chg.below (Nat.le_refl _) fun k hk => hk.elim⟩
end
end Go.Proofs.Ythpbihppfijegaa.Sym

namespace Go.Proofs.Ythpbihppfijegaa.Sym
open Go.RowKit
set_option linter.unusedVariables false
set_option linter.unusedSimpArgs false

/-! ### what an operation gives hangs on what it looks at alone -/
def AgT (s s' : St) (U : List Nat) : Prop := ∀ t ∈ U, look s.tmps t = look s'.tmps t ∧ lookG s.gs t = lookG s'.gs t
def AgM (s s' : St) (R : List Nat) : Prop := ∀ k ∈ R, lookM s.mem k = lookM s'.mem k
def AgR (s s' : St) (R : List Nat) : Prop := ∀ k ∈ R, lookM s.gr k = lookM s'.gr k
theorem AgT.sub {s s' : St} {U V : List Nat} (h : AgT s s' U) (hs : ∀ t ∈ V, t ∈ U) : AgT s s' V := fun t ht => h t (hs t ht)
theorem tl_mem {l : List Operand} {t : Nat} (h : Operand.tmp t ∈ l) : t ∈ tl l := by
  induction l with
  | nil => cases h
  | cons x l ih =>
    rcases List.mem_cons.1 h with h | h
    · subst h; simp [tl]
    · have := ih h
      cases x <;> simp [tl, this]
section
variable {s s' : St} {q : List (Nat × Bool)} {A : Alg} {T : List (Nat × TI)} {cs : List (Nat × CS)} {x : Atom} {i d ty : Nat}
theorem val_local {U : List Nat} (h : AgT s s' U) (q : List (Nat × Bool)) {y : Operand} (hy : ∀ t, y = .tmp t → t ∈ U) : val s q y = val s' q y := by
  cases y with
  | tmp t =>
    obtain ⟨h1, h2⟩ := h t (hy t rfl)
    simp only [val, h1, h2]
  | _ => rfl
theorem vals_local {U : List Nat} (h : AgT s s' U) (q : List (Nat × Bool)) : ∀ {l : List Operand}, (∀ t ∈ tl l, t ∈ U) → vals s q l = vals s' q l
  | [], _ => rfl
  | y :: l, hl => by
    have h1 : val s q y = val s' q y := val_local h q fun t ht => hl t (tl_mem (by simp [ht]))
    have h2 := vals_local h q (l := l) (fun t ht => hl t (by cases y <;> simp [tl, ht]))
    simp only [vals, h1, h2]
theorem tl_appL {t : Nat} : ∀ {l r : List Operand}, t ∈ tl l → t ∈ tl (l ++ r)
  | y :: l, r, h => by
    have ih := tl_appL (t := t) (l := l) (r := r)
    cases y <;> simp [tl] at h ⊢ <;> first | exact ih h | (rcases h with h | h; exact .inl h; exact .inr (ih h))
theorem tl_appR {t : Nat} : ∀ {l r : List Operand}, t ∈ tl r → t ∈ tl (l ++ r)
  | [], r, h => h
  | y :: l, r, h => by
    have ih := tl_appR (t := t) (l := l) (r := r) h
    cases y <;> simp [tl] <;> first | exact ih | exact .inr ih
theorem valsP_local {U : List Nat} (h : AgT s s' U) (q : List (Nat × Bool)) : ∀ {l : List (Nat × Operand)}, (∀ t ∈ tl (l.map (·.2)), t ∈ U) → valsP s q l = valsP s' q l
  | [], _ => rfl
  | (k, y) :: l, hl => by
    have h1 : val s q y = val s' q y := val_local h q fun t ht => hl t (tl_mem (by simp [ht]))
    have h2 := valsP_local h q (l := l) (fun t ht => hl t (by cases y <;> simp [tl, ht]))
    simp only [valsP, h1, h2]
theorem bound_local {U : List Nat} (h : AgT s s' U) (q : List (Nat × Bool)) (dd : Int) {o : Option Operand} (ho : ∀ t ∈ tl o.toList, t ∈ U) : bound A s q dd o = bound A s' q dd o := by
  cases o with
  | none => rfl
  | some y =>
    have h1 : val s q y = val s' q y := val_local h q fun t ht => ho t (tl_mem (by simp [ht]))
    simp only [bound, h1]
theorem stepAppend_local {v1 v2 : AV} {t1 : Nat} (hR : AgR s s' (growKey v1)) : stepAppend A T x s d t1 v1 v2 = stepAppend A T x s' d t1 v1 v2 := by
  unfold stepAppend
  cases v1 with
  | sl g A1 n c k cells =>
    cases v2 with
    | sl g2 A2 n2 c2 k2 cells2 =>
      cases lookT T t1 with
      | none => rfl
      | some ti =>
        cases g with
        | none => rfl
        | some key =>
          have e : lookM s.gr key = lookM s'.gr key := hR key (by simp [growKey])
          simp only [e]
    | _ => rfl
  | _ => rfl
theorem preOf_local {l : List (Nat × List AV)} {K : List Nat} (hK : AgM s s' K) (hl : ∀ e ∈ l, e.1 ∈ K) : preOf s l = preOf s' l := by
  induction l with
  | nil => rfl
  | cons y l ih =>
    obtain ⟨k, c⟩ := y
    have h1 : lookM s.mem k = lookM s'.mem k := hK k (hl (k, c) (by simp))
    simp only [preOf, h1, ih fun e he => hl e (List.mem_cons_of_mem _ he)]
theorem preOf_map {l : List (Nat × List AV)} {pre : List (Nat × Blk)} (h : preOf s l = some pre) : l.map (·.1) = pre.map (·.1) := by
  induction l generalizing pre with
  | nil => simp [preOf] at h; subst h; rfl
  | cons y l ih =>
    obtain ⟨k, c⟩ := y
    simp only [preOf] at h
    split at h
    · rename_i b r hb hr
      injection h with h; subst h
      simp [ih hr]
    · cases h
theorem stepCall_local {v : AV} {o : Option CS} {l : Option (List AV)} {r : AV × Eff × List Ob} (h : stepCall s x v o l = some r) (hR : AgM s s' (wkOf r.2.1 ++ rdOf r.2.1)) : stepCall s' x v o l = some r := by
  unfold stepCall at h ⊢
  split at h
  · exact h
  · rename_i res a
    split at h
    · rename_i pre hp
      split at h
      · rename_i hn
        injection h with h; subst h
        have hk := preOf_map hp
        have := preOf_local (l := (res x).sets) hR (fun e he => by
          have : e.1 ∈ (res x).sets.map (·.1) := List.mem_map.2 ⟨e, he, rfl⟩
          rw [hk, ← upd_keys hk] at this
          simp only [wkOf, List.map_append]
          exact List.mem_append_left _ (List.mem_append_left _ this))
        rw [← this, hp]
        simp only [hn, if_true]
      · cases h
    · cases h
  · rename_i f l r' ks res a
    split at h
    · rename_i pre hp
      split at h
      · rename_i hn
        injection h with h; subst h
        have := preOf_local (l := ks.map fun k => (k, ([] : List AV))) hR (fun e he => by
          obtain ⟨k, hk, rfl⟩ := List.mem_map.1 he
          exact List.mem_append_right _ hk)
        rw [← this, hp]
        simp only [hn, if_true]
      · cases h
    · cases h
  · cases h
theorem step_local {op : Op} {r : AV × Eff × List Ob} (hr : step A T cs x i s q d ty op = some r) (hU : AgT s s' (tmpsOf op)) (hR' : AgM s s' (rkOf s q op ++ (wkOf r.2.1 ++ rdOf r.2.1))) (hG : AgR s s' (rgOf s q op)) : step A T cs x i s' q d ty op = some r ∧ rkOf s q op = rkOf s' q op ∧ rgOf s q op = rgOf s' q op := by
  have hR : AgM s s' (rkOf s q op) := fun k hk => hR' k (List.mem_append_left _ hk)
  have hW : AgM s s' (wkOf r.2.1 ++ rdOf r.2.1) := fun k hk => hR' k (List.mem_append_right _ hk)
  suffices hh : (step A T cs x i s q d ty op = step A T cs x i s' q d ty op ∨ step A T cs x i s' q d ty op = some r) ∧ rkOf s q op = rkOf s' q op ∧ rgOf s q op = rgOf s' q op by
    refine ⟨?_, hh.2⟩
    rcases hh.1 with h | h
    · rw [← h]; exact hr
    · exact h
  have V : ∀ q {y : Operand}, (∀ t, y = .tmp t → t ∈ tmpsOf op) → val s q y = val s' q y := fun q y hy => val_local hU q hy
  cases op with
  | move y => simp only [step, rkOf, rgOf, V q (y := y) (fun t ht => by subst ht; simp [tmpsOf, tl])]; exact ⟨.inl trivial, trivial, trivial⟩
  | makeFunc fn first cap =>
    have h1 := vals_local hU q (l := first.toList) (fun t ht => by simp only [tmpsOf]; exact tl_appL ht)
    have h2 := vals_local hU q (l := cap.toList) (fun t ht => by simp only [tmpsOf]; exact tl_appR ht)
    simp only [step, rkOf, rgOf, h1, h2]; exact ⟨.inl trivial, trivial, trivial⟩
  | makeInterface t y => simp only [step, rkOf, rgOf, V q (y := y) (fun t ht => by subst ht; simp [tmpsOf, tl])]; exact ⟨.inl trivial, trivial, trivial⟩
  | nilCheck y => simp only [step, rkOf, rgOf, V q (y := y) (fun t ht => by subst ht; simp [tmpsOf, tl])]; exact ⟨.inl trivial, trivial, trivial⟩
  | assign y => simp only [step, rkOf, rgOf, V q (y := y) (fun t ht => by subst ht; simp [tmpsOf, tl])]; exact ⟨.inl trivial, trivial, trivial⟩
  | box t y => simp only [step, rkOf, rgOf, V q (y := y) (fun t ht => by subst ht; simp [tmpsOf, tl])]; exact ⟨.inl trivial, trivial, trivial⟩
  | extract y n => simp only [step, rkOf, rgOf, V q (y := y) (fun t ht => by subst ht; simp [tmpsOf, tl])]; exact ⟨.inl trivial, trivial, trivial⟩
  | unOp o t y => simp only [step, rkOf, rgOf, V q (y := y) (fun t ht => by subst ht; simp [tmpsOf, tl])]; exact ⟨.inl trivial, trivial, trivial⟩
  | fieldAddr t y f => simp only [step, rkOf, rgOf, V q (y := y) (fun t ht => by subst ht; simp [tmpsOf, tl])]; exact ⟨.inl trivial, trivial, trivial⟩
  | field t y f => simp only [step, rkOf, rgOf, V q (y := y) (fun t ht => by subst ht; simp [tmpsOf, tl])]; exact ⟨.inl trivial, trivial, trivial⟩
  | convert t t' y => simp only [step, rkOf, rgOf, V q (y := y) (fun t ht => by subst ht; simp [tmpsOf, tl])]; exact ⟨.inl trivial, trivial, trivial⟩
  | binOp o t y z t' =>
    simp only [step, rkOf, rgOf, V q (y := y) (fun t ht => by subst ht; simp [tmpsOf, tl]), V q (y := z) (fun t ht => by subst ht; cases y <;> simp [tmpsOf, tl])]; exact ⟨.inl trivial, trivial, trivial⟩
  | indexAddr t y z =>
    simp only [step, rkOf, rgOf, V q (y := y) (fun t ht => by subst ht; simp [tmpsOf, tl]), V q (y := z) (fun t ht => by subst ht; cases y <;> simp [tmpsOf, tl])]; exact ⟨.inl trivial, trivial, trivial⟩
  | index t y z =>
    simp only [step, rkOf, rgOf, V q (y := y) (fun t ht => by subst ht; simp [tmpsOf, tl]), V q (y := z) (fun t ht => by subst ht; cases y <;> simp [tmpsOf, tl])]; exact ⟨.inl trivial, trivial, trivial⟩
  | load t p =>
    have hp := V q (y := p) (fun t ht => by subst ht; simp [tmpsOf, tl])
    simp only [rkOf, hp] at hR ⊢
    refine ⟨.inl ?_, trivial, rfl⟩
    simp only [step, hp]
    cases hv : val s' q p with
    | ptr key b off =>
      have this : lookM s.mem key = lookM s'.mem key := hR key (by rw [hv]; simp [keyOf])
      cases lookT T t with
      | none => rfl
      | some ti => simp only [this]
    | _ => cases lookT T t <;> rfl
  | store t p y =>
    have hp := V q (y := p) (fun t ht => by subst ht; simp [tmpsOf, tl])
    have hy := V q (y := y) (fun t ht => by subst ht; cases p <;> simp [tmpsOf, tl])
    simp only [rkOf, hp] at hR ⊢
    refine ⟨.inl ?_, trivial, rfl⟩
    simp only [step, hp, hy]
    cases hv : val s' q p with
    | ptr key b off =>
      have this : lookM s.mem key = lookM s'.mem key := hR key (by rw [hv]; simp [keyOf])
      cases lookT T t with
      | none => rfl
      | some ti => simp only [this]
    | _ => cases lookT T t <;> rfl
  | pick c y z =>
    refine ⟨.inl ?_, rfl, rfl⟩
    cases c with
    | tmp c =>
      have h1 := V q (y := .tmp c) (fun t ht => by injection ht with ht; subst ht; simp [tmpsOf, tl])
      have h2 := fun q => V q (y := y) (fun t ht => by subst ht; simp [tmpsOf, tl])
      have h3 := fun q => V q (y := z) (fun t ht => by subst ht; cases y <;> simp [tmpsOf, tl])
      simp only [step, h1, h2, h3]
    | _ => rfl
  | build t ps =>
    refine ⟨.inl ?_, rfl, rfl⟩
    have := valsP_local hU q (l := ps.toList) (fun t ht => ht)
    simp only [step, this]
  | buildSlice t n ps =>
    refine ⟨.inl ?_, rfl, rfl⟩
    have := valsP_local hU q (l := ps.toList) (fun t ht => ht)
    simp only [step, this]
  | slice t y lo hi mx =>
    refine ⟨.inl ?_, rfl, rfl⟩
    cases mx with
    | some m =>
      have h1 := V q (y := y) (fun t ht => by subst ht; simp [tmpsOf, tl])
      have h2 : ∀ dd, bound A s q dd lo = bound A s' q dd lo := fun dd => bound_local hU q dd (fun t ht => tl_appR (l := [y]) (tl_appL ht))
      have h3 : ∀ dd, bound A s q dd hi = bound A s' q dd hi := fun dd => bound_local hU q dd (fun t ht => tl_appR (l := [y]) (tl_appR (tl_appL ht)))
      have h4 : ∀ dd, bound A s q dd (some m) = bound A s' q dd (some m) := fun dd => bound_local hU q dd (fun t ht => tl_appR (l := [y]) (tl_appR (tl_appR ht)))
      simp only [step, h1, h2, h3, h4]
    | none =>
      have h1 := V q (y := y) (fun t ht => by subst ht; simp [tmpsOf, tl])
      have h2 : ∀ dd, bound A s q dd lo = bound A s' q dd lo := fun dd => bound_local hU q dd (fun t ht => tl_appR (l := [y]) (tl_appL ht))
      have h3 : ∀ dd, bound A s q dd hi = bound A s' q dd hi := fun dd => bound_local hU q dd (fun t ht => tl_appR (l := [y]) (tl_appR (tl_appL ht)))
      simp only [step, h1, h2, h3]
  | call c =>
    have h1 := vals_local hU q (l := c.args.toList) (fun t ht => by simp only [tmpsOf]; exact tl_appR ht)
    have hv : ∀ y, y ∈ c.args.toList → val s q y = val s' q y := fun y hy => V q (fun t ht => by subst ht; simp only [tmpsOf]; exact tl_appR (tl_mem hy))
    have hrg : rgOf s q (.call c) = rgOf s' q (.call c) := by
      simp only [rgOf]
      cases ha : c.args.toList with
      | nil => rfl
      | cons o r => exact congrArg growKey (hv o (by rw [ha]; simp))
    refine ⟨?_, rfl, hrg⟩
    cases hc : c.callee with
    | builtin b =>
      refine .inl ?_
      simp only [step, h1, hc]
      cases b with
      | len =>
        simp only
        split
        · rename_i y t hy _
          rw [hv y (by rw [hy]; simp)]
        · rfl
      | append =>
        simp only
        split
        · rename_i y z t1 t2 hy _
          have e1 := hv y (by rw [hy]; simp)
          have e2 := hv z (by rw [hy]; simp)
          rw [e1, e2]
          have hG' : AgR s s' (growKey (val s' q y)) := by
            have : rgOf s q (.call c) = growKey (val s q y) := by simp only [rgOf, hy]
            rw [this, e1] at hG
            exact hG
          rw [stepAppend_local hG']
        · rfl
      | _ => rfl
    | value g =>
      have hg := V q (y := g) (fun t ht => by subst ht; simp only [tmpsOf, hc, calleeOps]; exact tl_appL (by simp [tl]))
      refine .inr ?_
      simp only [step, hc] at hr ⊢
      rw [hg, h1] at hr
      exact stepCall_local hr hW
    | invoke y m =>
      refine .inl ?_
      simp only [step, hc]
  | _ => exact ⟨.inl rfl, rfl, rfl⟩
theorem conds_local : ∀ {p : List (Nat × Bool)}, AgT s s' (p.map (·.1)) → conds s p = conds s' p
  | [], _ => rfl
  | (t, b) :: p, h => by
    obtain ⟨h1, h2⟩ := h t (by simp)
    have ih := conds_local (p := p) (h.sub fun k hk => by simp only [List.map_cons, List.mem_cons]; exact .inr hk)
    have hv : slotV s t = slotV s' t := by simp only [slotV, h1, h2]
    simp only [conds, hv, ih]
theorem inNt_local (hn : s.nt = s'.nt) (d : Option Nat) : inNt s d = inNt s' d := by cases d <;> simp [inNt, hn]
theorem runU_local {o : Oper} {ex : List Nat} {r : Delta × List Ob × Foot} (h : runU A T cs x i o s ex = some r) (hU : AgT s s' r.2.2.cons) (hR : AgM s s' r.2.2.rk) (hG : AgR s s' r.2.2.rg) (hn : s.nt = s'.nt) : runU A T cs x i o s' ex = some r := by
  unfold runU at h ⊢
  split at h
  · rename_i v e obs hst hnt
    injection h with h; subst h
    obtain ⟨h1, h2, h3⟩ := step_local hst (hU.sub fun t ht => List.mem_append_left _ ht) hR hG
    rw [h1, ← inNt_local hn, hnt, ← h2, ← h3]
  · cases h
theorem skipU_local {o : Oper} {ex : List Nat} (hn : s.nt = s'.nt) : skipU o s ex = skipU o s' ex := by
  unfold skipU; rw [inNt_local hn]
theorem runG_local {o : Oper} {ex : List Nat} {r : Delta × List Ob × Foot} (h : runG A T cs x i o s ex q = some r) (hU : AgT s s' r.2.2.cons) (hR : AgM s s' r.2.2.rk) (hG : AgR s s' r.2.2.rg) (hn : s.nt = s'.nt) : runG A T cs x i o s' ex q = some r := by
  unfold runG at h ⊢
  split at h
  · cases h
  · rename_i d hd
    split at h
    · rename_i v e obs c hst hc
      split at h
      · rename_i hb
        injection h with h; subst h
        have hqe : quiet e = true := by simp only [Bool.and_eq_true] at hb; exact hb.1.1.1
        obtain ⟨h1, h2, h4⟩ := step_local hst (hU.sub fun t ht => List.mem_append_left _ ht) (by simpa [quiet_wk hqe] using hR) hG
        have h3 := conds_local (p := q) (hU.sub fun t ht => List.mem_append_right _ (List.mem_append_right _ ht))
        simp only [h1, ← h3, hc, ← hn, ← h2, ← h4]
        rw [if_pos hb]
      · cases h
    · cases h
theorem delta_g {o : Oper} {all : List Oper} {r : Delta × List Ob × Foot} (h : delta A T cs x all i o s = some r) {j : Nat} {want : Bool} (hg : o.guard = some (j, want)) {g : Nat} (hb : (all[j]?).bind (·.dst) = some g) : g ∈ r.2.2.cons := by
  have hu : ∀ {r}, runU A T cs x i o s [g] = some r → g ∈ r.2.2.cons := by
    intro r h
    unfold runU at h
    split at h
    · injection h with h; subst h; simp
    · cases h
  have hsk : ∀ {r}, skipU o s [g] = some r → g ∈ r.2.2.cons := by
    intro r h
    unfold skipU at h
    split at h
    · injection h with h; subst h; simp
    · cases h
  have hr : ∀ {q r}, runG A T cs x i o s [g] q = some r → g ∈ r.2.2.cons := by
    intro q r h
    unfold runG at h
    split at h
    · cases h
    · split at h
      · split at h
        · injection h with h; subst h; simp
        · cases h
      · cases h
  simp only [delta, hg, hb] at h
  split at h
  · split at h
    · exact hr h
    · exact hsk h
  · split at h
    · exact hsk h
    · exact hr h
  · exact hr h
  · cases h
  · split at h
    · split at h
      · exact hu h
      · exact hsk h
    · split at h
      · exact hsk h
      · exact hu h
    · exact hr h
    · cases h
theorem delta_local {o : Oper} {all : List Oper} {r : Delta × List Ob × Foot} (h : delta A T cs x all i o s = some r) (hU : AgT s s' r.2.2.cons) (hR : AgM s s' r.2.2.rk) (hG : AgR s s' r.2.2.rg) (hn : s.nt = s'.nt) : delta A T cs x all i o s' = some r := by
  cases hg : o.guard with
  | none =>
    simp only [delta, hg] at h ⊢
    exact runU_local h hU hR hG hn
  | some jw =>
    obtain ⟨j, want⟩ := jw
    cases hb : (all[j]?).bind (·.dst) with
    | none => simp only [delta, hg, hb] at h; cases h
    | some g =>
      obtain ⟨e1, e2⟩ := hU g (delta_g h hg hb)
      simp only [delta, hg, hb, ← e1, ← e2] at h ⊢
      split at h
      · split at h
        · rename_i hw; rw [if_pos hw]; exact runG_local h hU hR hG hn
        · rename_i hw; rw [if_neg hw, ← skipU_local hn]; exact h
      · split at h
        · rename_i hw; rw [if_pos hw, ← skipU_local hn]; exact h
        · rename_i hw; rw [if_neg hw]; exact runG_local h hU hR hG hn
      · exact runG_local h hU hR hG hn
      · cases h
      · split at h
        · split at h
          · rename_i hw; rw [if_pos hw]; exact runU_local h hU hR hG hn
          · rename_i hw; rw [if_neg hw, ← skipU_local hn]; exact h
        · split at h
          · rename_i hw; rw [if_pos hw, ← skipU_local hn]; exact h
          · rename_i hw; rw [if_neg hw]; exact runU_local h hU hR hG hn
        · exact runG_local h hU hR hG hn
        · cases h
end

/-! ### what an operation leaves, looked up -/
def newT : Put → AV
  | .plain v => v
  | .guarded _ _ => .undef
def newG : Put → Option (List (Nat × Bool) × AV)
  | .plain _ => none
  | .guarded q v => some (q, v)
def newM : Eff → List (Nat × Blk)
  | .new k b => [(k, b)]
  | .set k b => [(k, b)]
  | .sets l => l
  | _ => []
def newR : Eff → Option (Nat × Gr)
  | .grow k t => some (k, t)
  | _ => none
/-- no slot of Ds is mentioned -/
def NM (s : St) (Ds : List Nat) : Prop := ∀ t p v, lookG s.gs t = some (p, v) → ∀ d ∈ Ds, ∀ x ∈ p, x.1 ≠ d
def Wf (δ : Delta) : Prop := ∀ q v, δ.p = .guarded q v → δ.d ≠ none
def dl : Option Nat → List Nat
  | none => []
  | some d => [d]
theorem mentions_of {p : List (Nat × Bool)} {d : Nat} (h : ∀ x ∈ p, x.1 ≠ d) : mentions p d = false := by
  induction p with
  | nil => rfl
  | cons y p ih =>
    obtain ⟨k, b⟩ := y
    simp only [mentions, Bool.or_eq_false_iff, beq_eq_false_iff_ne]
    exact ⟨h (k, b) (by simp), ih fun x hx => h x (by simp [hx])⟩
section
variable {s : St} {δ : Delta}
theorem eff_tmps (e : Eff) : (s.eff e).tmps = s.tmps := by cases e <;> rfl
theorem eff_gs (e : Eff) : (s.eff e).gs = s.gs := by cases e <;> rfl
theorem app_nt : (s.app δ).nt = s.nt := by
  obtain ⟨e, d, p⟩ := δ
  cases p <;> cases d <;> simp [St.app, St.put, St.putG, eff_nt]
theorem app_tmps (hw : Wf δ) (t : Nat) : look (s.app δ).tmps t = if δ.d = some t then newT δ.p else look s.tmps t := by
  obtain ⟨e, d, p⟩ := δ
  cases p with
  | plain v => cases d <;> simp [St.app, St.put, eff_tmps, look_cons, newT]
  | guarded q v => cases d with
    | none => exact absurd rfl (hw q v rfl)
    | some d => simp [St.app, St.putG, eff_tmps, look_cons, newT]
theorem app_gs (hw : Wf δ) (hn : NM s (dl δ.d)) (t : Nat) : lookG (s.app δ).gs t = if δ.d = some t then newG δ.p else lookG s.gs t := by
  obtain ⟨e, d, p⟩ := δ
  have hk : ∀ d', d = some d' → (lookG s.gs t).map (kill d') = lookG s.gs t := by
    intro d' hd
    cases hl : lookG s.gs t with
    | none => rfl
    | some x =>
      obtain ⟨p', v'⟩ := x
      have := mentions_of (hn t p' v' hl d' (by simp [hd, dl]))
      simp [kill, this]
  cases p with
  | plain v => cases d with
    | none => simp [St.app, St.put, eff_gs]
    | some d => simp [St.app, St.put, eff_gs, lookG_drop, newG, hk d rfl]
  | guarded q v => cases d with
    | none => exact absurd rfl (hw q v rfl)
    | some d =>
      simp only [St.app, St.putG, eff_gs, lookG_cons, lookG_drop, newG, hk d rfl, Option.some.injEq]
      split <;> rfl
theorem app_mem (hw : Wf δ) (k : Nat) : lookM (s.app δ).mem k = (lookM (newM δ.e) k).or (lookM s.mem k) := by
  obtain ⟨e, d, p⟩ := δ
  have he : (s.app ⟨e, d, p⟩).mem = (s.eff e).mem := by
    cases p with
    | plain v => cases d <;> rfl
    | guarded q v => cases d with
      | none => exact absurd rfl (hw q v rfl)
      | some d => rfl
  rw [he]
  cases e with
  | sets l => simp only [St.eff, newM, lookM_setsM]
  | new k' b => simp only [St.eff, newM, lookM_cons, lookM_del]; by_cases h : k' = k <;> simp [h, lookM]
  | set k' b => simp only [St.eff, newM, lookM_cons, lookM_del]; by_cases h : k' = k <;> simp [h, lookM]
  | _ => simp [St.eff, newM, lookM]
theorem app_gr (hw : Wf δ) (k : Nat) : lookM (s.app δ).gr k = match newR δ.e with | some (k', b) => if k' = k then some b else lookM s.gr k | none => lookM s.gr k := by
  obtain ⟨e, d, p⟩ := δ
  have he : (s.app ⟨e, d, p⟩).gr = (s.eff e).gr := by
    cases p with
    | plain v => cases d <;> rfl
    | guarded q v => cases d with
      | none => exact absurd rfl (hw q v rfl)
      | some d => rfl
  rw [he]
  cases e <;> simp only [St.eff, newR, lookM_cons, lookM_del] <;> (repeat (first | rfl | split)) <;> simp_all
theorem app_alike {s' : St} (hw : Wf δ) (h : Alike s s') (hn : NM s (dl δ.d)) : Alike (s.app δ) (s'.app δ) := by
  have hn' : NM s' (dl δ.d) := fun t p v hl => hn t p v (by rw [h.gs]; exact hl)
  refine ⟨by rw [app_nt, app_nt]; exact h.nt, fun t => ?_, fun t => ?_, fun k => ?_, fun k => ?_⟩
  · rw [app_tmps hw, app_tmps hw, h.tmps]
  · rw [app_gs hw hn, app_gs hw hn', h.gs]
  · rw [app_mem hw, app_mem hw, h.mem]
  · rw [app_gr hw, app_gr hw, h.gr]
end
theorem NM.sub {s : St} {D E : List Nat} (h : NM s D) (hs : ∀ d ∈ E, d ∈ D) : NM s E := fun t p v hl d hd => h t p v hl d (hs d hd)
theorem NM.app {s : St} {δ : Delta} {D : List Nat} (h : NM s D) (hw : Wf δ) (hd : NM s (dl δ.d)) (hq : ∀ q v, δ.p = .guarded q v → ∀ d ∈ D, ∀ x ∈ q, x.1 ≠ d) : NM (s.app δ) D := by
  intro t p v hl
  rw [app_gs hw hd] at hl
  split at hl
  · cases hp : δ.p with
    | plain v' => rw [hp] at hl; cases hl
    | guarded q v' => rw [hp] at hl; injection hl with hl; injection hl with h1 h2; subst h1; exact hq q v' hp
  · exact h t p v hl
/-- of two that do not touch each other it plays no part which one is first -/
theorem app_swap {s : St} {δ ε : Delta} (hδ : Wf δ) (hε : Wf ε) (h1 : NM s (dl δ.d)) (h2 : NM s (dl ε.d)) (h3 : NM (s.app δ) (dl ε.d)) (h4 : NM (s.app ε) (dl δ.d)) (hd : ∀ t, δ.d = some t → ε.d ≠ some t)
    (hm : ∀ k b b', lookM (newM δ.e) k = some b → lookM (newM ε.e) k = some b' → False) (hg : ∀ k b k' b', newR δ.e = some (k, b) → newR ε.e = some (k', b') → k ≠ k') : Alike ((s.app δ).app ε) ((s.app ε).app δ) := by
  refine ⟨by simp only [app_nt], fun t => ?_, fun t => ?_, fun k => ?_, fun k => ?_⟩
  · rw [app_tmps hε, app_tmps hδ, app_tmps hδ, app_tmps hε]
    by_cases e1 : δ.d = some t
    · rw [if_neg (hd t e1), if_pos e1, if_pos e1]
    · by_cases e2 : ε.d = some t <;> simp [e1, e2]
  · rw [app_gs hε h3, app_gs hδ h1, app_gs hδ h4, app_gs hε h2]
    by_cases e1 : δ.d = some t
    · rw [if_neg (hd t e1), if_pos e1, if_pos e1]
    · by_cases e2 : ε.d = some t <;> simp [e1, e2]
  · rw [app_mem hε, app_mem hδ, app_mem hδ, app_mem hε]
    cases hx : lookM (newM δ.e) k with
    | none => cases lookM (newM ε.e) k <;> rfl
    | some b =>
      cases hy : lookM (newM ε.e) k with
      | none => rfl
      | some b' => exact (hm k b b' hx hy).elim
  · rw [app_gr hε, app_gr hδ, app_gr hδ, app_gr hε]
    cases hx : newR δ.e with
    | none => cases newR ε.e <;> rfl
    | some kb =>
      obtain ⟨k1, b1⟩ := kb
      cases hy : newR ε.e with
      | none => rfl
      | some kb' =>
        obtain ⟨k2, b2⟩ := kb'
        have := hg k1 b1 k2 b2 hx hy
        simp only
        by_cases e1 : k1 = k
        · subst e1; simp [fun h : k2 = k1 => this h.symm]
          intro h; exact absurd h.symm this
        · simp [e1]

/-! ### what a footprint tells -/
theorem newM_wk {e : Eff} {k : Nat} {b : Blk} (h : lookM (newM e) k = some b) : k ∈ wkOf e := by
  cases e with
  | sets l => exact List.mem_map.2 ⟨_, lookM_mem h, rfl⟩
  | new k' b' => have := lookM_mem h; simp [newM] at this; simp [wkOf, this]
  | set k' b' => have := lookM_mem h; simp [newM] at this; simp [wkOf, this]
  | _ => cases h
structure FootOK (r : Delta × List Ob × Foot) : Prop where
  wf : Wf r.1
  d : r.2.2.d = r.1.d
  wk : ∀ k b, lookM (newM r.1.e) k = some b → k ∈ r.2.2.wk
  wg : ∀ k b, newR r.1.e = some (k, b) → k ∈ r.2.2.wg
  qs : ∀ q v, r.1.p = .guarded q v → ∀ x ∈ q, x.1 ∈ r.2.2.qs
theorem delta_foot {A : Alg} {T : List (Nat × TI)} {cs : List (Nat × CS)} {x : Atom} {all : List Oper} {i : Nat} {o : Oper} {s : St} {r : Delta × List Ob × Foot} (h : delta A T cs x all i o s = some r) : FootOK r := by
  have hu : ∀ {ex r}, runU A T cs x i o s ex = some r → FootOK r := by
    intro ex r h
    unfold runU at h
    split at h
    · rename_i v e obs _ _
      injection h with h; subst h
      refine ⟨(fun q v h => by cases h), rfl, fun k b h => ?_, fun k b h => ?_, (fun q v h => by cases h)⟩
      · exact newM_wk h
      · cases e <;> simp [newR] at h <;> simp [wgOf, h]
    · cases h
  have hsk : ∀ {ex r}, skipU o s ex = some r → FootOK r := by
    intro ex r h
    unfold skipU at h
    split at h
    · injection h with h; subst h
      exact ⟨(fun q v h => by cases h), rfl, (fun k b h => by cases h), (fun k b h => by cases h), (fun q v h => by cases h)⟩
    · cases h
  have hr : ∀ {ex q r}, runG A T cs x i o s ex q = some r → FootOK r := by
    intro ex q r h
    unfold runG at h
    split at h
    · cases h
    · rename_i d hd
      split at h
      · split at h
        · injection h with h; subst h
          refine ⟨(fun q v h => by rw [hd]; simp), rfl, (fun k b h => by cases h), (fun k b h => by cases h), (fun q' v' h y hy => ?_)⟩
          injection h with h1 h2; subst h1
          exact List.mem_map.2 ⟨y, hy, rfl⟩
        · cases h
      · cases h
  cases hg : o.guard with
  | none => simp only [delta, hg] at h; exact hu h
  | some jw =>
    obtain ⟨j, want⟩ := jw
    simp only [delta, hg] at h
    split at h
    · cases h
    · split at h
      · split at h
        · exact hr h
        · exact hsk h
      · split at h
        · exact hsk h
        · exact hr h
      · exact hr h
      · cases h
      · split at h
        · split at h
          · exact hu h
          · exact hsk h
        · split at h
          · exact hsk h
          · exact hu h
        · exact hr h
        · cases h
end Go.Proofs.Ythpbihppfijegaa.Sym

namespace Go.Proofs.Ythpbihppfijegaa.Sym
open Go.RowKit
set_option linter.unusedVariables false
set_option linter.unusedSimpArgs false

def disj (l r : List Nat) : Bool := l.all fun x => !(r.contains x)
theorem disj_ok {l r : List Nat} (h : disj l r = true) : ∀ x ∈ l, x ∉ r := by
  intro x hx hr
  have := List.all_eq_true.1 h x hx
  simp [hr] at this
/-- may two operations change places? -/
def comm (f g : Foot) : Bool := disj (dl f.d) g.qs && disj (dl f.d) g.cons && disj (dl g.d) f.cons && disj (dl f.d) (dl g.d) && disj f.wk g.rk && disj g.wk f.rk && disj f.wk g.wk && disj f.wg g.rg && disj g.wg f.rg && disj f.wg g.wg
section
variable {A : Alg} {T : List (Nat × TI)} {cs : List (Nat × CS)} {X : Nat → Atom} {all : List Oper}
/-- the slots that are still to be written -/
def ds (fs : List Foot) : List Nat := fs.flatMap fun f => dl f.d
theorem ds_mem {fs : List Foot} {g : Foot} (hg : g ∈ fs) {d : Nat} (hd : d ∈ dl g.d) : d ∈ ds fs := List.mem_flatMap.2 ⟨g, hg, hd⟩
theorem ds_of {fs : List Foot} {d : Nat} (hd : d ∈ ds fs) : ∃ g ∈ fs, d ∈ dl g.d := List.mem_flatMap.1 hd
/-- no operation is guarded by a slot that a later one writes -/
def Ord (fs : List Foot) : Prop := fs.Pairwise fun f g => disj (dl g.d) f.qs = true
theorem nm_of {r : Delta × List Ob × Foot} (hf : FootOK r) {s : St} {fs gs : List Foot} (hn : NM s (ds fs)) (hm : r.2.2 ∈ fs) (hs : ∀ g ∈ gs, g ∈ fs) (hq : ∀ g ∈ gs, disj (dl g.d) r.2.2.qs = true) : NM s (dl r.1.d) ∧ NM (s.app r.1) (ds gs) := by
  have h1 : NM s (dl r.1.d) := hn.sub fun d hd => ds_mem hm (by rw [hf.d]; exact hd)
  refine ⟨h1, NM.app (hn.sub fun d hd => ?_) hf.wf h1 fun q v hp d hd x hx e => ?_⟩
  · obtain ⟨g, hg, hgd⟩ := ds_of hd
    exact ds_mem (hs g hg) hgd
  · obtain ⟨g, hg, hgd⟩ := ds_of hd
    exact disj_ok (hq g hg) d hgd (e ▸ hf.qs q v hp x hx)
theorem exec_alike : ∀ {l : List (Nat × Oper)} {s s' τ : St} {obs : List Ob} {fs : List Foot}, exec A T cs X all l s = some (τ, obs, fs) → Alike s s' → NM s (ds fs) → Ord fs → ∃ τ', exec A T cs X all l s' = some (τ', obs, fs) ∧ Alike τ τ'
  | [], s, s', τ, obs, fs, h, ha, hn, hf => by
    simp only [exec, Option.some.injEq, Prod.mk.injEq] at h
    obtain ⟨rfl, rfl, rfl⟩ := h
    exact ⟨s', rfl, ha⟩
  | (i, o) :: l, s, s', τ, obs, fs, h, ha, hn, hf => by
    obtain ⟨δ, ob, f, r', h1, h2, h3⟩ := exec_cons h
    obtain ⟨τ1, obs1, fs1⟩ := r'
    simp only [Prod.mk.injEq] at h3
    obtain ⟨rfl, rfl, rfl⟩ := h3
    have hfo := delta_foot h1
    have hd' := delta_local h1 (s' := s') (fun t _ => ⟨ha.tmps t, ha.gs t⟩) (fun k _ => ha.mem k) (fun k _ => ha.gr k) ha.nt
    have hf' := List.pairwise_cons.1 hf
    obtain ⟨n1, n2⟩ := nm_of hfo (gs := fs1) hn (by simp) (fun g hg => by simp [hg]) hf'.1
    obtain ⟨τ', e1, e2⟩ := exec_alike h2 (app_alike hfo.wf ha n1) n2 hf'.2
    exact ⟨τ', by simp only [exec, hd', e1], e2⟩
theorem ag_app {s : St} {r : Delta × List Ob × Foot} (hf : FootOK r) (hn : NM s (dl r.1.d)) {g : Foot} (h1 : ∀ x ∈ dl r.2.2.d, x ∉ g.cons) (h2 : ∀ x ∈ r.2.2.wk, x ∉ g.rk) (h3 : ∀ x ∈ r.2.2.wg, x ∉ g.rg) : AgT s (s.app r.1) g.cons ∧ AgM s (s.app r.1) g.rk ∧ AgR s (s.app r.1) g.rg := by
  refine ⟨?_, ?_, ?_⟩
  · intro t ht
    have hne : r.1.d ≠ some t := fun e => h1 t (by rw [hf.d, e]; simp [dl]) ht
    exact ⟨by rw [app_tmps hf.wf, if_neg hne], by rw [app_gs hf.wf hn, if_neg hne]⟩
  · intro k hk
    rw [app_mem hf.wf]
    cases hx : lookM (newM r.1.e) k with
    | none => rfl
    | some b => exact absurd hk (h2 k (hf.wk k b hx))
  · intro k hk
    rw [app_gr hf.wf]
    cases hx : newR r.1.e with
    | none => rfl
    | some kb =>
      obtain ⟨k', b⟩ := kb
      have hne : k' ≠ k := fun e => h3 k' (hf.wg k' b hx) (e ▸ hk)
      simp [hne]
theorem Alike.symm {s t : St} (h : Alike s t) : Alike t s := ⟨h.nt.symm, fun k => (h.tmps k).symm, fun k => (h.gs k).symm, fun k => (h.mem k).symm, fun k => (h.gr k).symm⟩
theorem Alike.trans {s t u : St} (h : Alike s t) (h' : Alike t u) : Alike s u := ⟨h.nt.trans h'.nt, fun k => (h.tmps k).trans (h'.tmps k), fun k => (h.gs k).trans (h'.gs k), fun k => (h.mem k).trans (h'.mem k), fun k => (h.gr k).trans (h'.gr k)⟩
theorem moveFront {P : Program} {K : Kn} {i : Nat} {o : Oper} {L2 : List (Nat × Oper)} : ∀ {L1 : List (Nat × Oper)} {s τ : St} {obs : List Ob} {fs1 : List Foot} {f : Foot} {fs2 : List Foot},
    exec A T cs X all (L1 ++ (i, o) :: L2) s = some (τ, obs, fs1 ++ f :: fs2) → fs1.length = L1.length → NM s (ds (fs1 ++ f :: fs2)) → Ord (fs1 ++ f :: fs2) → (∀ g ∈ fs1, comm g f = true) →
    ∃ δ ob, delta A T cs (X i) all i o s = some (δ, ob, f) ∧ ∃ τ' obs', exec A T cs X all (L1 ++ L2) (s.app δ) = some (τ', obs', fs1 ++ fs2) ∧ Alike τ' τ ∧ (AllOb P K obs → AllOb P K ob ∧ AllOb P K obs')
  | [], s, τ, obs, fs1, f, fs2, h, hl, hn, hF, hc => by
    have : fs1 = [] := List.eq_nil_of_length_eq_zero hl
    subst this
    obtain ⟨δ, ob, f', r', h1, h2, h3⟩ := exec_cons h
    obtain ⟨τ1, obs1, fs1⟩ := r'
    simp only [List.nil_append, Prod.mk.injEq, List.cons.injEq] at h3
    obtain ⟨rfl, rfl, rfl, rfl⟩ := h3
    exact ⟨δ, ob, h1, τ, obs1, h2, ⟨rfl, fun _ => rfl, fun _ => rfl, fun _ => rfl, fun _ => rfl⟩, fun ha => AllOb.app.1 ha⟩
  | (j, oj) :: L1, s, τ, obs, fs1, f, fs2, h, hl, hn, hF, hc => by
    cases fs1 with
    | nil => cases hl
    | cons fj fs1 =>
      obtain ⟨δj, obj, fj', r', h1, h2, h3⟩ := exec_cons h
      obtain ⟨τ1, obs1, fsr⟩ := r'
      simp only [List.cons_append, Prod.mk.injEq, List.cons.injEq] at h3
      obtain ⟨rfl, rfl, rfl, rfl⟩ := h3
      have hfj := delta_foot h1
      have hF' := List.pairwise_cons.1 hF
      obtain ⟨n1, n2⟩ := nm_of hfj (gs := fs1 ++ f :: fs2) hn (by simp) (fun g hg => by simp only [List.cons_append, List.mem_cons]; exact .inr hg) hF'.1
      obtain ⟨δ, ob, g1, τ', obs', g2, g3, g4⟩ := moveFront (P := P) (L1 := L1) h2 (by simpa using hl) n2 hF'.2 (fun g hg => hc g (by simp [hg]))
      have hcm := hc fj (by simp)
      simp only [comm, Bool.and_eq_true] at hcm
      obtain ⟨⟨⟨⟨⟨⟨⟨⟨⟨c0, c1⟩, c2⟩, c3⟩, c4⟩, c5⟩, c6⟩, c7⟩, c8⟩, c9⟩ := hcm
      have hf := delta_foot g1
      have hFf := List.pairwise_append.1 hF'.2
      have hin : ∀ g ∈ fs1 ++ fs2, g ∈ fs1 ++ f :: fs2 := fun g hg => by
        rcases List.mem_append.1 hg with hg | hg
        · exact List.mem_append_left _ hg
        · exact List.mem_append_right _ (List.mem_cons_of_mem _ hg)
      have hq : ∀ g ∈ fj :: (fs1 ++ fs2), disj (dl g.d) f.qs = true := by
        intro g hg
        rcases List.mem_cons.1 hg with rfl | hg
        · exact c0
        · rcases List.mem_append.1 hg with hg | hg
          · have := hc g (by simp [hg])
            simp only [comm, Bool.and_eq_true] at this
            exact this.1.1.1.1.1.1.1.1.1
          · exact (List.pairwise_cons.1 hFf.2.1).1 g hg
      -- i at s
      obtain ⟨a1, a2, a3⟩ := ag_app hfj n1 (g := f) (disj_ok c1) (disj_ok c4) (disj_ok c7)
      have d1 : delta A T cs (X i) all i o s = some (δ, ob, f) := delta_local g1 (fun t ht => ⟨(a1 t ht).1.symm, (a1 t ht).2.symm⟩) (fun k hk => (a2 k hk).symm) (fun k hk => (a3 k hk).symm) app_nt
      obtain ⟨m1, m2⟩ := nm_of hf (gs := fj :: (fs1 ++ fs2)) hn (by simp) (fun g hg => by
        rcases List.mem_cons.1 hg with rfl | hg
        · simp
        · simp only [List.cons_append, List.mem_cons]; exact .inr (hin g hg)) hq
      -- j behind i
      obtain ⟨b1, b2, b3⟩ := ag_app hf m1 (g := fj) (disj_ok c2) (disj_ok c5) (disj_ok c8)
      have d2 : delta A T cs (X j) all j oj (s.app δ) = some (δj, obj, fj) := delta_local h1 b1 b2 b3 app_nt.symm
      -- the two orders come to the same
      have sw : Alike ((s.app δj).app δ) ((s.app δ).app δj) := by
        refine app_swap hfj.wf hf.wf n1 m1 (n2.sub fun d hd => ds_mem (g := f) (by simp) (by rw [hf.d]; exact hd)) (m2.sub fun d hd => ds_mem (g := fj) (by simp) (by rw [hfj.d]; exact hd)) (fun t ht ht' => ?_) (fun k b b' e1 e2 => ?_) (fun k b k' b' e1 e2 he => ?_)
        · exact disj_ok c3 t (by rw [hfj.d]; simp only; rw [ht]; simp [dl]) (by rw [hf.d]; simp only; rw [ht']; simp [dl])
        · exact disj_ok c6 k (hfj.wk k b e1) (hf.wk k b' e2)
        · subst he; exact disj_ok c9 k (hfj.wg k b e1) (hf.wg k b' e2)
      obtain ⟨nn1, nn2⟩ := nm_of hf (gs := fs1 ++ fs2) n2 (by simp) hin (fun g hg => hq g (List.mem_cons_of_mem _ hg))
      obtain ⟨τ'', e1, e2⟩ := exec_alike g2 sw nn2 (hF'.2.sublist (List.Sublist.append_left (List.sublist_cons_self _ _) _))
      refine ⟨δ, ob, d1, τ'', obj ++ obs', ?_, e2.symm.trans g3, fun ha => ?_⟩
      · simp only [List.cons_append, exec, d2, e1]
      · obtain ⟨p1, p2⟩ := AllOb.app.1 ha
        obtain ⟨p3, p4⟩ := g4 p2
        exact ⟨p3, AllOb.app.2 ⟨p1, p4⟩⟩
end

/-! ### whatever order is drawn -/
/-- whom does an operation wait for, in the end? (bits) -/
def waits (tb : List Nat) (m : Nat) : List Edge → Nat
  | [] => m
  | e :: l => waits tb (if Region.binds .any e then (m ||| 1 <<< e.on) ||| tb.getD e.on 0 else m) l
def masks : List Oper → List Nat → List Nat
  | [], tb => tb
  | o :: l, tb => masks l (tb ++ [waits tb 0 o.after.toList])
/-- it waits for it, or for one that waits for it -/
inductive WaitsFor (all : List Oper) : Nat → Nat → Prop
  | one {i j : Nat} {o : Oper} {e : Edge} : all[i]? = some o → e ∈ o.after.toList → Region.binds .any e = true → e.on = j → WaitsFor all i j
  | more {i j : Nat} {o : Oper} {e : Edge} : all[i]? = some o → e ∈ o.after.toList → Region.binds .any e = true → WaitsFor all e.on j → WaitsFor all i j
theorem waits_ok {tb : List Nat} : ∀ {l : List Edge} {m j : Nat}, (waits tb m l).testBit j = true → m.testBit j = true ∨ ∃ e ∈ l, Region.binds .any e = true ∧ (e.on = j ∨ (tb.getD e.on 0).testBit j = true)
  | [], m, j, h => .inl h
  | e :: l, m, j, h => by
    rcases waits_ok (l := l) h with h | ⟨e', h1, h2⟩
    · split at h
      · rename_i hb
        rw [Nat.testBit_or, Nat.testBit_or, Nat.one_shiftLeft, Nat.testBit_two_pow] at h
        simp only [Bool.or_eq_true, decide_eq_true_eq] at h
        rcases h with (h | h) | h
        · exact .inl h
        · exact .inr ⟨e, by simp, hb, .inl h⟩
        · exact .inr ⟨e, by simp, hb, .inr h⟩
      · exact .inl h
    · exact .inr ⟨e', by simp [h1], h2⟩
theorem masks_ok {all : List Oper} : ∀ {l : List Oper} {tb : List Nat}, all.drop tb.length = l → (∀ i j, (tb.getD i 0).testBit j = true → WaitsFor all i j) → ∀ i j, ((masks l tb).getD i 0).testBit j = true → WaitsFor all i j
  | [], tb, _, h => h
  | o :: l, tb, hl, h => by
    have ho : all[tb.length]? = some o := by
      have := congrArg (fun r => r[0]?) hl
      simpa using this
    refine masks_ok (l := l) (tb := tb ++ [waits tb 0 o.after.toList]) ?_ fun i j hij => ?_
    · have := congrArg List.tail hl
      simpa [List.tail_drop] using this
    · rcases Nat.lt_trichotomy i tb.length with hlt | he | hgt
      · refine h i j ?_
        simpa [List.getD, List.getElem?_append_left hlt] using hij
      · subst he
        have : (waits tb 0 o.after.toList).testBit j = true := by simpa [List.getD] using hij
        rcases waits_ok this with h0 | ⟨e, h1, h2, h3⟩
        · simp at h0
        · rcases h3 with h3 | h3
          · exact .one ho h1 h2 h3
          · exact .more ho h1 h2 (h _ _ h3)
      · exfalso
        have : (tb ++ [waits tb 0 o.after.toList])[i]? = none := by rw [List.getElem?_eq_none_iff]; simp; omega
        simp [List.getD, this] at hij
def edge (tb : List Nat) (i j : Nat) : Bool := (tb.getD i 0).testBit j
/-- of each two, that do not wait for each other, may they change places? and nobody waits for a later one -/
def pairsB (tb : List Nat) : List (Nat × Oper) → List Foot → Bool
  | (j, _) :: l, f :: fs => (l.zip fs).all (fun x => edge tb x.1.1 j || comm f x.2) && pairsB tb l fs
  | _, _ => true
def edgesB : List (Nat × Oper) → Bool
  | [] => true
  | (i, o) :: l => o.after.toList.all (fun e => !(Region.binds .any e) || Nat.blt e.on i) && edgesB l
def ordB : List Foot → Bool
  | [] => true
  | f :: fs => fs.all (fun g => disj (dl g.d) f.qs) && ordB fs
theorem ordB_ok : ∀ {fs : List Foot}, ordB fs = true → Ord fs
  | [], _ => .nil
  | f :: fs, h => by
    simp only [ordB, Bool.and_eq_true] at h
    exact .cons (fun g hg => List.all_eq_true.1 h.1 g hg) (ordB_ok h.2)
def drawB (l : List Oper) (fs : List Foot) : Bool := pairsB (masks l []) (number 0 l) fs && edgesB (number 0 l) && ordB fs
theorem number_get : ∀ {l : List Oper} {i : Nat} {x : Nat × Oper}, x ∈ number i l → i ≤ x.1 ∧ l[x.1 - i]? = some x.2
  | [], i, x, h => by cases h
  | o :: l, i, x, h => by
    rcases List.mem_cons.1 h with rfl | h
    · simp
    · obtain ⟨h1, h2⟩ := number_get h
      refine ⟨by omega, ?_⟩
      rw [show x.1 - i = (x.1 - (i + 1)) + 1 by omega, List.getElem?_cons_succ]
      exact h2
theorem number_mem : ∀ {l : List Oper} {i k : Nat} {o : Oper}, l[k]? = some o → (i + k, o) ∈ number i l
  | [], i, k, o, h => by simp at h
  | o' :: l, i, 0, o, h => by simp at h; subst h; simp [number]
  | o' :: l, i, k + 1, o, h => by
    have := number_mem (l := l) (i := i + 1) (k := k) (o := o) (by simpa using h)
    rw [show i + (k + 1) = i + 1 + k by omega]
    exact List.mem_cons_of_mem _ this
theorem number_sorted : ∀ (l : List Oper) (i : Nat), (number i l).Pairwise (fun x y => x.1 < y.1)
  | [], _ => .nil
  | o :: l, i => List.pairwise_cons.2 ⟨fun x hx => by have := number_lt x hx; simp only; omega, number_sorted l (i + 1)⟩
/-- the foots of the operations that are left -/
def Paired (tb : List Nat) (L : List (Nat × Oper)) (fs : List Foot) : Prop := L.length = fs.length ∧ pairsB tb L fs = true
theorem pairsB_del {tb : List Nat} {i : Nat} {o : Oper} : ∀ {L1 L2 : List (Nat × Oper)} {fs1 : List Foot} {f : Foot} {fs2 : List Foot}, fs1.length = L1.length → pairsB tb (L1 ++ (i, o) :: L2) (fs1 ++ f :: fs2) = true →
    pairsB tb (L1 ++ L2) (fs1 ++ fs2) = true ∧ ∀ (k : Nat) (x : Nat × Oper) (g : Foot), L1[k]? = some x → fs1[k]? = some g → edge tb i x.1 = true ∨ comm g f = true
  | [], L2, fs1, f, fs2, hl, h => by
    have : fs1 = [] := List.eq_nil_of_length_eq_zero hl
    subst this
    simp only [List.nil_append, pairsB, Bool.and_eq_true] at h
    exact ⟨h.2, fun k x g hx => by simp at hx⟩
  | (j, oj) :: L1, L2, fs1, f, fs2, hl, h => by
    cases fs1 with
    | nil => cases hl
    | cons fj fs1 =>
      have hl' : fs1.length = L1.length := by simpa using hl
      simp only [List.cons_append, pairsB, Bool.and_eq_true] at h ⊢
      obtain ⟨h1, h2⟩ := h
      obtain ⟨g1, g2⟩ := pairsB_del hl' h2
      have hz := List.all_eq_true.1 h1
      refine ⟨⟨List.all_eq_true.2 fun x hx => hz x ?_, g1⟩, fun k x g hx hg => ?_⟩
      · rw [List.zip_append hl'.symm] at hx ⊢
        rcases List.mem_append.1 hx with hx | hx
        · exact List.mem_append_left _ hx
        · exact List.mem_append_right _ (by simp only [List.zip_cons_cons, List.mem_cons]; exact .inr hx)
      · cases k with
        | zero =>
          simp at hx hg
          subst hx; subst hg
          have := hz ((i, o), f) (by rw [List.zip_append hl'.symm]; exact List.mem_append_right _ (by simp))
          simpa using this
        | succ k => exact g2 k x g (by simpa using hx) (by simpa using hg)
section
variable {C : Cx} {P : Program} {Q : Exit → Act → World → Prop} {T : List (Nat × TI)} {cs : List (Nat × CS)} {ops : Array Oper} {all : List Oper}
theorem getD_tf {listed : Array Bool} {k : Nat} (h : listed.getD k true = false) : listed.getD k false = false := by
  simp only [Array.getD_eq_getD_getElem?] at h ⊢
  cases hk : listed[k]? with
  | none => rfl
  | some b => rw [hk] at h; simpa using h
theorem getD_ft {listed : Array Bool} {k : Nat} (hk : k < listed.size) (h : listed.getD k false ≠ true) : listed.getD k true = false := by
  simp only [Array.getD_eq_getD_getElem?, Array.getElem?_eq_getElem hk] at h ⊢
  simpa using h
theorem any_ok {tb : List Nat} (hT : TabOK P T) (hops : ops = all.toArray) (htb : ∀ i j, edge tb i j = true → WaitsFor all i j) : ∀ (n : Nat) (L : List (Nat × Oper)) (fs : List Foot) (listed : Array Bool) (s : St) (a : Act) (w : World), L.length = n → Fits C s a w → NM s (ds fs) → Ord fs → Paired tb L fs → (∀ k o, all[k]? = some o → listed.getD k false = true → ∀ e ∈ o.after.toList, Region.binds .any e = true → listed.getD e.on false = true) →
    L.Pairwise (fun x y => x.1 < y.1) → (∀ x ∈ L, ops[x.1]? = some x.2 ∧ listed.getD x.1 true = false) → (∀ k o, ops[k]? = some o → listed.getD k true = false → (k, o) ∈ L) → listed.size = ops.size →
    (∀ x ∈ L, ∀ e ∈ x.2.after.toList, Region.binds .any e = true → e.on < x.1) →
    (∀ X, ∃ τ obs, exec std T cs X all L s = some (τ, obs, fs) ∧ AllOb P C.K obs ∧ ∀ a' w', Fits C τ a' w' → Q .normal a' w') → wpAny P .any ops Q n listed a w
  | 0, L, fs, listed, s, a, w, hn, h, hNM, hF, hP, hDC, hsr, hL, hA, hsz, hE, hs => by
    have : L = [] := List.eq_nil_of_length_eq_zero hn
    subst this
    refine ⟨?_, ?_⟩
    · cases hr : Region.ready .any ops listed with
      | nil => rfl
      | cons i r =>
        obtain ⟨h1, o, h2, _⟩ := mem_ready.1 (hr ▸ List.mem_cons_self : i ∈ Region.ready .any ops listed)
        cases hA i o h2 h1
    · obtain ⟨τ, obs, h1, _, h2⟩ := hs (fun _ => ⟨0, fun _ => none, fun _ => 0, fun _ => .empty⟩)
      simp only [exec, Option.some.injEq, Prod.mk.injEq] at h1
      obtain ⟨rfl, _⟩ := h1
      exact h2 a w h
  | n + 1, L, fs, listed, s, a, w, hn, h, hNM, hF, hP, hDC, hsr, hL, hA, hsz, hE, hs => by
    refine ⟨fun hr => ?_, fun i hi => ?_⟩
    · -- the first one that is left may come up
      exfalso
      cases L with
      | nil => cases hn
      | cons x L =>
        obtain ⟨i0, o0⟩ := x
        obtain ⟨h1, h2⟩ := hL (i0, o0) (by simp)
        have : i0 ∈ Region.ready .any ops listed := mem_ready.2 ⟨h2, o0, h1, fun e he hb => by
          have hlt := hE (i0, o0) (by simp) e (by simpa using he) hb
          simp only at hlt
          have hi0 : i0 < ops.size := (Array.getElem?_eq_some_iff.1 h1).1
          have hon : e.on < listed.size := by rw [hsz]; omega
          by_cases hl : listed.getD e.on false = true
          · exact hl
          · exfalso
            have hm := hA e.on _ (Array.getElem?_eq_getElem (by omega)) (getD_ft hon hl)
            rcases List.mem_cons.1 hm with he' | hm
            · injection he' with he'; omega
            · have := (List.pairwise_cons.1 hsr).1 _ hm
              simp only at this; omega⟩
        rw [hr] at this
        cases this
    · obtain ⟨h1, o, h2, h3⟩ := mem_ready.1 hi
      have hin := hA i o h2 h1
      obtain ⟨L1, L2, rfl⟩ := List.append_of_mem hin
      obtain ⟨fs1, f, fs2, hlen, rfl⟩ : ∃ fs1 f fs2, fs1.length = L1.length ∧ fs = fs1 ++ f :: fs2 := by
        have hl := hP.1
        simp only [List.length_append, List.length_cons] at hl
        have hlt : L1.length < fs.length := by omega
        refine ⟨fs.take L1.length, fs[L1.length], fs.drop (L1.length + 1), by simp; omega, ?_⟩
        rw [← List.drop_eq_getElem_cons hlt, List.take_append_drop]
      obtain ⟨hP1, hcm⟩ := pairsB_del hlen hP.2
      have hcomm : ∀ g ∈ fs1, comm g f = true := by
        intro g hg
        obtain ⟨k, hk⟩ := List.getElem?_of_mem hg
        have hkl : k < L1.length := by rw [← hlen]; exact (List.getElem?_eq_some_iff.1 hk).1
        rcases hcm k _ g (List.getElem?_eq_getElem hkl) hk with he | he
        · exfalso
          have h5 := (hL L1[k] (List.mem_append_left _ (List.getElem_mem hkl))).2
          have hr := htb _ _ he
          have dc : ∀ {i j : Nat}, WaitsFor all i j → (∀ o e, all[i]? = some o → e ∈ o.after.toList → Region.binds .any e = true → listed.getD e.on false = true) → listed.getD j false = true := by
            intro i j hr
            induction hr with
            | one h1 h2 h3 h4 => intro hi; rw [← h4]; exact hi _ _ h1 h2 h3
            | more h1 h2 h3 h4 ih => intro hi; exact ih fun o e g1 g2 g3 => hDC _ o g1 (hi _ _ h1 h2 h3) e g2 g3
          have h4 := dc hr fun o' e g1 g2 g3 => by
            have : o' = o := by
              have e1 : ops[i]? = some o' := by rw [hops]; simpa using g1
              rw [h2] at e1; injection e1 with e1; exact e1.symm
            subst this
            exact h3 e (by simpa using g2) g3
          rw [getD_tf h5] at h4
          cases h4
        · exact he
      have mf : ∀ X, ∃ δ ob, delta std T cs (X i) all i o s = some (δ, ob, f) ∧ AllOb P C.K ob ∧ ∃ τ' obs', exec std T cs X all (L1 ++ L2) (s.app δ) = some (τ', obs', fs1 ++ fs2) ∧ AllOb P C.K obs' ∧ ∀ a' w', Fits C τ' a' w' → Q .normal a' w' := by
        intro X
        obtain ⟨τ, obs, e1, e2, e3⟩ := hs X
        obtain ⟨δ, ob, g1, τ', obs', g2, g3, g4⟩ := moveFront (P := P) e1 hlen hNM hF hcomm
        exact ⟨δ, ob, g1, (g4 e2).1, τ', obs', g2, (g4 e2).2, fun a' w' hf => e3 a' w' (hf.alike g3)⟩
      have hsrt : (L1 ++ L2).Pairwise (fun x y => x.1 < y.1) := hsr.sublist (List.Sublist.append_left (List.sublist_cons_self _ _) _)
      have hnot : ∀ x ∈ L1 ++ L2, x.1 ≠ i := by
        intro x hx
        rw [List.pairwise_append] at hsr
        obtain ⟨p1, p2, p3⟩ := hsr
        rcases List.mem_append.1 hx with hx | hx
        · have := p3 x hx (i, o) (by simp); simp only at this; omega
        · have := (List.pairwise_cons.1 p2).1 x hx; simp only at this; omega
      have key := delta_ok (C := C) (K := fun a' w' => wpAny P .any ops Q n (listed.setIfInBounds i true) a' w') (Q := Q) (cs := cs) (i := i) (o := o) hT hops h (fun x => by
        obtain ⟨δ, ob, g1, g2, _⟩ := mf (fun _ => x)
        exact ⟨_, g1, g2⟩) (fun x r a' w' hr hf => by
        have hfo := delta_foot hr
        obtain ⟨δ, ob, f'⟩ := r
        obtain ⟨δ0, ob0, g0, _⟩ := mf (fun _ => x)
        rw [hr] at g0
        injection g0 with g0; injection g0 with q1 q2; injection q2 with q2 q3
        subst q1; subst q2; subst q3
        have hinF : ∀ g ∈ fs1 ++ fs2, g ∈ fs1 ++ f' :: fs2 := fun g hg => by
          rcases List.mem_append.1 hg with hg | hg
          · exact List.mem_append_left _ hg
          · exact List.mem_append_right _ (List.mem_cons_of_mem _ hg)
        obtain ⟨n1, n2⟩ := nm_of hfo (gs := fs1 ++ fs2) hNM (by simp) hinF (fun g hg => by
          rcases List.mem_append.1 hg with hg | hg
          · have := hcomm g hg
            simp only [comm, Bool.and_eq_true] at this
            exact this.1.1.1.1.1.1.1.1.1
          · exact (List.pairwise_cons.1 (List.pairwise_append.1 hF).2.1).1 g hg)
        refine any_ok hT hops htb n (L1 ++ L2) (fs1 ++ fs2) (listed.setIfInBounds i true) (s.app δ) a' w' ?_ hf n2 ?_ ?_ ?_ hsrt ?_ ?_ (by simpa using hsz) ?_ ?_
        · simp at hn ⊢; omega
        · exact hF.sublist (List.Sublist.append_left (List.sublist_cons_self _ _) _)
        · refine ⟨?_, hP1⟩
          have := hP.1
          simp at this ⊢; omega
        · intro k ok hk hu e he hb
          by_cases hki : k = i
          · subst hki
            have : ok = o := by
              have e1 : ops[k]? = some ok := by rw [hops]; simpa using hk
              rw [h2] at e1; injection e1 with e1; exact e1.symm
            subst this
            have hl := h3 e (by simpa using he) hb
            by_cases hei : e.on = k
            · have := hE (k, ok) hin e he hb
              simp only at this; omega
            · rw [getD_set_ne false (fun e' => hei e'.symm)]; exact hl
          · rw [getD_set_ne false (fun e' => hki e'.symm)] at hu
            have hl := hDC k ok hk hu e he hb
            by_cases hei : e.on = i
            · rw [hei] at hl
              have h5 := (hL (i, o) hin).2
              simp only at h5
              rw [getD_tf h5] at hl; cases hl
            · rw [getD_set_ne false (fun e' => hei e'.symm)]; exact hl
        · intro x' hx
          have hx' : x' ∈ L1 ++ (i, o) :: L2 := by
            rcases List.mem_append.1 hx with hx | hx
            · exact List.mem_append_left _ hx
            · exact List.mem_append_right _ (List.mem_cons_of_mem _ hx)
          obtain ⟨e1, e2⟩ := hL x' hx'
          refine ⟨e1, ?_⟩
          rw [getD_set_ne true (fun e => hnot x' hx e.symm)]
          exact e2
        · intro k ok hk hu
          by_cases hki : k = i
          · subst hki
            have hlt : k < listed.size := by rw [hsz]; exact (Array.getElem?_eq_some_iff.1 h2).1
            simp [Array.getD_eq_getD_getElem?, hlt] at hu
          · rw [getD_set_ne true (fun e => hki e.symm)] at hu
            have := hA k ok hk hu
            rcases List.mem_append.1 this with hx | hx
            · exact List.mem_append_left _ hx
            · rcases List.mem_cons.1 hx with hx | hx
              · injection hx with hx; exact absurd hx hki
              · exact List.mem_append_right _ hx
        · intro x' hx
          refine hE x' ?_
          rcases List.mem_append.1 hx with hx | hx
          · exact List.mem_append_left _ hx
          · exact List.mem_append_right _ (List.mem_cons_of_mem _ hx)
        · intro X
          obtain ⟨Y, hY, hYX⟩ : ∃ Y : Nat → Atom, Y i = x ∧ ∀ j, j ≠ i → Y j = X j := ⟨fun j => if j = i then x else X j, by simp, fun j hj => by simp [hj]⟩
          obtain ⟨δ1, ob1, g1, _, τ', obs', g2, g3, g4⟩ := mf Y
          rw [hY, hr] at g1
          injection g1 with g1; injection g1 with q1 _
          subst q1
          rw [exec_congr _ _ (fun x' hx => hYX x'.1 (hnot x' hx))] at g2
          exact ⟨τ', obs', g2, g3, g4⟩)
      unfold wpOp
      simp only [h2]
      by_cases hw : Region.wanted o (yielded ops a.tmps) = true
      · rw [if_pos hw] at key ⊢
        exact .inl key
      · rw [if_neg hw] at key ⊢
        exact key
/-- a region that draws its order -/
theorem drawn_ok {s : St} {a : Act} {w : World} {id : Nat} {l : List Oper} (hm : P.follows .mixedOrders = true) (hT : TabOK P T) (kp km : List Nat) (cs : List (Nat × CS)) (h : Fits C s a w) (hgs : s.gs = []) (fs : List Foot) (hD : drawB l fs = true) (hlen : l.length = fs.length)
    {R : Alg → (Nat → Atom) → St × List Ob}
    (hex : ∀ A X, (exec A T cs X l (number 0 l) s).map (fun r => ((r.1.keep kp km, r.2.1), r.2.2)) = some (R A X, fs)) (hob : ∀ X, AllOb P C.K (R std X).2) (hQ : ∀ X a' w', Fits C (R std X).1 a' w' → Q .normal a' w') : (Code.region id l.toArray true).wp P Q a w := by
  simp only [drawB, Bool.and_eq_true] at hD
  obtain ⟨⟨d1, d2⟩, d3⟩ := hD
  refine wp_region_any hm ?_
  have hf : Fits C s a { w with drawn := w.drawn + 1 } := h.world (fun _ _ _ => rfl) (fun _ _ _ _ _ => rfl) ⟨h.chg.os, h.chg.tape, h.chg.output, h.chg.size, h.chg.block⟩ (fun _ _ _ hc _ => hc) (fun _ _ h _ => h)
  have hnl : ∀ (l : List Oper) (i : Nat), (number i l).length = l.length := by
    intro l
    induction l with
    | nil => intro i; rfl
    | cons o l ih => intro i; simp [number, ih]
  have hsz : l.toArray.size = (number 0 l).length := by simp [hnl]
  rw [hsz]
  refine any_ok (cs := cs) (all := l) (tb := masks l []) hT rfl (masks_ok (l := l) (tb := []) rfl (fun i j h => by simp at h)) _ (number 0 l) fs _ s a _ rfl hf (fun t p v hl => by rw [hgs] at hl; cases hl) ?_ ⟨by rw [hnl]; exact hlen, d1⟩ ?_ (number_sorted l 0) ?_ ?_ (by simp [hnl]) ?_ ?_
  · exact ordB_ok d3
  · intro k o hk hu
    exfalso
    by_cases hk' : k < (number 0 l).length
    · simp [Array.getD_eq_getD_getElem?, hk'] at hu
    · simp [Array.getD_eq_getD_getElem?, hk'] at hu
  · intro x hx
    obtain ⟨h1, h2⟩ := number_get hx
    rw [Nat.sub_zero] at h2
    refine ⟨by simpa using h2, ?_⟩
    have hlt := (List.getElem?_eq_some_iff.1 h2).1
    simp [Array.getD_eq_getD_getElem?, hnl, hlt]
  · intro k o hk _
    have := number_mem (i := 0) (l := l) (k := k) (o := o) (by simpa using hk)
    rwa [Nat.zero_add] at this
  · have ed : ∀ (L : List (Nat × Oper)), edgesB L = true → ∀ x ∈ L, ∀ e ∈ x.2.after.toList, Region.binds .any e = true → e.on < x.1 := by
      intro L
      induction L with
      | nil => intro _ x hx; cases hx
      | cons y L ih =>
        obtain ⟨i, o⟩ := y
        intro hL x hx e he hb
        simp only [edgesB, Bool.and_eq_true] at hL
        rcases List.mem_cons.1 hx with rfl | hx
        · have := List.all_eq_true.1 hL.1 e he
          simpa [hb] using this
        · exact ih hL.2 x hx e he hb
    exact ed _ d2
  · intro X
    obtain ⟨r, hr, e⟩ := Option.map_eq_some_iff.1 (hex std X)
    obtain ⟨τ, obs, fs'⟩ := r
    simp only [Prod.mk.injEq] at e
    obtain ⟨e1, rfl⟩ := e
    refine ⟨τ, obs, hr, ?_, fun a' w' hf' => hQ X a' w' ?_⟩
    · have := hob X; rw [← e1] at this; exact this
    · rw [← e1]; exact hf'.keep kp km
end
end Go.Proofs.Ythpbihppfijegaa.Sym

namespace Go.Proofs.Ythpbihppfijegaa.Sym
open Go.RowKit
set_option linter.unusedVariables false
set_option linter.unusedSimpArgs false

theorem wrap_succ {k : Nat} {n : Nat} (h : k < n) (hn : n ≤ maxLen) : IntKind.i64.wrap ((k : Int) + 1) = ((k + 1 : Nat) : Int) := by
  have : (n : Int) ≤ 9223372036854775807 := by simp only [maxLen] at hn; omega
  rw [IntKind.wrap_i64]; omega
theorem wrap_in {x : Int} (h : -9223372036854775808 ≤ x) (h' : x ≤ 9223372036854775807) : IntKind.i64.wrap x = x := by rw [IntKind.wrap_i64]; omega
/-- an elder contract of a function, said for the executor -/
theorem mem_one {m : Nat → Nat → Prop} {w : World} {v : AV} (h : ∀ x ∈ [v], Ok m w x) : Ok m w v := h v (by simp)
theorem ok_tup {m : Nat → Nat → Prop} {w : World} {l : List AV} (h : Ok m w (.tup l)) : ∀ v ∈ l, Ok m w v := by cases h with | tup _ h => exact h
theorem ok_agg {m : Nat → Nat → Prop} {w : World} {l : List AV} (h : Ok m w (.agg l)) : ∀ v ∈ l, Ok m w v := by cases h with | agg _ _ h => exact h
/-- rows of one thing and another that read alike -/
theorem ok_len {m : Nat → Nat → Prop} {w : World} {g : Option Nat} {A : Option Addr} {n c k : Nat} {cells : Nat → List AV} (h : Ok m w (.sl g A n c k cells)) : n ≤ c ∧ c ≤ maxLen := by
  cases h with | sl _ _ _ _ _ _ h1 h2 => exact ⟨h1, h2⟩
theorem ok_recell {m : Nat → Nat → Prop} {w : World} {g g' : Option Nat} {A : Option Addr} {n c k : Nat} {f f' : Nat → List AV} (h : Ok m w (.sl g A n c k f)) (he : ∀ i, i < n → f i = f' i) : Ok m w (.sl g' A n c k f') := by
  cases h with
  | sl _ _ _ _ _ _ h1 h2 h3 h4 h5 h6 h7 =>
    exact .sl _ _ _ _ _ _ h1 h2 (fun i hi => by rw [← he i hi]; exact h3 i hi) h4 (fun i hi => by rw [← he i hi]; exact h5 i hi) (fun i hi => by rw [← he i hi]; exact h6 i hi) (fun i hi => by rw [← he i hi]; exact h7 i hi)

/-- a value that says no more than another one -/
def Sim (v v' : AV) : Prop := v.den = v'.den ∧ (v.one = true → v'.one = true) ∧ ∀ m w, Ok m w v → Ok m w v'
theorem Sim.refl (v : AV) : Sim v v := ⟨rfl, id, fun _ _ h => h⟩
theorem Sim.recell {g g' : Option Nat} {A : Option Addr} {n c k : Nat} {f f' : Nat → List AV} (he : ∀ i, i < n → f i = f' i) : Sim (.sl g A n c k f) (.sl g' A n c k f') := ⟨rfl, fun _ => rfl, fun _ _ h => ok_recell h he⟩
theorem Sim.resl {g g' : Option Nat} {A : Option Addr} {n n' c k : Nat} {f f' : Nat → List AV} (hn : n = n') (he : ∀ i, i < n' → f i = f' i) : Sim (.sl g A n c k f) (.sl g' A n' c k f') := by
  subst hn; exact Sim.recell he
theorem Sim.tt : Sim (.bool .tt) (.bool (.v true)) := ⟨rfl, id, fun _ _ _ => .bool _⟩
theorem Sim.ff : Sim (.bool .ff) (.bool (.v false)) := ⟨rfl, id, fun _ _ _ => .bool _⟩
def simT (tmps : List (Nat × AV)) : List (Nat × AV) → Prop
  | [] => True
  | (t, v) :: l => ((look tmps t).known = true ∧ Sim (look tmps t) v) ∧ simT tmps l
theorem simT_ok {tmps : List (Nat × AV)} : ∀ {l : List (Nat × AV)}, simT tmps l → ∀ t, (look l t).known = true → (look tmps t).known = true ∧ Sim (look tmps t) (look l t)
  | [], _, t, h => by cases h
  | (k, v) :: l, hs, t, h => by
    rw [look_cons] at h ⊢
    by_cases he : k = t
    · subst he; rw [if_pos rfl] at h ⊢; exact hs.1
    · rw [if_neg he] at h ⊢; exact simT_ok hs.2 t h
/-- other words for the slots -/
theorem Fits.slots {C : Cx} {s : St} {a : Act} {w : World} (h : Fits C s a w) {l : List (Nat × AV)} (hl : simT s.tmps l) : Fits C { s with tmps := l, gs := [] } a w :=
  ⟨h.size, h.defers, fun t ht => by
    obtain ⟨h1, h2, _, h3⟩ := simT_ok hl t ht
    have := h.slot t h1
    exact ⟨by show a.tmps[t]? = some (look l t).den; rw [← h2]; exact this.1, h3 _ _ this.2⟩, (fun t p v hg => by cases hg), h.mem, h.nodup, h.gr, h.sepm, h.sepg, h.chg, h.m0, h.kept⟩
/-- other words for the first slot -/
theorem Fits.head {C : Cx} {nt d : Nat} {v v' : AV} {l : List (Nat × AV)} {mem : List (Nat × Blk)} {gr : List (Nat × Gr)} {a : Act} {w : World} (h : Fits C ⟨nt, (d, v) :: l, [], mem, gr⟩ a w) (e : v = v') : Fits C ⟨nt, (d, v') :: l, [], mem, gr⟩ a w := e ▸ h
theorem Fits.headS {C : Cx} {nt d : Nat} {v v' : AV} {l : List (Nat × AV)} {mem : List (Nat × Blk)} {gr : List (Nat × Gr)} {a : Act} {w : World} (h : Fits C ⟨nt, (d, v) :: l, [], mem, gr⟩ a w) (e : Sim v v') (hk : v.known = true) : Fits C ⟨nt, (d, v') :: l, [], mem, gr⟩ a w :=
  ⟨h.size, h.defers, fun t ht => by
    by_cases he : d = t
    · subst he
      have e0 : ∀ v : AV, look ((d, v) :: l) d = v := fun v => by rw [look_cons, if_pos rfl]
      have := h.slot d (by show (look ((d, v) :: l) d).known = true; rw [e0]; exact hk)
      have this' : a.tmps[d]? = some (look ((d, v) :: l) d).den ∧ Ok (St.m ⟨nt, (d, v) :: l, [], mem, gr⟩ C) w (look ((d, v) :: l) d) := this
      rw [e0] at this'
      show a.tmps[d]? = some (look ((d, v') :: l) d).den ∧ Ok _ w (look ((d, v') :: l) d)
      rw [e0, ← e.1]
      exact ⟨this'.1, e.2.2 _ _ this'.2⟩
    · have e1 : ∀ v : AV, look ((d, v) :: l) t = look l t := fun v => by rw [look_cons, if_neg he]
      have hk' : (look ((d, v') :: l) t).known = true := ht
      rw [e1] at hk'
      have := h.slot t (by show (look ((d, v) :: l) t).known = true; rw [e1]; exact hk')
      have this' : a.tmps[t]? = some (look ((d, v) :: l) t).den ∧ Ok (St.m ⟨nt, (d, v) :: l, [], mem, gr⟩ C) w (look ((d, v) :: l) t) := this
      rw [e1] at this'
      show a.tmps[t]? = some (look ((d, v') :: l) t).den ∧ Ok _ w (look ((d, v') :: l) t)
      rw [e1]
      exact this', (fun t p v hg => by cases hg), h.mem, h.nodup, h.gr, h.sepm, h.sepg, h.chg, h.m0, h.kept⟩
/-- a slot that is used no more -/
theorem Fits.tail {C : Cx} {nt : Nat} {d : Nat} {v : AV} {l : List (Nat × AV)} {mem : List (Nat × Blk)} {gr : List (Nat × Gr)} {a : Act} {w : World} (h : Fits C ⟨nt, (d, v) :: l, [], mem, gr⟩ a w) (hd : (look l d).known = false) : Fits C ⟨nt, l, [], mem, gr⟩ a w :=
  ⟨h.size, h.defers, fun t ht => by
    have hne : d ≠ t := fun e => by subst e; rw [hd] at ht; cases ht
    have := h.slot t (by show (look ((d, v) :: l) t).known = true; rw [look_cons, if_neg hne]; exact ht)
    have e : look ((d, v) :: l) t = look l t := by rw [look_cons, if_neg hne]
    have this' : a.tmps[t]? = some (look ((d, v) :: l) t).den ∧ Ok (St.m ⟨nt, (d, v) :: l, [], mem, gr⟩ C) w (look ((d, v) :: l) t) := this
    rw [e] at this'
    exact this', (fun t p v hg => by cases hg), h.mem, h.nodup, h.gr, h.sepm, h.sepg, h.chg, h.m0, h.kept⟩
section
variable {P : Program} {Q : Exit → Act → World → Prop} {C : Cx} {nt t : Nat} {b : Bool} {l : List (Nat × AV)} {mem : List (Nat × Blk)} {gr : List (Nat × Gr)} {a : Act} {w : World} {x y : Code}
/-- the same, and the slot is tested again -/
theorem test_keep (h : Fits C ⟨nt, (t, .bool (.v b)) :: l, [], mem, gr⟩ a w) (h1 : b = true → Fits C ⟨nt, (t, .bool .tt) :: l, [], mem, gr⟩ a w → x.wp P Q a w) (h2 : b = false → Fits C ⟨nt, (t, .bool .ff) :: l, [], mem, gr⟩ a w → y.wp P Q a w) : (Code.cond (.tmp t) x y).wp P Q a w :=
  cond_ok h (by show look ((t, _) :: l) t = _; rw [look_cons, if_pos rfl]) (fun hb => h1 hb (h.headS (by subst hb; exact ⟨rfl, id, fun _ _ _ => .bool _⟩) rfl)) (fun hb => h2 hb (h.headS (by subst hb; exact ⟨rfl, id, fun _ _ _ => .bool _⟩) rfl))
/-- a test of the first slot that is known -/
theorem test_ok (h : Fits C ⟨nt, (t, .bool (.v b)) :: l, [], mem, gr⟩ a w) (hd : (look l t).known = false) (h1 : b = true → Fits C ⟨nt, l, [], mem, gr⟩ a w → x.wp P Q a w) (h2 : b = false → Fits C ⟨nt, l, [], mem, gr⟩ a w → y.wp P Q a w) : (Code.cond (.tmp t) x y).wp P Q a w :=
  cond_ok h (by show look ((t, _) :: l) t = _; rw [look_cons, if_pos rfl]) (fun hb => h1 hb (h.tail hd)) (fun hb => h2 hb (h.tail hd))
theorem test_tt (h : Fits C ⟨nt, (t, .bool .tt) :: l, [], mem, gr⟩ a w) (hd : (look l t).known = false) (h1 : Fits C ⟨nt, l, [], mem, gr⟩ a w → x.wp P Q a w) : (Code.cond (.tmp t) x y).wp P Q a w :=
  cond_tt h (by show look ((t, _) :: l) t = _; rw [look_cons, if_pos rfl]) (h1 (h.tail hd))
theorem test_ff (h : Fits C ⟨nt, (t, .bool .ff) :: l, [], mem, gr⟩ a w) (hd : (look l t).known = false) (h1 : Fits C ⟨nt, l, [], mem, gr⟩ a w → y.wp P Q a w) : (Code.cond (.tmp t) x y).wp P Q a w :=
  cond_ff h (by show look ((t, _) :: l) t = _; rw [look_cons, if_pos rfl]) (h1 (h.tail hd))
end
def canB : BE → BE
  | .tt => .v true
  | .ff => .v false
  | b => b
mutual
/-- one form for all bools -/
def can : AV → AV
  | .bool b => .bool (canB b)
  | .agg l => .agg (canL l)
  | .tup l => .tup (canL l)
  | v => v
def canL : List AV → List AV
  | [] => []
  | v :: l => can v :: canL l
end
theorem canL_map (l : List AV) : canL l = l.map can := by
  induction l with
  | nil => rfl
  | cons v l ih => simp [canL, ih]
theorem canB_den (b : BE) : (canB b).den = b.den := by cases b <;> rfl
mutual
theorem can_den : ∀ v : AV, (can v).den = v.den
  | .bool b => by simp only [can, AV.den, canB_den]
  | .agg l => by simp only [can, AV.den, can_denL l]
  | .tup l => by simp only [can, AV.den, can_denL l]
  | .undef | .int .. | .str .. | .nilp | .ptr .. | .sl .. | .ep .. | .fn .. | .ifc .. | .nili | .opt .. | .raw .. => rfl
theorem can_denL : ∀ l : List AV, AV.denL (canL l) = AV.denL l
  | [] => rfl
  | v :: l => by simp only [canL, AV.denL, can_den v, can_denL l]
end
theorem can_one (v : AV) : (can v).one = v.one := by cases v <;> rfl
mutual
theorem can_ok {m : Nat → Nat → Prop} {w : World} : ∀ v : AV, Ok m w v ↔ Ok m w (can v)
  | .bool b => ⟨fun _ => .bool _, fun _ => .bool _⟩
  | .agg l => by
    have ih := can_okL (m := m) (w := w) l
    constructor
    · intro h
      cases h with
      | agg _ h1 h2 =>
        refine .agg _ (fun v hv => ?_) (ih.1 h2)
        rw [canL_map] at hv
        obtain ⟨y, hy, rfl⟩ := List.mem_map.1 hv
        rw [can_one]; exact h1 y hy
    · intro h
      have h' : Ok m w (.agg (canL l)) := h
      cases h' with
      | agg _ h1 h2 =>
        refine .agg _ (fun v hv => ?_) (ih.2 h2)
        rw [← can_one]; exact h1 _ (by rw [canL_map]; exact List.mem_map.2 ⟨v, hv, rfl⟩)
  | .tup l => by
    have ih := can_okL (m := m) (w := w) l
    constructor
    · intro h
      cases h with | tup _ h1 => exact .tup _ (ih.1 h1)
    · intro h
      have h' : Ok m w (.tup (canL l)) := h
      cases h' with | tup _ h1 => exact .tup _ (ih.2 h1)
  | .undef | .int .. | .str .. | .nilp | .ptr .. | .sl .. | .ep .. | .fn .. | .ifc .. | .nili | .opt .. | .raw .. => Iff.rfl
theorem can_okL {m : Nat → Nat → Prop} {w : World} : ∀ l : List AV, (∀ v ∈ l, Ok m w v) ↔ ∀ v ∈ canL l, Ok m w v
  | [] => by simp [canL]
  | v :: l => by
    have h1 := can_ok (m := m) (w := w) v
    have h2 := can_okL (m := m) (w := w) l
    simp only [canL, List.mem_cons, forall_eq_or_imp]
    exact and_congr h1 h2
end
theorem can_eq {m : Nat → Nat → Prop} {w : World} {v v' : AV} (h : Ok m w v) (e : can v = can v') : v.den = v'.den ∧ Ok m w v' :=
  ⟨by rw [← can_den v, ← can_den v', e], (can_ok v').2 (e ▸ (can_ok v).1 h)⟩
section
variable {P : Program} {T : List (Nat × TI)} {s : St} {a : Act} {w : World}
/-- a call ends by return, with this result and only new memory -/
theorem ret_spec {Kk : Kn} (hT : TabOK P T) {m : Nat → Nat → Prop} {w0 : World} (h : Fits ⟨m, w0, fun _ => False, [], Kk⟩ s a w) {fn : Func} {res : Atom → AV} {rs : List ResultVar} (hfn : fn.results = rs.toArray) {r : List AV × List Ob} (hr : resL T s rs = some r) (ho : AllOb P Kk r.2)
    (x : Atom) (he : can (resA r.1) = can (res x)) : bodyPost P fn (fun e w' => ∃ x, e = .returned (res x).den ∧ Ok m w' (res x) ∧ Below w0.heap.size w0 w') .ret a w := by
  refine (ret_ok hT h rfl hfn hr ho fun hv => ?_).1
  obtain ⟨h1, h2⟩ := done_ok h hv
  obtain ⟨h3, h4⟩ := can_eq h1 he
  exact ⟨x, by rw [h3], h4, h2⟩
end
section
variable {P : Program} {T : List (Nat × TI)} {s : St} {a : Act} {w : World}
theorem ret_spec' {Kk : Kn} (hT : TabOK P T) {m : Nat → Nat → Prop} {w0 : World} (h : Fits ⟨m, w0, fun _ => False, [], Kk⟩ s a w) {fn : Func} {res : Atom → AV} {rs : List ResultVar} (hfn : fn.results = rs.toArray) {r : List AV × List Ob} (hr : resL T s rs = some r) (ho : AllOb P Kk r.2)
    (x : Atom) (he : can (resA r.1) = can (res x)) : bodyPost P fn (fun e w' => ∃ x, e = .returned (res x).den ∧ Ok m w' (res x) ∧ Below w0.heap.size w0 w') .normal a w := by
  refine (ret_ok hT h rfl hfn hr ho fun hv => ?_).2
  obtain ⟨h1, h2⟩ := done_ok h hv
  obtain ⟨h3, h4⟩ := can_eq h1 he
  exact ⟨x, by rw [h3], h4, h2⟩
end
theorem ob_split {p : Prop} (h : p) : p := h
def pre {α : Type} : List α → List α → List α
  | [], r => r
  | x :: l, r => x :: pre l r
/-- a loop: the slots, blocks and rows that a round changes are in front -/
theorem loop_pre {P : Program} {Q : Exit → Act → World → Prop} {C : Cx} {ι : Type} (S : ι → List (Nat × AV)) (M : ι → List (Nat × Blk)) (G : ι → List (Nat × Gr)) (J : ι → Prop) (μ : ι → Nat) {nt : Nat} {rest : List (Nat × AV)} {restm : List (Nat × Blk)} {restg : List (Nat × Gr)} {c : Code} {a : Act} {w : World} (p₀ : ι) (h₀ : J p₀)
    (hf : Fits C ⟨nt, pre (S p₀) rest, [], pre (M p₀) restm, pre (G p₀) restg⟩ a w)
    (round : ∀ p, J p → ∀ a w, Fits C ⟨nt, pre (S p) rest, [], pre (M p) restm, pre (G p) restg⟩ a w → c.wp P (Exit.then (fun a' w' => ∃ p', J p' ∧ μ p' < μ p ∧ Fits C ⟨nt, pre (S p') rest, [], pre (M p') restm, pre (G p') restg⟩ a' w') Q) a w) : (Code.loop c).wp P Q a w :=
  loop_ok (fun p => ⟨nt, pre (S p) rest, [], pre (M p) restm, pre (G p) restg⟩) J μ p₀ h₀ hf round
/-- values of a row that say no more than others -/
def SimL : List AV → List AV → Prop
  | [], [] => True
  | v :: l, v' :: l' => Sim v v' ∧ SimL l l'
  | _, _ => False
theorem SimL.den : ∀ {l l' : List AV}, SimL l l' → AV.denL l = AV.denL l'
  | [], [], _ => rfl
  | v :: l, v' :: l', h => by simp only [AV.denL, h.1.1, SimL.den h.2]
theorem SimL.one : ∀ {l l' : List AV}, SimL l l' → (∀ v ∈ l, v.one = true) → ∀ v ∈ l', v.one = true
  | [], [], _, _ => by simp
  | v :: l, v' :: l', h, h1 => by
    simp only [List.mem_cons, forall_eq_or_imp] at h1 ⊢
    exact ⟨h.1.2.1 h1.1, SimL.one h.2 h1.2⟩
theorem SimL.ok {m : Nat → Nat → Prop} {w : World} : ∀ {l l' : List AV}, SimL l l' → (∀ v ∈ l, Ok m w v) → ∀ v ∈ l', Ok m w v
  | [], [], _, _ => by simp
  | v :: l, v' :: l', h, h1 => by
    simp only [List.mem_cons, forall_eq_or_imp] at h1 ⊢
    exact ⟨h.1.2.2 _ _ h1.1, SimL.ok h.2 h1.2⟩
theorem Sim.agg {l l' : List AV} (h : SimL l l') : Sim (.agg l) (.agg l') :=
  ⟨by simp only [AV.den, h.den], id, fun m w ho => by cases ho with | agg _ h1 h2 => exact .agg _ (h.one h1) (h.ok h2)⟩
theorem Sim.tup {l l' : List AV} (h : SimL l l') : Sim (.tup l) (.tup l') :=
  ⟨by simp only [AV.den, h.den], id, fun m w ho => by cases ho with | tup _ h1 => exact .tup _ (h.ok h1)⟩
theorem Spec.res {P : Program} {f : Nat} {args : List AV} {res res' : Atom → AV} (h : Spec P f args res) (hs : ∀ x, Sim (res x) (res' x)) : Spec P f args res' := by
  intro m w hm ha
  refine (h m w hm ha).mono ?_
  rintro e w' ⟨x, rfl, ho, hb⟩
  exact ⟨x, by rw [(hs x).1], (hs x).2.2 _ _ ho, hb⟩
theorem Sim.bool {b b' : BE} (h : b.den = b'.den) : Sim (.bool b) (.bool b') := ⟨by simp only [AV.den, h], id, fun _ _ _ => .bool _⟩
theorem Spec.sim {P : Program} {f : Nat} {args args' : List AV} {res : Atom → AV} (h : Spec P f args res) (hs : SimL args' args) : Spec P f args' res := by
  intro m w hm ha
  have := h m w hm (hs.ok ha)
  have e : args'.map AV.den = args.map AV.den := by
    clear this ha h
    induction args' generalizing args with
    | nil => cases args with
      | nil => rfl
      | cons => exact hs.elim
    | cons v l ih => cases args with
      | nil => exact hs.elim
      | cons v' l' => simp only [List.map_cons, hs.1.1, ih hs.2]
  rw [e]
  exact this
/-- where ways meet again -/
theorem seq_cut {P : Program} {Q : Exit → Act → World → Prop} {C : Cx} {ι : Type} (S : ι → List (Nat × AV)) (M : ι → List (Nat × Blk)) (G : ι → List (Nat × Gr)) (J : ι → Prop) {nt : Nat} {S0 rest : List (Nat × AV)} {M0 restm : List (Nat × Blk)} {G0 restg : List (Nat × Gr)} {x y : Code} {a : Act} {w : World}
    (hf : Fits C ⟨nt, pre S0 rest, [], pre M0 restm, pre G0 restg⟩ a w)
    (hx : x.wp P (Exit.then (fun a' w' => ∃ p, J p ∧ Fits C ⟨nt, pre (S p) rest, [], pre (M p) restm, pre (G p) restg⟩ a' w') Q) a w)
    (hy : ∀ p, J p → ∀ a' w', Fits C ⟨nt, pre (S p) rest, [], pre (M p) restm, pre (G p) restg⟩ a' w' → y.wp P Q a' w') : (Code.seq x y).wp P Q a w := by
  refine wp_seq (Code.wp_mono (fun e a' w' h => ?_) hx)
  cases e with
  | normal => obtain ⟨p, hp, hf'⟩ := h; exact hy p hp a' w' hf'
  | _ => exact h
/-- where the ways of one code meet again -/
theorem cut_one {P : Program} {Q : Exit → Act → World → Prop} {C : Cx} {ι : Type} (S : ι → List (Nat × AV)) (M : ι → List (Nat × Blk)) (G : ι → List (Nat × Gr)) (J : ι → Prop) {nt : Nat} {S0 rest : List (Nat × AV)} {M0 restm : List (Nat × Blk)} {G0 restg : List (Nat × Gr)} {x : Code} {a : Act} {w : World}
    (hf : Fits C ⟨nt, pre S0 rest, [], pre M0 restm, pre G0 restg⟩ a w)
    (hx : x.wp P (Exit.then (fun a' w' => ∃ p, J p ∧ Fits C ⟨nt, pre (S p) rest, [], pre (M p) restm, pre (G p) restg⟩ a' w') Q) a w)
    (hy : ∀ p, J p → ∀ a' w', Fits C ⟨nt, pre (S p) rest, [], pre (M p) restm, pre (G p) restg⟩ a' w' → Q .normal a' w') : x.wp P Q a w := by
  refine Code.wp_mono (fun e a' w' h => ?_) hx
  cases e with
  | normal => obtain ⟨p, hp, hf'⟩ := h; exact hy p hp a' w' hf'
  | _ => exact h
/-- the same where the result reads like the one named -/
theorem ret_sim {Kk : Kn} {P : Program} {T : List (Nat × TI)} {s : St} {a : Act} {w : World} (hT : TabOK P T) {m : Nat → Nat → Prop} {w0 : World} (h : Fits ⟨m, w0, fun _ => False, [], Kk⟩ s a w) {fn : Func} {res : Atom → AV} {rs : List ResultVar} (hfn : fn.results = rs.toArray) {r : List AV × List Ob} (hr : resL T s rs = some r) (ho : AllOb P Kk r.2)
    (x : Atom) (he : Sim (can (resA r.1)) (can (res x))) : bodyPost P fn (fun e w' => ∃ x, e = .returned (res x).den ∧ Ok m w' (res x) ∧ Below w0.heap.size w0 w') .ret a w := by
  refine (ret_ok hT h rfl hfn hr ho fun hv => ?_).1
  obtain ⟨h1, h2⟩ := done_ok h hv
  exact ⟨x, by rw [← can_den (resA r.1), he.1, can_den], (can_ok _).2 (he.2.2 _ _ ((can_ok _).1 h1)), h2⟩
def noAtom : Atom := ⟨0, fun _ => none, fun _ => 0, fun _ => .empty⟩
end Go.Proofs.Ythpbihppfijegaa.Sym

namespace Go.Proofs.Ythpbihppfijegaa.Sym
open Go.RowKit
set_option linter.unusedVariables false
set_option linter.unusedSimpArgs false

section
variable {C : Cx} {P : Program} {Q : Exit → Act → World → Prop} {T : List (Nat × TI)} {ops : Array Oper} {all : List Oper}
/-- the first operations of a list -/
theorem exec_pre {cs : List (Nat × CS)} {l2 : List Oper} (hT : TabOK P T) (hall : ops = all.toArray) : ∀ (l : List Oper) (i : Nat) (s : St) (a : Act) (w : World), Fits C s a w → (∀ X, ∃ r, exec std T cs X all (number i l) s = some r ∧ AllOb P C.K r.2.1) →
    (∀ X r a' w', exec std T cs X all (number i l) s = some r → Fits C r.1 a' w' → wpList P ops Q l2 a' w') → wpList P ops Q (l ++ l2) a w
  | [], i, s, a, w, h, hs, hQ => hQ (fun _ => ⟨0, fun _ => none, fun _ => 0, fun _ => .empty⟩) _ a w rfl h
  | o :: l, i, s, a, w, h, hs, hQ => by
    refine wpList_step fun K hK => ?_
    refine delta_ok (cs := cs) (i := i) hT hall h (fun x => ?_) fun x r a' w' hr hf => hK _ _ ?_
    · obtain ⟨r, hr, hob⟩ := hs (fun _ => x)
      obtain ⟨δ, ob, f, r', h1, h2, rfl⟩ := exec_cons hr
      exact ⟨_, h1, (AllOb.app.1 hob).1⟩
    · have put : ∀ X : Nat → Atom, ∃ Y : Nat → Atom, Y i = x ∧ ∀ j, i + 1 ≤ j → Y j = X j := fun X => ⟨fun j => if j = i then x else X j, by simp, fun j hj => by simp only; rw [if_neg (by omega)]⟩
      refine exec_pre (cs := cs) hT hall l (i + 1) (s.app r.1) a' w' hf (fun X => ?_) fun X r' a'' w'' hr' hf' => ?_
      · obtain ⟨Y, hY, hYX⟩ := put X
        obtain ⟨r1, h1, hob⟩ := hs Y
        obtain ⟨δ, ob, f, r2, h2, h3, rfl⟩ := exec_cons h1
        rw [hY, hr] at h2; injection h2 with h2; subst h2
        rw [exec_congr _ _ (fun x hx => hYX x.1 (number_lt x hx))] at h3
        exact ⟨r2, h3, (AllOb.app.1 hob).2⟩
      · obtain ⟨Y, hY, hYX⟩ := put X
        obtain ⟨r1, h1, hob⟩ := hs Y
        have h1' := h1
        obtain ⟨δ, ob, f, r2, h2, h3, rfl⟩ := exec_cons h1
        rw [hY, hr] at h2; injection h2 with h2; subst h2
        rw [exec_congr _ _ (fun x hx => hYX x.1 (number_lt x hx)), hr'] at h3; injection h3 with h3; subst h3
        exact hQ Y _ a'' w'' h1' hf'
/-- the first n operations of what is left of a region (from operation i on) -/
theorem list_pre {s : St} {a : Act} {w : World} {L : List Oper} (i n : Nat) (hT : TabOK P T) (kp km : List Nat) (cs : List (Nat × CS)) (h : Fits C s a w) {R : Alg → (Nat → Atom) → St × List Ob}
    (hex : ∀ A X, (exec A T cs X all (number i (L.take n)) s).map (fun r => (r.1.keep kp km, r.2.1)) = some (R A X)) (hob : ∀ X, AllOb P C.K (R std X).2) (hQ : ∀ X a' w', Fits C (R std X).1 a' w' → wpList P all.toArray Q (L.drop n) a' w') : wpList P all.toArray Q L a w := by
  have e : L = L.take n ++ L.drop n := (List.take_append_drop n L).symm
  rw [e]
  refine exec_pre (cs := cs) hT rfl (L.take n) i s a w h (fun X => ?_) fun X r a' w' hr hf => ?_
  · obtain ⟨r, hr, e⟩ := Option.map_eq_some_iff.1 (hex std X)
    refine ⟨r, hr, ?_⟩
    have := hob X
    rw [← e] at this
    exact this
  · have e := hex std X
    rw [hr] at e
    injection e with e
    refine hQ X a' w' ?_
    rw [← e]
    exact hf.keep kp km
/-- the rest of a region (from operation i on) -/
theorem list_end {s : St} {a : Act} {w : World} {L : List Oper} (i : Nat) (hT : TabOK P T) (kp km : List Nat) (cs : List (Nat × CS)) (h : Fits C s a w) {R : Alg → (Nat → Atom) → St × List Ob}
    (hex : ∀ A X, (exec A T cs X all (number i L) s).map (fun r => (r.1.keep kp km, r.2.1)) = some (R A X)) (hob : ∀ X, AllOb P C.K (R std X).2) (hQ : ∀ X a' w', Fits C (R std X).1 a' w' → Q .normal a' w') : wpList P all.toArray Q L a w := by
  refine exec_ok (cs := cs) hT rfl L i s a w h (fun X => ?_) fun X r a' w' hr hf => ?_
  · obtain ⟨r, hr, e⟩ := Option.map_eq_some_iff.1 (hex std X)
    refine ⟨r, hr, ?_⟩
    have := hob X
    rw [← e] at this
    exact this
  · have e := hex std X
    rw [hr] at e
    injection e with e
    refine hQ X a' w' ?_
    rw [← e]
    exact hf.keep kp km
/-- an operation by hand -/
theorem man_op {a : Act} {w : World} {L rest : List Oper} {o : Oper} (hL : L = o :: rest) (hg : o.guard = none) (h : o.wp P a w (wpList P ops Q rest) Q) : wpList P ops Q L a w := by
  subst hL
  unfold wpList
  have : Region.wanted o (yielded ops a.tmps) = true := by simp [Region.wanted, hg]
  rw [if_pos this]
  exact .inl h
end
/-! ### contracts: what a function gives, or throws, and what it does to its caller's blocks -/
inductive Out where
  | ret (r : CR)
  | thr (v : Value) (sets : List (Nat × List AV))
def OPost1 (m : Nat → Nat → Prop) (w : World) (pre : List (Nat × Blk)) (e : Ending) (w' : World) : Out → Prop
  | .ret r => e = .returned r.v.den ∧ Ok (mN m r.news) w' r.v ∧ Left m w w' pre r.sets r.news
  | .thr v sets => e = .panicked [{ v, recovered := false }] ∧ Left m w w' pre sets []
def OPost (m : Nat → Nat → Prop) (w : World) (pre : List (Nat × Blk)) (out : Atom → Out) (e : Ending) (w' : World) : Prop := ∃ x, OPost1 m w pre e w' (out x)
def SpecO (P : Program) (f : FuncId) (args : List AV) (pre : List (Nat × Blk)) (out : Atom → Out) : Prop :=
  ∀ (m : Nat → Nat → Prop) (w : World), (∀ b o, m b o → b < w.heap.size) → (∀ v ∈ args, Ok m w v) → PreOk m w pre → Calls P f (args.map AV.den).toArray w (OPost m w pre out)
theorem SpecO.x {P : Program} {f : FuncId} {args : List AV} {pre : List (Nat × Blk)} {out : Atom → Out} {res : Atom → CR} (h : SpecO P f args pre out) (e : ∀ x, out x = .ret (res x)) : SpecX P f args pre res := by
  intro m w h1 h2 h3
  refine (h m w h1 h2 h3).mono ?_
  rintro e' w' ⟨x, hx⟩
  rw [e x] at hx
  exact ⟨x, hx⟩
theorem SpecX.o {P : Program} {f : FuncId} {args : List AV} {pre : List (Nat × Blk)} {out : Atom → Out} {res : Atom → CR} (h : SpecX P f args pre res) (e : ∀ x, out x = .ret (res x)) : SpecO P f args pre out := by
  intro m w h1 h2 h3
  refine (h m w h1 h2 h3).mono ?_
  rintro e' w' ⟨x, hx⟩
  exact ⟨x, by rw [e x]; exact hx⟩
theorem SpecO.res {P : Program} {f : FuncId} {args : List AV} {pre : List (Nat × Blk)} {out out' : Atom → Out} (h : SpecO P f args pre out) (e : ∀ x, out x = out' x) : SpecO P f args pre out' := by
  have : out = out' := funext e
  exact this ▸ h
def pureR (f : Atom → AV) : Atom → CR := fun x => ⟨f x, [], []⟩
theorem Spec.x {P : Program} {f : FuncId} {args : List AV} {res : Atom → AV} (h : Spec P f args res) : SpecX P f args [] (pureR res) := by
  intro m w h1 h2 _
  refine (h m w h1 h2).mono ?_
  rintro e' w' ⟨x, rfl, hok, hb⟩
  refine ⟨x, rfl, hok.mono fun b o u h1 h2 => ⟨h1, fun h => ?_⟩, ⟨rfl, fun e he => (by cases he), fun e he => (by cases he), fun e he => (by cases he), .nil, Chg.of_new hb⟩⟩
  rcases h with h | ⟨e, he, _⟩
  · exact h2 h
  · cases he
theorem SpecX.pure {P : Program} {f : FuncId} {args : List AV} {res : Atom → CR} {res' : Atom → AV} (h : SpecX P f args [] res) (e : ∀ x, res x = ⟨res' x, [], []⟩) : Spec P f args res' := by
  intro m w h1 h2
  refine (h m w h1 h2 ⟨fun e he => (by cases he), fun e he => (by cases he), fun e he => (by cases he), .nil⟩).mono ?_
  rintro e' w' ⟨x, rfl, hok, hl⟩
  rw [e x] at hok hl ⊢
  refine ⟨x, rfl, hok.mono fun b o u h1 h2 => ⟨h1, fun h => h2 (.inl h)⟩, hl.chg.below (Nat.le_refl _) fun k ⟨e, he, _⟩ => (by cases he)⟩
section
variable {P : Program}
theorem enterFits {m : Nat → Nat → Prop} {w : World} {pre : List (Nat × Blk)} (hm : ∀ b o, m b o → b < w.heap.size) (hp : PreOk m w pre) {args : List AV} (hargs : ∀ v ∈ args, Ok m w v) {n : Nat} (hn : args.length ≤ n) :
    Fits ⟨m, w, ats pre, [], noK⟩ ⟨n, startT 0 args, [], pre, []⟩ { tmps := (args.map AV.den).toArray ++ Array.replicate (n - args.length) Go.undef, defers := [] } w := by
  have mono : ∀ v, Ok m w v → Ok (St.m ⟨n, startT 0 args, [], pre, []⟩ ⟨m, w, ats pre, [], noK⟩) w v := fun v hv => hv.mono fun b' o u h1 h2 => ⟨h1, fun h => by
    rcases h with h | ⟨k, e, he, hat⟩ | ⟨k, e, he, _⟩
    · exact h2 h
    · exact h2 (hat ▸ hp.free _ (lookM_mem he) o)
    · cases he⟩
  have h0 := start_ok hm hargs hn
  refine ⟨h0.size, rfl, fun t ht => ?_, (fun t p v he => by cases he), fun k e he => ?_, fun k k' e e' he he' hne => pairwise_ne hp.dist (lookM_mem he) (lookM_mem he') hne, (fun k t ht => by cases ht), (fun k t k' e ht => by cases ht), (fun k t k' t' b ht => by cases ht), Chg.refl _ _, hm, trivial⟩
  · obtain ⟨h1, h2⟩ := h0.slot t ht
    exact ⟨h1, mono _ (h2.mono fun b' o u g1 g2 => ⟨g1, fun hm' => g2 (.inl hm')⟩)⟩
  · have hin := lookM_mem he
    exact ⟨hp.heap _ hin, fun v hv => ⟨(hp.ok _ hin v hv).1, mono _ (hp.ok _ hin v hv).2⟩, .inr ⟨_, hin, rfl⟩⟩
theorem enterX {m : Nat → Nat → Prop} {w : World} {pre : List (Nat × Blk)} (hm : ∀ b o, m b o → b < w.heap.size) (hp : PreOk m w pre) {args : List AV} (hargs : ∀ v ∈ args, Ok m w v) {f : FuncId} {fn : Func} {c : Code} {R : Ending → World → Prop} (hf : P.funcs[f]? = some fn) (hbd : fn.body = some c) (hn : args.length ≤ fn.ntmps)
    (h : ∀ a, Fits ⟨m, w, ats pre, [], noK⟩ ⟨fn.ntmps, startT 0 args, [], pre, []⟩ a w → c.wp P (bodyPost P fn R) a w) : Calls P f (args.map AV.den).toArray w R := by
  refine calls_of_wp hf hbd ?_
  have := h _ (enterFits hm hp hargs hn)
  simpa using this
theorem enterD {m : Nat → Nat → Prop} {w : World} {pre : List (Nat × Blk)} (hm : ∀ b o, m b o → b < w.heap.size) (hp : PreOk m w pre) {args : List AV} (hargs : ∀ v ∈ args, Ok m w v) {f : FuncId} {fn : Func} {c : Code} {R : Ending → World → Prop} (hf : P.funcs[f]? = some fn) (hbd : fn.body = some c) (hn : args.length ≤ fn.ntmps)
    (h : ∀ a, Fits ⟨m, w, ats pre, [], noK⟩ ⟨fn.ntmps, startT 0 args, [], pre, []⟩ a w → c.wp P (bodyPostD P fn R) a w) : Calls P f (args.map AV.den).toArray w R := by
  refine calls_of_wp_defers hf hbd ?_
  have := h _ (enterFits hm hp hargs hn)
  simpa using this
/-- the blocks that a caller lent hold this now -/
def SetsOk (s : St) : List (Nat × Blk) → List (Nat × List AV) → Prop
  | [], [] => True
  | (k, b) :: l, (k', c) :: r => k' = k ∧ (∃ cells, lookM s.mem k = some ⟨b.at_, b.ty, cells⟩ ∧ SimL cells c) ∧ SetsOk s l r
  | _, _ => False
/-- new blocks hold this -/
def NewsOk (s : St) (pre : List (Nat × Blk)) : List Nat → List (Nat × Blk) → Prop
  | [], [] => True
  | k :: ks, (_, b) :: l => (∃ cells, lookM s.mem k = some ⟨b.at_, b.ty, cells⟩ ∧ SimL cells b.cells) ∧ (∀ e ∈ pre, e.1 ≠ k) ∧ k ∉ ks ∧ NewsOk s pre ks l
  | _, _ => False
theorem SetsOk.keys {s : St} : ∀ {pre : List (Nat × Blk)} {sets : List (Nat × List AV)}, SetsOk s pre sets → sets.map (·.1) = pre.map (·.1)
  | [], [], _ => rfl
  | (k, b) :: l, (k', c) :: r, h => by simp only [List.map_cons, h.1, SetsOk.keys h.2.2]
  | [], _ :: _, h => h.elim
  | _ :: _, [], h => h.elim
theorem SetsOk.mem {s : St} : ∀ {pre : List (Nat × Blk)} {sets : List (Nat × List AV)}, SetsOk s pre sets → ∀ e ∈ upd pre sets, ∃ cells, lookM s.mem e.1 = some ⟨e.2.at_, e.2.ty, cells⟩ ∧ SimL cells e.2.cells
  | [], [], _, e, he => by cases he
  | (k, b) :: l, (k', c) :: r, h, e, he => by
    simp only [upd, List.mem_cons] at he
    rcases he with rfl | he
    · exact h.2.1
    · exact SetsOk.mem h.2.2 e he
  | [], _ :: _, h, _, _ => h.elim
  | _ :: _, [], h, _, _ => h.elim
theorem SetsOk.all {s : St} : ∀ {pre : List (Nat × Blk)} {sets : List (Nat × List AV)}, SetsOk s pre sets → ∀ e ∈ pre, ∃ cells, lookM s.mem e.1 = some ⟨e.2.at_, e.2.ty, cells⟩
  | [], [], _, e, he => by cases he
  | (k, b) :: l, (k', c) :: r, h, e, he => by
    rcases List.mem_cons.1 he with rfl | he
    · obtain ⟨cells, h1, _⟩ := h.2.1; exact ⟨cells, h1⟩
    · exact SetsOk.all h.2.2 e he
  | [], _ :: _, h, _, _ => h.elim
  | _ :: _, [], h, _, _ => h.elim
theorem NewsOk.mem {s : St} {pre : List (Nat × Blk)} : ∀ {ks : List Nat} {news : List (Nat × Blk)}, NewsOk s pre ks news → ∀ e ∈ news, ∃ k cells, k ∈ ks ∧ lookM s.mem k = some ⟨e.2.at_, e.2.ty, cells⟩ ∧ SimL cells e.2.cells ∧ ∀ e ∈ pre, e.1 ≠ k
  | [], [], _, e, he => by cases he
  | k :: ks, (_, b) :: l, h, e, he => by
    rcases List.mem_cons.1 he with rfl | he
    · obtain ⟨cells, h1, h2⟩ := h.1; exact ⟨k, cells, by simp, h1, h2, h.2.1⟩
    · obtain ⟨k', cells, h0, h1⟩ := NewsOk.mem h.2.2.2 e he
      exact ⟨k', cells, List.mem_cons_of_mem _ h0, h1⟩
  | [], _ :: _, h, _, _ => h.elim
  | _ :: _, [], h, _, _ => h.elim
theorem NewsOk.dist {s : St} {C : Cx} {a : Act} {w : World} (hF : Fits C s a w) {pre : List (Nat × Blk)} : ∀ {ks : List Nat} {news : List (Nat × Blk)}, NewsOk s pre ks news → news.Pairwise fun e f => e.2.at_ ≠ f.2.at_
  | [], [], _ => .nil
  | k :: ks, (_, b) :: l, h => by
    refine .cons (fun e he => ?_) (NewsOk.dist hF h.2.2.2)
    obtain ⟨k', cells, h0, h1, _⟩ := NewsOk.mem h.2.2.2 e he
    obtain ⟨cells', h2, _⟩ := h.1
    have := hF.nodup k k' _ _ h2 h1 fun e => h.2.2.1 (e ▸ h0)
    exact this
  | [], _ :: _, h => h.elim
  | _ :: _, [], h => h.elim
theorem SimL.map : ∀ {l l' : List AV}, SimL l l' → l.map AV.den = l'.map AV.den
  | [], [], _ => rfl
  | v :: l, v' :: l', h => by simp only [List.map_cons, h.1.1, SimL.map h.2]
  | [], _ :: _, h => h.elim
  | _ :: _, [], h => h.elim
theorem left_ok {K : Kn} {m : Nat → Nat → Prop} {w0 w : World} {pre : List (Nat × Blk)} {d : List Deferred} {s : St} {a : Act} (h : Fits ⟨m, w0, ats pre, d, K⟩ s a w) {sets : List (Nat × List AV)} {news : List (Nat × Blk)} {ks : List Nat} (hs : SetsOk s pre sets) (hn : NewsOk s pre ks news) :
    Left m w0 w pre sets news ∧ ∀ v, Ok (s.m ⟨m, w0, ats pre, d, K⟩) w v → Ok (mN m news) w v := by
  have sub : ∀ v, Ok (s.m ⟨m, w0, ats pre, d, K⟩) w v → Ok (mN m news) w v := fun v hv => hv.mono fun b' o u h1 h2 => ⟨h1, fun hm => by
    rcases hm with hm | ⟨e, he, hat⟩
    · exact h2 (.inl hm)
    · obtain ⟨k, cells, _, hk, _⟩ := hn.mem e he
      exact h2 (.inr (.inl ⟨k, _, hk, hat⟩))⟩
  have key : ∀ e ∈ upd pre sets ++ news, ∃ k cells, lookM s.mem k = some ⟨e.2.at_, e.2.ty, cells⟩ ∧ SimL cells e.2.cells := by
    intro e he
    rcases List.mem_append.1 he with he | he
    · obtain ⟨cells, h1, h2⟩ := hs.mem e he; exact ⟨_, cells, h1, h2⟩
    · obtain ⟨k, cells, _, h1, h2, _⟩ := hn.mem e he; exact ⟨k, cells, h1, h2⟩
  refine ⟨⟨hs.keys, fun e he => ?_, fun e he v hv => ?_, fun e he => ?_, hn.dist h, h.chg⟩, sub⟩
  · obtain ⟨k, cells, h1, h2⟩ := key e he
    have := (h.mem _ _ h1).1
    simp only at this
    rw [h2.map] at this
    exact this
  · obtain ⟨k, cells, h1, h2⟩ := key e he
    have h3 := (h.mem _ _ h1).2.1
    exact ⟨h2.one (fun v hv => (h3 v hv).1) v hv, h2.ok (fun v hv => sub v (h3 v hv).2) v hv⟩
  · obtain ⟨k, cells, _, h1, _, h2⟩ := hn.mem e he
    rcases (h.mem _ _ h1).2.2 with h3 | ⟨e', he', hat⟩
    · exact h3
    · obtain ⟨cells', h4⟩ := hs.all e' he'
      have := h.nodup _ _ _ _ h4 h1 (h2 e' he')
      exact absurd hat this
variable {T : List (Nat × TI)} {s : St} {a : Act} {w : World}
theorem ret_out {Kk : Kn} (hT : TabOK P T) {m : Nat → Nat → Prop} {w0 : World} {pre : List (Nat × Blk)} (h : Fits ⟨m, w0, ats pre, [], Kk⟩ s a w) {fn : Func} {out : Atom → Out} {rs : List ResultVar} (hfn : fn.results = rs.toArray) {r : List AV × List Ob} (hr : resL T s rs = some r) (ho : AllOb P Kk r.2)
    (x : Atom) {cr : CR} (hout : out x = .ret cr) (ks : List Nat) (he : Sim (can (resA r.1)) (can cr.v)) (hs : SetsOk s pre cr.sets) (hn : NewsOk s pre ks cr.news) : bodyPost P fn (OPost m w0 pre out) .ret a w ∧ bodyPost P fn (OPost m w0 pre out) .normal a w := by
  obtain ⟨h1, h2⟩ := left_ok h hs hn
  refine ret_ok hT h rfl hfn hr ho fun hv => ⟨x, ?_⟩
  rw [hout]
  exact ⟨by rw [← can_den (resA r.1), he.1, can_den], (can_ok _).2 (he.2.2 _ _ ((can_ok _).1 (h2 _ hv))), h1⟩
theorem thr_out {Kk : Kn} {m : Nat → Nat → Prop} {w0 : World} {pre : List (Nat × Blk)} (h : Fits ⟨m, w0, ats pre, [], Kk⟩ s a w) {fn : Func} {out : Atom → Out} {v : Value} (x : Atom) {sets : List (Nat × List AV)} (hout : out x = .thr v sets) (hs : SetsOk s pre sets) :
    bodyPost P fn (OPost m w0 pre out) (.panic [{ v, recovered := false }]) a w := by
  obtain ⟨h1, h2⟩ := left_ok h hs (ks := []) (news := []) trivial
  refine ⟨h.defers, x, ?_⟩
  rw [hout]
  exact ⟨rfl, h1⟩
theorem ret_x {Kk : Kn} (hT : TabOK P T) {m : Nat → Nat → Prop} {w0 : World} {pre : List (Nat × Blk)} (h : Fits ⟨m, w0, ats pre, [], Kk⟩ s a w) {fn : Func} {res : Atom → CR} {rs : List ResultVar} (hfn : fn.results = rs.toArray) {r : List AV × List Ob} (hr : resL T s rs = some r) (ho : AllOb P Kk r.2)
    (x : Atom) (ks : List Nat) (he : Sim (can (resA r.1)) (can (res x).v)) (hs : SetsOk s pre (res x).sets) (hn : NewsOk s pre ks (res x).news) : bodyPost P fn (XPost m w0 pre res) .ret a w ∧ bodyPost P fn (XPost m w0 pre res) .normal a w :=
  ret_out (out := fun x => .ret (res x)) hT h hfn hr ho x rfl ks he hs hn
end
section
variable {C : Cx} {P : Program} {Q : Exit → Act → World → Prop} {T : List (Nat × TI)} {ops : Array Oper} {all : List Oper}
theorem call_run {s : St} {a : Act} {w : World} {o : Oper} {c : Call} {g : Operand} {f : FuncId} {l r args : List AV} (hop : o.op = .call c) (hcal : c.callee = .value g) (h : Fits C s a w) (hgv : val s [] g = .fn f l r) (hl : vals s [] c.args.toList = some args) (hen : Enters P f) :
    (execOp a.eval o).run P w = .ok (.enter f ((l ++ args ++ r).map AV.den).toArray) w ∧ ∀ v ∈ l ++ args ++ r, Ok (s.m C) w v := by
  obtain ⟨h1, h2⟩ := vals_ok h (fun _ h => by cases h) hl
  have hg := val_ok h (q := []) (fun _ h => by cases h) (x := g) (by rw [hgv]; rfl)
  rw [hgv] at hg
  have hargs : c.args.map a.eval = (args.map AV.den).toArray := by
    apply Array.ext'
    simpa using h1
  have e1 : a.eval g = .func (.func f) (l.map AV.den).toArray (r.map AV.den).toArray := by
    have := hg.1
    simpa [AV.den, denL_map] using this
  have hent' := hen ((l ++ args ++ r).map AV.den).toArray w
  refine ⟨?_, fun v hv => ?_⟩
  · simp only [List.map_append] at hent'
    simp [execOp, hop, resolve, hcal, e1, Deferred.ofValue, invoke, hargs, List.append_assoc]
    simpa [List.append_assoc] using hent'
  · cases hg.2 with
    | fn _ _ _ k1 k2 =>
      rcases List.mem_append.1 hv with hv | hv
      · rcases List.mem_append.1 hv with hv | hv
        · exact k1 v hv
        · exact h2 v hv
      · exact k2 v hv
/-- a call by hand, whatever comes of it -/
theorem man_out {s : St} {a : Act} {w : World} {L rest : List Oper} {o : Oper} {c : Call} {g : Operand} {f : FuncId} {l r args args' : List AV} (hL : L = o :: rest) (hg : o.guard = none) (hop : o.op = .call c) (hcal : c.callee = .value g) (h : Fits C s a w) (hgv : val s [] g = .fn f l r) (hl : vals s [] c.args.toList = some args) (hen : Enters P f)
    {pre : List (Nat × Blk)} {out : Atom → Out} (hsp : SpecO P f args' pre out) (hsim : SimL (l ++ args ++ r) args') (hpre : ∀ e ∈ pre, lookM s.mem e.1 = some e.2) (hnd : nodupB pre = true) (hd : inNt s o.dst = true)
    (K : ∀ x w', match out x with
      | .ret cr => ∀ a', Fits C ((s.eff (.sets (upd pre cr.sets ++ cr.news))).put o.dst cr.v) a' w' → wpList P ops Q rest a' w'
      | .thr v sets => Fits C (s.eff (.sets (upd pre sets))) a w' → Q (.panic [{ v, recovered := false }]) a w') : wpList P ops Q L a w := by
  refine man_op hL hg ?_
  obtain ⟨hrun, hok⟩ := call_run hop hcal h hgv hl hen
  have hdist := nodup_dist h hnd hpre
  unfold Oper.wp
  rw [hrun]
  simp only [Oper.upon]
  have := hsp (s.m C) w (m_lt h) (hsim.ok hok) ⟨fun e he => (h.mem _ _ (hpre e he)).1, fun e he => (h.mem _ _ (hpre e he)).2.1, fun e he o => .inr (.inl ⟨e.1, e.2, hpre e he, rfl⟩), hdist⟩
  rw [← hsim.map] at this
  refine this.mono ?_
  rintro e w' ⟨x, hx⟩
  have hK := K x w'
  cases ho : out x with
  | ret cr =>
    rw [ho] at hx hK
    obtain ⟨rfl, g1, g2⟩ := hx
    obtain ⟨f1, f2⟩ := h.called hdist hpre g2
    refine hK _ (f1.put o.dst (fun t ht => ?_) cr.v (fun _ => f2 _ g1) _ fun _ => rfl)
    rw [eff_nt]; exact inNt_lt hd t ht
  | thr v sets =>
    rw [ho] at hx hK
    obtain ⟨rfl, g2⟩ := hx
    have f1 := (h.called hdist hpre g2).1
    rw [List.append_nil] at f1
    exact hK f1
/-- panic(x) -/
theorem man_panic {s : St} {a : Act} {w : World} {L rest : List Oper} {o : Oper} {x : Operand} {t : Nat} {v : AV} (hL : L = o :: rest) (hg : o.guard = none) (hop : o.op = .panic x) (h : Fits C s a w) (hx : val s [] x = .ifc t v) (hQ : Q (.panic [{ v := .iface t v.den, recovered := false }]) a w) : wpList P ops Q L a w := by
  refine man_op hL hg ?_
  have hxv := (val_ok h (q := []) (fun _ h => by cases h) (x := x) (by rw [hx]; rfl)).1
  rw [hx] at hxv
  have e1 : a.eval x = .iface t v.den := hxv
  have hrun : (execOp a.eval o).run P w = .halt (.panic (.iface t v.den)) w := by
    simp only [execOp, hop, e1, Instr.panic, Sem.run_bind]
    rfl
  unfold Oper.wp
  rw [hrun]
  exact hQ
/-- defer f(..) -/
theorem man_defer {s : St} {a : Act} {w : World} {L rest : List Oper} {o : Oper} {c : Call} {g : Operand} {f : FuncId} {l r args : List AV} (hL : L = o :: rest) (hg : o.guard = none) (hd : o.dst = none) (hop : o.op = .defer c) (hcal : c.callee = .value g) (h : Fits C s a w) (hgv : val s [] g = .fn f l r) (hl : vals s [] c.args.toList = some args)
    (K : ∀ a', Fits ⟨C.m0, C.w0, C.S, { target := .fn (.func f) (AV.denL r).toArray, args := (AV.denL (l ++ args)).toArray } :: C.ds, C.K⟩ s a' w → wpList P ops Q rest a' w) : wpList P ops Q L a w := by
  refine man_op hL hg ?_
  obtain ⟨h1, h2⟩ := vals_ok h (fun _ h => by cases h) hl
  have hgo := val_ok h (q := []) (fun _ h => by cases h) (x := g) (by rw [hgv]; rfl)
  rw [hgv] at hgo
  have hargs : c.args.map a.eval = (args.map AV.den).toArray := by
    apply Array.ext'
    simpa using h1
  have e1 : a.eval g = .func (.func f) (l.map AV.den).toArray (r.map AV.den).toArray := by
    have := hgo.1
    simpa [AV.den, denL_map] using this
  have hrun : (execOp a.eval o).run P w = .ok (.defer { target := .fn (.func f) (AV.denL r).toArray, args := (AV.denL (l ++ args)).toArray }) w := by
    simp [execOp, hop, resolve, hcal, e1, Deferred.ofValue, hargs, denL_map]
  unfold Oper.wp
  rw [hrun]
  simp only [Oper.upon, hd, Act.put]
  refine K _ ⟨h.size, ?_, h.slot, h.gs, h.mem, h.nodup, h.gr, h.sepm, h.sepg, h.chg, h.m0, h.kept⟩
  simp only [h.defers]
/-- a deferred call is carried out -/
theorem leave_step {s : St} {a : Act} {w : World} {fn : Func} {R : Ending → World → Prop} {u u1 : FrameMode} {f : FuncId} {l r : List AV} {ds : List Deferred} (h : Fits ⟨C.m0, C.w0, C.S, { target := .fn (.func f) (AV.denL r).toArray, args := (AV.denL l).toArray } :: ds, C.K⟩ s a w) (hu : u ≠ .run) (hen : Enters P f)
    {pre : List (Nat × Blk)} {sets : List (Nat × List AV)} (hpre : ∀ e ∈ pre, lookM s.mem e.1 = some e.2) (hnd : nodupB pre = true)
    (hc : PreOk (s.m C) w pre → CallsD P f ((l ++ r).map AV.den).toArray u w fun e u' w' => (∃ v, e = .returned v) ∧ u' = u1 ∧ Left (s.m C) w w' pre sets [])
    (K : ∀ w', Fits ⟨C.m0, C.w0, C.S, ds, C.K⟩ (s.eff (.sets (upd pre sets))) { tmps := a.tmps, defers := ds } w' → Leaves P fn a.tmps R ds (settle u1) w') : Leaves P fn a.tmps R a.defers u w := by
  rw [h.defers]
  have h0 : Fits ⟨C.m0, C.w0, C.S, ds, C.K⟩ s { tmps := a.tmps, defers := ds } w := ⟨h.size, rfl, h.slot, h.gs, h.mem, h.nodup, h.gr, h.sepm, h.sepg, h.chg, h.m0, h.kept⟩
  have hdist := nodup_dist h hnd hpre
  have hent := hen ((l ++ r).map AV.den).toArray w
  refine leaves_cons hu (f := f) (args := ((l ++ r).map AV.den).toArray) (by simpa [invoke, denL_map] using hent) ?_
  refine (hc ⟨fun e he => (h.mem _ _ (hpre e he)).1, fun e he => (h.mem _ _ (hpre e he)).2.1, fun e he o => .inr (.inl ⟨e.1, e.2, hpre e he, rfl⟩), hdist⟩).mono ?_
  rintro e u' w' ⟨⟨v, rfl⟩, rfl, hl⟩
  have f1 := (h0.called hdist hpre hl).1
  rw [List.append_nil] at f1
  exact K w' f1
/-- the end of a call that had deferred ones -/
theorem leave_end {Kk : Kn} {s : St} {a : Act} {w : World} {m : Nat → Nat → Prop} {w0 : World} {pre : List (Nat × Blk)} (hT : TabOK P T) (h : Fits ⟨m, w0, ats pre, [], Kk⟩ s a w) {fn : Func} {out : Atom → Out} {rs : List ResultVar} (hfn : fn.results = rs.toArray) {r : List AV × List Ob} (hr : resL T s rs = some r) (ho : AllOb P Kk r.2)
    (x : Atom) {cr : CR} (hout : out x = .ret cr) (ks : List Nat) (he : Sim (can (resA r.1)) (can cr.v)) (hs : SetsOk s pre cr.sets) (hn : NewsOk s pre ks cr.news) : Leaves P fn a.tmps (OPost m w0 pre out) [] .returning w := by
  obtain ⟨h1, h2⟩ := left_ok h hs hn
  obtain ⟨g1, g2⟩ := results_ok hT h hfn hr ho
  refine ⟨_, g1, x, ?_⟩
  rw [hout]
  exact ⟨by rw [← can_den (resA r.1), he.1, can_den], (can_ok _).2 (he.2.2 _ _ ((can_ok _).1 (h2 _ g2))), h1⟩
/-- a return ahead of all defers -/
theorem ret_d {Kk : Kn} {s : St} {a : Act} {w : World} {m : Nat → Nat → Prop} {w0 : World} {pre : List (Nat × Blk)} (hT : TabOK P T) (h : Fits ⟨m, w0, ats pre, [], Kk⟩ s a w) {fn : Func} {out : Atom → Out} {rs : List ResultVar} (hfn : fn.results = rs.toArray) {r : List AV × List Ob} (hr : resL T s rs = some r) (ho : AllOb P Kk r.2)
    (x : Atom) {cr : CR} (hout : out x = .ret cr) (ks : List Nat) (he : Sim (can (resA r.1)) (can cr.v)) (hs : SetsOk s pre cr.sets) (hn : NewsOk s pre ks cr.news) : bodyPostD P fn (OPost m w0 pre out) .ret a w := by
  show Leaves P fn a.tmps (OPost m w0 pre out) a.defers .returning w
  rw [h.defers]
  exact leave_end hT h hfn hr ho x hout ks he hs hn
/-- a return, with one deferred call that does nothing -/
theorem ret_d1 {Kk : Kn} {s : St} {a : Act} {w : World} {m : Nat → Nat → Prop} {w0 : World} {pre : List (Nat × Blk)} {f : FuncId} {l r0 : List AV} (hT : TabOK P T) (h : Fits ⟨m, w0, ats pre, [{ target := .fn (.func f) (AV.denL r0).toArray, args := (AV.denL l).toArray }], Kk⟩ s a w) (hen : Enters P f)
    (hc : ∀ w, CallsD P f ((l ++ r0).map AV.den).toArray .returning w fun e u' w' => e = .returned (.tuple #[]) ∧ u' = .returning ∧ w' = w)
    {fn : Func} {out : Atom → Out} {rs : List ResultVar} (hfn : fn.results = rs.toArray) {r : List AV × List Ob} (hr : resL T s rs = some r) (ho : AllOb P Kk r.2)
    (x : Atom) {cr : CR} (hout : out x = .ret cr) (ks : List Nat) (he : Sim (can (resA r.1)) (can cr.v)) (hs : SetsOk s pre cr.sets) (hn : NewsOk s pre ks cr.news) : bodyPostD P fn (OPost m w0 pre out) .ret a w := by
  show Leaves P fn a.tmps (OPost m w0 pre out) a.defers .returning w
  refine leave_step (C := ⟨m, w0, ats pre, [], Kk⟩) (u1 := .returning) (pre := []) (sets := []) h (by simp) hen (by intro e he; cases he) rfl (fun _ => (hc w).mono ?_) fun w' hF => ?_
  · rintro e u' w' ⟨rfl, rfl, rfl⟩
    exact ⟨⟨_, rfl⟩, rfl, ⟨rfl, fun e he => (by cases he), fun e he => (by cases he), fun e he => (by cases he), .nil, Chg.refl _ _⟩⟩
  · have hF' : Fits ⟨m, w0, ats pre, [], Kk⟩ s { tmps := a.tmps, defers := [] } w' := hF
    exact leave_end hT hF' hfn hr ho x hout ks he hs hn
end
theorem Sim.ptr {k k' b off : Nat} : Sim (.ptr k b off) (.ptr k' b off) := ⟨rfl, fun _ => rfl, fun _ _ _ => .ptr _ _ _⟩
theorem Sim.fn {f : Nat} {l l' r r' : List AV} (h : SimL l l') (h' : SimL r r') : Sim (.fn f l r) (.fn f l' r') :=
  ⟨by simp only [AV.den, h.den, h'.den], fun _ => rfl, fun m w ho => by cases ho with | fn _ _ _ h1 h2 => exact .fn _ _ _ (h.ok h1) (h'.ok h2)⟩
theorem SimL.refl : ∀ l : List AV, SimL l l
  | [] => trivial
  | v :: l => ⟨Sim.refl v, SimL.refl l⟩
/-- other keys for the same blocks -/
theorem upd_snd : ∀ {pre pre' : List (Nat × Blk)} {r r' : List (Nat × List AV)}, pre'.map (·.2) = pre.map (·.2) → r'.map (·.2) = r.map (·.2) → (upd pre' r').map (·.2) = (upd pre r).map (·.2)
  | [], [], r, r', _, _ => by cases r <;> cases r' <;> rfl
  | [], _ :: _, _, _, h, _ => by cases h
  | _ :: _, [], _, _, h, _ => by cases h
  | _ :: _, _ :: _, [], [], _, _ => rfl
  | _ :: _, _ :: _, [], _ :: _, _, h => by cases h
  | _ :: _, _ :: _, _ :: _, [], _, h => by cases h
  | (k, b) :: l, (k', b') :: l', (q, c) :: r, (q', c') :: r', h, h' => by
    simp only [List.map_cons, List.cons.injEq] at h h'
    obtain ⟨rfl, h⟩ := h
    obtain ⟨rfl, h'⟩ := h'
    simp only [upd, List.map_cons, upd_snd h h']
theorem all_snd {l l' : List (Nat × Blk)} {p : Blk → Prop} (h : l'.map (·.2) = l.map (·.2)) (hp : ∀ e ∈ l, p e.2) : ∀ e ∈ l', p e.2 := by
  intro e he
  have : e.2 ∈ l.map (·.2) := by rw [← h]; exact List.mem_map.2 ⟨e, he, rfl⟩
  obtain ⟨e', h1, h2⟩ := List.mem_map.1 this
  rw [← h2]; exact hp e' h1
theorem pair_snd {l l' : List (Nat × Blk)} (h : l'.map (·.2) = l.map (·.2)) (hp : l.Pairwise fun e f => e.2.at_ ≠ f.2.at_) : l'.Pairwise fun e f => e.2.at_ ≠ f.2.at_ := by
  have e : ∀ l : List (Nat × Blk), (l.Pairwise fun e f => e.2.at_ ≠ f.2.at_) ↔ (l.map (·.2)).Pairwise fun b c => b.at_ ≠ c.at_ := fun l => by rw [List.pairwise_map]
  rw [e, h, ← e]; exact hp
theorem ats_snd {l l' : List (Nat × Blk)} (h : l'.map (·.2) = l.map (·.2)) (b : Nat) : ats l' b ↔ ats l b := by
  have e : ∀ l : List (Nat × Blk), ats l b ↔ ∃ x ∈ l.map (·.2), x.at_ = b := fun l => ⟨fun ⟨e, he, h⟩ => ⟨e.2, List.mem_map.2 ⟨e, he, rfl⟩, h⟩, fun ⟨x, hx, h⟩ => by obtain ⟨e, he, rfl⟩ := List.mem_map.1 hx; exact ⟨e, he, h⟩⟩
  rw [e, e, h]
theorem Left.re {m : Nat → Nat → Prop} {w w' : World} {pre pre' : List (Nat × Blk)} {sets sets' : List (Nat × List AV)} {news news' : List (Nat × Blk)} (h : Left m w w' pre sets news) (hp : pre'.map (·.2) = pre.map (·.2)) (hs : sets'.map (·.2) = sets.map (·.2)) (hk : sets'.map (·.1) = pre'.map (·.1)) (hn : news'.map (·.2) = news.map (·.2)) : Left m w w' pre' sets' news' := by
  have hm : mN m news' = mN m news := by funext b o; simp only [mN, ats_snd hn]
  have hu : (upd pre' sets' ++ news').map (·.2) = (upd pre sets ++ news).map (·.2) := by rw [List.map_append, List.map_append, upd_snd hp hs, hn]
  refine ⟨hk, all_snd (p := fun b => w'.heap[b.at_]? = some (.cells (b.cells.map AV.den).toArray b.ty (0, 0))) hu h.heap, all_snd (p := fun b => ∀ v ∈ b.cells, v.one = true ∧ Ok (mN m news') w' v) hu (hm ▸ h.ok), all_snd (p := fun b => w.heap.size ≤ b.at_) hn h.fresh, pair_snd hn h.dist, h.chg.mono fun k hk => (ats_snd hp k).2 hk⟩
theorem PreOk.re {m : Nat → Nat → Prop} {w : World} {pre pre' : List (Nat × Blk)} (h : PreOk m w pre) (hp : pre'.map (·.2) = pre.map (·.2)) : PreOk m w pre' :=
  ⟨all_snd (p := fun b => w.heap[b.at_]? = some (.cells (b.cells.map AV.den).toArray b.ty (0, 0))) hp h.heap, all_snd (p := fun b => ∀ v ∈ b.cells, v.one = true ∧ Ok m w v) hp h.ok, all_snd (p := fun b => ∀ o, m b.at_ o) hp h.free, pair_snd hp h.dist⟩
theorem SpecX.re {P : Program} {f : FuncId} {args args' : List AV} {pre pre' : List (Nat × Blk)} {res res' : Atom → CR} (h : SpecX P f args pre res) (ha : SimL args' args) (hp : pre'.map (·.2) = pre.map (·.2))
    (hr : ∀ x, (res' x).sets.map (·.2) = (res x).sets.map (·.2) ∧ (res' x).sets.map (·.1) = pre'.map (·.1) ∧ Sim (res x).v (res' x).v ∧ (res' x).news.map (·.2) = (res x).news.map (·.2)) : SpecX P f args' pre' res' := by
  intro m w h1 h2 h3
  rw [ha.map]
  refine (h m w h1 (ha.ok h2) (h3.re hp.symm)).mono ?_
  rintro e w' ⟨x, rfl, hok, hl⟩
  obtain ⟨r1, r2, r3, r4⟩ := hr x
  have hm : mN m (res' x).news = mN m (res x).news := by funext b o; simp only [mN, ats_snd r4]
  exact ⟨x, by rw [r3.1], by rw [hm]; exact r3.2.2 _ _ hok, hl.re hp r1 r2 r4⟩
def ReOut (pre' : List (Nat × Blk)) : Out → Out → Prop
  | .ret r, .ret r' => r'.sets.map (·.2) = r.sets.map (·.2) ∧ r'.sets.map (·.1) = pre'.map (·.1) ∧ Sim r.v r'.v ∧ r'.news.map (·.2) = r.news.map (·.2)
  | .thr v sets, .thr v' sets' => v' = v ∧ sets'.map (·.2) = sets.map (·.2) ∧ sets'.map (·.1) = pre'.map (·.1)
  | _, _ => False
theorem SpecO.re {P : Program} {f : FuncId} {args args' : List AV} {pre pre' : List (Nat × Blk)} {out out' : Atom → Out} (h : SpecO P f args pre out) (ha : SimL args' args) (hp : pre'.map (·.2) = pre.map (·.2)) (hr : ∀ x, ReOut pre' (out x) (out' x)) : SpecO P f args' pre' out' := by
  intro m w h1 h2 h3
  rw [ha.map]
  refine (h m w h1 (ha.ok h2) (h3.re hp.symm)).mono ?_
  rintro e w' ⟨x, hx⟩
  refine ⟨x, ?_⟩
  have hrx := hr x
  cases ho : out x with
  | ret r =>
    cases ho' : out' x with
    | ret r' =>
      rw [ho] at hx hrx
      rw [ho'] at hrx
      obtain ⟨r1, r2, r3, r4⟩ := hrx
      obtain ⟨rfl, hok, hl⟩ := hx
      have hm : mN m r'.news = mN m r.news := by funext b o; simp only [mN, ats_snd r4]
      exact ⟨by rw [r3.1], by rw [hm]; exact r3.2.2 _ _ hok, hl.re hp r1 r2 r4⟩
    | thr v sets => rw [ho, ho'] at hrx; exact hrx.elim
  | thr v sets =>
    cases ho' : out' x with
    | ret r' => rw [ho, ho'] at hrx; exact hrx.elim
    | thr v' sets' =>
      rw [ho] at hx hrx
      rw [ho'] at hrx
      obtain ⟨rfl, r1, r2⟩ := hrx
      obtain ⟨rfl, hl⟩ := hx
      exact ⟨rfl, hl.re hp r1 r2 rfl⟩
/-! ### the same with a free algebra, that cbv cannot lay open -/
section
variable {C : Cx} {P : Program} {Q : Exit → Act → World → Prop} {T : List (Nat × TI)} {s : St} {a : Act} {w : World}
theorem region_okB {id : Nat} {l : List Oper} {B : Alg} (hB : B = std) (hT : TabOK P T) (kp km : List Nat) (cs : List (Nat × CS)) (h : Fits C s a w) {R : Alg → (Nat → Atom) → St × List Ob}
    (hex : ∀ A X, (exec A T cs X l (number 0 l) s).map (fun r => (r.1.keep kp km, r.2.1)) = some (R A X)) (hob : ∀ X, AllOb P C.K (R B X).2) (hQ : ∀ X a' w', Fits C (R B X).1 a' w' → Q .normal a' w') : (Code.region id l.toArray false).wp P Q a w := by
  subst hB
  exact region_ok hT kp km cs h hex hob hQ
theorem drawn_okB {id : Nat} {l : List Oper} {B : Alg} (hB : B = std) (hm : P.follows .mixedOrders = true) (hT : TabOK P T) (kp km : List Nat) (cs : List (Nat × CS)) (h : Fits C s a w) (hgs : s.gs = []) (fs : List Foot) (hD : drawB l fs = true) (hlen : l.length = fs.length)
    {R : Alg → (Nat → Atom) → St × List Ob}
    (hex : ∀ A X, (exec A T cs X l (number 0 l) s).map (fun r => ((r.1.keep kp km, r.2.1), r.2.2)) = some (R A X, fs)) (hob : ∀ X, AllOb P C.K (R B X).2) (hQ : ∀ X a' w', Fits C (R B X).1 a' w' → Q .normal a' w') : (Code.region id l.toArray true).wp P Q a w := by
  subst hB
  exact drawn_ok hm hT kp km cs h hgs fs hD hlen hex hob hQ
theorem list_preB {all L : List Oper} (i n : Nat) {B : Alg} (hB : B = std) (hT : TabOK P T) (kp km : List Nat) (cs : List (Nat × CS)) (h : Fits C s a w) {R : Alg → (Nat → Atom) → St × List Ob}
    (hex : ∀ A X, (exec A T cs X all (number i (L.take n)) s).map (fun r => (r.1.keep kp km, r.2.1)) = some (R A X)) (hob : ∀ X, AllOb P C.K (R B X).2) (hQ : ∀ X a' w', Fits C (R B X).1 a' w' → wpList P all.toArray Q (L.drop n) a' w') : wpList P all.toArray Q L a w := by
  subst hB
  exact list_pre i n hT kp km cs h hex hob hQ
theorem list_endB {all L : List Oper} (i : Nat) {B : Alg} (hB : B = std) (hT : TabOK P T) (kp km : List Nat) (cs : List (Nat × CS)) (h : Fits C s a w) {R : Alg → (Nat → Atom) → St × List Ob}
    (hex : ∀ A X, (exec A T cs X all (number i L) s).map (fun r => (r.1.keep kp km, r.2.1)) = some (R A X)) (hob : ∀ X, AllOb P C.K (R B X).2) (hQ : ∀ X a' w', Fits C (R B X).1 a' w' → Q .normal a' w') : wpList P all.toArray Q L a w := by
  subst hB
  exact list_end i hT kp km cs h hex hob hQ
end
end Go.Proofs.Ythpbihppfijegaa.Sym

namespace Go.Proofs.Ythpbihppfijegaa
open Go.RowKit
set_option linter.unusedVariables false
set_option linter.unusedSimpArgs false

def mkB (l : List UInt8) : ByteArray := ⟨l.toArray⟩
def unB (s : ByteArray) : List UInt8 := s.data.toList
theorem mk_un (s : ByteArray) : mkB (unB s) = s := by simp [mkB, unB]
theorem un_mk (l : List UInt8) : unB (mkB l) = l := by simp [mkB, unB]
theorem un_inj {s t : ByteArray} (h : unB s = unB t) : s = t := by rw [← mk_un s, ← mk_un t, h]
theorem un_append (s t : ByteArray) : unB (s ++ t) = unB s ++ unB t := by
  show (s ++ t).data.toList = _
  rw [ByteArray.data_append, Array.toList_append]
  rfl
theorem mk_append (a b : List UInt8) : mkB a ++ mkB b = mkB (a ++ b) := by apply un_inj; rw [un_append, un_mk, un_mk, un_mk]
theorem un_size (s : ByteArray) : (unB s).length = s.size := Array.length_toList
theorem mk_size (l : List UInt8) : (mkB l).size = l.length := by rw [← un_size, un_mk]
theorem un_extract (s : ByteArray) (i j : Nat) : unB (s.extract i j) = ((unB s).take j).drop i := by
  unfold unB
  rw [ByteArray.data_extract, Array.toList_extract]
  simp [List.extract, List.drop_take]
theorem mk_extract (l : List UInt8) (i j : Nat) : (mkB l).extract i j = mkB ((l.take j).drop i) := by apply un_inj; rw [un_extract, un_mk, un_mk]
theorem un_get (s : ByteArray) (i : Nat) : s[i]? = (unB s)[i]? := by
  unfold unB
  rw [Array.getElem?_toList]
  by_cases h : i < s.size
  · rw [getElem?_pos s i h, getElem?_pos s.data i h]; rfl
  · rw [getElem?_neg s i h, getElem?_neg s.data i h]
theorem mk_get (l : List UInt8) (i : Nat) : (mkB l)[i]? = l[i]? := by rw [un_get, un_mk]
theorem un_push (s : ByteArray) (c : UInt8) : unB (s.push c) = unB s ++ [c] := by simp [unB, ByteArray.data_push]
theorem mk_push (l : List UInt8) (c : UInt8) : (mkB l).push c = mkB (l ++ [c]) := by apply un_inj; rw [un_push, un_mk, un_mk]
theorem un_empty : unB ByteArray.empty = [] := rfl
theorem toList_un (s : ByteArray) : s.toList = unB s := by simp [unB, ByteArray.toList_eq]
theorem eqB (s t : ByteArray) : (s.toList == t.toList) = decide (unB s = unB t) := by
  rw [toList_un, toList_un]
  by_cases h : unB s = unB t
  · simp [h]
  · simp [h]
theorem beqB (s t : ByteArray) : (s == t) = true ↔ s = t := by
  cases s with | mk a => cases t with | mk b =>
  have : (ByteArray.mk a == ByteArray.mk b) = (a == b) := rfl
  rw [this]
  simp
theorem mk_inj {a b : List UInt8} : mkB a = mkB b ↔ a = b := ⟨fun h => by rw [← un_mk a, ← un_mk b, h], fun h => by rw [h]⟩
theorem mk_nil : mkB [] = ByteArray.empty := rfl
end Go.Proofs.Ythpbihppfijegaa

namespace Go.Proofs.Ythpbihppfijegaa
open Go.RowKit Sym
set_option linter.unusedVariables false
set_option linter.unusedSimpArgs false

def U64 (v : Int) : Prop := 0 ≤ v ∧ v < 18446744073709551616
/-- the n highest bits of v, the others 0 -/
def headN (v n : Nat) : Nat := v / 2 ^ (64 - n) * 2 ^ (64 - n)
theorem headN_le (v n : Nat) : headN v n ≤ v := Nat.div_mul_le_self _ _
theorem testBit_head (v n i : Nat) : (headN v n).testBit i = (decide (64 - n ≤ i) && v.testBit i) := by
  unfold headN
  rw [← Nat.shiftRight_eq_div_pow, ← Nat.shiftLeft_eq, Nat.testBit_shiftLeft, Nat.testBit_shiftRight]
  by_cases h : 64 - n ≤ i
  · rw [show 64 - n + (i - (64 - n)) = i by omega]
  · simp [h]
theorem wrap_u64 (x : Int) (h : U64 x) : IntKind.u64.wrap x = x := by
  unfold U64 at h
  simp [IntKind.wrap, IntKind.signed, IntKind.bits]
  omega
theorem shr_all {n : Int} (h0 : 0 ≤ n) (h1 : n ≤ 64) : stdShift .shr .u64 18446744073709551615 n = ((2 ^ (64 - n.toNat) - 1 : Nat) : Int) := by
  obtain ⟨k, rfl⟩ := Int.eq_ofNat_of_zero_le h0
  have hk : k ≤ 64 := by omega
  simp only [stdShift, Int.toNat_natCast, IntKind.bits]
  rw [Nat.min_eq_left hk]
  have hp : (18446744073709551615 : Int) = ((2 ^ 64 - 1 : Nat) : Int) := by decide
  have hq : (2 : Int) ^ k = ((2 ^ k : Nat) : Int) := by simp
  rw [hp, hq, Int.fdiv_eq_ediv_of_nonneg _ (Int.natCast_nonneg _), ← Int.natCast_ediv]
  have e : (2 : Nat) ^ 64 - 1 = (2 ^ (64 - k) - 1) * 2 ^ k + (2 ^ k - 1) := by
    have h2 : (2 : Nat) ^ 64 = 2 ^ (64 - k) * 2 ^ k := by rw [← Nat.pow_add]; congr 1; omega
    have h3 := Nat.one_le_two_pow (n := 64 - k)
    have h4 := Nat.one_le_two_pow (n := k)
    rw [h2, Nat.sub_mul, Nat.one_mul]
    have h5 : 2 ^ k ≤ 2 ^ (64 - k) * 2 ^ k := Nat.le_mul_of_pos_left _ h3
    omega
  have hd : ((2 : Nat) ^ 64 - 1) / 2 ^ k = 2 ^ (64 - k) - 1 := by
    rw [e, Nat.mul_comm, Nat.mul_add_div (Nat.two_pow_pos k), Nat.div_eq_of_lt (by have := Nat.two_pow_pos k; omega), Nat.add_zero]
  rw [← hd]
theorem andNot_low {v : Int} (hv : U64 v) (k : Nat) (hk : k ≤ 64) : stdArith .andNot .u64 v ((2 ^ k - 1 : Nat) : Int) = ((v.toNat / 2 ^ k * 2 ^ k : Nat) : Int) := by
  obtain ⟨x, rfl⟩ := Int.eq_ofNat_of_zero_le hv.1
  have hx : x < 2 ^ 64 := by have := hv.2; omega
  have hle : x / 2 ^ k * 2 ^ k ≤ x := Nat.div_mul_le_self _ _
  simp only [Int.toNat_natCast]
  show IntKind.u64.wrap ((BitVec.ofInt 64 (x : Int) &&& ~~~BitVec.ofInt 64 ((2 ^ k - 1 : Nat) : Int)).toNat : Int) = _
  have hp : 2 ^ k ≤ 2 ^ 64 := Nat.pow_le_pow_right (by decide) hk
  have key : (BitVec.ofInt 64 (x : Int) &&& ~~~BitVec.ofInt 64 ((2 ^ k - 1 : Nat) : Int)).toNat = x / 2 ^ k * 2 ^ k := by
    apply Nat.eq_of_testBit_eq
    intro i
    have e1 : BitVec.ofInt 64 (x : Int) = BitVec.ofNat 64 x := rfl
    have e2 : BitVec.ofInt 64 ((2 ^ k - 1 : Nat) : Int) = BitVec.ofNat 64 (2 ^ k - 1) := rfl
    rw [e1, e2, BitVec.testBit_toNat, BitVec.getLsbD_and, BitVec.getLsbD_not, BitVec.getLsbD_ofNat, BitVec.getLsbD_ofNat, Nat.testBit_two_pow_sub_one]
    rw [← Nat.shiftRight_eq_div_pow, ← Nat.shiftLeft_eq, Nat.testBit_shiftLeft, Nat.testBit_shiftRight]
    by_cases hi : i < 64
    · by_cases hik : k ≤ i
      · rw [show k + (i - k) = i by omega]; simp [hi, hik, show ¬ i < k by omega]
      · simp [hi, hik, show i < k by omega]
    · have : x.testBit i = false := Nat.testBit_lt_two_pow (Nat.lt_of_lt_of_le hx (Nat.pow_le_pow_right (by decide) (by omega)))
      by_cases hik : k ≤ i
      · rw [show k + (i - k) = i by omega]; simp [hi, this]
      · simp [hi, hik]
  rw [key]
  exact wrap_u64 _ ⟨by omega, by omega⟩
theorem head_std {v n : Int} (hv : U64 v) (h0 : 0 ≤ n) (h1 : n ≤ 64) : stdArith .andNot .u64 v (stdShift .shr .u64 18446744073709551615 n) = (headN v.toNat n.toNat : Int) := by
  rw [shr_all h0 h1, andNot_low hv _ (by omega)]
  rfl

/-! ### labels -/
structure Lab where
  len : Int
  bits : Int
deriving DecidableEq
/-- is it right? -/
def isL (l : Lab) : Bool := decide (0 ≤ l.len) && decide (l.len ≤ 64) && decide ((headN l.bits.toNat l.len.toNat : Int) = l.bits)
def noneL : Lab := ⟨-1, 0⟩

/-! ### bits as texts -/
def dig (v k : Nat) : UInt8 := if v / 2 ^ k % 2 = 1 then 49 else 48
/-- the k lowest bits of v, the highest one first -/
def lowB : Nat → Nat → List UInt8
  | 0, _ => []
  | k + 1, v => dig v k :: lowB k v
theorem lowB_len (k v : Nat) : (lowB k v).length = k := by induction k with | zero => rfl | succ k ih => simp [lowB, ih]
def numB : List UInt8 → Nat := List.foldl (fun a c => 2 * a + (c.toNat - 48)) 0
theorem numB_foldl (l : List UInt8) (a : Nat) : l.foldl (fun a c => 2 * a + (c.toNat - 48)) a = a * 2 ^ l.length + numB l := by
  induction l generalizing a with
  | nil => simp [numB]
  | cons c l ih =>
    unfold numB
    rw [List.foldl_cons, ih, List.foldl_cons, ih (2 * 0 + (c.toNat - 48)), List.length_cons, Nat.pow_succ, Nat.add_mul, Nat.mul_zero, Nat.zero_add, Nat.add_assoc]
    congr 1
    rw [Nat.mul_comm 2 a, Nat.mul_assoc, Nat.mul_comm 2]
theorem numB_append (l r : List UInt8) : numB (l ++ r) = numB l * 2 ^ r.length + numB r := by
  unfold numB
  rw [List.foldl_append, numB_foldl]
  rfl
theorem dig_val (v k : Nat) : (dig v k).toNat - 48 = v / 2 ^ k % 2 := by
  unfold dig
  rcases Nat.mod_two_eq_zero_or_one (v / 2 ^ k) with h | h
  · simp [h]
  · simp [h]
theorem numB_cons (c : UInt8) (l : List UInt8) : numB (c :: l) = (c.toNat - 48) * 2 ^ l.length + numB l := by
  have : numB (c :: l) = l.foldl (fun a c => 2 * a + (c.toNat - 48)) (2 * 0 + (c.toNat - 48)) := rfl
  rw [this, numB_foldl, Nat.mul_zero, Nat.zero_add]
theorem numB_low (k v : Nat) : numB (lowB k v) = v % 2 ^ k := by
  induction k with
  | zero => simp [lowB, numB, Nat.mod_one]
  | succ k ih =>
    have : numB (lowB (k + 1) v) = ((dig v k).toNat - 48) * 2 ^ k + numB (lowB k v) := by
      rw [lowB, numB_cons, lowB_len]
    rw [this, dig_val, ih, Nat.pow_succ, Nat.mod_mul]
    rw [Nat.add_comm, Nat.mul_comm (2 ^ k)]
theorem numB_zeros (n : Nat) : numB (List.replicate n 48) = 0 := by
  induction n with
  | zero => rfl
  | succ n ih => rw [List.replicate_succ', numB_append, ih]; rfl
theorem low_take (n v : Nat) (hn : n ≤ 64) : (lowB 64 v).take n = lowB n (v / 2 ^ (64 - n)) := by
  have key : ∀ k m, m ≤ k → (lowB k v).take m = lowB m (v / 2 ^ (k - m)) := by
    intro k
    induction k with
    | zero => intro m hm; have : m = 0 := by omega
              subst this; rfl
    | succ k ih =>
      intro m hm
      cases m with
      | zero => rfl
      | succ m =>
        simp only [lowB, List.take_succ_cons]
        rw [ih m (by omega)]
        rw [show k + 1 - (m + 1) = k - m by omega]
        congr 1
        unfold dig
        rw [Nat.div_div_eq_div_mul, ← Nat.pow_add, show k - m + m = k by omega]
  exact key 64 n hn
theorem of_head {v n : Nat} (hv : v < 2 ^ 64) (hn : n ≤ 64) : numB ((lowB 64 v).take n ++ List.replicate (64 - n) 48) = headN v n := by
  rw [numB_append, numB_zeros, List.length_replicate, low_take n v hn, numB_low, Nat.add_zero]
  unfold headN
  congr 1
  apply Nat.mod_eq_of_lt
  rw [Nat.div_lt_iff_lt_mul (Nat.two_pow_pos _), ← Nat.pow_add, show n + (64 - n) = 64 by omega]
  exact hv
theorem numB_lt (l : List UInt8) (h : ∀ c ∈ l, c = 48 ∨ c = 49) : numB l < 2 ^ l.length := by
  induction l with
  | nil => decide
  | cons c l ih =>
    have e := numB_cons c l
    have := ih fun x hx => h x (List.mem_cons_of_mem _ hx)
    rw [e, List.length_cons, Nat.pow_succ]
    rcases h c (by simp) with rfl | rfl
    · simp; omega
    · simp; omega
theorem lowB_mem {k v : Nat} : ∀ c ∈ lowB k v, c = 48 ∨ c = 49 := by
  induction k with
  | zero => intro c h; cases h
  | succ k ih =>
    intro c h
    rcases List.mem_cons.1 h with rfl | h
    · unfold dig; split
      · exact .inr rfl
      · exact .inl rfl
    · exact ih c h
end Go.Proofs.Ythpbihppfijegaa

namespace Go.Proofs.Ythpbihppfijegaa
open Go.RowKit Sym
set_option linter.unusedVariables false
set_option linter.unusedSimpArgs false

def byN (v k : Nat) : UInt8 := UInt8.ofNat (v / 256 ^ k % 256)
/-- the k lowest bytes of v, the highest one first -/
def bytesN : Nat → Nat → List UInt8
  | 0, _ => []
  | k + 1, v => byN v k :: bytesN k v
theorem bytesN_len (k v : Nat) : (bytesN k v).length = k := by induction k with | zero => rfl | succ k ih => simp [bytesN, ih]
theorem bytesN_get (v : Nat) : ∀ (k t : Nat), t < k → (bytesN k v)[t]? = some (byN v (k - 1 - t))
  | 0, t, h => by omega
  | k + 1, 0, h => by simp [bytesN]
  | k + 1, t + 1, h => by
    rw [bytesN, List.getElem?_cons_succ, bytesN_get v k t (by omega)]
    rw [show k - 1 - t = k + 1 - 1 - (t + 1) by omega]
theorem byN_toNat (v k : Nat) : (byN v k).toNat = v / 256 ^ k % 256 := by
  unfold byN
  rw [UInt8.toNat_ofNat']
  omega
/-- how many bytes a number has -/
def len8 (v : Nat) : Nat := (Lib.bitLen v + 7) / 8
theorem bitLen_lt : ∀ (k v : Nat), v < 2 ^ 64 → Lib.bitLen v ≤ k → v < 2 ^ k
  | 0, v, hv, h => by
    rcases Nat.eq_zero_or_pos v with h0 | h0
    · subst h0; simp
    · rw [Lib.bitLen_half v (by omega) hv] at h; omega
  | k + 1, v, hv, h => by
    rcases Nat.eq_zero_or_pos v with h0 | h0
    · subst h0; exact Nat.two_pow_pos _
    · rw [Lib.bitLen_half v (by omega) hv] at h
      have := bitLen_lt k (v / 2) (by omega) (by omega)
      rw [Nat.pow_succ]; omega
theorem len8_iff {v : Nat} (hv : v < 2 ^ 64) (j : Nat) : len8 v ≤ j ↔ v < 256 ^ j := by
  have e : (256 : Nat) ^ j = 2 ^ (8 * j) := by rw [Nat.pow_mul]
  rw [e]
  unfold len8
  constructor
  · intro h
    exact bitLen_lt _ v hv (by omega)
  · intro h
    by_cases hj : 8 * j ≤ 64
    · have := Lib.bitLen_le v (8 * j) hj h; omega
    · have := Lib.bitLen_le v 64 (by omega) hv; omega
theorem len8_le {v : Nat} (hv : v < 2 ^ 64) : len8 v ≤ 8 := (len8_iff hv 8).2 (by simpa using hv)
def numL (v : Nat) : List UInt8 := UInt8.ofNat (len8 v) :: bytesN (len8 v) v
theorem numL_len (v : Nat) : (numL v).length = len8 v + 1 := by simp [numL, bytesN_len]
def textL (s : List UInt8) : List UInt8 := numL s.length ++ s
def labL (l : Lab) : List UInt8 := UInt8.ofNat l.len.toNat :: (bytesN 8 l.bits.toNat).take ((l.len.toNat + 7) / 8)
/-- the cells of bytes -/
def bytesC (l : List UInt8) : Nat → List AV := fun i => [.int .u8 ((l[i]?.getD 0).toNat : Int)]
theorem byteAt_C (l : List UInt8) (i : Nat) : byteAt (bytesC l i) = l[i]?.getD 0 := by
  simp [byteAt, bytesC]
theorem rowStr_C (l : List UInt8) : ∀ n, n ≤ l.length → rowStr n (bytesC l) = mkB (l.take n)
  | 0, _ => rfl
  | n + 1, h => by
    rw [rowStr_succ, rowStr_C l n (by omega), byteAt_C, mk_push, List.take_succ_eq_append_getElem (by omega)]
    simp [List.getElem?_eq_getElem (show n < l.length by omega)]
theorem rowStr_congr {n : Nat} {f g : Nat → List AV} (h : ∀ i, i < n → f i = g i) : rowStr n f = rowStr n g := by
  induction n with
  | zero => rfl
  | succ n ih => rw [rowStr_succ, rowStr_succ, ih fun i hi => h i (by omega), h n (by omega)]
theorem shr_u64 {v : Int} (hv : U64 v) (n : Nat) (hn : n ≤ 64) : stdShift .shr .u64 v (n : Int) = ((v.toNat / 2 ^ n : Nat) : Int) := by
  obtain ⟨x, rfl⟩ := Int.eq_ofNat_of_zero_le hv.1
  simp only [stdShift, Int.toNat_natCast, IntKind.bits, Nat.min_eq_left hn]
  have hq : (2 : Int) ^ n = ((2 ^ n : Nat) : Int) := by simp
  rw [hq, Int.fdiv_eq_ediv_of_nonneg _ (Int.natCast_nonneg _), ← Int.natCast_ediv]
theorem wrap_u8 (x : Nat) : IntKind.u8.wrap (x : Int) = ((x % 256 : Nat) : Int) := by
  simp [IntKind.wrap, IntKind.signed, IntKind.bits]
theorem wrap_u64n (x : Nat) : IntKind.u64.wrap (x : Int) = ((x % 2 ^ 64 : Nat) : Int) := by
  simp [IntKind.wrap, IntKind.signed, IntKind.bits]
theorem pow256 (k : Nat) : (2 : Nat) ^ (8 * k) = 256 ^ k := by rw [Nat.pow_mul]
/-- the byte k of a number, as the code says it -/
theorem byte_of {v : Int} (hv : U64 v) (k : Nat) (hk : k ≤ 8) : IntKind.u8.wrap (stdShift .shr .u64 v ((8 * k : Nat) : Int)) = ((byN v.toNat k).toNat : Int) := by
  rw [shr_u64 hv _ (by omega), wrap_u8, byN_toNat, pow256]
theorem len8_byte {v : Nat} (hv : v < 2 ^ 64) : IntKind.u8.wrap (len8 v : Int) = ((UInt8.ofNat (len8 v)).toNat : Int) := by
  rw [wrap_u8]
  have := len8_le hv
  rw [UInt8.toNat_ofNat', Nat.mod_eq_of_lt (by omega)]
theorem wrap_i64n (x : Nat) (h : x < 2 ^ 63) : IntKind.i64.wrap (x : Int) = (x : Int) := by rw [IntKind.wrap_i64]; omega
/-- the table of bits.Len64 -/
def lenTab : ByteArray := ⟨#[0, 1, 2, 2, 3, 3, 3, 3, 4, 4, 4, 4, 4, 4, 4, 4, 5, 5, 5, 5, 5, 5, 5, 5, 5, 5, 5, 5, 5, 5, 5, 5, 6, 6, 6, 6, 6, 6, 6, 6, 6, 6, 6, 6, 6, 6, 6, 6, 6, 6, 6, 6, 6, 6, 6, 6, 6, 6, 6, 6, 6, 6, 6, 6, 7, 7, 7, 7, 7, 7, 7, 7, 7, 7, 7, 7, 7, 7, 7, 7, 7, 7, 7, 7, 7, 7, 7, 7, 7, 7, 7, 7, 7, 7, 7, 7, 7, 7, 7, 7, 7, 7, 7, 7, 7, 7, 7, 7, 7, 7, 7, 7, 7, 7, 7, 7, 7, 7, 7, 7, 7, 7, 7, 7, 7, 7, 7, 7, 8, 8, 8, 8, 8, 8, 8, 8, 8, 8, 8, 8, 8, 8, 8, 8, 8, 8, 8, 8, 8, 8, 8, 8, 8, 8, 8, 8, 8, 8, 8, 8, 8, 8, 8, 8, 8, 8, 8, 8, 8, 8, 8, 8, 8, 8, 8, 8, 8, 8, 8, 8, 8, 8, 8, 8, 8, 8, 8, 8, 8, 8, 8, 8, 8, 8, 8, 8, 8, 8, 8, 8, 8, 8, 8, 8, 8, 8, 8, 8, 8, 8, 8, 8, 8, 8, 8, 8, 8, 8, 8, 8, 8, 8, 8, 8, 8, 8, 8, 8, 8, 8, 8, 8, 8, 8, 8, 8, 8, 8, 8, 8, 8, 8, 8, 8, 8, 8, 8, 8, 8, 8, 8, 8, 8, 8, 8, 8]⟩
theorem lenTab_ok : ∀ n : Fin 256, ((lenTab[n.val]?.getD 0).toNat : Nat) = Lib.bitLen n.val := by decide +kernel
theorem lenTab_size : lenTab.size = 256 := by decide +kernel
end Go.Proofs.Ythpbihppfijegaa

namespace Go.Proofs.Ythpbihppfijegaa
open Go.RowKit Sym
set_option linter.unusedVariables false
set_option linter.unusedSimpArgs false

def valB : List UInt8 → Nat := List.foldl (fun a c => a * 256 + c.toNat) 0
theorem valB_foldl (l : List UInt8) (a : Nat) : l.foldl (fun a c => a * 256 + c.toNat) a = a * 256 ^ l.length + valB l := by
  induction l generalizing a with
  | nil => simp [valB]
  | cons c l ih =>
    unfold valB
    rw [List.foldl_cons, ih, List.foldl_cons, ih (0 * 256 + c.toNat), List.length_cons, Nat.pow_succ, Nat.zero_mul, Nat.zero_add, Nat.add_mul, Nat.add_assoc]
    congr 1
    rw [Nat.mul_assoc, Nat.mul_comm 256]
theorem valB_cons (c : UInt8) (l : List UInt8) : valB (c :: l) = c.toNat * 256 ^ l.length + valB l := by
  have : valB (c :: l) = l.foldl (fun a c => a * 256 + c.toNat) (0 * 256 + c.toNat) := rfl
  rw [this, valB_foldl, Nat.zero_mul, Nat.zero_add]
theorem valB_snoc (l : List UInt8) (c : UInt8) : valB (l ++ [c]) = valB l * 256 + c.toNat := by
  unfold valB; rw [List.foldl_append]; rfl
theorem valB_lt (l : List UInt8) : valB l < 256 ^ l.length := by
  induction l with
  | nil => decide
  | cons c l ih =>
    rw [valB_cons, List.length_cons, Nat.pow_succ]
    have := c.toNat_lt
    have h2 : c.toNat * 256 ^ l.length ≤ 255 * 256 ^ l.length := Nat.mul_le_mul_right _ (by omega)
    omega
theorem bytesN_val (l : List UInt8) : bytesN l.length (valB l) = l := by
  have low : ∀ (k v w : Nat), bytesN k (w * 256 ^ k + v) = bytesN k v := by
    intro k
    induction k with
    | zero => intro v w; rfl
    | succ k ih =>
      intro v w
      simp only [bytesN]
      have e : w * 256 ^ (k + 1) + v = (w * 256) * 256 ^ k + v := by rw [Nat.pow_succ, Nat.mul_assoc, Nat.mul_comm 256]
      rw [e, ih]
      congr 1
      apply UInt8.toNat_inj.1
      rw [byN_toNat, byN_toNat, Nat.mul_comm (w * 256), Nat.mul_add_div (Nat.pow_pos (by decide)), Nat.add_comm, Nat.mul_comm w, Nat.add_mul_mod_self_left]
  induction l with
  | nil => rfl
  | cons c l ih =>
    rw [List.length_cons, bytesN, valB_cons, low, ih]
    congr 1
    apply UInt8.toNat_inj.1
    rw [byN_toNat, Nat.mul_comm, Nat.mul_add_div (Nat.pow_pos (by decide)), Nat.div_eq_of_lt (valB_lt l), Nat.add_zero, Nat.mod_eq_of_lt c.toNat_lt]
theorem valB_bytes {k v : Nat} (h : v < 256 ^ k) : valB (bytesN k v) = v := by
  induction k generalizing v with
  | zero => simp at h; subst h; rfl
  | succ k ih =>
    have e : bytesN k v = bytesN k (v % 256 ^ k) := by
      have low : ∀ (j v w : Nat), j ≤ k → bytesN j (w * 256 ^ k + v) = bytesN j v := by
        intro j
        induction j with
        | zero => intro v w _; rfl
        | succ j ihj =>
          intro v w hj
          simp only [bytesN]
          rw [ihj _ _ (by omega)]
          congr 1
          apply UInt8.toNat_inj.1
          rw [byN_toNat, byN_toNat]
          have e : w * 256 ^ k = 256 ^ j * (w * 256 ^ (k - j - 1) * 256) := by
            rw [Nat.mul_assoc, ← Nat.pow_succ, Nat.mul_left_comm, ← Nat.pow_add, show j + (k - j - 1).succ = k by omega]
          rw [e, Nat.mul_add_div (Nat.pow_pos (by decide)), Nat.add_comm, Nat.mul_comm _ 256, Nat.add_mul_mod_self_left]
      have := low k (v % 256 ^ k) (v / 256 ^ k) (Nat.le_refl _)
      rw [Nat.mul_comm, Nat.div_add_mod] at this
      exact this
    rw [bytesN, valB_cons, bytesN_len, e, ih (Nat.mod_lt _ (Nat.pow_pos (by decide))), byN_toNat, Nat.mod_eq_of_lt (a := v / 256 ^ k) ((Nat.div_lt_iff_lt_mul (Nat.pow_pos (by decide))).2 (by rw [Nat.mul_comm, ← Nat.pow_succ]; exact h)), Nat.mul_comm, Nat.div_add_mod]
theorem len8_val {l : List UInt8} (h8 : l.length ≤ 8) : len8 (valB l) = l.length ↔ l.head? ≠ some 0 := by
  have hlt := valB_lt l
  have h64 : valB l < 2 ^ 64 := Nat.lt_of_lt_of_le hlt (by rw [show (2 : Nat) ^ 64 = 256 ^ 8 from rfl]; exact Nat.pow_le_pow_right (by decide) h8)
  cases l with
  | nil => simp [valB, len8, Lib.bitLen, Lib.bitLenAux]
  | cons c r =>
    simp only [List.head?_cons, ne_eq, Option.some.injEq]
    have hle := (len8_iff h64 (c :: r).length).2 hlt
    constructor
    · intro h hc
      subst hc
      have : valB (0 :: r) < 256 ^ r.length := by rw [valB_cons]; simpa using valB_lt r
      have := (len8_iff h64 r.length).2 this
      rw [h, List.length_cons] at this; omega
    · intro hc
      refine Nat.le_antisymm hle (Nat.le_of_not_lt fun hn => ?_)
      have h1 := (len8_iff h64 r.length).1 (by simp only [List.length_cons] at hn; omega)
      rw [valB_cons] at h1
      have : 1 ≤ c.toNat := by
        rcases Nat.eq_zero_or_pos c.toNat with h | h
        · exact absurd (UInt8.toNat_inj.1 (by simpa using h)) hc
        · exact h
      have := Nat.mul_le_mul_right (256 ^ r.length) this
      omega
/-- the bytes of a number are these, if the first one is not 0 -/
theorem numL_val {l : List UInt8} (h8 : l.length ≤ 8) : numL (valB l) = UInt8.ofNat l.length :: l ↔ l.head? ≠ some 0 := by
  rw [← len8_val h8]
  constructor
  · intro h
    have := congrArg List.length h
    rw [numL_len] at this
    simpa using this
  · intro h
    unfold numL
    rw [h, bytesN_val]

/-! ### reading -/
abbrev Dec (α : Type) := Except Int (α × List UInt8)
def decN : List UInt8 → Dec Nat
  | [] => .error 4
  | n :: r => if 8 < n.toNat then .error 3 else if r.length < n.toNat then .error 4 else if (r.take n.toNat).head? = some 0 then .error 3 else .ok (valB (r.take n.toNat), r.drop n.toNat)
def decT (s : List UInt8) : Dec (List UInt8) := match decN s with
  | .error e => .error e
  | .ok (n, r) => if 4096 < n then .error 3 else if r.length < n then .error 4 else .ok (r.take n, r.drop n)
def labOf (n : UInt8) (d : List UInt8) : Lab := ⟨n.toNat, (valB d * 256 ^ (8 - d.length) : Nat)⟩
def decL : List UInt8 → Dec Lab
  | [] => .error 4
  | n :: r => if 64 < n.toNat then .error 3 else if r.length < (n.toNat + 7) / 8 then .error 4 else if isL (labOf n (r.take ((n.toNat + 7) / 8))) then .ok (labOf n (r.take ((n.toNat + 7) / 8)), r.drop ((n.toNat + 7) / 8)) else .error 3
def Dec.err {α : Type} : Dec α → Int
  | .error e => e
  | .ok _ => 0
def Dec.val {α : Type} (d : α) : Dec α → α
  | .error _ => d
  | .ok (v, _) => v
def Dec.rest {α : Type} (s : List UInt8) : Dec α → List UInt8
  | .error _ => s
  | .ok (_, r) => r
theorem decN_err {s : List UInt8} {e : Int} (h : decN s = .error e) : e = 3 ∨ e = 4 := by
  unfold decN at h
  split at h
  · injection h with h; exact .inr h.symm
  · split at h
    · injection h with h; exact .inl h.symm
    · split at h
      · injection h with h; exact .inr h.symm
      · split at h
        · injection h with h; exact .inl h.symm
        · cases h
theorem decT_err {s : List UInt8} {e : Int} (h : decT s = .error e) : e = 3 ∨ e = 4 := by
  unfold decT at h
  split at h
  · rename_i h1; injection h with h; subst h; exact decN_err h1
  · split at h
    · injection h with h; exact .inl h.symm
    · split at h
      · injection h with h; exact .inr h.symm
      · cases h
theorem decL_err {s : List UInt8} {e : Int} (h : decL s = .error e) : e = 3 ∨ e = 4 := by
  unfold decL at h
  split at h
  · injection h with h; exact .inr h.symm
  · split at h
    · injection h with h; exact .inl h.symm
    · split at h
      · injection h with h; exact .inr h.symm
      · split at h
        · cases h
        · injection h with h; exact .inl h.symm
theorem decN_put {v : Nat} (hv : v < 2 ^ 64) (r : List UInt8) : decN (numL v ++ r) = .ok (v, r) := by
  have h8 := len8_le hv
  have hn : (UInt8.ofNat (len8 v)).toNat = len8 v := by rw [UInt8.toNat_ofNat', Nat.mod_eq_of_lt (by omega)]
  have hb := bytesN_len (len8 v) v
  have hval := valB_bytes ((len8_iff hv _).1 (Nat.le_refl _))
  have hh : (bytesN (len8 v) v).head? ≠ some 0 := by
    rw [← len8_val (by omega), hval, hb]
  simp only [numL, List.cons_append, decN, hn]
  rw [if_neg (by omega), if_neg (by rw [List.length_append]; omega), List.take_left' hb, List.drop_left' hb, if_neg hh, hval]
theorem decN_ok {s : List UInt8} {v : Nat} {r : List UInt8} (h : decN s = .ok (v, r)) : s = numL v ++ r ∧ v < 2 ^ 64 := by
  unfold decN at h
  split at h
  · cases h
  · rename_i n t
    split at h
    · cases h
    · rename_i h8
      split at h
      · cases h
      · rename_i hl
        split at h
        · cases h
        · rename_i hh
          injection h with h; injection h with h1 h2; subst h1; subst h2
          have hlen : (t.take n.toNat).length = n.toNat := by rw [List.length_take]; omega
          have := (numL_val (l := t.take n.toNat) (by omega)).2 hh
          refine ⟨?_, ?_⟩
          · rw [this, hlen]
            simp
          · refine Nat.lt_of_lt_of_le (valB_lt _) ?_
            rw [hlen, show (2 : Nat) ^ 64 = 256 ^ 8 from rfl]
            exact Nat.pow_le_pow_right (by decide) (by omega)
theorem decT_put {t : List UInt8} (ht : t.length ≤ 4096) (r : List UInt8) : decT (textL t ++ r) = .ok (t, r) := by
  unfold decT textL
  rw [List.append_assoc, decN_put (by omega)]
  simp only
  rw [if_neg (by omega), if_neg (by rw [List.length_append]; omega), List.take_left, List.drop_left]
theorem decT_ok {s t r : List UInt8} (h : decT s = .ok (t, r)) : s = textL t ++ r ∧ t.length ≤ 4096 := by
  unfold decT at h
  split at h
  · cases h
  · rename_i n q hq
    obtain ⟨h1, _⟩ := decN_ok hq
    split at h
    · cases h
    · split at h
      · cases h
      · injection h with h; injection h with e1 e2; subst e1; subst e2
        have hlen : (q.take n).length = n := by rw [List.length_take]; omega
        refine ⟨?_, by omega⟩
        rw [textL, hlen, List.append_assoc, List.take_append_drop]
        exact h1
theorem bytes_zero {v k j : Nat} (h : v % 256 ^ k = 0) (hj : j < k) : byN v j = 0 := by
  apply UInt8.toNat_inj.1
  rw [byN_toNat]
  obtain ⟨q, rfl⟩ := Nat.dvd_of_mod_eq_zero h
  have e : 256 ^ k * q = 256 ^ j * (256 ^ (k - j - 1) * q * 256) := by
    rw [Nat.mul_assoc, Nat.mul_comm q, ← Nat.mul_assoc (256 ^ (k - j - 1)), ← Nat.pow_succ, ← Nat.mul_assoc, ← Nat.pow_add, show j + (k - j - 1).succ = k by omega]
  rw [e, Nat.mul_div_cancel_left _ (Nat.pow_pos (by decide))]
  simp
/-- the first bytes of a right label, and nothing behind them -/
theorem lab_split {b n k : Nat} (hb : b < 2 ^ 64) (hn : n ≤ 64) (hk : k = (n + 7) / 8) (hh : headN b n = b) : valB ((bytesN 8 b).take k) * 256 ^ (8 - k) = b := by
  have hk8 : k ≤ 8 := by omega
  have hsp : bytesN 8 b = (bytesN 8 b).take k ++ (bytesN 8 b).drop k := (List.take_append_drop _ _).symm
  have hv := valB_bytes (k := 8) (v := b) hb
  have hlen : ((bytesN 8 b).drop k).length = 8 - k := by rw [List.length_drop, bytesN_len]
  have happ : ∀ l r : List UInt8, valB (l ++ r) = valB l * 256 ^ r.length + valB r := by
    intro l r
    unfold valB
    rw [List.foldl_append, valB_foldl]
    rfl
  rw [hsp, happ, hlen] at hv
  have hz : valB ((bytesN 8 b).drop k) = 0 := by
    have hmod : b % 256 ^ (8 - k) = 0 := by
      unfold headN at hh
      rw [← pow256]
      have hd : 2 ^ (8 * (8 - k)) ∣ 2 ^ (64 - n) := Nat.pow_dvd_pow 2 (by omega)
      have : 2 ^ (64 - n) ∣ b := ⟨b / 2 ^ (64 - n), by rw [Nat.mul_comm]; exact hh.symm⟩
      exact Nat.mod_eq_zero_of_dvd (Nat.dvd_trans hd this)
    have hall : ∀ c ∈ (bytesN 8 b).drop k, c = 0 := by
      intro c hc
      obtain ⟨i, hi⟩ := List.getElem?_of_mem hc
      rw [List.getElem?_drop] at hi
      have hlt : k + i < 8 := by
        have := (List.getElem?_eq_some_iff.1 hi).1
        rwa [bytesN_len] at this
      rw [bytesN_get _ _ _ hlt] at hi
      injection hi with hi
      rw [← hi]
      exact bytes_zero hmod (by omega)
    have zero : ∀ l : List UInt8, (∀ c ∈ l, c = 0) → valB l = 0 := by
      intro l
      induction l with
      | nil => intro _; rfl
      | cons c l ih =>
        intro h
        rw [valB_cons, h c (by simp), ih fun x hx => h x (List.mem_cons_of_mem _ hx)]
        simp
    exact zero _ hall
  rw [hz, Nat.add_zero] at hv
  exact hv
theorem isL_iff (l : Lab) : isL l = true ↔ (0 ≤ l.len ∧ l.len ≤ 64) ∧ (headN l.bits.toNat l.len.toNat : Int) = l.bits := by
  simp [isL, Bool.and_eq_true]
theorem decL_put {l : Lab} (hl : isL l = true) (hb : U64 l.bits) (r : List UInt8) : decL (labL l ++ r) = .ok (l, r) := by
  obtain ⟨⟨h0, h1⟩, h2⟩ := (isL_iff l).1 hl
  have hn : (UInt8.ofNat l.len.toNat).toNat = l.len.toNat := by rw [UInt8.toNat_ofNat', Nat.mod_eq_of_lt (by omega)]
  have hk : ((bytesN 8 l.bits.toNat).take ((l.len.toNat + 7) / 8)).length = (l.len.toNat + 7) / 8 := by rw [List.length_take, bytesN_len]; omega
  have hsp := lab_split (b := l.bits.toNat) (n := l.len.toNat) (by have := hb.1; have := hb.2; omega) (by omega) rfl (by omega)
  have hlab : labOf (UInt8.ofNat l.len.toNat) ((bytesN 8 l.bits.toNat).take ((l.len.toNat + 7) / 8)) = l := by
    obtain ⟨a, b⟩ := l
    unfold labOf
    simp only at *
    rw [hk, hn, hsp]
    congr 1
    · omega
    · have := hb.1; omega
  simp only [labL, List.cons_append, decL, hn]
  rw [if_neg (by omega), if_neg (by rw [List.length_append]; omega), List.take_left' hk, List.drop_left' hk, hlab, hl]
  rfl
theorem bytesN_shift (d : List UInt8) (j : Nat) : (bytesN (d.length + j) (valB d * 256 ^ j)).take d.length = d := by
  have : bytesN (d.length + j) (valB d * 256 ^ j) = d ++ List.replicate j 0 := by
    have e : valB (d ++ List.replicate j 0) = valB d * 256 ^ j := by
      have hz : ∀ j, valB (List.replicate j (0 : UInt8)) = 0 := by
        intro j
        induction j with
        | zero => rfl
        | succ j ih => rw [List.replicate_succ, valB_cons, ih]; simp
      unfold valB
      rw [List.foldl_append, valB_foldl, hz, List.length_replicate]
      rfl
    rw [← e]
    have := bytesN_val (d ++ List.replicate j 0)
    simpa using this
  rw [this, List.take_left]
theorem decL_ok {s : List UInt8} {l : Lab} {r : List UInt8} (h : decL s = .ok (l, r)) : s = labL l ++ r ∧ isL l = true ∧ U64 l.bits := by
  unfold decL at h
  split at h
  · cases h
  · rename_i n t
    split at h
    · cases h
    · rename_i hn
      split at h
      · cases h
      · rename_i hl
        split at h
        · rename_i hi
          injection h with h; injection h with h1 h2; subst h1; subst h2
          have hlen : (t.take ((n.toNat + 7) / 8)).length = (n.toNat + 7) / 8 := by rw [List.length_take]; omega
          refine ⟨?_, hi, ?_⟩
          · have := bytesN_shift (t.take ((n.toNat + 7) / 8)) (8 - (n.toNat + 7) / 8)
            rw [hlen, show (n.toNat + 7) / 8 + (8 - (n.toNat + 7) / 8) = 8 by omega] at this
            unfold labL labOf
            simp only [Int.toNat_natCast, hlen]
            rw [this, List.cons_append, List.take_append_drop]
            simp
          · unfold labOf U64
            simp only [hlen]
            have h1 := valB_lt (t.take ((n.toNat + 7) / 8))
            rw [hlen] at h1
            have h2 := Nat.mul_lt_mul_of_pos_right h1 (Nat.pow_pos (n := 8 - (n.toNat + 7) / 8) (by decide : 0 < 256))
            rw [← Nat.pow_add, show (n.toNat + 7) / 8 + (8 - (n.toNat + 7) / 8) = 8 by omega] at h2
            constructor
            · omega
            · have : (256 : Nat) ^ 8 = 18446744073709551616 := by decide
              omega
        · cases h
end Go.Proofs.Ythpbihppfijegaa

namespace Go.Proofs.Ythpbihppfijegaa
open Go.RowKit Sym
set_option linter.unusedVariables false
set_option linter.unusedSimpArgs false

structure Itm where
  key : Int
  val : ByteArray
deriving DecidableEq
structure Rec where
  kind : Int
  items : List Itm
  next : Lab
  mark : Int
deriving DecidableEq
def zeroItm : Itm := ⟨0, ⟨#[]⟩⟩
def zeroRec : Rec := ⟨0, [], ⟨0, 0⟩, 0⟩
/-- place i of a row: is its text short, and its key greater than that ahead? -/
def okAt (f : Nat → Itm) (i : Nat) : Bool := decide ((f i).val.size ≤ 64) && (i == 0 || decide ((f (i - 1)).key < (f i).key))
def okF (f : Nat → Itm) (n : Nat) : Bool := (List.range n).all (okAt f)
theorem okF_succ (f : Nat → Itm) (n : Nat) : okF f (n + 1) = (okF f n && okAt f n) := by
  simp [okF, List.range_succ]
theorem okF_false {f : Nat → Itm} {i n : Nat} (hi : i < n) (h : okAt f i = false) : okF f n = false := by
  unfold okF
  rw [Bool.eq_false_iff]
  intro h2
  have := List.all_eq_true.1 h2 i (List.mem_range.2 hi)
  rw [h] at this; cases this
theorem okF_at {f : Nat → Itm} {i n : Nat} (hi : i < n) (h : okF f n = true) : okAt f i = true := List.all_eq_true.1 h i (List.mem_range.2 hi)
def rowF (n : Nat) (f : Nat → Itm) : Bool := decide (n ≤ 16) && okF f n
def bareK (k : Int) : Bool := decide (k = 2) || decide (k = 4)
def isRF (kd : Int) (n : Nat) (f : Nat → Itm) (nx : Lab) (mk : Int) : Bool :=
  (decide (nx = noneL) || isL nx) && (if bareK kd then decide (n = 0) && decide (nx = noneL) && decide (mk = 0) else if kd = 1 ∨ kd = 3 then decide (mk = 0) && rowF n f else if kd = 5 then rowF n f else false)
def itF (l : List Itm) : Nat → Itm := fun i => l.getD i zeroItm
def isR (r : Rec) : Bool := isRF r.kind r.items.length (itF r.items) r.next r.mark
/-- the test of one place, as the code says it -/
theorem okAt_test (f : Nat → Itm) (i : Nat) (hi : i ≤ maxLen) : (if decide ((64 : Int) < ((f i).val.size : Int)) = true then true else if decide ((0 : Int) < (i : Int)) = true then decide ((f i).key ≤ (f (IntKind.i64.wrap ((i : Int) - 1)).toNat).key) else false) = !okAt f i := by
  have hm : maxLen = 9223372036854775807 := rfl
  unfold okAt
  by_cases h1 : (f i).val.size ≤ 64
  · have h1' : ¬ (64 : Int) < ((f i).val.size : Int) := by omega
    by_cases h2 : i = 0
    · subst h2; simp [h1]; omega
    · rw [wrap_in (by omega) (by omega), show ((i : Int) - 1).toNat = i - 1 by omega]
      have h2' : (0 : Int) < (i : Int) := by omega
      have h2n : 0 < i := by omega
      have h2b : (i == 0) = false := by simp [h2]
      by_cases h3 : (f (i - 1)).key < (f i).key
      · have h3' : ¬ (f i).key ≤ (f (i - 1)).key := by omega
        simp [h1, h1', h2b, h2', h2n, h3, h3']
      · have h3' : (f i).key ≤ (f (i - 1)).key := by omega
        simp [h1, h1', h2b, h2', h2n, h3, h3']
  · have h1' : (64 : Int) < ((f i).val.size : Int) := by omega
    simp [h1, h1']
theorem isRF_ref (kd : Int) (n : Nat) (f : Nat → Itm) (nx : Lab) (mk : Int) : isRF kd n f nx mk =
    (!((decide (kd < 1) || decide (5 < kd)) || decide (16 < n) || (!decide (nx = noneL) && !isL nx)) && !((!decide (mk = 0) && !decide (kd = 5)) || (bareK kd && (decide (0 < n) || !decide (nx = noneL)))) && okF f n) := by
  unfold isRF
  by_cases hk : kd = 1 ∨ kd = 2 ∨ kd = 3 ∨ kd = 4 ∨ kd = 5
  · rcases hk with rfl | rfl | rfl | rfl | rfl
    · unfold rowF bareK; cases hn : decide (n ≤ 16) <;> cases hm : decide (mk = 0) <;> cases hx : decide (nx = noneL) <;> cases hl : isL nx <;> simp_all <;> omega
    · cases hz : decide (n = 0)
      · have : n ≠ 0 := by simpa using hz
        cases hm : decide (mk = 0) <;> cases hx : decide (nx = noneL) <;> cases hl : isL nx <;> simp_all [bareK] <;> omega
      · have : n = 0 := by simpa using hz
        subst this
        cases hm : decide (mk = 0) <;> cases hx : decide (nx = noneL) <;> cases hl : isL nx <;> simp_all [bareK, okF]
    · unfold rowF bareK; cases hn : decide (n ≤ 16) <;> cases hm : decide (mk = 0) <;> cases hx : decide (nx = noneL) <;> cases hl : isL nx <;> simp_all <;> omega
    · cases hz : decide (n = 0)
      · have : n ≠ 0 := by simpa using hz
        cases hm : decide (mk = 0) <;> cases hx : decide (nx = noneL) <;> cases hl : isL nx <;> simp_all [bareK] <;> omega
      · have : n = 0 := by simpa using hz
        subst this
        cases hm : decide (mk = 0) <;> cases hx : decide (nx = noneL) <;> cases hl : isL nx <;> simp_all [bareK, okF]
    · unfold rowF bareK; cases hn : decide (n ≤ 16) <;> cases hm : decide (mk = 0) <;> cases hx : decide (nx = noneL) <;> cases hl : isL nx <;> simp_all <;> omega
  · have h1 : ¬ kd = 1 := fun h => hk (.inl h)
    have h2 : ¬ kd = 2 := fun h => hk (.inr (.inl h))
    have h3 : ¬ kd = 3 := fun h => hk (.inr (.inr (.inl h)))
    have h4 : ¬ kd = 4 := fun h => hk (.inr (.inr (.inr (.inl h))))
    have h5 : ¬ kd = 5 := fun h => hk (.inr (.inr (.inr (.inr h))))
    have h6 : kd < 1 ∨ 5 < kd := by omega
    rcases h6 with h6 | h6 <;> simp [bareK, h1, h2, h3, h4, h5, h6]

/-! ### bytes -/
def itL (x : Itm) : List UInt8 := numL x.key.toNat ++ textL (unB x.val)
/-- the first k items -/
def itsL (f : Nat → Itm) (k : Nat) : List UInt8 := (List.range k).flatMap fun i => itL (f i)
theorem itsL_succ (f : Nat → Itm) (k : Nat) : itsL f (k + 1) = itsL f k ++ itL (f k) := by simp [itsL, List.range_succ]
def nextL (nx : Lab) : List UInt8 := if nx = noneL then numL 0 else numL 1 ++ labL nx
def putF (kd : Int) (n : Nat) (f : Nat → Itm) (nx : Lab) (mk : Int) : List UInt8 :=
  if bareK kd then numL kd.toNat else numL kd.toNat ++ numL n ++ itsL f n ++ nextL nx ++ (if kd = 5 then numL mk.toNat else [])
def putR (r : Rec) : List UInt8 := putF r.kind r.items.length (itF r.items) r.next r.mark
theorem num_short (v : Nat) : (numL v).length ≤ 10 := by
  by_cases hv : v < 2 ^ 64
  · rw [numL_len]; have := len8_le hv; omega
  · rw [numL_len]
    have := Lib.bitLenAux_le 64 v (64 + v) (Nat.lt_of_lt_of_le (Nat.lt_two_pow_self) (Nat.pow_le_pow_right (by decide) (by omega)))
    unfold len8
    have h2 : ∀ f x, Lib.bitLenAux f x ≤ f := by
      intro f
      induction f with
      | zero => intro x; simp [Lib.bitLenAux]
      | succ f ih => intro x; simp only [Lib.bitLenAux]; split
                     · omega
                     · have := ih (x / 2); omega
    have := h2 64 v
    unfold Lib.bitLen
    omega
theorem itL_short {f : Nat → Itm} {i : Nat} (h : okAt f i = true) : (itL (f i)).length ≤ 100 := by
  have h1 : (f i).val.size ≤ 64 := by
    unfold okAt at h
    simp only [Bool.and_eq_true, decide_eq_true_eq] at h
    exact h.1
  have h2 := num_short (f i).key.toNat
  have h3 := num_short (unB (f i).val).length
  unfold itL textL
  rw [List.length_append, List.length_append, un_size]
  rw [un_size] at h3
  omega
theorem itsL_short {f : Nat → Itm} {n : Nat} (h : okF f n = true) : ∀ k, k ≤ n → (itsL f k).length ≤ 100 * k
  | 0, _ => by simp [itsL]
  | k + 1, hk => by
    rw [itsL_succ, List.length_append]
    have := itsL_short h k (by omega)
    have := itL_short (okF_at (f := f) (i := k) (by omega) h)
    omega
end Go.Proofs.Ythpbihppfijegaa

namespace Go.Proofs.Ythpbihppfijegaa.Sym
open Go.RowKit
set_option linter.unusedVariables false
set_option linter.unusedSimpArgs false

inductive Sh where
  | int (k : IntKind)
  | bool
  | str
def Sh.fits : Sh → AV → Prop
  | .int k, .int k' _ => k = k'
  | .bool, .bool _ => True
  | .str, .str _ => True
  | _, _ => False
def fitsL : List Sh → List AV → Prop
  | [], [] => True
  | h :: l, v :: r => h.fits v ∧ fitsL l r
  | _, _ => False
def shFields (P : Program) (g : TypeId → Option (List Sh)) : List Field → Nat → Option (List Sh)
  | [], _ => some []
  | f :: fs, off => if f.name == "_" || f.offset != off then none else match g f.type with
    | some sh => if sizeB P f.type == some sh.length && (aggB P f.type).isSome && (aggB P f.type != some false || sh.length == 1) then (shFields P g fs (off + sh.length)).map (sh ++ ·) else none
    | none => none
def eqShape (P : Program) : Nat → TypeId → Option (List Sh)
  | 0, _ => none
  | d + 1, t => match P.underlying t with
    | some .bool => some [.bool]
    | some (.int k) => some [.int k]
    | some .string => some [.str]
    | some (.struct fs) => if P.stoodInHeld t then none else shFields P (eqShape P d) fs.toList 0
    | some (.array n e) => match eqShape P d e with
      | some sh => if P.cellsOf e == sh.length && (P.info? e).isSome && sizeB P e == some sh.length && (aggB P e).isSome && (aggB P e != some false || sh.length == 1) then some (List.replicate n sh).flatten else none
      | none => none
    | _ => none
def mkV (g : Bool) (l : List AV) : Value := if g then .agg (l.map AV.den).toArray else (l.map AV.den).headD Go.undef
theorem fitsL_len : ∀ {sh : List Sh} {l : List AV}, fitsL sh l → l.length = sh.length
  | [], [], _ => rfl
  | _ :: _, _ :: _, h => by simp [fitsL_len h.2]
  | [], _ :: _, h => h.elim
  | _ :: _, [], h => h.elim
theorem fitsL_split : ∀ {s1 s2 : List Sh} {l : List AV}, fitsL (s1 ++ s2) l → ∃ a b, l = a ++ b ∧ fitsL s1 a ∧ fitsL s2 b
  | [], s2, l, h => ⟨[], l, rfl, trivial, h⟩
  | _ :: _, _, [], h => h.elim
  | s :: s1, s2, v :: l, h => by
    obtain ⟨a, b, rfl, h1, h2⟩ := fitsL_split h.2
    exact ⟨v :: a, b, rfl, ⟨h.1, h1⟩, h2⟩
theorem eqL_append : ∀ {a b a' b' : List AV}, a.length = a'.length → eqL (a ++ b) (a' ++ b') = (eqL a a' && eqL b b')
  | [], b, [], b', _ => by cases b <;> cases b' <;> simp [eqL]
  | [], _, _ :: _, _, h => by cases h
  | _ :: _, _, [], _, h => by cases h
  | v :: a, b, v' :: a', b', h => by
    have := eqL_append (a := a) (b := b) (a' := a') (b' := b') (by simpa using h)
    simp only [List.cons_append, eqL, this, Bool.and_assoc]
section
variable {P : Program} {w : World}
theorem run_part {e : TypeId} {g : Bool} {sh : List Sh} {px x sx : List AV} (hg : aggB P e = some g) (hs : sizeB P e = some sh.length) (h1 : g = false → sh.length = 1) (hx : fitsL sh x) :
    (part e ((px ++ x ++ sx).map AV.den).toArray px.length).run P w = .ok (mkV g x) w := by
  have hl := fitsL_len hx
  unfold part
  simp only [Sem.run_bind, aggB_ok hg w, Result.andThen_ok]
  cases g with
  | true =>
    simp only [if_true, Sem.run_bind, sizeB_ok hs w, Result.andThen_ok, Sem.run_pure, mkV]
    congr 2
    apply Array.ext'
    rw [Array.toList_extract]
    simp only [List.extract, Nat.add_sub_cancel_left, List.map_append, ← hl]
    rw [List.append_assoc, List.drop_append_of_le_length (by simp), List.drop_eq_nil_of_le (by simp), List.nil_append, List.take_append_of_le_length (by simp), List.take_of_length_le (by simp)]
  | false =>
    obtain ⟨v, rfl⟩ : ∃ v, x = [v] := by
      rw [h1 rfl] at hl
      exact List.length_eq_one_iff.1 hl
    have : ((px ++ [v] ++ sx).map AV.den).toArray[px.length]? = some v.den := by simp
    rw [this]
    simp [mkV]
theorem eq_fields {d D : Nat} (IH : ∀ t sh, eqShape P d t = some sh → ∀ x y g, aggB P t = some g → fitsL sh x → fitsL sh y → (Op.equalIn (D + d) t (mkV g x) (mkV g y)).run P w = .ok (eqL x y) w) :
    ∀ (fs : List Field) (off : Nat) (sh : List Sh), shFields P (eqShape P d) fs off = some sh → ∀ (px py x y : List AV), px.length = off → py.length = off → fitsL sh x → fitsL sh y →
      (Op.eqFields (D + d) ((px ++ x).map AV.den).toArray ((py ++ y).map AV.den).toArray fs).run P w = .ok (eqL x y) w
  | [], off, sh, h, px, py, x, y, hp, hq, hx, hy => by
    simp only [shFields, Option.some.injEq] at h
    subst h
    cases x with
    | cons => exact hx.elim
    | nil => cases y with
      | cons => exact hy.elim
      | nil => simp [Op.eqFields, eqL]
  | f :: fs, off, sh, h, px, py, x, y, hp, hq, hx, hy => by
    simp only [shFields] at h
    split at h
    · cases h
    · rename_i hn
      simp only [Bool.or_eq_true, beq_iff_eq, bne_iff_ne, not_or, ne_eq, Decidable.not_not] at hn
      obtain ⟨hn1, hn2⟩ := hn
      split at h
      · rename_i s1 hs1
        split at h
        · rename_i hc
          simp only [Bool.and_eq_true, beq_iff_eq, Bool.or_eq_true, bne_iff_ne, ne_eq] at hc
          obtain ⟨⟨hc1, hc2⟩, hc3⟩ := hc
          obtain ⟨s2, hs2, rfl⟩ := Option.map_eq_some_iff.1 h
          obtain ⟨a, b, rfl, ha, hb⟩ := fitsL_split hx
          obtain ⟨a', b', rfl, ha', hb'⟩ := fitsL_split hy
          obtain ⟨g, hg⟩ := Option.isSome_iff_exists.1 hc2
          have h1 : g = false → s1.length = 1 := by
            intro hgf
            rcases hc3 with h | h
            · rw [hg, hgf] at h; exact absurd rfl h
            · exact h
          have p1 := run_part (P := P) (w := w) (px := px) (sx := b) hg hc1 h1 ha
          have p2 := run_part (P := P) (w := w) (px := py) (sx := b') hg hc1 h1 ha'
          rw [hp] at p1
          rw [hq] at p2
          have la := fitsL_len ha
          have la' := fitsL_len ha'
          have e1 := IH _ _ hs1 a a' g hg ha ha'
          have e2 := eq_fields IH fs (off + s1.length) s2 hs2 (px ++ a) (py ++ a') b b' (by simp [hp, la]) (by simp [hq, la']) hb hb'
          rw [eqL_append (la.trans la'.symm)]
          simp only [← List.append_assoc]
          unfold Op.eqFields
          simp only [hn1, ne_eq, not_false_eq_true, if_true, Sem.run_bind, hn2, p1, p2, e1, Result.andThen_ok]
          cases hE : eqL a a' with
          | true => simpa using e2
          | false => simp
        · cases h
      · cases h
theorem eq_items {d D : Nat} {e : TypeId} {g : Bool} {sh : List Sh} (hg : aggB P e = some g) (hs : sizeB P e = some sh.length) (h1 : g = false → sh.length = 1)
    (IH : ∀ x y, fitsL sh x → fitsL sh y → (Op.equalIn (D + d) e (mkV g x) (mkV g y)).run P w = .ok (eqL x y) w) :
    ∀ (n i : Nat) (px py x y : List AV), px.length = i * sh.length → py.length = i * sh.length → fitsL (List.replicate n sh).flatten x → fitsL (List.replicate n sh).flatten y →
      (Op.eqItems (D + d) e sh.length ((px ++ x).map AV.den).toArray ((py ++ y).map AV.den).toArray (List.range' i n)).run P w = .ok (eqL x y) w
  | 0, i, px, py, x, y, hp, hq, hx, hy => by
    cases x with
    | cons => exact hx.elim
    | nil => cases y with
      | cons => exact hy.elim
      | nil => simp [Op.eqItems, eqL]
  | n + 1, i, px, py, x, y, hp, hq, hx, hy => by
    rw [List.replicate_succ, List.flatten_cons] at hx hy
    obtain ⟨a, b, rfl, ha, hb⟩ := fitsL_split hx
    obtain ⟨a', b', rfl, ha', hb'⟩ := fitsL_split hy
    have p1 := run_part (P := P) (w := w) (px := px) (sx := b) hg hs h1 ha
    have p2 := run_part (P := P) (w := w) (px := py) (sx := b') hg hs h1 ha'
    rw [hp] at p1
    rw [hq] at p2
    have la := fitsL_len ha
    have la' := fitsL_len ha'
    have e1 := IH a a' ha ha'
    have e2 := eq_items hg hs h1 IH n (i + 1) (px ++ a) (py ++ a') b b' (by rw [List.length_append, hp, la, Nat.add_mul, Nat.one_mul]) (by rw [List.length_append, hq, la', Nat.add_mul, Nat.one_mul]) hb hb'
    rw [eqL_append (la.trans la'.symm)]
    simp only [← List.append_assoc]
    rw [List.range'_succ]
    unfold Op.eqItems
    simp only [Sem.run_bind, p1, p2, e1, Result.andThen_ok]
    cases hE : eqL a a' with
    | true => simpa using e2
    | false => simp
theorem eq_shape (w : World) : ∀ (d : Nat) (t : TypeId) (sh : List Sh), eqShape P d t = some sh → ∀ (D : Nat) (x y : List AV) (g : Bool), aggB P t = some g → fitsL sh x → fitsL sh y → (Op.equalIn (D + d) t (mkV g x) (mkV g y)).run P w = .ok (eqL x y) w
  | 0, t, sh, h, _, _, _, _, _, _, _ => by cases h
  | d + 1, t, sh, h, D, x, y, g, hg, hx, hy => by
    have one : ∀ {s : Sh} {z : List AV}, fitsL [s] z → ∃ v, z = [v] ∧ s.fits v := by
      intro s z hz
      match z, hz with
      | [v], hz => exact ⟨v, rfl, hz.1⟩
    simp only [eqShape] at h
    split at h
    · rename_i hu
      injection h with h; subst h
      obtain ⟨v, rfl, hv⟩ := one hx
      obtain ⟨u, rfl, hu'⟩ := one hy
      have : g = false := by simpa [aggB, hu] using hg
      subst this
      cases v <;> simp only [Sh.fits] at hv
      cases u <;> simp only [Sh.fits] at hu'
      simp only [mkV, List.map_cons, List.headD_cons, Bool.false_eq_true, if_false, AV.den, ← Nat.add_assoc]
      rw [run_equalIn_bool w _ _ _ _ hu]
      simp [eqL, eqC]
    · rename_i k hu
      injection h with h; subst h
      obtain ⟨v, rfl, hv⟩ := one hx
      obtain ⟨u, rfl, hu'⟩ := one hy
      have : g = false := by simpa [aggB, hu] using hg
      subst this
      cases v <;> simp only [Sh.fits] at hv
      cases u <;> simp only [Sh.fits] at hu'
      subst hv; subst hu'
      simp only [mkV, List.map_cons, List.headD_cons, Bool.false_eq_true, if_false, AV.den, ← Nat.add_assoc]
      rw [run_equalIn_int w _ _ _ _ _ _ hu]
      simp [eqL, eqC]
    · rename_i hu
      injection h with h; subst h
      obtain ⟨v, rfl, hv⟩ := one hx
      obtain ⟨u, rfl, hu'⟩ := one hy
      have : g = false := by simpa [aggB, hu] using hg
      subst this
      cases v <;> simp only [Sh.fits] at hv
      cases u <;> simp only [Sh.fits] at hu'
      rename_i s1 s2
      simp only [mkV, List.map_cons, List.headD_cons, Bool.false_eq_true, if_false, AV.den, ← Nat.add_assoc]
      rw [run_equalIn_string w _ _ _ _ hu]
      have e : (s1.toList == s2.toList) = (s1 == s2) := by
        rw [Bool.eq_iff_iff, beq_iff_eq, toList_un, toList_un]
        constructor
        · intro h; rw [un_inj h]; exact (beqB _ _).2 rfl
        · intro h; rw [(beqB _ _).1 h]
      simp [eqL, eqC, e]
    · rename_i fs hu
      split at h
      · cases h
      · rename_i hst
        have : g = true := by simpa [aggB, hu] using hg
        subst this
        have hfs : P.fieldsOf t = fs := by simp [Program.fieldsOf, hu]
        have := eq_fields (w := w) (D := D) (fun t sh h x y g hg hx hy => eq_shape w d t sh h D x y g hg hx hy) fs.toList 0 sh h [] [] x y rfl rfl hx hy
        simp only [mkV, if_true, ← Nat.add_assoc]
        rw [run_equalIn_struct w _ t _ _ (by rw [hfs]; exact hu) (by simpa using hst), hfs]
        exact this
    · rename_i n e hu
      split at h
      · rename_i s1 hs1
        split at h
        · rename_i hc
          simp only [Bool.and_eq_true, beq_iff_eq, Bool.or_eq_true, bne_iff_ne, ne_eq] at hc
          obtain ⟨⟨⟨⟨c1, c2⟩, c3⟩, c4⟩, c5⟩ := hc
          injection h with h; subst h
          have : g = true := by simpa [aggB, hu] using hg
          subst this
          obtain ⟨i, hi⟩ := Option.isSome_iff_exists.1 c2
          obtain ⟨g', hg'⟩ := Option.isSome_iff_exists.1 c4
          have h1 : g' = false → s1.length = 1 := by
            intro hgf
            rcases c5 with h | h
            · rw [hg', hgf] at h; exact absurd rfl h
            · exact h
          have := eq_items (w := w) (D := D) (d := d) hg' c3 h1 (fun x y hx hy => eq_shape w d e s1 hs1 D x y g' hg' hx hy) n 0 [] [] x y (by simp) (by simp) hx hy
          simp only [mkV, if_true, ← Nat.add_assoc]
          rw [run_equalIn_array w _ _ _ hu hi, c1, List.range_eq_range']
          exact this
        · cases h
      · cases h
    · cases h
theorem ob_eql {K : Kn} {t : Nat} {d : Nat} {sh : List Sh} (hsh : eqShape P d t = some sh) (hd : d ≤ 10000) (hg : P.eqGuardType P.depth t = false) (ha : aggB P t = some true) {x y : List AV} (hx : fitsL sh x) (hy : fitsL sh y) : Ob.holds P K (.eql t x y) := by
  intro w o1 o2
  have h := eq_shape w d t sh hsh (10000 - d) x y true ha hx hy
  rw [show 10000 - d + d = 10000 by omega] at h
  have hgd : ∀ op, (eqGuard op t o1 o2 (.agg (x.map AV.den).toArray) (.agg (y.map AV.den).toArray)).run P w = .ok () w := by
    intro op
    unfold eqGuard
    cases op <;> simp [hg] <;> rfl
  simp only [mkV, if_true] at h
  constructor
  · simp only [Sem.run_bind, hgd, Result.andThen_ok]
    rw [run_eql_struct, h]
    rfl
  · simp only [Sem.run_bind, hgd, Result.andThen_ok]
    rw [run_neq_struct, h]
    rfl
end
end Go.Proofs.Ythpbihppfijegaa.Sym

namespace Go.Proofs.Ythpbihppfijegaa.Sym
open Go.RowKit
set_option maxRecDepth 100000
theorem TabOK.nil {P : Program} : TabOK P [] := fun e he => by cases he
theorem TabOK.cons {P : Program} {t : Nat} {i : TI} {T : List (Nat × TI)} (h : TyOK P t i) (h' : TabOK P T) : TabOK P ((t, i) :: T) := fun e he => by
  rcases List.mem_cons.1 he with rfl | he
  · exact h
  · exact h' e he

def ti1 : TI := ⟨1, false, [.raw .nilFunc], [], none, false, false, 0, none, false, false, false, false⟩
theorem t1 : TyOK Try.prog 1 ti1 := tyB_ok (by kernel_rfl) (by kernel_rfl)
def ti2 : TI := ⟨1, false, [.int .i64 0], [], none, false, false, 0, some .i64, false, false, false, false⟩
theorem t2 : TyOK Try.prog 2 ti2 := tyB_ok (by kernel_rfl) (by kernel_rfl)
def ti3 : TI := ⟨1, false, [.int .i64 0], [], none, false, false, 0, some .i64, false, false, false, false⟩
theorem t3 : TyOK Try.prog 3 ti3 := tyB_ok (by kernel_rfl) (by kernel_rfl)
def ti4 : TI := ⟨1, false, [.bool .ff], [], none, false, true, 0, none, false, false, false, false⟩
theorem t4 : TyOK Try.prog 4 ti4 := tyB_ok (by kernel_rfl) (by kernel_rfl)
def ti5 : TI := ⟨1, false, [.int .u8 0], [], none, false, false, 0, some .u8, false, false, false, false⟩
theorem t5 : TyOK Try.prog 5 ti5 := tyB_ok (by kernel_rfl) (by kernel_rfl)
def ti6 : TI := ⟨1, false, [.int .u8 0], [], none, false, false, 0, some .u8, false, false, false, false⟩
theorem t6 : TyOK Try.prog 6 ti6 := tyB_ok (by kernel_rfl) (by kernel_rfl)
def ti7 : TI := ⟨4, true, [.int .i64 0, .int .i64 0, .bool .ff, .int .u8 0], [(0, 1, false), (1, 1, false), (2, 1, false), (3, 1, false)], none, false, false, 0, none, false, false, false, false⟩
theorem t7 : TyOK Try.prog 7 ti7 := tyB_ok (by kernel_rfl) (by kernel_rfl)
def ti8 : TI := ⟨4, true, [.int .i64 0, .int .i64 0, .bool .ff, .int .u8 0], [(0, 1, false), (1, 1, false), (2, 1, false), (3, 1, false)], none, false, false, 0, none, false, false, false, false⟩
theorem t8 : TyOK Try.prog 8 ti8 := tyB_ok (by kernel_rfl) (by kernel_rfl)
def ti9 : TI := ⟨1, false, [.str ⟨#[]⟩], [], none, true, false, 0, none, false, false, false, false⟩
theorem t9 : TyOK Try.prog 9 ti9 := tyB_ok (by kernel_rfl) (by kernel_rfl)
def ti10 : TI := ⟨1, false, [.str ⟨#[]⟩], [], none, true, false, 0, none, false, false, false, false⟩
theorem t10 : TyOK Try.prog 10 ti10 := tyB_ok (by kernel_rfl) (by kernel_rfl)
def ti11 : TI := ⟨1, false, [.str ⟨#[]⟩], [], none, true, false, 0, none, false, false, false, false⟩
theorem t11 : TyOK Try.prog 11 ti11 := tyB_ok (by kernel_rfl) (by kernel_rfl)
def ti12 : TI := ⟨1, false, [.int .u64 0], [], none, false, false, 0, some .u64, false, false, false, false⟩
theorem t12 : TyOK Try.prog 12 ti12 := tyB_ok (by kernel_rfl) (by kernel_rfl)
def ti13 : TI := ⟨2, true, [.str ⟨#[]⟩, .int .u64 0], [(0, 1, false), (1, 1, false)], none, false, false, 0, none, false, false, false, false⟩
theorem t13 : TyOK Try.prog 13 ti13 := tyB_ok (by kernel_rfl) (by kernel_rfl)
def ti14 : TI := ⟨2, true, [.str ⟨#[]⟩, .int .u64 0], [(0, 1, false), (1, 1, false)], none, false, false, 0, none, false, false, false, false⟩
theorem t14 : TyOK Try.prog 14 ti14 := tyB_ok (by kernel_rfl) (by kernel_rfl)
def ti15 : TI := ⟨1, false, [.nilp], [], none, false, false, 0, none, true, false, false, false⟩
theorem t15 : TyOK Try.prog 15 ti15 := tyB_ok (by kernel_rfl) (by kernel_rfl)
def ti16 : TI := ⟨1, false, [.nilp], [], none, false, false, 0, none, true, false, false, false⟩
theorem t16 : TyOK Try.prog 16 ti16 := tyB_ok (by kernel_rfl) (by kernel_rfl)
def ti17 : TI := ⟨1, false, [.nilp], [], none, false, false, 0, none, true, false, false, false⟩
theorem t17 : TyOK Try.prog 17 ti17 := tyB_ok (by kernel_rfl) (by kernel_rfl)
def ti18 : TI := ⟨1, true, [.nilp], [(0, 1, false)], none, false, false, 0, none, false, false, false, false⟩
theorem t18 : TyOK Try.prog 18 ti18 := tyB_ok (by kernel_rfl) (by kernel_rfl)
def ti19 : TI := ⟨1, true, [.nilp], [(0, 1, false)], none, false, false, 0, none, false, false, false, false⟩
theorem t19 : TyOK Try.prog 19 ti19 := tyB_ok (by kernel_rfl) (by kernel_rfl)
def ti20 : TI := ⟨1, false, [.nili], [], none, false, false, 0, none, false, true, false, false⟩
theorem t20 : TyOK Try.prog 20 ti20 := tyB_ok (by kernel_rfl) (by kernel_rfl)
def ti21 : TI := ⟨1, false, [.int .i32 0], [], none, false, false, 0, some .i32, false, false, false, false⟩
theorem t21 : TyOK Try.prog 21 ti21 := tyB_ok (by kernel_rfl) (by kernel_rfl)
def ti22 : TI := ⟨1, false, [.sl none none 0 0 8 (fun _ => [])], [], some (61, 8), false, false, 80, none, false, false, false, false⟩
theorem t22 : TyOK Try.prog 22 ti22 := tyB_ok (by kernel_rfl) (by kernel_rfl)
def ti23 : TI := ⟨1, false, [.sl none none 0 0 15 (fun _ => [])], [], some (46, 15), false, false, 160, none, false, false, false, false⟩
theorem t23 : TyOK Try.prog 23 ti23 := tyB_ok (by kernel_rfl) (by kernel_rfl)
def ti24 : TI := ⟨1, false, [.raw .nilFunc], [], none, false, false, 0, none, false, false, false, false⟩
theorem t24 : TyOK Try.prog 24 ti24 := tyB_ok (by kernel_rfl) (by kernel_rfl)
def ti25 : TI := ⟨1, false, [.raw .nilFunc], [], none, false, false, 0, none, false, false, false, false⟩
theorem t25 : TyOK Try.prog 25 ti25 := tyB_ok (by kernel_rfl) (by kernel_rfl)
def ti26 : TI := ⟨1, false, [.nilp], [], none, false, false, 0, none, true, false, false, false⟩
theorem t26 : TyOK Try.prog 26 ti26 := tyB_ok (by kernel_rfl) (by kernel_rfl)
def ti27 : TI := ⟨1, false, [.int .i64 0], [], none, false, false, 0, some .i64, false, false, false, false⟩
theorem t27 : TyOK Try.prog 27 ti27 := tyB_ok (by kernel_rfl) (by kernel_rfl)
def ti29 : TI := ⟨1, false, [.raw .nilFunc], [], none, false, false, 0, none, false, false, false, false⟩
theorem t29 : TyOK Try.prog 29 ti29 := tyB_ok (by kernel_rfl) (by kernel_rfl)
def ti30 : TI := ⟨1, false, [.nilp], [], none, false, false, 0, none, true, false, false, false⟩
theorem t30 : TyOK Try.prog 30 ti30 := tyB_ok (by kernel_rfl) (by kernel_rfl)
def ti32 : TI := ⟨1, false, [.raw .nilFunc], [], none, false, false, 0, none, false, false, false, false⟩
theorem t32 : TyOK Try.prog 32 ti32 := tyB_ok (by kernel_rfl) (by kernel_rfl)
def ti33 : TI := ⟨1, false, [.int .u64 0], [], none, false, false, 0, some .u64, false, false, false, false⟩
theorem t33 : TyOK Try.prog 33 ti33 := tyB_ok (by kernel_rfl) (by kernel_rfl)
def ti34 : TI := ⟨1, false, [.sl none none 0 0 2 (fun _ => [])], [], some (87, 2), false, false, 24, none, false, false, false, false⟩
theorem t34 : TyOK Try.prog 34 ti34 := tyB_ok (by kernel_rfl) (by kernel_rfl)
def ti35 : TI := ⟨2, true, [.int .i64 0, .int .u64 0], [(0, 1, false), (1, 1, false)], none, false, false, 0, none, false, false, false, false⟩
theorem t35 : TyOK Try.prog 35 ti35 := tyB_ok (by kernel_rfl) (by kernel_rfl)
def ti36 : TI := ⟨2, true, [.int .i64 0, .int .u64 0], [(0, 1, false), (1, 1, false)], none, false, false, 0, none, false, false, false, false⟩
theorem t36 : TyOK Try.prog 36 ti36 := tyB_ok (by kernel_rfl) (by kernel_rfl)
def ti37 : TI := ⟨5, true, [.int .i64 0, .sl none none 0 0 2 (fun _ => []), .int .i64 0, .int .u64 0, .int .u64 0], [(0, 1, false), (1, 1, false), (2, 2, true), (4, 1, false)], none, false, false, 0, none, false, false, false, false⟩
theorem t37 : TyOK Try.prog 37 ti37 := tyB_ok (by kernel_rfl) (by kernel_rfl)
def ti38 : TI := ⟨5, true, [.int .i64 0, .sl none none 0 0 2 (fun _ => []), .int .i64 0, .int .u64 0, .int .u64 0], [(0, 1, false), (1, 1, false), (2, 2, true), (4, 1, false)], none, false, false, 0, none, false, false, false, false⟩
theorem t38 : TyOK Try.prog 38 ti38 := tyB_ok (by kernel_rfl) (by kernel_rfl)
def ti39 : TI := ⟨8, true, [.int .i64 0, .int .u64 0, .bool .ff, .int .i64 0, .sl none none 0 0 2 (fun _ => []), .int .i64 0, .int .u64 0, .int .u64 0], [(0, 1, false), (1, 1, false), (2, 1, false), (3, 5, true)], none, false, false, 0, none, false, false, false, false⟩
theorem t39 : TyOK Try.prog 39 ti39 := tyB_ok (by kernel_rfl) (by kernel_rfl)
def ti40 : TI := ⟨8, true, [.int .i64 0, .int .u64 0, .bool .ff, .int .i64 0, .sl none none 0 0 2 (fun _ => []), .int .i64 0, .int .u64 0, .int .u64 0], [(0, 1, false), (1, 1, false), (2, 1, false), (3, 5, true)], none, false, false, 0, none, false, false, false, false⟩
theorem t40 : TyOK Try.prog 40 ti40 := tyB_ok (by kernel_rfl) (by kernel_rfl)
def ti42 : TI := ⟨1, false, [.raw .nilFunc], [], none, false, false, 0, none, false, false, false, false⟩
theorem t42 : TyOK Try.prog 42 ti42 := tyB_ok (by kernel_rfl) (by kernel_rfl)
def ti43 : TI := ⟨6, true, [.int .i64 0, .bool .ff, .str ⟨#[]⟩, .sl none none 0 0 2 (fun _ => []), .int .u64 0, .bool .ff], [(0, 1, false), (1, 1, false), (2, 1, false), (3, 1, false), (4, 1, false), (5, 1, false)], none, false, false, 0, none, false, false, false, false⟩
theorem t43 : TyOK Try.prog 43 ti43 := tyB_ok (by kernel_rfl) (by kernel_rfl)
def ti44 : TI := ⟨6, true, [.int .i64 0, .bool .ff, .str ⟨#[]⟩, .sl none none 0 0 2 (fun _ => []), .int .u64 0, .bool .ff], [(0, 1, false), (1, 1, false), (2, 1, false), (3, 1, false), (4, 1, false), (5, 1, false)], none, false, false, 0, none, false, false, false, false⟩
theorem t44 : TyOK Try.prog 44 ti44 := tyB_ok (by kernel_rfl) (by kernel_rfl)
def ti45 : TI := ⟨15, true, [.int .i64 0, .int .i64 0, .int .u64 0, .int .u64 0, .int .i64 0, .sl none none 0 0 2 (fun _ => []), .int .i64 0, .int .u64 0, .int .u64 0, .int .i64 0, .bool .ff, .str ⟨#[]⟩, .sl none none 0 0 2 (fun _ => []), .int .u64 0, .bool .ff], [(0, 1, false), (1, 2, true), (3, 1, false), (4, 5, true), (9, 6, true)], none, false, false, 0, none, false, false, false, false⟩
theorem t45 : TyOK Try.prog 45 ti45 := tyB_ok (by kernel_rfl) (by kernel_rfl)
def ti46 : TI := ⟨15, true, [.int .i64 0, .int .i64 0, .int .u64 0, .int .u64 0, .int .i64 0, .sl none none 0 0 2 (fun _ => []), .int .i64 0, .int .u64 0, .int .u64 0, .int .i64 0, .bool .ff, .str ⟨#[]⟩, .sl none none 0 0 2 (fun _ => []), .int .u64 0, .bool .ff], [(0, 1, false), (1, 2, true), (3, 1, false), (4, 5, true), (9, 6, true)], none, false, false, 0, none, false, false, false, false⟩
theorem t46 : TyOK Try.prog 46 ti46 := tyB_ok (by kernel_rfl) (by kernel_rfl)
def ti47 : TI := ⟨1, false, [.raw .nilFunc], [], none, false, false, 0, none, false, false, false, false⟩
theorem t47 : TyOK Try.prog 47 ti47 := tyB_ok (by kernel_rfl) (by kernel_rfl)
def ti48 : TI := ⟨1, false, [.raw .nilFunc], [], none, false, false, 0, none, false, false, false, false⟩
theorem t48 : TyOK Try.prog 48 ti48 := tyB_ok (by kernel_rfl) (by kernel_rfl)
def ti49 : TI := ⟨1, false, [.sl none none 0 0 9 (fun _ => [])], [], some (78, 9), false, false, 88, none, false, false, false, false⟩
theorem t49 : TyOK Try.prog 49 ti49 := tyB_ok (by kernel_rfl) (by kernel_rfl)
def ti50 : TI := ⟨2, true, [.sl none none 0 0 9 (fun _ => []), .int .i64 0], [(0, 1, false), (1, 1, false)], none, false, false, 0, none, false, false, false, false⟩
theorem t50 : TyOK Try.prog 50 ti50 := tyB_ok (by kernel_rfl) (by kernel_rfl)
def ti51 : TI := ⟨2, true, [.sl none none 0 0 9 (fun _ => []), .int .i64 0], [(0, 1, false), (1, 1, false)], none, false, false, 0, none, false, false, false, false⟩
theorem t51 : TyOK Try.prog 51 ti51 := tyB_ok (by kernel_rfl) (by kernel_rfl)
def ti52 : TI := ⟨1, false, [.raw .nilFunc], [], none, false, false, 0, none, false, false, false, false⟩
theorem t52 : TyOK Try.prog 52 ti52 := tyB_ok (by kernel_rfl) (by kernel_rfl)
def ti53 : TI := ⟨1, false, [.raw .nilFunc], [], none, false, false, 0, none, false, false, false, false⟩
theorem t53 : TyOK Try.prog 53 ti53 := tyB_ok (by kernel_rfl) (by kernel_rfl)
def ti54 : TI := ⟨1, false, [.raw .nilFunc], [], none, false, false, 0, none, false, false, false, false⟩
theorem t54 : TyOK Try.prog 54 ti54 := tyB_ok (by kernel_rfl) (by kernel_rfl)
def ti55 : TI := ⟨1, false, [.raw .nilFunc], [], none, false, false, 0, none, false, false, false, false⟩
theorem t55 : TyOK Try.prog 55 ti55 := tyB_ok (by kernel_rfl) (by kernel_rfl)
def ti56 : TI := ⟨1, false, [.raw .nilFunc], [], none, false, false, 0, none, false, false, false, false⟩
theorem t56 : TyOK Try.prog 56 ti56 := tyB_ok (by kernel_rfl) (by kernel_rfl)
def ti57 : TI := ⟨1, false, [.raw .nilFunc], [], none, false, false, 0, none, false, false, false, false⟩
theorem t57 : TyOK Try.prog 57 ti57 := tyB_ok (by kernel_rfl) (by kernel_rfl)
def ti58 : TI := ⟨1, false, [.raw .nilFunc], [], none, false, false, 0, none, false, false, false, false⟩
theorem t58 : TyOK Try.prog 58 ti58 := tyB_ok (by kernel_rfl) (by kernel_rfl)
def ti59 : TI := ⟨1, false, [.raw .nilFunc], [], none, false, false, 0, none, false, false, false, false⟩
theorem t59 : TyOK Try.prog 59 ti59 := tyB_ok (by kernel_rfl) (by kernel_rfl)
def ti60 : TI := ⟨8, true, [.int .i64 0, .int .u64 0, .int .u64 0, .int .i64 0, .sl none none 0 0 2 (fun _ => []), .int .i64 0, .int .u64 0, .int .u64 0], [(0, 2, true), (2, 1, false), (3, 5, true)], none, false, false, 0, none, false, false, false, false⟩
theorem t60 : TyOK Try.prog 60 ti60 := tyB_ok (by kernel_rfl) (by kernel_rfl)
def ti61 : TI := ⟨8, true, [.int .i64 0, .int .u64 0, .int .u64 0, .int .i64 0, .sl none none 0 0 2 (fun _ => []), .int .i64 0, .int .u64 0, .int .u64 0], [(0, 2, true), (2, 1, false), (3, 5, true)], none, false, false, 0, none, false, false, false, false⟩
theorem t61 : TyOK Try.prog 61 ti61 := tyB_ok (by kernel_rfl) (by kernel_rfl)
def ti62 : TI := ⟨1, false, [.raw .nilFunc], [], none, false, false, 0, none, false, false, false, false⟩
theorem t62 : TyOK Try.prog 62 ti62 := tyB_ok (by kernel_rfl) (by kernel_rfl)
def ti63 : TI := ⟨1, false, [.raw .nilFunc], [], none, false, false, 0, none, false, false, false, false⟩
theorem t63 : TyOK Try.prog 63 ti63 := tyB_ok (by kernel_rfl) (by kernel_rfl)
def ti64 : TI := ⟨1, false, [.raw .nilFunc], [], none, false, false, 0, none, false, false, false, false⟩
theorem t64 : TyOK Try.prog 64 ti64 := tyB_ok (by kernel_rfl) (by kernel_rfl)
def ti65 : TI := ⟨1, false, [.raw .nilFunc], [], none, false, false, 0, none, false, false, false, false⟩
theorem t65 : TyOK Try.prog 65 ti65 := tyB_ok (by kernel_rfl) (by kernel_rfl)
def ti66 : TI := ⟨1, false, [.raw (.map none)], [], none, false, false, 0, none, false, false, false, false⟩
theorem t66 : TyOK Try.prog 66 ti66 := tyB_ok (by kernel_rfl) (by kernel_rfl)
def ti67 : TI := ⟨2, true, [.raw (.map none), .int .i64 0], [(0, 1, false), (1, 1, false)], none, false, false, 0, none, false, false, false, false⟩
theorem t67 : TyOK Try.prog 67 ti67 := tyB_ok (by kernel_rfl) (by kernel_rfl)
def ti68 : TI := ⟨2, true, [.raw (.map none), .int .i64 0], [(0, 1, false), (1, 1, false)], none, false, false, 0, none, false, false, false, false⟩
theorem t68 : TyOK Try.prog 68 ti68 := tyB_ok (by kernel_rfl) (by kernel_rfl)
def ti69 : TI := ⟨7, true, [.int .u64 0, .bool .ff, .int .i64 0, .sl none none 0 0 2 (fun _ => []), .int .i64 0, .int .u64 0, .int .u64 0], [(0, 1, false), (1, 1, false), (2, 5, true)], none, false, false, 0, none, false, false, false, false⟩
theorem t69 : TyOK Try.prog 69 ti69 := tyB_ok (by kernel_rfl) (by kernel_rfl)
def ti70 : TI := ⟨7, true, [.int .u64 0, .bool .ff, .int .i64 0, .sl none none 0 0 2 (fun _ => []), .int .i64 0, .int .u64 0, .int .u64 0], [(0, 1, false), (1, 1, false), (2, 5, true)], none, false, false, 0, none, false, false, false, false⟩
theorem t70 : TyOK Try.prog 70 ti70 := tyB_ok (by kernel_rfl) (by kernel_rfl)
def ti72 : TI := ⟨1, false, [.raw .nilFunc], [], none, false, false, 0, none, false, false, false, false⟩
theorem t72 : TyOK Try.prog 72 ti72 := tyB_ok (by kernel_rfl) (by kernel_rfl)
def ti73 : TI := ⟨1, false, [.raw .nilFunc], [], none, false, false, 0, none, false, false, false, false⟩
theorem t73 : TyOK Try.prog 73 ti73 := tyB_ok (by kernel_rfl) (by kernel_rfl)
def ti75 : TI := ⟨1, false, [.raw .nilFunc], [], none, false, false, 0, none, false, false, false, false⟩
theorem t75 : TyOK Try.prog 75 ti75 := tyB_ok (by kernel_rfl) (by kernel_rfl)
def ti76 : TI := ⟨1, false, [.raw .nilFunc], [], none, false, false, 0, none, false, false, false, false⟩
theorem t76 : TyOK Try.prog 76 ti76 := tyB_ok (by kernel_rfl) (by kernel_rfl)
def ti77 : TI := ⟨9, true, [.int .i64 0, .int .u64 0, .int .u64 0, .int .i64 0, .sl none none 0 0 2 (fun _ => []), .int .i64 0, .int .u64 0, .int .u64 0, .bool .ff], [(0, 8, true), (8, 1, false)], none, false, false, 0, none, false, false, false, false⟩
theorem t77 : TyOK Try.prog 77 ti77 := tyB_ok (by kernel_rfl) (by kernel_rfl)
def ti78 : TI := ⟨9, true, [.int .i64 0, .int .u64 0, .int .u64 0, .int .i64 0, .sl none none 0 0 2 (fun _ => []), .int .i64 0, .int .u64 0, .int .u64 0, .bool .ff], [(0, 8, true), (8, 1, false)], none, false, false, 0, none, false, false, false, false⟩
theorem t78 : TyOK Try.prog 78 ti78 := tyB_ok (by kernel_rfl) (by kernel_rfl)
def ti79 : TI := ⟨1, false, [.raw .nilFunc], [], none, false, false, 0, none, false, false, false, false⟩
theorem t79 : TyOK Try.prog 79 ti79 := tyB_ok (by kernel_rfl) (by kernel_rfl)
def ti80 : TI := ⟨1, false, [.raw .nilFunc], [], none, false, false, 0, none, false, false, false, false⟩
theorem t80 : TyOK Try.prog 80 ti80 := tyB_ok (by kernel_rfl) (by kernel_rfl)
def ti81 : TI := ⟨1, false, [.raw .nilFunc], [], none, false, false, 0, none, false, false, false, false⟩
theorem t81 : TyOK Try.prog 81 ti81 := tyB_ok (by kernel_rfl) (by kernel_rfl)
def ti82 : TI := ⟨1, false, [.raw .nilFunc], [], none, false, false, 0, none, false, false, false, false⟩
theorem t82 : TyOK Try.prog 82 ti82 := tyB_ok (by kernel_rfl) (by kernel_rfl)
def ti83 : TI := ⟨1, false, [.raw .nilFunc], [], none, false, false, 0, none, false, false, false, false⟩
theorem t83 : TyOK Try.prog 83 ti83 := tyB_ok (by kernel_rfl) (by kernel_rfl)
def ti84 : TI := ⟨1, false, [.raw .nilFunc], [], none, false, false, 0, none, false, false, false, false⟩
theorem t84 : TyOK Try.prog 84 ti84 := tyB_ok (by kernel_rfl) (by kernel_rfl)
def ti85 : TI := ⟨1, false, [.raw .nilFunc], [], none, false, false, 0, none, false, false, false, false⟩
theorem t85 : TyOK Try.prog 85 ti85 := tyB_ok (by kernel_rfl) (by kernel_rfl)
def ti86 : TI := ⟨2, true, [.int .u64 0, .str ⟨#[]⟩], [(0, 1, false), (1, 1, false)], none, false, false, 0, none, false, false, false, false⟩
theorem t86 : TyOK Try.prog 86 ti86 := tyB_ok (by kernel_rfl) (by kernel_rfl)
def ti87 : TI := ⟨2, true, [.int .u64 0, .str ⟨#[]⟩], [(0, 1, false), (1, 1, false)], none, false, false, 0, none, false, false, false, false⟩
theorem t87 : TyOK Try.prog 87 ti87 := tyB_ok (by kernel_rfl) (by kernel_rfl)
def ti88 : TI := ⟨1, false, [.raw .nilFunc], [], none, false, false, 0, none, false, false, false, false⟩
theorem t88 : TyOK Try.prog 88 ti88 := tyB_ok (by kernel_rfl) (by kernel_rfl)
def ti89 : TI := ⟨1, false, [.raw .nilFunc], [], none, false, false, 0, none, false, false, false, false⟩
theorem t89 : TyOK Try.prog 89 ti89 := tyB_ok (by kernel_rfl) (by kernel_rfl)
def ti90 : TI := ⟨1, false, [.raw .nilFunc], [], none, false, false, 0, none, false, false, false, false⟩
theorem t90 : TyOK Try.prog 90 ti90 := tyB_ok (by kernel_rfl) (by kernel_rfl)
def ti91 : TI := ⟨1, false, [.raw .nilFunc], [], none, false, false, 0, none, false, false, false, false⟩
theorem t91 : TyOK Try.prog 91 ti91 := tyB_ok (by kernel_rfl) (by kernel_rfl)
def ti92 : TI := ⟨1, false, [.raw .nilFunc], [], none, false, false, 0, none, false, false, false, false⟩
theorem t92 : TyOK Try.prog 92 ti92 := tyB_ok (by kernel_rfl) (by kernel_rfl)
def ti93 : TI := ⟨1, false, [.raw .nilFunc], [], none, false, false, 0, none, false, false, false, false⟩
theorem t93 : TyOK Try.prog 93 ti93 := tyB_ok (by kernel_rfl) (by kernel_rfl)
def ti94 : TI := ⟨1, false, [.raw .nilFunc], [], none, false, false, 0, none, false, false, false, false⟩
theorem t94 : TyOK Try.prog 94 ti94 := tyB_ok (by kernel_rfl) (by kernel_rfl)
def ti95 : TI := ⟨1, false, [.raw .nilFunc], [], none, false, false, 0, none, false, false, false, false⟩
theorem t95 : TyOK Try.prog 95 ti95 := tyB_ok (by kernel_rfl) (by kernel_rfl)
def ti96 : TI := ⟨1, false, [.raw .nilFunc], [], none, false, false, 0, none, false, false, false, false⟩
theorem t96 : TyOK Try.prog 96 ti96 := tyB_ok (by kernel_rfl) (by kernel_rfl)
def ti97 : TI := ⟨1, false, [.int .u64 0], [], none, false, false, 0, some .u64, false, false, false, false⟩
theorem t97 : TyOK Try.prog 97 ti97 := tyB_ok (by kernel_rfl) (by kernel_rfl)
def ti98 : TI := ⟨1, false, [.sl none none 0 0 1 (fun _ => [])], [], some (3, 1), false, false, 8, none, false, false, false, false⟩
theorem t98 : TyOK Try.prog 98 ti98 := tyB_ok (by kernel_rfl) (by kernel_rfl)
def ti99 : TI := ⟨1, false, [.raw .nilFunc], [], none, false, false, 0, none, false, false, false, false⟩
theorem t99 : TyOK Try.prog 99 ti99 := tyB_ok (by kernel_rfl) (by kernel_rfl)
def ti100 : TI := ⟨1, false, [.raw .nilFunc], [], none, false, false, 0, none, false, false, false, false⟩
theorem t100 : TyOK Try.prog 100 ti100 := tyB_ok (by kernel_rfl) (by kernel_rfl)
def ti101 : TI := ⟨1, false, [.raw .nilFunc], [], none, false, false, 0, none, false, false, false, false⟩
theorem t101 : TyOK Try.prog 101 ti101 := tyB_ok (by kernel_rfl) (by kernel_rfl)
def ti102 : TI := ⟨1, false, [.raw .nilFunc], [], none, false, false, 0, none, false, false, false, false⟩
theorem t102 : TyOK Try.prog 102 ti102 := tyB_ok (by kernel_rfl) (by kernel_rfl)
def ti103 : TI := ⟨1, false, [.int .i64 0], [], none, false, false, 0, some .i64, false, false, false, false⟩
theorem t103 : TyOK Try.prog 103 ti103 := tyB_ok (by kernel_rfl) (by kernel_rfl)
def ti105 : TI := ⟨1, false, [.raw .nilFunc], [], none, false, false, 0, none, false, false, false, false⟩
theorem t105 : TyOK Try.prog 105 ti105 := tyB_ok (by kernel_rfl) (by kernel_rfl)
def ti106 : TI := ⟨1, false, [.raw .nilFunc], [], none, false, false, 0, none, false, false, false, false⟩
theorem t106 : TyOK Try.prog 106 ti106 := tyB_ok (by kernel_rfl) (by kernel_rfl)
def ti107 : TI := ⟨1, false, [.raw .nilFunc], [], none, false, false, 0, none, false, false, false, false⟩
theorem t107 : TyOK Try.prog 107 ti107 := tyB_ok (by kernel_rfl) (by kernel_rfl)
def ti108 : TI := ⟨1, false, [.raw .nilFunc], [], none, false, false, 0, none, false, false, false, false⟩
theorem t108 : TyOK Try.prog 108 ti108 := tyB_ok (by kernel_rfl) (by kernel_rfl)
def ti109 : TI := ⟨1, false, [.raw .nilFunc], [], none, false, false, 0, none, false, false, false, false⟩
theorem t109 : TyOK Try.prog 109 ti109 := tyB_ok (by kernel_rfl) (by kernel_rfl)
def ti110 : TI := ⟨1, false, [.int .u32 0], [], none, false, false, 0, some .u32, false, false, false, false⟩
theorem t110 : TyOK Try.prog 110 ti110 := tyB_ok (by kernel_rfl) (by kernel_rfl)
def ti111 : TI := ⟨1, false, [.raw .nilFunc], [], none, false, false, 0, none, false, false, false, false⟩
theorem t111 : TyOK Try.prog 111 ti111 := tyB_ok (by kernel_rfl) (by kernel_rfl)
def ti112 : TI := ⟨1, false, [.int .u64 0], [], none, false, false, 0, some .u64, false, false, false, false⟩
theorem t112 : TyOK Try.prog 112 ti112 := tyB_ok (by kernel_rfl) (by kernel_rfl)
def ti113 : TI := ⟨1, false, [.raw .nilFunc], [], none, false, false, 0, none, false, false, false, false⟩
theorem t113 : TyOK Try.prog 113 ti113 := tyB_ok (by kernel_rfl) (by kernel_rfl)
def ti114 : TI := ⟨1, false, [.raw .nilFunc], [], none, false, false, 0, none, false, false, false, false⟩
theorem t114 : TyOK Try.prog 114 ti114 := tyB_ok (by kernel_rfl) (by kernel_rfl)
def ti115 : TI := ⟨1, false, [.raw .nilFunc], [], none, false, false, 0, none, false, false, false, false⟩
theorem t115 : TyOK Try.prog 115 ti115 := tyB_ok (by kernel_rfl) (by kernel_rfl)
def ti116 : TI := ⟨1, false, [.nilp], [], none, false, false, 0, none, true, false, false, false⟩
theorem t116 : TyOK Try.prog 116 ti116 := tyB_ok (by kernel_rfl) (by kernel_rfl)
def ti117 : TI := ⟨1, false, [.raw .nilFunc], [], none, false, false, 0, none, false, false, false, false⟩
theorem t117 : TyOK Try.prog 117 ti117 := tyB_ok (by kernel_rfl) (by kernel_rfl)
def ti118 : TI := ⟨1, false, [.nilp], [], none, false, false, 0, none, true, false, false, false⟩
theorem t118 : TyOK Try.prog 118 ti118 := tyB_ok (by kernel_rfl) (by kernel_rfl)
def ti120 : TI := ⟨1, false, [.raw .nilFunc], [], none, false, false, 0, none, false, false, false, false⟩
theorem t120 : TyOK Try.prog 120 ti120 := tyB_ok (by kernel_rfl) (by kernel_rfl)
def ti121 : TI := ⟨1, false, [.raw .nilFunc], [], none, false, false, 0, none, false, false, false, false⟩
theorem t121 : TyOK Try.prog 121 ti121 := tyB_ok (by kernel_rfl) (by kernel_rfl)
def ti122 : TI := ⟨4, true, [.nilp, .nilp, .nilp, .str ⟨#[]⟩], [(0, 1, false), (1, 1, false), (2, 1, false), (3, 1, false)], none, false, false, 0, none, false, false, false, false⟩
theorem t122 : TyOK Try.prog 122 ti122 := tyB_ok (by kernel_rfl) (by kernel_rfl)
def ti123 : TI := ⟨4, true, [.nilp, .nilp, .nilp, .str ⟨#[]⟩], [(0, 1, false), (1, 1, false), (2, 1, false), (3, 1, false)], none, false, false, 0, none, false, false, false, false⟩
theorem t123 : TyOK Try.prog 123 ti123 := tyB_ok (by kernel_rfl) (by kernel_rfl)
def ti124 : TI := ⟨0, true, [], [], none, false, false, 0, none, false, false, false, true⟩
theorem t124 : TyOK Try.prog 124 ti124 := tyB_ok (by kernel_rfl) (by kernel_rfl)
def ti127 : TI := ⟨1, false, [.int .u8 0], [], none, false, false, 0, some .u8, false, false, false, false⟩
theorem t127 : TyOK Try.prog 127 ti127 := tyB_ok (by kernel_rfl) (by kernel_rfl)
def ti128 : TI := ⟨1, false, [.int .u8 0], [], none, false, false, 0, some .u8, false, false, false, false⟩
theorem t128 : TyOK Try.prog 128 ti128 := tyB_ok (by kernel_rfl) (by kernel_rfl)
def ti129 : TI := ⟨1, false, [.raw .nilFunc], [], none, false, false, 0, none, false, false, false, false⟩
theorem t129 : TyOK Try.prog 129 ti129 := tyB_ok (by kernel_rfl) (by kernel_rfl)
def ti130 : TI := ⟨1, false, [.nilp], [], none, false, false, 0, none, true, false, false, false⟩
theorem t130 : TyOK Try.prog 130 ti130 := tyB_ok (by kernel_rfl) (by kernel_rfl)
def ti131 : TI := ⟨1, false, [.int .i32 0], [], none, false, false, 0, some .i32, false, false, false, false⟩
theorem t131 : TyOK Try.prog 131 ti131 := tyB_ok (by kernel_rfl) (by kernel_rfl)
def ti132 : TI := ⟨1, false, [.int .i32 0], [], none, false, false, 0, some .i32, false, false, false, false⟩
theorem t132 : TyOK Try.prog 132 ti132 := tyB_ok (by kernel_rfl) (by kernel_rfl)
def ti133 : TI := ⟨11, true, [.int .u64 0, .int .u64 0, .int .u32 0, .int .u8 0, .int .u8 0, .int .u8 0, .int .u8 0, .raw .nilFunc, .nilp, .int .i32 0, .int .i32 0], [(0, 1, false), (1, 1, false), (2, 1, false), (3, 1, false), (4, 1, false), (5, 1, false), (6, 1, false), (7, 1, false), (8, 1, false), (9, 1, false), (10, 1, false)], none, false, false, 0, none, false, false, false, false⟩
theorem t133 : TyOK Try.prog 133 ti133 := tyB_ok (by kernel_rfl) (by kernel_rfl)
def ti134 : TI := ⟨11, true, [.int .u64 0, .int .u64 0, .int .u32 0, .int .u8 0, .int .u8 0, .int .u8 0, .int .u8 0, .raw .nilFunc, .nilp, .int .i32 0, .int .i32 0], [(0, 1, false), (1, 1, false), (2, 1, false), (3, 1, false), (4, 1, false), (5, 1, false), (6, 1, false), (7, 1, false), (8, 1, false), (9, 1, false), (10, 1, false)], none, false, false, 0, none, false, false, false, false⟩
theorem t134 : TyOK Try.prog 134 ti134 := tyB_ok (by kernel_rfl) (by kernel_rfl)
end Go.Proofs.Ythpbihppfijegaa.Sym

namespace Go.Proofs.Ythpbihppfijegaa.Sym
open Go Go.RowKit
set_option maxRecDepth 100000
set_option maxHeartbeats 1600000
set_option linter.unusedVariables false
set_option linter.unusedSimpArgs false
def labAV (l : Lab) : AV := .agg [.int .i64 l.len, .int .u64 l.bits]
/-- the label of a text of bits -/
def ofT (s : ByteArray) : Lab := ⟨s.size, (numB (unB s ++ List.replicate (64 - s.size) 48) : Nat)⟩
theorem eqL_lab (l k : Lab) : eqL [.int .i64 l.len, .int .u64 l.bits] [.int .i64 k.len, .int .u64 k.bits] = decide (l = k) := by
  obtain ⟨a, b⟩ := l
  obtain ⟨c, d⟩ := k
  rw [Bool.eq_iff_iff]
  simp [eqL, eqC]
theorem lab_guard : Try.prog.eqGuardType Try.prog.depth 36 = false := by kernel_rfl
theorem lab_shape : eqShape Try.prog 2 36 = some [.int .i64, .int .u64] := by kernel_rfl
theorem lab_agg : aggB Try.prog 36 = some true := by kernel_rfl
theorem ob_lab {Kk : Kn} (a b c d : Int) : Ob.holds Try.prog Kk (.eql 36 [.int .i64 a, .int .u64 b] [.int .i64 c, .int .u64 d]) := ob_eql lab_shape (by decide) lab_guard lab_agg ⟨rfl, rfl, trivial⟩ ⟨rfl, rfl, trivial⟩
theorem isL_of (l : Lab) (hv : U64 l.bits) (h0 : 0 ≤ l.len) (h1 : l.len ≤ 64) : isL l = decide (ofT ((mkB (lowB 64 l.bits.toNat)).extract 0 l.len.toNat) = l) := by
  have hn : l.len.toNat ≤ 64 := by omega
  have hb : l.bits.toNat < 2 ^ 64 := by have := hv.1; have := hv.2; omega
  have hlen : ((lowB 64 l.bits.toNat).take l.len.toNat).length = l.len.toNat := by rw [List.length_take, lowB_len]; omega
  have e : ofT ((mkB (lowB 64 l.bits.toNat)).extract 0 l.len.toNat) = ⟨l.len, (headN l.bits.toNat l.len.toNat : Nat)⟩ := by
    unfold ofT
    rw [mk_extract, un_mk, List.drop_zero, mk_size, hlen, of_head hb hn]
    congr 1
    omega
  rw [e]
  unfold isL
  rw [Bool.eq_iff_iff]
  obtain ⟨a, b⟩ := l
  simp only at *
  simp [h0, h1]
def T40 : List (Nat × TI) := [(33, ti33)]
theorem T40_ok : TabOK Try.prog T40 := .cons t33 (.nil)
theorem enters40 : Enters Try.prog 40 := fun _ _ => by kernel_rfl
theorem head_s (v n : Int) (hv : U64 v) (h0 : 0 ≤ n) (h1 : n ≤ 64) : Spec Try.prog 40 [.int .u64 v, .int .i64 n] (fun _ => .int .u64 (headN v.toNat n.toNat)) := by
  intro m w hm hargs
  refine enter hm hargs Try.func40 rfl (by simp [Try.ntmps40]) fun a0 hF => ?_
  simp only [Try.ntmps40, startT] at hF
  obtain ⟨B, hB⟩ : ∃ B, B = std := ⟨_, rfl⟩
  refine wp_seq ?_
  apply region_okB hB T40_ok [0, 1] [] [] hF
  case hex => intro A X; conv => lhs; cbv
  case hob =>
    intro X
    subst hB
    simp [AllOb, Ob.holds, BE.den, std, stdCmp, stdArith] <;> omega
  case hQ =>
  intro X0 a0 w1 hF
  refine wp_seq ?_
  apply region_okB hB T40_ok [0, 5] [] [] hF
  case hex => intro A X; conv => lhs; cbv
  case hob =>
    intro X
    subst hB
    simp [AllOb, Ob.holds, BE.den, std, stdCmp, stdArith] <;> omega
  case hQ =>
  intro X1 a0 w1 hF
  refine wp_seq ?_
  apply region_okB hB T40_ok [4] [] [] hF
  case hex => intro A X; conv => lhs; cbv
  case hob =>
    intro X
    subst hB
    simp [AllOb, Ob.holds, BE.den, std, stdCmp, stdArith] <;> omega
  case hQ =>
  intro X2 a0 w1 hF
  refine wp_ret ?_
  refine ret_spec (fn := Try.f40) T40_ok hF (rs := [.tmp 4]) rfl (rfl) ?_ noAtom ?_
  · subst hB; simp [AllOb, Ob.holds]
  · subst hB; simp only [head_std hv h0 h1, std]; rfl
def T24 : List (Nat × TI) := [(3, ti3), (4, ti4), (33, ti33), (36, ti36)]
theorem T24_ok : TabOK Try.prog T24 := .cons t3 (.cons t4 (.cons t33 (.cons t36 (.nil))))
theorem enters24 : Enters Try.prog 24 := fun _ _ => by kernel_rfl
theorem isL_s (l : Lab) (hv : U64 l.bits) : Spec Try.prog 24 [labAV l] (fun _ => .bool (.v (isL l))) := by
  intro m w hm hargs
  simp only [labAV] at hargs ⊢
  have S := fun h0 h1 => head_s l.bits l.len hv h0 h1
  generalize hhd : ((headN l.bits.toNat l.len.toNat : Nat) : Int) = hd at S
  refine enter hm hargs Try.func24 rfl (by simp [Try.ntmps24]) fun a0 hF => ?_
  simp only [Try.ntmps24, startT] at hF
  obtain ⟨B, hB⟩ : ∃ B, B = std := ⟨_, rfl⟩
  refine wp_seq ?_
  apply region_okB hB T24_ok [1] [1] [] hF
  case hex => intro A X; conv => lhs; cbv
  case hob =>
    intro X
    subst hB
    simp [AllOb, Ob.holds, BE.den, std, stdCmp, stdArith] <;> omega
  case hQ =>
  intro X0 a0 w1 hF
  refine wp_seq ?_
  apply drawn_okB hB (by kernel_rfl) T24_ok [2] [] [(13, .r fun _ => .int .u64 hd)] hF rfl
  case hex => intro A X; conv => lhs; cbv
  case hD => kernel_rfl
  case hlen => rfl
  case hob =>
    intro X
    subst hB
    refine ⟨rfl, fun _ => rfl, fun _ => rfl, fun _ => rfl, fun h => ?_, fun _ => rfl, trivial⟩
    have hl := h _ (List.mem_singleton.2 rfl)
    have hl : (0 : Int) ≤ l.len ∧ l.len ≤ 64 := by simpa [std, stdCmp, BE.den] using hl
    exact ⟨enters40, S hl.1 hl.2⟩
  case hQ =>
  intro X1 a0 w1 hF
  refine wp_ret ?_
  refine ret_spec (fn := Try.f24) T24_ok hF (rs := [.tmp 2]) rfl (rfl) ?_ noAtom ?_
  · subst hB; simp [AllOb, Ob.holds]
  · subst hB
    refine congrArg (fun b => AV.bool (.v b)) ?_
    simp only [std, stdCmp, isL, BE.den, hhd]
    by_cases h1 : 0 ≤ l.len <;> by_cases h2 : l.len ≤ 64 <;> simp [h1, h2]
    rfl
def T41 : List (Nat × TI) := [(36, ti36)]
theorem T41_ok : TabOK Try.prog T41 := .cons t36 (.nil)
theorem enters41 : Enters Try.prog 41 := fun _ _ => by kernel_rfl
theorem none_s : Spec Try.prog 41 [] (fun _ => labAV noneL) := by
  intro m w hm hargs
  refine enter hm hargs Try.func41 rfl (by simp [Try.ntmps41]) fun a0 hF => ?_
  simp only [Try.ntmps41, startT] at hF
  obtain ⟨B, hB⟩ : ∃ B, B = std := ⟨_, rfl⟩
  refine wp_seq ?_
  apply region_okB hB T41_ok [0] [0] [] hF
  case hex => intro A X; conv => lhs; cbv
  case hob =>
    intro X
    subst hB
    simp [AllOb, Ob.holds, BE.den, std, stdCmp, stdArith] <;> omega
  case hQ =>
  intro X0 a0 w1 hF
  refine wp_seq ?_
  apply region_okB hB T41_ok [0] [0] [] hF
  case hex => intro A X; conv => lhs; cbv
  case hob =>
    intro X
    subst hB
    simp [AllOb, Ob.holds, BE.den, std, stdCmp, stdArith] <;> omega
  case hQ =>
  intro X1 a0 w1 hF
  refine wp_ret ?_
  refine ret_spec (fn := Try.f41) T41_ok hF (rs := [.cell 0 36]) rfl (by conv => lhs; cbv) ?_ noAtom ?_
  · subst hB; simp [AllOb, Ob.holds]
  · subst hB; rfl
def T33 : List (Nat × TI) := [(36, ti36)]
theorem T33_ok : TabOK Try.prog T33 := .cons t36 (.nil)
theorem enters33 : Enters Try.prog 33 := fun _ _ => by kernel_rfl
theorem rnone_s : Spec Try.prog 33 [] (fun _ => labAV noneL) := by
  intro m w hm hargs
  refine enter hm hargs Try.func33 rfl (by simp [Try.ntmps33]) fun a0 hF => ?_
  simp only [Try.ntmps33, startT] at hF
  obtain ⟨B, hB⟩ : ∃ B, B = std := ⟨_, rfl⟩
  refine wp_seq ?_
  apply region_okB hB T33_ok [0] [0] [] hF
  case hex => intro A X; conv => lhs; cbv
  case hob =>
    intro X
    subst hB
    simp [AllOb, Ob.holds, BE.den, std, stdCmp, stdArith] <;> omega
  case hQ =>
  intro X0 a0 w1 hF
  refine wp_seq ?_
  apply region_okB hB T33_ok [0] [0] [] hF
  case hex => intro A X; conv => lhs; cbv
  case hob =>
    intro X
    subst hB
    simp [AllOb, Ob.holds, BE.den, std, stdCmp, stdArith] <;> omega
  case hQ =>
  intro X1 a0 w1 hF
  refine wp_ret ?_
  refine ret_spec (fn := Try.f33) T33_ok hF (rs := [.cell 0 36]) rfl (by conv => lhs; cbv) ?_ noAtom ?_
  · subst hB; simp [AllOb, Ob.holds]
  · subst hB; rfl
def T45 : List (Nat × TI) := [(3, ti3), (9, ti9), (33, ti33)]
theorem T45_ok : TabOK Try.prog T45 := .cons t3 (.cons t9 (.cons t33 (.nil)))
theorem enters45 : Enters Try.prog 45 := fun _ _ => by kernel_rfl
theorem bits_s (v : Int) (hv : U64 v) : Spec Try.prog 45 [.int .u64 v] (fun _ => .str (mkB (lowB 64 v.toNat))) := by
  intro m w hm hargs
  refine enter hm hargs Try.func45 rfl (by simp [Try.ntmps45]) fun a0 hF => ?_
  simp only [Try.ntmps45, startT] at hF
  obtain ⟨B, hB⟩ : ∃ B, B = std := ⟨_, rfl⟩
  refine wp_seq ?_
  apply region_okB hB T45_ok [0] [] [] hF
  case hex => intro A X; conv => lhs; cbv
  case hob =>
    intro X
    subst hB
    simp [AllOb, Ob.holds, BE.den, std, stdCmp, stdArith] <;> omega
  case hQ =>
  intro X0 a0 w1 hF
  refine wp_seq ?_
  apply region_okB hB T45_ok [0, 3] [] [] hF
  case hex => intro A X; conv => lhs; cbv
  case hob =>
    intro X
    subst hB
    simp [AllOb, Ob.holds, BE.den, std, stdCmp, stdArith] <;> omega
  case hQ =>
  intro X1 a0 w1 hF
  refine wp_seq ?_
  refine wp_seq ?_
  apply region_okB hB T45_ok [0, 3, 4] [] [] hF
  case hex => intro A X; conv => lhs; cbv
  case hob =>
    intro X
    subst hB
    simp [AllOb, Ob.holds, BE.den, std, stdCmp, stdArith] <;> omega
  case hQ =>
  intro X2 a0 w1 hF
  refine wp_block ?_
  have hF : Fits ⟨m, w, fun _ => False, [], noK⟩ ⟨19, [(0, .int .u64 v), (3, .str (mkB [])), (4, .int .i64 ((0 : Nat) : Int))], [], [], []⟩ a0 w1 := hF
  refine loop_pre (ι := Nat × ByteArray × Int) (fun p => [(0, .int .u64 p.2.2), (3, .str p.2.1), (4, .int .i64 (p.1 : Int))]) (fun p => []) (fun p => []) (fun p => p.1 ≤ 64 ∧ p.2.1 = mkB (lowB p.1 v.toNat) ∧ p.2.2 = ((v.toNat / 2 ^ p.1 : Nat) : Int)) (fun p => 64 - p.1) (0, mkB [], v) ⟨by simp, rfl, by have := hv.1; simp only [Nat.pow_zero, Nat.div_one]; omega⟩ hF ?_
  rintro ⟨i, o, x⟩ ⟨hi, ho, hx⟩ a0 w1 hF
  try dsimp only at hi
  try dsimp only at ho
  try dsimp only at hx
  refine wp_seq ?_
  refine wp_seq ?_
  apply region_okB hB T45_ok [6, 0, 3, 4] [] [] hF
  case hex => intro A X; conv => lhs; cbv
  case hob =>
    intro X
    subst hB
    simp [AllOb, Ob.holds, BE.den, std, stdCmp, stdArith] <;> omega
  case hQ =>
  intro X3 a0 w1 hF
  refine test_ok hF rfl (fun hb hF => ?_) (fun hb hF => ?_)
  · skip
    have hin : i < 64 := by
      have : (i : Int) < 64 := by subst hB; simpa [std, stdCmp] using hb
      omega
    refine wp_skip ?_
    refine wp_seq ?_
    refine wp_block ?_
    refine wp_seq ?_
    refine wp_seq ?_
    apply region_okB hB T45_ok [11, 0, 3, 4] [] [] hF
    case hex => intro A X; conv => lhs; cbv
    case hob =>
      intro X
      subst hB
      simp [AllOb, Ob.holds, BE.den, std, stdCmp, stdArith] <;> omega
    case hQ =>
    intro X5 a0 w1 hF
    refine test_ok hF rfl (fun hb hF => ?_) (fun hb hF => ?_)
    · skip
      have hd : dig v.toNat i = 49 := by
        have h1 : (((v.toNat / 2 ^ i : Nat) : Int)).tmod 2 = 1 := by subst hB; rw [hx] at hb; simpa [std, stdCmp, stdDiv] using hb
        have h2 : v.toNat / 2 ^ i % 2 = 1 := by have : (((v.toNat / 2 ^ i % 2 : Nat)) : Int) = 1 := h1; omega
        simp [dig, h2]
      obtain ⟨c, hc⟩ : ∃ c : UInt8, c = 49 := ⟨_, rfl⟩
      apply region_okB hB T45_ok [0, 3, 4] [] [] hF
      case hex => intro A X; conv => lhs; cbv
      case hob =>
        intro X
        subst hB
        refine ⟨?_, trivial⟩
        show (1 : Nat) + o.size ≤ maxLen
        rw [ho, mk_size, lowB_len]; simp only [maxLen]; omega
      case hQ =>
      intro X6 a0 w1 hF
      apply region_okB hB T45_ok [0, 3, 4] [] [] hF
      case hex => intro A X; conv => lhs; cbv
      case hob =>
        intro X
        subst hB
        simp [AllOb, Ob.holds, BE.den, std, stdCmp, stdArith] <;> omega
      case hQ =>
      intro X8 a0 w1 hF
      apply region_okB hB T45_ok [0, 3, 4] [] [] hF
      case hex => intro A X; conv => lhs; cbv
      case hob =>
        intro X
        subst hB
        simp [AllOb, Ob.holds, BE.den, std, stdCmp, stdArith] <;> omega
      case hQ =>
      intro X4 a0 w1 hF
      have e : B.arith .add .i64 (i : Int) 1 = ((i + 1 : Nat) : Int) := by subst hB; exact wrap_succ (n := 64) (by omega) (by decide)
      refine ⟨(i + 1, B.cat ⟨#[c]⟩ o, B.div .quo .u64 x 2), ⟨by simp only; omega, ?_, ?_⟩, by simp only; omega, by rw [← e, hc]; exact hF⟩
      · subst hB; rw [ho]; show mkB [_] ++ mkB (lowB i v.toNat) = mkB (lowB (i + 1) v.toNat)
        rw [mk_append, lowB, hd, hc]; rfl
      · subst hB; rw [hx]; show IntKind.u64.wrap ((((v.toNat / 2 ^ i : Nat) : Int)).tdiv 2) = _
        rw [show (((v.toNat / 2 ^ i : Nat) : Int)).tdiv 2 = ((v.toNat / 2 ^ i / 2 : Nat) : Int) from rfl, Nat.div_div_eq_div_mul, ← Nat.pow_succ]
        refine wrap_u64 _ ⟨Int.natCast_nonneg _, ?_⟩
        have h1 := Nat.div_le_self v.toNat (2 ^ Nat.succ i)
        have := hv.2
        omega
    · skip
      have hd : dig v.toNat i = 48 := by
        have h1 : ¬ (((v.toNat / 2 ^ i : Nat) : Int)).tmod 2 = 1 := by subst hB; rw [hx] at hb; simpa [std, stdCmp, stdDiv] using hb
        have h2 : ¬ v.toNat / 2 ^ i % 2 = 1 := fun h => h1 (by show (((v.toNat / 2 ^ i % 2 : Nat)) : Int) = 1; omega)
        simp [dig, h2]
      obtain ⟨c, hc⟩ : ∃ c : UInt8, c = 48 := ⟨_, rfl⟩
      apply region_okB hB T45_ok [0, 3, 4] [] [] hF
      case hex => intro A X; conv => lhs; cbv
      case hob =>
        intro X
        subst hB
        refine ⟨?_, trivial⟩
        show (1 : Nat) + o.size ≤ maxLen
        rw [ho, mk_size, lowB_len]; simp only [maxLen]; omega
      case hQ =>
      intro X7 a0 w1 hF
      apply region_okB hB T45_ok [0, 3, 4] [] [] hF
      case hex => intro A X; conv => lhs; cbv
      case hob =>
        intro X
        subst hB
        simp [AllOb, Ob.holds, BE.den, std, stdCmp, stdArith] <;> omega
      case hQ =>
      intro X8 a0 w1 hF
      apply region_okB hB T45_ok [0, 3, 4] [] [] hF
      case hex => intro A X; conv => lhs; cbv
      case hob =>
        intro X
        subst hB
        simp [AllOb, Ob.holds, BE.den, std, stdCmp, stdArith] <;> omega
      case hQ =>
      intro X4 a0 w1 hF
      have e : B.arith .add .i64 (i : Int) 1 = ((i + 1 : Nat) : Int) := by subst hB; exact wrap_succ (n := 64) (by omega) (by decide)
      refine ⟨(i + 1, B.cat ⟨#[c]⟩ o, B.div .quo .u64 x 2), ⟨by simp only; omega, ?_, ?_⟩, by simp only; omega, by rw [← e, hc]; exact hF⟩
      · subst hB; rw [ho]; show mkB [_] ++ mkB (lowB i v.toNat) = mkB (lowB (i + 1) v.toNat)
        rw [mk_append, lowB, hd, hc]; rfl
      · subst hB; rw [hx]; show IntKind.u64.wrap ((((v.toNat / 2 ^ i : Nat) : Int)).tdiv 2) = _
        rw [show (((v.toNat / 2 ^ i : Nat) : Int)).tdiv 2 = ((v.toNat / 2 ^ i / 2 : Nat) : Int) from rfl, Nat.div_div_eq_div_mul, ← Nat.pow_succ]
        refine wrap_u64 _ ⟨Int.natCast_nonneg _, ?_⟩
        have h1 := Nat.div_le_self v.toNat (2 ^ Nat.succ i)
        have := hv.2
        omega
  · skip
    have hi2 : i = 64 := by
      have : ¬ (i : Int) < 64 := by subst hB; simpa [std, stdCmp] using hb
      omega
    subst hi2
    refine wp_exit ?_
    refine wp_seq ?_
    apply region_okB hB T45_ok [2] [] [] hF
    case hex => intro A X; conv => lhs; cbv
    case hob =>
      intro X
      subst hB
      simp [AllOb, Ob.holds, BE.den, std, stdCmp, stdArith] <;> omega
    case hQ =>
    intro X9 a0 w1 hF
    refine wp_ret ?_
    refine ret_spec (fn := Try.f45) T45_ok hF (rs := [.tmp 2]) rfl (rfl) ?_ noAtom ?_
    · subst hB; simp [AllOb, Ob.holds]
    · subst hB; rw [ho]; rfl
def T51 : List (Nat × TI) := [(3, ti3), (5, ti5), (9, ti9), (33, ti33)]
theorem T51_ok : TabOK Try.prog T51 := .cons t3 (.cons t5 (.cons t9 (.cons t33 (.nil))))
theorem enters51 : Enters Try.prog 51 := fun _ _ => by kernel_rfl
theorem number_s (s : ByteArray) (hs : ∀ c ∈ unB s, c = 48 ∨ c = 49) (hl : s.size ≤ 64) : Spec Try.prog 51 [.str s] (fun _ => .int .u64 (numB (unB s) : Int)) := by
  intro m w hm hargs
  refine enter hm hargs Try.func51 rfl (by simp [Try.ntmps51]) fun a0 hF => ?_
  simp only [Try.ntmps51, startT] at hF
  obtain ⟨B, hB⟩ : ∃ B, B = std := ⟨_, rfl⟩
  refine wp_seq ?_
  apply region_okB hB T51_ok [0] [] [] hF
  case hex => intro A X; conv => lhs; cbv
  case hob =>
    intro X
    subst hB
    simp [AllOb, Ob.holds, BE.den, std, stdCmp, stdArith] <;> omega
  case hQ =>
  intro X0 a0 w1 hF
  refine wp_seq ?_
  apply region_okB hB T51_ok [0, 3] [] [] hF
  case hex => intro A X; conv => lhs; cbv
  case hob =>
    intro X
    subst hB
    simp [AllOb, Ob.holds, BE.den, std, stdCmp, stdArith] <;> omega
  case hQ =>
  intro X1 a0 w1 hF
  refine wp_seq ?_
  refine wp_seq ?_
  apply region_okB hB T51_ok [3, 4, 0] [] [] hF
  case hex => intro A X; conv => lhs; cbv
  case hob =>
    intro X
    subst hB
    simp [AllOb, Ob.holds, BE.den, std, stdCmp, stdArith] <;> omega
  case hQ =>
  intro X2 a0 w1 hF
  refine wp_block ?_
  have hF : Fits ⟨m, w, fun _ => False, [], noK⟩ ⟨20, [(3, .int .u64 0), (4, .int .i64 ((0 : Nat) : Int)), (0, .str s)], [], [], []⟩ a0 w1 := hF
  refine loop_pre (ι := Nat × Int) (fun p => [(3, .int .u64 p.2), (4, .int .i64 (p.1 : Int))]) (fun p => []) (fun p => []) (fun p => p.1 ≤ s.size ∧ p.2 = (numB ((unB s).take p.1) : Int)) (fun p => s.size - p.1) (0, 0) ⟨Nat.zero_le _, rfl⟩ hF ?_
  rintro ⟨i, x⟩ ⟨hi, hx⟩ a0 w1 hF
  try dsimp only at hi
  try dsimp only at hx
  refine wp_seq ?_
  refine wp_seq ?_
  apply region_okB hB T51_ok [8, 0, 3, 4] [] [] hF
  case hex => intro A X; conv => lhs; cbv
  case hob =>
    intro X
    subst hB
    simp [AllOb, Ob.holds, BE.den, std, stdCmp, stdArith] <;> omega
  case hQ =>
  intro X3 a0 w1 hF
  refine test_ok hF rfl (fun hb hF => ?_) (fun hb hF => ?_)
  · skip
    have hin : i < s.size := by
      have : (i : Int) < (s.size : Int) := by subst hB; simpa [std, stdCmp] using hb
      omega
    refine wp_skip ?_
    refine wp_seq ?_
    refine wp_block ?_
    apply region_okB hB T51_ok [0, 3, 4] [] [] hF
    case hex => intro A X; conv => lhs; cbv
    case hob =>
      intro X
      subst hB
      refine ⟨⟨?_, ?_⟩, trivial⟩
      · show (0 : Int) ≤ (i : Int); omega
      · show (i : Int) < (s.size : Int); omega
    case hQ =>
    intro X5 a0 w1 hF
    apply region_okB hB T51_ok [3, 4, 0] [] [] hF
    case hex => intro A X; conv => lhs; cbv
    case hob =>
      intro X
      subst hB
      simp [AllOb, Ob.holds, BE.den, std, stdCmp, stdArith] <;> omega
    case hQ =>
    intro X4 a0 w1 hF
    have e : B.arith .add .i64 (i : Int) 1 = ((i + 1 : Nat) : Int) := by subst hB; exact wrap_succ (n := s.size) hin (by simp only [maxLen]; omega)
    refine ⟨(i + 1, B.arith .add .u64 (B.arith .mul .u64 2 x) (B.conv .u64 (B.arith .sub .u8 (B.sat s (B.toNat (i : Int))) 48))), ⟨by simp only; omega, ?_⟩, by simp only; omega, by rw [← e]; exact hF⟩
    subst hB
    show std.arith .add .u64 (std.arith .mul .u64 2 x) (std.conv .u64 (std.arith .sub .u8 (std.sat s (std.toNat (i : Int))) 48)) = _
    have hi2 : i < (unB s).length := by rw [un_size]; exact hin
    have hc := hs _ (List.getElem_mem hi2)
    rw [hx]
    show IntKind.u64.wrap (IntKind.u64.wrap (2 * (numB ((unB s).take i) : Int)) + IntKind.u64.wrap (IntKind.u8.wrap (((s[((i : Int)).toNat]?.getD 0).toNat : Int) - 48))) = _
    rw [Int.toNat_natCast, un_get, List.getElem?_eq_getElem hi2, List.take_succ_eq_append_getElem hi2, numB_append]
    have hb1 := numB_lt ((unB s).take i) (fun c hc => hs c (List.mem_of_mem_take hc))
    rw [List.length_take, Nat.min_eq_left (by omega)] at hb1
    have hb2 : 2 ^ i ≤ 2 ^ 63 := Nat.pow_le_pow_right (by decide) (by omega)
    rcases hc with hc | hc
    · rw [hc]
      rw [wrap_u64 (2 * _) ⟨by omega, by omega⟩]
      rw [show IntKind.u64.wrap (IntKind.u8.wrap ((((some (48 : UInt8)).getD 0).toNat : Int) - 48)) = 0 from by decide, Int.add_zero, wrap_u64 _ ⟨by omega, by omega⟩]
      simp [numB]; omega
    · rw [hc]
      rw [wrap_u64 (2 * _) ⟨by omega, by omega⟩]
      rw [show IntKind.u64.wrap (IntKind.u8.wrap ((((some (49 : UInt8)).getD 0).toNat : Int) - 48)) = 1 from by decide, wrap_u64 _ ⟨by omega, by omega⟩]
      simp [numB]; omega
  · skip
    have hi2 : i = s.size := by
      have : ¬ (i : Int) < (s.size : Int) := by subst hB; simpa [std, stdCmp] using hb
      omega
    subst hi2
    refine wp_exit ?_
    refine wp_seq ?_
    apply region_okB hB T51_ok [2] [] [] hF
    case hex => intro A X; conv => lhs; cbv
    case hob =>
      intro X
      subst hB
      simp [AllOb, Ob.holds, BE.den, std, stdCmp, stdArith] <;> omega
    case hQ =>
    intro X6 a0 w1 hF
    refine wp_ret ?_
    refine ret_spec (fn := Try.f51) T51_ok hF (rs := [.tmp 2]) rfl (rfl) ?_ noAtom ?_
    · subst hB; simp [AllOb, Ob.holds]
    · subst hB; rw [hx, List.take_of_length_le (by rw [un_size]; exact Nat.le_refl _)]; rfl
def T52 : List (Nat × TI) := [(3, ti3), (9, ti9)]
theorem T52_ok : TabOK Try.prog T52 := .cons t3 (.cons t9 (.nil))
theorem enters52 : Enters Try.prog 52 := fun _ _ => by kernel_rfl
theorem fill_s (s : ByteArray) (hl : s.size ≤ 64) : Spec Try.prog 52 [.str s, .str ⟨#[48]⟩] (fun _ => .str (mkB (unB s ++ List.replicate (64 - s.size) 48))) := by
  intro m w hm hargs
  refine enter hm hargs Try.func52 rfl (by simp [Try.ntmps52]) fun a0 hF => ?_
  simp only [Try.ntmps52, startT] at hF
  obtain ⟨B, hB⟩ : ∃ B, B = std := ⟨_, rfl⟩
  refine wp_seq ?_
  apply region_okB hB T52_ok [0, 1] [] [] hF
  case hex => intro A X; conv => lhs; cbv
  case hob =>
    intro X
    subst hB
    simp [AllOb, Ob.holds, BE.den, std, stdCmp, stdArith] <;> omega
  case hQ =>
  intro X0 a0 w1 hF
  refine wp_seq ?_
  refine wp_block ?_
  refine loop_pre (ι := Nat × ByteArray) (fun p => [(0, .str p.2)]) (fun p => []) (fun p => []) (fun p => p.1 ≤ 64 - s.size ∧ p.2 = mkB (unB s ++ List.replicate p.1 48)) (fun p => 64 - p.1) (0, s) ⟨Nat.zero_le _, by simp [mk_un]⟩ hF ?_
  rintro ⟨i, o⟩ ⟨hi, ho⟩ a0 w1 hF
  try dsimp only at hi
  try dsimp only at ho
  refine wp_seq ?_
  refine wp_seq ?_
  apply region_okB hB T52_ok [7, 0, 1] [] [] hF
  case hex => intro A X; conv => lhs; cbv
  case hob =>
    intro X
    subst hB
    simp [AllOb, Ob.holds, BE.den, std, stdCmp, stdArith] <;> omega
  case hQ =>
  intro X1 a0 w1 hF
  refine test_ok hF rfl (fun hb hF => ?_) (fun hb hF => ?_)
  · skip
    have hsz : o.size = s.size + i := by rw [ho, mk_size]; simp [un_size]
    have hin : o.size < 64 := by
      have : (o.size : Int) < 64 := by subst hB; simpa [std, stdCmp] using hb
      omega
    refine wp_skip ?_
    refine wp_block ?_
    apply region_okB hB T52_ok [0, 1] [] [] hF
    case hex => intro A X; conv => lhs; cbv
    case hob =>
      intro X
      subst hB
      refine ⟨?_, trivial⟩
      show o.size + 1 ≤ maxLen
      simp only [maxLen]; omega
    case hQ =>
    intro X2 a0 w1 hF
    refine ⟨(i + 1, B.cat o ⟨#[48]⟩), ⟨?_, ?_⟩, by simp only; omega, hF⟩
    · simp only; omega
    · subst hB; rw [ho]; show mkB _ ++ mkB [48] = _
      rw [mk_append, List.append_assoc, ← List.replicate_succ']
  · skip
    have hsz : o.size = s.size + i := by rw [ho, mk_size]; simp [un_size]
    have hi2 : ¬ o.size < 64 := by
      have : ¬ (o.size : Int) < 64 := by subst hB; simpa [std, stdCmp] using hb
      omega
    have hi3 : i = 64 - s.size := by omega
    refine wp_exit ?_
    refine wp_seq ?_
    apply region_okB hB T52_ok [4] [] [] hF
    case hex => intro A X; conv => lhs; cbv
    case hob =>
      intro X
      subst hB
      simp [AllOb, Ob.holds, BE.den, std, stdCmp, stdArith] <;> omega
    case hQ =>
    intro X3 a0 w1 hF
    refine wp_ret ?_
    refine ret_spec (fn := Try.f52) T52_ok hF (rs := [.tmp 4]) rfl (rfl) ?_ noAtom ?_
    · subst hB; simp [AllOb, Ob.holds]
    · subst hB; rw [← hi3, ← ho]; rfl
def T44 : List (Nat × TI) := [(9, ti9), (36, ti36)]
theorem T44_ok : TabOK Try.prog T44 := .cons t9 (.cons t36 (.nil))
theorem enters44 : Enters Try.prog 44 := fun _ _ => by kernel_rfl
theorem of_s (s : ByteArray) (hs : ∀ c ∈ unB s, c = 48 ∨ c = 49) (hl : s.size ≤ 64) : Spec Try.prog 44 [.str s] (fun _ => labAV (ofT s)) := by
  intro m w hm hargs
  have S1 := fill_s s hl
  have S2 := number_s (mkB (unB s ++ List.replicate (64 - s.size) 48)) (fun c hc => by rw [un_mk] at hc; rcases List.mem_append.1 hc with hc | hc; exact hs c hc; exact .inl (List.eq_of_mem_replicate hc)) (by rw [mk_size]; simp [un_size]; omega)
  rw [un_mk] at S2
  have e0 : labAV (ofT s) = .agg [.int .i64 (s.size : Int), .int .u64 (numB (unB s ++ List.replicate (64 - s.size) 48) : Int)] := rfl
  rw [e0]
  generalize mkB (unB s ++ List.replicate (64 - s.size) 48) = f at S1 S2
  generalize ((numB (unB s ++ List.replicate (64 - s.size) 48) : Nat) : Int) = q at S2 ⊢
  refine enter hm hargs Try.func44 rfl (by simp [Try.ntmps44]) fun a0 hF => ?_
  simp only [Try.ntmps44, startT] at hF
  obtain ⟨B, hB⟩ : ∃ B, B = std := ⟨_, rfl⟩
  refine wp_seq ?_
  apply region_okB hB T44_ok [0, 2] [2] [] hF
  case hex => intro A X; conv => lhs; cbv
  case hob =>
    intro X
    subst hB
    simp [AllOb, Ob.holds, BE.den, std, stdCmp, stdArith] <;> omega
  case hQ =>
  intro X0 a0 w1 hF
  refine wp_seq ?_
  apply region_okB hB T44_ok [2] [2] [(3, .r fun _ => .str f), (4, .r fun _ => .int .u64 q)] hF
  case hex => intro A X; conv => lhs; cbv
  case hob =>
    intro X
    exact ⟨⟨enters52, S1⟩, ⟨enters51, S2⟩, rfl, trivial⟩
  case hQ =>
  intro X1 a0 w1 hF
  refine wp_ret ?_
  refine ret_spec (fn := Try.f44) T44_ok hF (rs := [.cell 2 36]) rfl (by conv => lhs; cbv) ?_ noAtom ?_
  · subst hB; simp [AllOb, Ob.holds]
  · subst hB; rfl
def T28 : List (Nat × TI) := [(3, ti3), (4, ti4), (9, ti9), (33, ti33), (36, ti36)]
theorem T28_ok : TabOK Try.prog T28 := .cons t3 (.cons t4 (.cons t9 (.cons t33 (.cons t36 (.nil)))))
theorem enters28 : Enters Try.prog 28 := fun _ _ => by kernel_rfl
theorem risL_s (l : Lab) (hv : U64 l.bits) : Spec Try.prog 28 [labAV l] (fun _ => .bool (.v (isL l))) := by
  intro m w hm hargs
  simp only [labAV] at hargs ⊢
  have S1 := bits_s l.bits hv
  have S2 := fun h1 => of_s ((mkB (lowB 64 l.bits.toNat)).extract 0 l.len.toNat) (fun c hc => by rw [un_extract, un_mk] at hc; exact lowB_mem c (List.mem_of_mem_take (List.mem_of_mem_drop hc))) h1
  have hz : (mkB (lowB 64 l.bits.toNat)).size = 64 := by rw [mk_size, lowB_len]
  have hE := isL_of l hv
  generalize mkB (lowB 64 l.bits.toNat) = bs at S1 S2 hz hE
  simp only [labAV] at S2
  generalize ofT (bs.extract 0 l.len.toNat) = k at S2 hE
  refine enter hm hargs Try.func28 rfl (by simp [Try.ntmps28]) fun a0 hF => ?_
  simp only [Try.ntmps28, startT] at hF
  obtain ⟨B, hB⟩ : ∃ B, B = std := ⟨_, rfl⟩
  refine wp_seq ?_
  apply region_okB hB T28_ok [1] [1] [] hF
  case hex => intro A X; conv => lhs; cbv
  case hob =>
    intro X
    subst hB
    simp [AllOb, Ob.holds, BE.den, std, stdCmp, stdArith] <;> omega
  case hQ =>
  intro X0 a0 w1 hF
  refine wp_seq ?_
  refine wp_seq ?_
  apply region_okB hB T28_ok [10, 1] [1] [] hF
  case hex => intro A X; conv => lhs; cbv
  case hob =>
    intro X
    subst hB
    simp [AllOb, Ob.holds, BE.den, std, stdCmp, stdArith] <;> omega
  case hQ =>
  intro X1 a0 w1 hF
  refine test_ok hF rfl (fun hb hF => ?_) (fun hb hF => ?_)
  · skip
    have hout : l.len < 0 ∨ 64 < l.len := by
      subst hB
      by_cases h : l.len < 0
      · exact .inl h
      · exact .inr (by simpa [std, stdCmp, BE.den, h] using hb)
    refine wp_seq ?_
    apply region_okB hB T28_ok [2] [] [] hF
    case hex => intro A X; conv => lhs; cbv
    case hob =>
      intro X
      subst hB
      simp [AllOb, Ob.holds, BE.den, std, stdCmp, stdArith] <;> omega
    case hQ =>
    intro X2 a0 w1 hF
    refine wp_ret ?_
    refine ret_spec (fn := Try.f28) T28_ok hF (rs := [.tmp 2]) rfl (rfl) ?_ noAtom ?_
    · subst hB; simp [AllOb, Ob.holds]
    · have : isL l = false := by
        unfold isL
        rcases hout with h | h
        · simp [show ¬ 0 ≤ l.len by omega]
        · simp [show ¬ l.len ≤ 64 by omega]
      rw [this]; rfl
  · skip
    have hin : 0 ≤ l.len ∧ l.len ≤ 64 := by
      subst hB
      by_cases h : l.len < 0
      · simp [std, stdCmp, BE.den, h] at hb
      · have : l.len ≤ 64 := by simpa [std, stdCmp, BE.den, h] using hb
        omega
    refine wp_skip ?_
    refine wp_seq ?_
    apply drawn_okB hB (by kernel_rfl) T28_ok [2] [] [(2, .r fun _ => .str bs), (6, .r fun _ => .agg [.int .i64 k.len, .int .u64 k.bits])] hF rfl
    case hex => intro A X; conv => lhs; cbv
    case hD => kernel_rfl
    case hlen => rfl
    case hob =>
      intro X
      subst hB
      have hin : 0 ≤ l.len ∧ l.len ≤ 64 := hin
      refine ⟨rfl, ⟨enters45, S1⟩, rfl, ⟨by decide, hin.1, by show l.len ≤ (bs.size : Int); rw [hz]; exact hin.2⟩, ⟨enters44, S2 (by rw [ByteArray.size_extract]; omega)⟩, rfl, ob_lab _ _ _ _, trivial⟩
    case hQ =>
    intro X3 a0 w1 hF
    refine wp_ret ?_
    refine ret_spec (fn := Try.f28) T28_ok hF (rs := [.tmp 2]) rfl (rfl) ?_ noAtom ?_
    · subst hB; simp [AllOb, Ob.holds]
    · subst hB
      refine congrArg (fun b => AV.bool (.v b)) ?_
      rw [hE hin.1 hin.2]
      exact eqL_lab _ _
end Go.Proofs.Ythpbihppfijegaa.Sym

namespace Go.Proofs.Ythpbihppfijegaa.Sym
open Go Go.RowKit
set_option maxRecDepth 100000
set_option maxHeartbeats 1600000
set_option linter.unusedVariables false
set_option linter.unusedSimpArgs false
def T62 : List (Nat × TI) := [(3, ti3), (5, ti5), (9, ti9), (33, ti33)]
theorem T62_ok : TabOK Try.prog T62 := .cons t3 (.cons t5 (.cons t9 (.cons t33 (.nil))))
theorem enters62 : Enters Try.prog 62 := fun _ _ => by kernel_rfl
theorem len64_s (v : Int) (hv : U64 v) : Spec Try.prog 62 [.int .u64 v] (fun _ => .int .i64 (Lib.bitLen v.toNat : Int)) := by
  intro m w hm hargs
  have hv1 := hv.1
  have hv2 := hv.2
  refine enter hm hargs Try.func62 rfl (by simp [Try.ntmps62]) fun a0 hF => ?_
  simp only [Try.ntmps62, startT] at hF
  obtain ⟨B, hB⟩ : ∃ B, B = std := ⟨_, rfl⟩
  refine wp_seq ?_
  apply region_okB hB T62_ok [0, 2] [] [] hF
  case hex => intro A X; conv => lhs; cbv
  case hob =>
    intro X
    subst hB
    simp [AllOb, Ob.holds, BE.den, std, stdCmp, stdArith] <;> omega
  case hQ =>
  intro X0 a0 w1 hF
  refine wp_seq ?_
  refine wp_seq ?_
  apply region_okB hB T62_ok [4, 0, 2] [] [] hF
  case hex => intro A X; conv => lhs; cbv
  case hob =>
    intro X
    subst hB
    simp [AllOb, Ob.holds, BE.den, std, stdCmp, stdArith] <;> omega
  case hQ =>
  intro X1 a0 w1 hF
  refine cut_one (ι := Int × Int) (S0 := [(4, _), (0, _), (2, _)]) (M0 := []) (G0 := []) (fun p => [(0, .int .u64 p.1), (2, .int .i64 p.2)]) (fun p => []) (fun p => []) (fun p => 0 ≤ p.1 ∧ p.1 < 4294967296 ∧ 0 ≤ p.2 ∧ p.2 ≤ 32 ∧ (Lib.bitLen v.toNat : Int) = p.2 + Lib.bitLen p.1.toNat) hF ?_ ?_
  · skip
    refine test_ok hF rfl (fun hb hF => ?_) (fun hb hF => ?_)
    · skip
      have hge : 4294967296 ≤ v := by subst hB; simpa [std, stdCmp] using hb
      have ex : B.shift .shr .u64 v 32 = ((v.toNat / 4294967296 : Nat) : Int) := by subst hB; exact shr_u64 ⟨by omega, by omega⟩ 32 (by decide)
      have ey := Lib.bitLen_shift32 v.toNat (by omega) (by omega)
      have q1 : 0 ≤ B.shift .shr .u64 v 32 := by rw [ex]; omega
      have q2 : B.shift .shr .u64 v 32 < 4294967296 := by rw [ex]; omega
      have q3 : (0 : Int) ≤ 32 := by decide
      have q4 : (32 : Int) ≤ 32 := by decide
      have q5 : (Lib.bitLen v.toNat : Int) = 32 + Lib.bitLen (B.shift .shr .u64 v 32).toNat := by rw [ex, Int.toNat_natCast, ey]; simp
      refine wp_seq ?_
      apply region_okB hB T62_ok [0] [] [] hF
      case hex => intro A X; conv => lhs; cbv
      case hob =>
        intro X
        subst hB
        simp [AllOb, Ob.holds, BE.den, std, stdCmp, stdArith] <;> omega
      case hQ =>
      intro X2 a0 w1 hF
      apply region_okB hB T62_ok [0, 2] [] [] hF
      case hex => intro A X; conv => lhs; cbv
      case hob =>
        intro X
        subst hB
        simp [AllOb, Ob.holds, BE.den, std, stdCmp, stdArith] <;> omega
      case hQ =>
      intro X3 a0 w1 hF
      exact ⟨(_, _), ⟨q1, q2, q3, q4, q5⟩, hF⟩
    · skip
      have hlt : v < 4294967296 := by subst hB; simpa [std, stdCmp] using hb
      have q1 : 0 ≤ v := by omega
      have q2 : v < 4294967296 := hlt
      have q3 : 0 ≤ (0 : Int) := by omega
      have q4 : (0 : Int) ≤ 32 := by omega
      have q5 : (Lib.bitLen v.toNat : Int) = (0 : Int) + Lib.bitLen v.toNat := by simp
      refine wp_skip ?_
      exact ⟨(_, _), ⟨q1, q2, q3, q4, q5⟩, hF⟩
  · rintro ⟨x4, n4⟩ ⟨ha4, hb4, hc4, hd4, he4⟩ a0 w1 hF
    try dsimp only at ha4
    try dsimp only at hb4
    try dsimp only at hc4
    try dsimp only at hd4
    try dsimp only at he4
    refine wp_seq ?_
    refine wp_seq ?_
    apply region_okB hB T62_ok [8, 0, 2] [] [] hF
    case hex => intro A X; conv => lhs; cbv
    case hob =>
      intro X
      subst hB
      simp [AllOb, Ob.holds, BE.den, std, stdCmp, stdArith] <;> omega
    case hQ =>
    intro X4 a0 w1 hF
    refine cut_one (ι := Int × Int) (S0 := [(8, _), (0, _), (2, _)]) (M0 := []) (G0 := []) (fun p => [(0, .int .u64 p.1), (2, .int .i64 p.2)]) (fun p => []) (fun p => []) (fun p => 0 ≤ p.1 ∧ p.1 < 65536 ∧ 0 ≤ p.2 ∧ p.2 ≤ 48 ∧ (Lib.bitLen v.toNat : Int) = p.2 + Lib.bitLen p.1.toNat) hF ?_ ?_
    · skip
      refine test_ok hF rfl (fun hb hF => ?_) (fun hb hF => ?_)
      · skip
        have hge : 65536 ≤ x4 := by subst hB; simpa [std, stdCmp] using hb
        have ex : B.shift .shr .u64 x4 16 = ((x4.toNat / 65536 : Nat) : Int) := by subst hB; exact shr_u64 ⟨by omega, by omega⟩ 16 (by decide)
        have ey := Lib.bitLen_shift16 x4.toNat (by omega) (by omega)
        have en : B.arith .add .i64 n4 16 = n4 + 16 := by subst hB; exact wrap_in (by omega) (by omega)
        have q1 : 0 ≤ B.shift .shr .u64 x4 16 := by rw [ex]; omega
        have q2 : B.shift .shr .u64 x4 16 < 65536 := by rw [ex]; omega
        have q3 : 0 ≤ B.arith .add .i64 n4 16 := by rw [en]; omega
        have q4 : B.arith .add .i64 n4 16 ≤ 48 := by rw [en]; omega
        have q5 : (Lib.bitLen v.toNat : Int) = B.arith .add .i64 n4 16 + Lib.bitLen (B.shift .shr .u64 x4 16).toNat := by rw [en, ex, Int.toNat_natCast, he4, ey]; omega
        refine wp_seq ?_
        apply region_okB hB T62_ok [0, 2] [] [] hF
        case hex => intro A X; conv => lhs; cbv
        case hob =>
          intro X
          subst hB
          simp [AllOb, Ob.holds, BE.den, std, stdCmp, stdArith] <;> omega
        case hQ =>
        intro X5 a0 w1 hF
        apply region_okB hB T62_ok [0, 2] [] [] hF
        case hex => intro A X; conv => lhs; cbv
        case hob =>
          intro X
          subst hB
          simp [AllOb, Ob.holds, BE.den, std, stdCmp, stdArith] <;> omega
        case hQ =>
        intro X6 a0 w1 hF
        exact ⟨(_, _), ⟨q1, q2, q3, q4, q5⟩, hF⟩
      · skip
        have hlt : x4 < 65536 := by subst hB; simpa [std, stdCmp] using hb
        have q1 : 0 ≤ x4 := by omega
        have q2 : x4 < 65536 := hlt
        have q3 : 0 ≤ n4 := by omega
        have q4 : n4 ≤ 48 := by omega
        have q5 : (Lib.bitLen v.toNat : Int) = n4 + Lib.bitLen x4.toNat := by exact he4
        refine wp_skip ?_
        exact ⟨(_, _), ⟨q1, q2, q3, q4, q5⟩, hF⟩
    · rintro ⟨x8, n8⟩ ⟨ha8, hb8, hc8, hd8, he8⟩ a0 w1 hF
      try dsimp only at ha8
      try dsimp only at hb8
      try dsimp only at hc8
      try dsimp only at hd8
      try dsimp only at he8
      refine wp_seq ?_
      refine wp_seq ?_
      apply region_okB hB T62_ok [14, 0, 2] [] [] hF
      case hex => intro A X; conv => lhs; cbv
      case hob =>
        intro X
        subst hB
        simp [AllOb, Ob.holds, BE.den, std, stdCmp, stdArith] <;> omega
      case hQ =>
      intro X7 a0 w1 hF
      refine cut_one (ι := Int × Int) (S0 := [(14, _), (0, _), (2, _)]) (M0 := []) (G0 := []) (fun p => [(0, .int .u64 p.1), (2, .int .i64 p.2)]) (fun p => []) (fun p => []) (fun p => 0 ≤ p.1 ∧ p.1 < 256 ∧ 0 ≤ p.2 ∧ p.2 ≤ 56 ∧ (Lib.bitLen v.toNat : Int) = p.2 + Lib.bitLen p.1.toNat) hF ?_ ?_
      · skip
        refine test_ok hF rfl (fun hb hF => ?_) (fun hb hF => ?_)
        · skip
          have hge : 256 ≤ x8 := by subst hB; simpa [std, stdCmp] using hb
          have ex : B.shift .shr .u64 x8 8 = ((x8.toNat / 256 : Nat) : Int) := by subst hB; exact shr_u64 ⟨by omega, by omega⟩ 8 (by decide)
          have ey := Lib.bitLen_shift8 x8.toNat (by omega) (by omega)
          have en : B.arith .add .i64 n8 8 = n8 + 8 := by subst hB; exact wrap_in (by omega) (by omega)
          have q1 : 0 ≤ B.shift .shr .u64 x8 8 := by rw [ex]; omega
          have q2 : B.shift .shr .u64 x8 8 < 256 := by rw [ex]; omega
          have q3 : 0 ≤ B.arith .add .i64 n8 8 := by rw [en]; omega
          have q4 : B.arith .add .i64 n8 8 ≤ 56 := by rw [en]; omega
          have q5 : (Lib.bitLen v.toNat : Int) = B.arith .add .i64 n8 8 + Lib.bitLen (B.shift .shr .u64 x8 8).toNat := by rw [en, ex, Int.toNat_natCast, he8, ey]; omega
          refine wp_seq ?_
          apply region_okB hB T62_ok [0, 2] [] [] hF
          case hex => intro A X; conv => lhs; cbv
          case hob =>
            intro X
            subst hB
            simp [AllOb, Ob.holds, BE.den, std, stdCmp, stdArith] <;> omega
          case hQ =>
          intro X8 a0 w1 hF
          apply region_okB hB T62_ok [0, 2] [] [] hF
          case hex => intro A X; conv => lhs; cbv
          case hob =>
            intro X
            subst hB
            simp [AllOb, Ob.holds, BE.den, std, stdCmp, stdArith] <;> omega
          case hQ =>
          intro X9 a0 w1 hF
          exact ⟨(_, _), ⟨q1, q2, q3, q4, q5⟩, hF⟩
        · skip
          have hlt : x8 < 256 := by subst hB; simpa [std, stdCmp] using hb
          have q1 : 0 ≤ x8 := by omega
          have q2 : x8 < 256 := hlt
          have q3 : 0 ≤ n8 := by omega
          have q4 : n8 ≤ 56 := by omega
          have q5 : (Lib.bitLen v.toNat : Int) = n8 + Lib.bitLen x8.toNat := by exact he8
          refine wp_skip ?_
          exact ⟨(_, _), ⟨q1, q2, q3, q4, q5⟩, hF⟩
      · rintro ⟨x14, n14⟩ ⟨ha14, hb14, hc14, hd14, he14⟩ a0 w1 hF
        try dsimp only at ha14
        try dsimp only at hb14
        try dsimp only at hc14
        try dsimp only at hd14
        try dsimp only at he14
        refine wp_seq ?_
        apply region_okB hB T62_ok [2] [] [] hF
        case hex => intro A X; conv => lhs; cbv
        case hob =>
          intro X
          subst hB
          refine ⟨⟨?_, ?_⟩, trivial⟩
          · show 0 ≤ IntKind.u8.wrap x14
            obtain ⟨k, rfl⟩ := Int.eq_ofNat_of_zero_le ha14
            rw [wrap_u8]; omega
          · show IntKind.u8.wrap x14 < ((256 : Nat) : Int)
            obtain ⟨k, rfl⟩ := Int.eq_ofNat_of_zero_le ha14
            rw [wrap_u8]; omega
        case hQ =>
        intro X10 a0 w1 hF
        refine wp_ret ?_
        refine ret_spec (fn := Try.f62) T62_ok hF (rs := [.tmp 2]) rfl (rfl) ?_ noAtom ?_
        · subst hB; simp [AllOb, Ob.holds]
        · subst hB
          refine congrArg (AV.int IntKind.i64) ?_
          show IntKind.i64.wrap (n14 + IntKind.i64.wrap ((lenTab[(IntKind.u8.wrap x14).toNat]?.getD 0).toNat : Int)) = _
          obtain ⟨k, rfl⟩ := Int.eq_ofNat_of_zero_le ha14
          have hk : k < 256 := by omega
          rw [wrap_u8, Int.toNat_natCast, Nat.mod_eq_of_lt hk]
          have ht := lenTab_ok ⟨k, hk⟩
          have hm := Lib.bitLen_le8 ⟨k, hk⟩
          simp only at ht hm
          rw [ht, wrap_i64n _ (by omega), he14, Int.toNat_natCast]
          exact wrap_in (by omega) (by omega)
end Go.Proofs.Ythpbihppfijegaa.Sym
