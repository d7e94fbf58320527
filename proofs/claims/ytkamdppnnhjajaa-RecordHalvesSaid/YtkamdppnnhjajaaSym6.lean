/-
  The symbolic executor is right: a list of operations, a region in the order of its text, a test, a loop, the end of a call. Over any program. Conditions: none.
-/
import Derived.Test.YtkamdppnnhjajaaSym5
namespace Go.Proofs.Ytkamdppnnhjajaa.Sym
open Go.RowKit
set_option linter.unusedVariables false
set_option linter.unusedSimpArgs false

def slotV (s : St) (t : Nat) : AV := match lookG s.gs t with
  | some (_, v) => v
  | none => look s.tmps t
def conds (s : St) : List (Nat × Bool) → Option (List (BE × Bool))
  | [] => some []
  | (t, b) :: l => match slotV s t, conds s l with
    | .bool e, some r => some ((e, b) :: r)
    | _, _ => none
def inNt (s : St) : Option Nat → Bool
  | none => true
  | some d => Nat.blt d s.nt
def dstOf : Option Nat → Nat
  | none => 0
  | some d => d
/-- what an operation looks at and writes: its slot, the slots that it hangs on, the blocks that it reads, those that it writes -/
structure Foot where
  d : Option Nat
  cons : List Nat
  rk : List Nat
  wk : List Nat
  qs : List Nat
  rg : List Nat
  wg : List Nat
inductive Put where
  | plain (v : AV)
  | guarded (q : List (Nat × Bool)) (v : AV)
structure Delta where
  e : Eff
  d : Option Nat
  p : Put
def St.app (s : St) (δ : Delta) : St := match δ.p, δ.d with
  | .plain v, d => (s.eff δ.e).put d v
  | .guarded q v, some d => (s.eff δ.e).putG d q v
  | .guarded _ _, none => s
def tl : List Operand → List Nat
  | [] => []
  | .tmp t :: l => t :: tl l
  | _ :: l => tl l
def calleeOps : Callee → List Operand
  | .value o => [o]
  | _ => []
def tmpsOf : Op → List Nat
  | .move x | .nilCheck x | .assign x | .box _ x | .load _ x | .fieldAddr _ x _ | .field _ x _ | .extract x _ | .unOp _ _ x | .makeInterface _ x => tl [x]
  | .pick c a b => tl [c, a, b]
  | .build _ ps => tl (ps.toList.map (·.2))
  | .convert _ _ x => tl [x]
  | .buildSlice _ _ ps => tl (ps.toList.map (·.2))
  | .slice _ x lo hi mx => tl (x :: (lo.toList ++ (hi.toList ++ mx.toList)))
  | .store _ a v | .binOp _ _ a v _ | .indexAddr _ a v | .index _ a v => tl [a, v]
  | .call c => tl (calleeOps c.callee ++ c.args.toList)
  | .makeFunc _ first cap => tl (first.toList ++ cap.toList)
  | _ => []
def keyOf : AV → List Nat
  | .ptr key _ _ => [key]
  | _ => []
def rkOf (s : St) (q : List (Nat × Bool)) : Op → List Nat
  | .load _ p | .store _ p _ => keyOf (val s q p)
  | _ => []
def wkOf : Eff → List Nat
  | .new k _ => [k]
  | .set k _ => [k]
  | .sets l => l.map (·.1)
  | _ => []
def wgOf : Eff → List Nat
  | .grow k _ => [k]
  | _ => []
def growKey : AV → List Nat
  | .sl (some g) _ _ _ _ _ => [g]
  | _ => []
def rgOf (s : St) (q : List (Nat × Bool)) : Op → List Nat
  | .call c => match c.args.toList with
    | o :: _ => growKey (val s q o)
    | [] => []
  | _ => []
/-- an operation that is carried out -/
def runU (A : Alg) (T : List (Nat × TI)) (cs : List (Nat × CS)) (x : Atom) (i : Nat) (o : Oper) (s : St) (ex : List Nat) : Option (Delta × List Ob × Foot) :=
  match step A T cs x i s [] (dstOf o.dst) o.type o.op, inNt s o.dst with
  | some (v, e, obs), true => some (⟨e, o.dst, .plain v⟩, obs, ⟨o.dst, tmpsOf o.op ++ ex, rkOf s [] o.op ++ wkOf e, wkOf e, [], rgOf s [] o.op, wgOf e⟩)
  | _, _ => none
/-- an operation that is not carried out -/
def skipU (o : Oper) (s : St) (ex : List Nat) : Option (Delta × List Ob × Foot) := if inNt s o.dst then some (⟨.no, o.dst, .plain .undef⟩, [], ⟨o.dst, ex, [], [], [], [], []⟩) else none
/-- an operation that is carried out if q holds -/
def runG (A : Alg) (T : List (Nat × TI)) (cs : List (Nat × CS)) (x : Atom) (i : Nat) (o : Oper) (s : St) (ex : List Nat) (q : List (Nat × Bool)) : Option (Delta × List Ob × Foot) :=
  match o.dst with
  | none => none
  | some d => match step A T cs x i s q d o.type o.op, conds s q with
    | some (v, .no, obs), some c => if Nat.blt d s.nt && !(mentions q d) && v.known then some (⟨.no, o.dst, .guarded q v⟩, obs.map (Ob.und c), ⟨o.dst, tmpsOf o.op ++ (ex ++ q.map (·.1)), rkOf s q o.op, [], q.map (·.1), rgOf s q o.op, []⟩) else none
    | _, _ => none
def delta (A : Alg) (T : List (Nat × TI)) (cs : List (Nat × CS)) (x : Atom) (all : List Oper) (i : Nat) (o : Oper) (s : St) : Option (Delta × List Ob × Foot) :=
  match o.guard with
  | none => runU A T cs x i o s []
  | some (j, want) => match (all[j]?).bind (·.dst) with
    | none => none
    | some g => match lookG s.gs g with
      | some (p, .bool .tt) => if want then runG A T cs x i o s [g] p else skipU o s [g]
      | some (p, .bool .ff) => if want then skipU o s [g] else runG A T cs x i o s [g] p
      | some (p, .bool (.v _)) => runG A T cs x i o s [g] ((g, want) :: p)
      | some _ => none
      | none => match look s.tmps g with
        | .bool .tt => if want then runU A T cs x i o s [g] else skipU o s [g]
        | .bool .ff => if want then skipU o s [g] else runU A T cs x i o s [g]
        | .bool (.v _) => runG A T cs x i o s [g] [(g, want)]
        | _ => none
def AllOb (P : Program) : List Ob → Prop
  | [] => True
  | o :: l => o.holds P ∧ AllOb P l
theorem AllOb.mem {P : Program} {l : List Ob} (h : AllOb P l) : ∀ o ∈ l, o.holds P := by
  induction l with
  | nil => intro o ho; cases ho
  | cons x l ih =>
    intro o ho
    rcases List.mem_cons.1 ho with rfl | ho
    · exact h.1
    · exact ih h.2 o ho
theorem AllOb.app {P : Program} {l r : List Ob} : AllOb P (l ++ r) ↔ AllOb P l ∧ AllOb P r := by
  induction l with
  | nil => simp [AllOb]
  | cons x l ih => simp [AllOb, ih, and_assoc]

section
variable {C : Cx} {s : St} {a : Act} {w : World} {P : Program} {K : Act → World → Prop} {Q : Exit → Act → World → Prop} {T : List (Nat × TI)} {cs : List (Nat × CS)} {ops : Array Oper}
theorem conds_ok (h : Fits C s a w) {q : List (Nat × Bool)} (hq : Path a q) : ∀ {c}, conds s q = some c → ∀ e ∈ c, e.1.den = e.2 := by
  induction q with
  | nil => intro c hc; simp [conds] at hc; subst hc; intro e he; cases he
  | cons y q ih =>
    obtain ⟨t, b⟩ := y
    intro c hc
    simp only [conds] at hc
    split at hc
    · rename_i e r he hr
      injection hc with hc; subst hc
      intro x hx
      rcases List.mem_cons.1 hx with rfl | hx
      · have ht := hq (t, b) (by simp)
        simp only at ht
        unfold slotV at he
        split at he
        · rename_i p v hg
          subst he
          have := h.gs _ _ _ hg rfl
          by_cases hp : Path a p
          · have := (this.1 hp).1
            rw [ht] at this
            injection this with this; injection this with this; exact this.symm
          · have := this.2 hp
            rw [ht] at this
            cases this
        · have := (h.slot t (by rw [he]; rfl)).1
          rw [ht, he] at this
          injection this with this; injection this with this; exact this.symm
      · exact ih (fun x hx => hq x (by simp [hx])) hr x hx
    · cases hc
theorem inNt_lt {d : Option Nat} (h : inNt s d = true) : ∀ t, d = some t → t < s.nt := by
  intro t ht
  subst ht
  simpa [inNt] using h
theorem eff_nt (e : Eff) : (s.eff e).nt = s.nt := by cases e <;> rfl
theorem runU_ok (hT : TabOK P T) {i : Nat} {o : Oper} {ex : List Nat} (h : Fits C s a w) (hs : ∀ x, ∃ r, runU std T cs x i o s ex = some r ∧ AllOb P r.2.1)
    (hK : ∀ x r a' w', runU std T cs x i o s ex = some r → Fits C (s.app r.1) a' w' → K a' w') : o.wp P a w K Q := by
  refine step_sound (cs := cs) (i := i) (d := dstOf o.dst) (q := []) hT h (fun e he => by cases he) (fun x => ?_) fun x r w' hr hf hok => ?_
  · obtain ⟨r, hr, hob⟩ := hs x
    unfold runU at hr
    split at hr
    · rename_i v e obs hst _
      injection hr with hr; subst hr
      exact ⟨_, hst, hob.mem⟩
    · cases hr
  · obtain ⟨r', hr', _⟩ := hs x
    have hr2 := hr'
    unfold runU at hr'
    rw [hr] at hr'
    obtain ⟨v, e, obs⟩ := r
    split at hr'
    · rename_i v' e' obs' heq hnt
      injection heq with heq; injection heq with h1 h2; injection h2 with h2 h3
      subst h1; subst h2; subst h3
      injection hr' with hr'; subst hr'
      refine hK x _ _ w' hr2 (hf.put o.dst ?_ v hok v.den fun _ => rfl)
      rw [eff_nt]; exact inNt_lt hnt
    · cases hr'
theorem runG_ok (hT : TabOK P T) {i : Nat} {o : Oper} {ex : List Nat} {q : List (Nat × Bool)} (h : Fits C s a w) (hw : Region.wanted o (yielded ops a.tmps) = true ↔ Path a q) (hs : ∀ x, ∃ r, runG std T cs x i o s ex q = some r ∧ AllOb P r.2.1)
    (hK : ∀ x r a' w', runG std T cs x i o s ex q = some r → Fits C (s.app r.1) a' w' → K a' w') : if Region.wanted o (yielded ops a.tmps) then o.wp P a w K Q else K (a.put o.dst Go.undef) w := by
  have base : ∀ x r, runG std T cs x i o s ex q = some r → ∃ d v obs c, o.dst = some d ∧ step std T cs x i s q d o.type o.op = some (v, .no, obs) ∧ conds s q = some c ∧ d < s.nt ∧ (∀ y ∈ q, y.1 ≠ d) ∧ v.known = true ∧ r.1 = ⟨.no, some d, .guarded q v⟩ ∧ r.2.1 = obs.map (Ob.und c) := by
    intro x r hr
    unfold runG at hr
    split at hr
    · cases hr
    · rename_i d hd
      split at hr
      · rename_i v obs c hst hc
        split at hr
        · rename_i hb
          simp only [Bool.and_eq_true, Bool.not_eq_true'] at hb
          injection hr with hr
          refine ⟨d, v, obs, c, hd, hst, hc, (by simpa using hb.1.1), not_mentions (by simp [hb.1.2]), hb.2, ?_, ?_⟩
          · rw [← hr, hd]
          · rw [← hr]
        · cases hr
      · cases hr
  obtain ⟨d, v0, obs0, c0, hd, _, _, hdn, hqd, _, _⟩ := base _ _ (hs ⟨0, fun _ => none, fun _ => 0, fun _ => .empty⟩).choose_spec.1
  split
  · rename_i hwt
    have hq := hw.1 hwt
    refine step_sound (cs := cs) (i := i) (d := d) (q := q) hT h hq (fun x => ?_) fun x r w' hr hf hok => ?_
    · obtain ⟨r, hr, hob⟩ := hs x
      obtain ⟨d', v, obs, c, hd', hst, hc, _, _, _, _, ho⟩ := base x r hr
      have : d' = d := by rw [hd] at hd'; injection hd' with e; exact e.symm
      subst this
      refine ⟨_, hst, fun ob hob' => ?_⟩
      rw [ho] at hob
      have := hob.mem (.und c ob) (List.mem_map.2 ⟨ob, hob', rfl⟩)
      exact this (conds_ok h hq hc)
    · obtain ⟨r', hr', _⟩ := hs x
      obtain ⟨d', v, obs, c, hd', hst, hc, hlt, hne, hk, hr1, _⟩ := base x r' hr'
      have : d' = d := by rw [hd] at hd'; injection hd' with e; exact e.symm
      subst this
      rw [hst] at hr; injection hr with hr; subst hr
      rw [hd]
      refine hK x r' _ w' hr' ?_
      rw [hr1]
      exact hf.putG d' (by rw [eff_nt]; exact hlt) q hne v v.den ⟨fun _ => ⟨rfl, hok hk⟩, fun hn => absurd hq hn⟩
  · rename_i hwt
    have hq : ¬ Path a q := fun hp => hwt (hw.2 hp)
    obtain ⟨r, hr, _⟩ := hs ⟨0, fun _ => none, fun _ => 0, fun _ => .empty⟩
    obtain ⟨d', v, obs, c, hd', hst, hc, hlt, hne, hk, hr1, _⟩ := base _ r hr
    rw [hd']
    refine hK _ r _ w hr ?_
    rw [hr1]
    exact h.putG d' hlt q hne v Go.undef ⟨fun hp => absurd hp hq, fun _ => rfl⟩
theorem skipU_ok {o : Oper} {ex : List Nat} (h : Fits C s a w) {r : Delta × List Ob × Foot} (hr : skipU o s ex = some r) : Fits C (s.app r.1) (a.put o.dst Go.undef) w := by
  unfold skipU at hr
  split at hr
  · rename_i hn
    injection hr with hr; subst hr
    exact h.put o.dst (inNt_lt hn) .undef (fun hk => by cases hk) _ (fun hk => by cases hk)
  · cases hr
theorem delta_ok (hT : TabOK P T) {i : Nat} {o : Oper} {all : List Oper} (hall : ops = all.toArray) (h : Fits C s a w) (hs : ∀ x, ∃ r, delta std T cs x all i o s = some r ∧ AllOb P r.2.1)
    (hK : ∀ x r a' w', delta std T cs x all i o s = some r → Fits C (s.app r.1) a' w' → K a' w') : if Region.wanted o (yielded ops a.tmps) then o.wp P a w K Q else K (a.put o.dst Go.undef) w := by
  cases hg : o.guard with
  | none =>
    have hw : Region.wanted o (yielded ops a.tmps) = true := by simp [Region.wanted, hg]
    rw [if_pos hw]
    simp only [delta, hg] at hs hK
    exact runU_ok hT h hs hK
  | some gw =>
    obtain ⟨j, want⟩ := gw
    simp only [delta, hg] at hs hK
    cases hd : (all[j]?).bind (·.dst) with
    | none => simp only [hd] at hs; obtain ⟨r, hr, _⟩ := hs ⟨0, fun _ => none, fun _ => 0, fun _ => .empty⟩; cases hr
    | some g =>
      simp only [hd] at hs hK
      have hy : Region.wanted o (yielded ops a.tmps) = true ↔ a.tmps[g]? = some (.bool want) := by
        subst hall
        have hd' : ((all.toArray)[j]?).bind (·.dst) = some g := by simpa using hd
        simp only [Region.wanted, hg, yielded, hd', Option.bind_some]
        cases hv : a.tmps[g]? with
        | none => simp
        | some v => cases v <;> simp
      have skip : ∀ r, skipU o s [g] = some r → ¬ Region.wanted o (yielded ops a.tmps) = true → (∀ (x : Atom) (r : Delta × List Ob × Foot) (a' : Act) (w' : World), skipU o s [g] = some r → Fits C (s.app r.1) a' w' → K a' w') → if Region.wanted o (yielded ops a.tmps) then o.wp P a w K Q else K (a.put o.dst Go.undef) w := by
        intro r hr hn hk
        rw [if_neg hn]
        exact hk ⟨0, fun _ => none, fun _ => 0, fun _ => .empty⟩ r _ _ hr (skipU_ok h hr)
      cases hlg : lookG s.gs g with
      | some pv =>
        obtain ⟨p, v⟩ := pv
        have hgs := fun hk => h.gs _ _ _ hlg hk
        simp only [hlg] at hs hK
        cases v with
        | bool e =>
          have hgs := hgs rfl
          have hp : ∀ b, e.den = b → (a.tmps[g]? = some (.bool b) ↔ Path a p) := by
            intro b hb
            constructor
            · intro ht
              by_cases hpp : Path a p
              · exact hpp
              · have := hgs.2 hpp; rw [ht] at this; cases this
            · intro hpp
              have := (hgs.1 hpp).1
              rw [this, ← hb]; rfl
          have hpn : ∀ b, e.den ≠ b → ¬ a.tmps[g]? = some (.bool b) := by
            intro b hb ht
            by_cases hpp : Path a p
            · have := (hgs.1 hpp).1
              rw [ht] at this
              injection this with this; injection this with this
              exact hb this.symm
            · have := hgs.2 hpp; rw [ht] at this; cases this
          cases e with
          | tt =>
            simp only at hs hK
            cases want with
            | true =>
              simp only [if_true] at hs hK
              exact runG_ok hT h (hy.trans (hp true rfl)) hs hK
            | false =>
              simp only [Bool.false_eq_true, if_false] at hs hK
              obtain ⟨r, hr, _⟩ := hs ⟨0, fun _ => none, fun _ => 0, fun _ => .empty⟩
              exact skip r hr (fun hw => hpn false (by simp [BE.den]) (hy.1 hw)) (fun x => hK x)
          | ff =>
            simp only at hs hK
            cases want with
            | true =>
              simp only [if_true] at hs hK
              obtain ⟨r, hr, _⟩ := hs ⟨0, fun _ => none, fun _ => 0, fun _ => .empty⟩
              exact skip r hr (fun hw => hpn true (by simp [BE.den]) (hy.1 hw)) (fun x => hK x)
            | false =>
              simp only [Bool.false_eq_true, if_false] at hs hK
              exact runG_ok hT h (hy.trans (hp false rfl)) hs hK
          | v b =>
            simp only at hs hK
            refine runG_ok hT h (hy.trans ?_) hs hK
            constructor
            · intro ht x hx
              rcases List.mem_cons.1 hx with rfl | hx
              · exact ht
              · by_cases hpp : Path a p
                · exact hpp x hx
                · have := hgs.2 hpp; rw [ht] at this; cases this
            · intro hpp; exact hpp (g, want) (by simp)
        | _ => obtain ⟨r, hr, _⟩ := hs ⟨0, fun _ => none, fun _ => 0, fun _ => .empty⟩; cases hr
      | none =>
        simp only [hlg] at hs hK
        cases hv : look s.tmps g with
        | bool e =>
          have hsl := (h.slot g (by rw [hv]; rfl)).1
          rw [hv] at hsl
          simp only [hv] at hs hK
          cases e with
          | tt =>
            simp only at hs hK
            cases want with
            | true =>
              simp only [if_true] at hs hK
              rw [if_pos (hy.2 hsl)]
              exact runU_ok hT h hs hK
            | false =>
              simp only [Bool.false_eq_true, if_false] at hs hK
              obtain ⟨r, hr, _⟩ := hs ⟨0, fun _ => none, fun _ => 0, fun _ => .empty⟩
              exact skip r hr (fun hw => by rw [hy.1 hw] at hsl; cases hsl) (fun x => hK x)
          | ff =>
            simp only at hs hK
            cases want with
            | true =>
              simp only [if_true] at hs hK
              obtain ⟨r, hr, _⟩ := hs ⟨0, fun _ => none, fun _ => 0, fun _ => .empty⟩
              exact skip r hr (fun hw => by rw [hy.1 hw] at hsl; cases hsl) (fun x => hK x)
            | false =>
              simp only [Bool.false_eq_true, if_false] at hs hK
              rw [if_pos (hy.2 hsl)]
              exact runU_ok hT h hs hK
          | v b =>
            simp only at hs hK
            refine runG_ok hT h (hy.trans ?_) hs hK
            constructor
            · intro ht x hx
              rcases List.mem_cons.1 hx with rfl | hx
              · exact ht
              · cases hx
            · intro hpp; exact hpp (g, want) (by simp)
        | _ => simp only [hv] at hs; obtain ⟨r, hr, _⟩ := hs ⟨0, fun _ => none, fun _ => 0, fun _ => .empty⟩; cases hr
end

/-! ### lists of operations -/
def exec (A : Alg) (T : List (Nat × TI)) (cs : List (Nat × CS)) (X : Nat → Atom) (all : List Oper) : List (Nat × Oper) → St → Option (St × List Ob × List Foot)
  | [], s => some (s, [], [])
  | (i, o) :: l, s => match delta A T cs (X i) all i o s with
    | none => none
    | some (δ, ob, f) => match exec A T cs X all l (s.app δ) with
      | none => none
      | some (s'', ob', fs) => some (s'', ob ++ ob', f :: fs)
def number : Nat → List Oper → List (Nat × Oper)
  | _, [] => []
  | i, o :: l => (i, o) :: number (i + 1) l
theorem number_lt : ∀ {l : List Oper} {i : Nat}, ∀ x ∈ number i l, i ≤ x.1
  | [], i, x, h => by cases h
  | o :: l, i, x, h => by
    rcases List.mem_cons.1 h with rfl | h
    · exact Nat.le_refl _
    · have := number_lt x h; omega
theorem exec_congr {A : Alg} {T : List (Nat × TI)} {cs : List (Nat × CS)} {X Y : Nat → Atom} {all : List Oper} : ∀ (l : List (Nat × Oper)) (s : St), (∀ x ∈ l, X x.1 = Y x.1) → exec A T cs X all l s = exec A T cs Y all l s
  | [], _, _ => rfl
  | (i, o) :: l, s, h => by
    simp only [exec]
    rw [h (i, o) (by simp)]
    cases delta A T cs (Y i) all i o s with
    | none => rfl
    | some r => obtain ⟨δ, ob, f⟩ := r; simp only; rw [exec_congr l _ (fun x hx => h x (by simp [hx]))]
section
variable {C : Cx} {P : Program} {Q : Exit → Act → World → Prop} {T : List (Nat × TI)} {cs : List (Nat × CS)} {ops : Array Oper} {all : List Oper}
theorem exec_cons {X : Nat → Atom} {i : Nat} {o : Oper} {l : List (Nat × Oper)} {s : St} {A : Alg} {r} (hr : exec A T cs X all ((i, o) :: l) s = some r) :
    ∃ δ ob f r', delta A T cs (X i) all i o s = some (δ, ob, f) ∧ exec A T cs X all l (s.app δ) = some r' ∧ r = (r'.1, ob ++ r'.2.1, f :: r'.2.2) := by
  simp only [exec] at hr
  split at hr
  · cases hr
  · rename_i δ ob f he
    split at hr
    · cases hr
    · rename_i s'' ob' fs he'
      injection hr with hr
      exact ⟨δ, ob, f, _, he, he', hr.symm⟩
theorem exec_ok (hT : TabOK P T) (hall : ops = all.toArray) : ∀ (l : List Oper) (i : Nat) (s : St) (a : Act) (w : World), Fits C s a w → (∀ X, ∃ r, exec std T cs X all (number i l) s = some r ∧ AllOb P r.2.1) →
    (∀ X r a' w', exec std T cs X all (number i l) s = some r → Fits C r.1 a' w' → Q .normal a' w') → wpList P ops Q l a w
  | [], i, s, a, w, h, hs, hQ => wpList_nil (hQ (fun _ => ⟨0, fun _ => none, fun _ => 0, fun _ => .empty⟩) _ a w rfl h)
  | o :: l, i, s, a, w, h, hs, hQ => by
    refine wpList_step fun K hK => ?_
    refine delta_ok (cs := cs) (i := i) hT hall h (fun x => ?_) fun x r a' w' hr hf => hK _ _ ?_
    · obtain ⟨r, hr, hob⟩ := hs (fun _ => x)
      obtain ⟨δ, ob, f, r', h1, h2, rfl⟩ := exec_cons hr
      exact ⟨_, h1, (AllOb.app.1 hob).1⟩
    · -- behind it: the same atoms from here on
      have put : ∀ X : Nat → Atom, ∃ Y : Nat → Atom, Y i = x ∧ ∀ j, i + 1 ≤ j → Y j = X j := fun X => ⟨fun j => if j = i then x else X j, by simp, fun j hj => by simp only; rw [if_neg (by omega)]⟩
      refine exec_ok hT hall l (i + 1) (s.app r.1) a' w' hf (fun X => ?_) fun X r' a'' w'' hr' hf' => ?_
      · obtain ⟨Y, hY, hYX⟩ := put X
        obtain ⟨r1, h1, hob⟩ := hs Y
        obtain ⟨δ, ob, f, r2, h2, h3, rfl⟩ := exec_cons h1
        rw [hY, hr] at h2; injection h2 with h2; subst h2
        rw [exec_congr _ _ (fun x hx => hYX x.1 (number_lt x hx))] at h3
        exact ⟨r2, h3, (AllOb.app.1 hob).2⟩
      · obtain ⟨Y, hY, hYX⟩ := put X
        obtain ⟨r1, h1, hob⟩ := hs Y
        have h1' := h1
        obtain ⟨δ, ob, f, r2, h2, h3, rfl⟩ := exec_cons h1
        rw [hY, hr] at h2; injection h2 with h2; subst h2
        rw [exec_congr _ _ (fun x hx => hYX x.1 (number_lt x hx)), hr'] at h3; injection h3 with h3; subst h3
        exact hQ Y _ a'' w'' h1' hf'
/-- what of the slots is carried on -/
def keepL (tmps : List (Nat × AV)) : List Nat → List (Nat × AV)
  | [] => []
  | t :: l => if (look tmps t).known then (t, look tmps t) :: keepL tmps l else keepL tmps l
def keepM {α : Type} (mem : List (Nat × α)) : List Nat → List (Nat × α)
  | [] => []
  | t :: l => match lookM mem t with
    | some b => (t, b) :: keepM mem l
    | none => keepM mem l
def St.keep (s : St) (l m : List Nat) : St := { s with tmps := keepL s.tmps l, gs := [], mem := keepM s.mem m, gr := keepM s.gr m }
theorem keepM_look {α : Type} (mem : List (Nat × α)) (t : Nat) : ∀ {l b}, lookM (keepM mem l) t = some b → lookM mem t = some b
  | [], b, h => by cases h
  | k :: l, b, h => by
    simp only [keepM] at h
    split at h
    · rename_i b' hk
      rw [lookM_cons] at h
      split at h
      · rename_i he; injection h with h; subst h; subst he; exact hk
      · exact keepM_look mem t h
    · exact keepM_look mem t h
theorem keepL_look (tmps : List (Nat × AV)) (t : Nat) : ∀ l, (look (keepL tmps l) t).known = true → look (keepL tmps l) t = look tmps t
  | [], h => by cases h
  | k :: l, h => by
    simp only [keepL] at h ⊢
    split
    · rename_i hk
      rw [if_pos hk] at h
      rw [look_cons] at h ⊢
      by_cases he : k = t
      · subst he; rw [if_pos rfl]
      · rw [if_neg he] at h ⊢; exact keepL_look tmps t l h
    · rename_i hk
      rw [if_neg hk] at h
      exact keepL_look tmps t l h
theorem Fits.keep {s : St} {a : Act} {w : World} (h : Fits C s a w) (l m : List Nat) : Fits C (s.keep l m) a w := by
  have mono : ∀ v, Ok (s.m C) w v → Ok ((s.keep l m).m C) w v := fun v hv => hv.mono fun b o u h1 h2 => ⟨h1, fun h3 => by
    rcases h3 with h3 | ⟨k, e, he, h3⟩ | ⟨k, t, ht, h3⟩
    · exact h2 (.inl h3)
    · exact h2 (.inr (.inl ⟨k, e, keepM_look _ _ he, h3⟩))
    · exact h2 (.inr (.inr ⟨k, t, keepM_look _ _ ht, h3⟩))⟩
  refine ⟨h.size, h.defers, fun t ht => ?_, (fun t p v he => by cases he), fun k e he => ?_, fun k k' e e' he he' => h.nodup k k' e e' (keepM_look _ _ he) (keepM_look _ _ he'), fun k t ht => h.gr k t (keepM_look _ _ ht), fun k t k' e ht he => h.sepm k t k' e (keepM_look _ _ ht) (keepM_look _ _ he), fun k t k' t' b h1 h2 => h.sepg k t k' t' b (keepM_look _ _ h1) (keepM_look _ _ h2), h.chg, h.m0⟩
  · have e := keepL_look s.tmps t l ht
    have ht' : (look (keepL s.tmps l) t).known = true := ht
    rw [e] at ht'
    have := h.slot t ht'
    show a.tmps[t]? = some (look (keepL s.tmps l) t).den ∧ Ok _ _ (look (keepL s.tmps l) t)
    rw [e]
    exact ⟨this.1, mono _ this.2⟩
  · obtain ⟨h1, h2, h3⟩ := h.mem k e (keepM_look _ _ he)
    exact ⟨h1, fun v hv => ⟨(h2 v hv).1, mono _ (h2 v hv).2⟩, h3⟩
/-- a region in the order of its text -/
theorem region_ok {s : St} {a : Act} {w : World} {id : Nat} {l : List Oper} (hT : TabOK P T) (kp km : List Nat) (cs : List (Nat × CS)) (h : Fits C s a w) {R : Alg → (Nat → Atom) → St × List Ob}
    (hex : ∀ A X, (exec A T cs X l (number 0 l) s).map (fun r => (r.1.keep kp km, r.2.1)) = some (R A X)) (hob : ∀ X, AllOb P (R std X).2) (hQ : ∀ X a' w', Fits C (R std X).1 a' w' → Q .normal a' w') : (Code.region id l.toArray false).wp P Q a w := by
  refine wp_region_lit (exec_ok (cs := cs) hT rfl l 0 s a w h (fun X => ?_) fun X r a' w' hr hf => ?_)
  · obtain ⟨r, hr, e⟩ := Option.map_eq_some_iff.1 (hex std X)
    refine ⟨r, hr, ?_⟩
    have := hob X
    rw [← e] at this
    exact this
  · have e := hex std X
    rw [hr] at e
    injection e with e
    refine hQ X a' w' ?_
    rw [← e]
    exact hf.keep kp km
theorem cond_ok {s : St} {a : Act} {w : World} {t : Nat} {b : Bool} {x y : Code} (h : Fits C s a w) (hv : look s.tmps t = .bool (.v b)) (h1 : b = true → x.wp P Q a w) (h2 : b = false → y.wp P Q a w) : (Code.cond (.tmp t) x y).wp P Q a w := by
  have := (h.slot t (by rw [hv]; rfl)).1
  rw [hv] at this
  refine wp_cond_split (t := b) ?_ h1 h2
  simp [Act.eval, this, AV.den, BE.den]
theorem cond_tt {s : St} {a : Act} {w : World} {t : Nat} {x y : Code} (h : Fits C s a w) (hv : look s.tmps t = .bool .tt) (h1 : x.wp P Q a w) : (Code.cond (.tmp t) x y).wp P Q a w := by
  have := (h.slot t (by rw [hv]; rfl)).1
  rw [hv] at this
  exact wp_cond_true (by simp [Act.eval, this, AV.den, BE.den]) h1
theorem cond_ff {s : St} {a : Act} {w : World} {t : Nat} {x y : Code} (h : Fits C s a w) (hv : look s.tmps t = .bool .ff) (h1 : y.wp P Q a w) : (Code.cond (.tmp t) x y).wp P Q a w := by
  have := (h.slot t (by rw [hv]; rfl)).1
  rw [hv] at this
  exact wp_cond_false (by simp [Act.eval, this, AV.den, BE.den]) h1
/-- a loop, by what each round's head is -/
theorem loop_ok {ι : Type} (S : ι → St) (J : ι → Prop) (μ : ι → Nat) {c : Code} {a : Act} {w : World} (p₀ : ι) (h₀ : J p₀) (hf : Fits C (S p₀) a w)
    (round : ∀ p, J p → ∀ a w, Fits C (S p) a w → c.wp P (Exit.then (fun a' w' => ∃ p', J p' ∧ μ p' < μ p ∧ Fits C (S p') a' w') Q) a w) : (Code.loop c).wp P Q a w := by
  intro b k fs
  have key : ∀ n p a w, μ p = n → J p → Fits C (S p) a w →
      ∃ e a' w', Q e a' w' ∧ Arrives P (lone (b.at a (.code c :: .inLoop c :: k)) fs w) b k fs e a' w' := by
    intro n
    induction n using Nat.strongRecOn with
    | _ n ih =>
      intro p a w hn hJ hF
      obtain ⟨e, a₁, w₁, hq, harr⟩ := round p hJ a w hF b (.inLoop c :: k) fs
      cases e with
      | normal =>
        obtain ⟨p', hJ', hlt, hF'⟩ := hq
        obtain ⟨e₂, a₂, w₂, hq₂, harr₂⟩ := ih (μ p') (hn ▸ hlt) p' a₁ w₁ rfl hJ' hF'
        exact ⟨e₂, a₂, w₂, hq₂, .of_steps (Steps.trans harr (.one step_inLoop)) harr₂⟩
      | exit id => exact ⟨_, a₁, w₁, hq, .pass (x := .inLoop c) rfl (fun _ _ => .inl (by simp)) harr⟩
      | goto l => exact ⟨_, a₁, w₁, hq, .pass (x := .inLoop c) rfl (fun _ _ => .inl (by simp)) harr⟩
      | ret => exact ⟨_, a₁, w₁, hq, .pass (x := .inLoop c) rfl (fun _ _ => .inl (by simp)) harr⟩
      | panic ch => exact ⟨_, a₁, w₁, hq, .pass (x := .inLoop c) rfl (fun _ _ => .inl (by simp)) harr⟩
      | outgrown => exact ⟨_, a₁, w₁, hq, .pass (x := .inLoop c) rfl (fun _ _ => .inl (by simp)) harr⟩
  obtain ⟨e, a', w', hq, harr⟩ := key _ p₀ a w rfl h₀ hf
  exact ⟨e, a', w', hq, .of_steps (.one step_loop) harr⟩
end
end Go.Proofs.Ytkamdppnnhjajaa.Sym
