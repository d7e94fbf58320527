/-
  Small words for walks by the symbolic executor. Over any program. Conditions: none.
-/
import Derived.Test.YtkamdppnnhjajaaSym9
namespace Go.Proofs.Ytkamdppnnhjajaa.Sym
open Go.RowKit
set_option linter.unusedVariables false
set_option linter.unusedSimpArgs false

theorem wrap_succ {k : Nat} {n : Nat} (h : k < n) (hn : n ≤ maxLen) : IntKind.i64.wrap ((k : Int) + 1) = ((k + 1 : Nat) : Int) := by
  have : (n : Int) ≤ 9223372036854775807 := by simp only [maxLen] at hn; omega
  rw [IntKind.wrap_i64]; omega
theorem wrap_in {x : Int} (h : -9223372036854775808 ≤ x) (h' : x ≤ 9223372036854775807) : IntKind.i64.wrap x = x := by rw [IntKind.wrap_i64]; omega
/-- an elder contract of a function, said for the executor -/
theorem mem_one {m : Nat → Nat → Prop} {w : World} {v : AV} (h : ∀ x ∈ [v], Ok m w x) : Ok m w v := h v (by simp)
theorem ok_tup {m : Nat → Nat → Prop} {w : World} {l : List AV} (h : Ok m w (.tup l)) : ∀ v ∈ l, Ok m w v := by cases h with | tup _ h => exact h
theorem ok_agg {m : Nat → Nat → Prop} {w : World} {l : List AV} (h : Ok m w (.agg l)) : ∀ v ∈ l, Ok m w v := by cases h with | agg _ _ h => exact h
/-- rows of one thing and another that read alike -/
theorem ok_len {m : Nat → Nat → Prop} {w : World} {g : Option Nat} {A : Option Addr} {n c k : Nat} {cells : Nat → List AV} (h : Ok m w (.sl g A n c k cells)) : n ≤ c ∧ c ≤ maxLen := by
  cases h with | sl _ _ _ _ _ _ h1 h2 => exact ⟨h1, h2⟩
theorem ok_recell {m : Nat → Nat → Prop} {w : World} {g g' : Option Nat} {A : Option Addr} {n c k : Nat} {f f' : Nat → List AV} (h : Ok m w (.sl g A n c k f)) (he : ∀ i, i < n → f i = f' i) : Ok m w (.sl g' A n c k f') := by
  cases h with
  | sl _ _ _ _ _ _ h1 h2 h3 h4 h5 h6 h7 =>
    exact .sl _ _ _ _ _ _ h1 h2 (fun i hi => by rw [← he i hi]; exact h3 i hi) h4 (fun i hi => by rw [← he i hi]; exact h5 i hi) (fun i hi => by rw [← he i hi]; exact h6 i hi) (fun i hi => by rw [← he i hi]; exact h7 i hi)

/-- a value that says no more than another one -/
def Sim (v v' : AV) : Prop := v.den = v'.den ∧ (v.one = true → v'.one = true) ∧ ∀ m w, Ok m w v → Ok m w v'
theorem Sim.refl (v : AV) : Sim v v := ⟨rfl, id, fun _ _ h => h⟩
theorem Sim.recell {g g' : Option Nat} {A : Option Addr} {n c k : Nat} {f f' : Nat → List AV} (he : ∀ i, i < n → f i = f' i) : Sim (.sl g A n c k f) (.sl g' A n c k f') := ⟨rfl, fun _ => rfl, fun _ _ h => ok_recell h he⟩
theorem Sim.resl {g g' : Option Nat} {A : Option Addr} {n n' c k : Nat} {f f' : Nat → List AV} (hn : n = n') (he : ∀ i, i < n' → f i = f' i) : Sim (.sl g A n c k f) (.sl g' A n' c k f') := by
  subst hn; exact Sim.recell he
theorem Sim.tt : Sim (.bool .tt) (.bool (.v true)) := ⟨rfl, id, fun _ _ _ => .bool _⟩
theorem Sim.ff : Sim (.bool .ff) (.bool (.v false)) := ⟨rfl, id, fun _ _ _ => .bool _⟩
def simT (tmps : List (Nat × AV)) : List (Nat × AV) → Prop
  | [] => True
  | (t, v) :: l => ((look tmps t).known = true ∧ Sim (look tmps t) v) ∧ simT tmps l
theorem simT_ok {tmps : List (Nat × AV)} : ∀ {l : List (Nat × AV)}, simT tmps l → ∀ t, (look l t).known = true → (look tmps t).known = true ∧ Sim (look tmps t) (look l t)
  | [], _, t, h => by cases h
  | (k, v) :: l, hs, t, h => by
    rw [look_cons] at h ⊢
    by_cases he : k = t
    · subst he; rw [if_pos rfl] at h ⊢; exact hs.1
    · rw [if_neg he] at h ⊢; exact simT_ok hs.2 t h
/-- other words for the slots -/
theorem Fits.slots {C : Cx} {s : St} {a : Act} {w : World} (h : Fits C s a w) {l : List (Nat × AV)} (hl : simT s.tmps l) : Fits C { s with tmps := l, gs := [] } a w :=
  ⟨h.size, h.defers, fun t ht => by
    obtain ⟨h1, h2, _, h3⟩ := simT_ok hl t ht
    have := h.slot t h1
    exact ⟨by show a.tmps[t]? = some (look l t).den; rw [← h2]; exact this.1, h3 _ _ this.2⟩, (fun t p v hg => by cases hg), h.mem, h.nodup, h.gr, h.sepm, h.sepg, h.chg, h.m0⟩
/-- other words for the first slot -/
theorem Fits.head {C : Cx} {nt d : Nat} {v v' : AV} {l : List (Nat × AV)} {mem : List (Nat × Blk)} {gr : List (Nat × Gr)} {a : Act} {w : World} (h : Fits C ⟨nt, (d, v) :: l, [], mem, gr⟩ a w) (e : v = v') : Fits C ⟨nt, (d, v') :: l, [], mem, gr⟩ a w := e ▸ h
theorem Fits.headS {C : Cx} {nt d : Nat} {v v' : AV} {l : List (Nat × AV)} {mem : List (Nat × Blk)} {gr : List (Nat × Gr)} {a : Act} {w : World} (h : Fits C ⟨nt, (d, v) :: l, [], mem, gr⟩ a w) (e : Sim v v') (hk : v.known = true) : Fits C ⟨nt, (d, v') :: l, [], mem, gr⟩ a w :=
  ⟨h.size, h.defers, fun t ht => by
    by_cases he : d = t
    · subst he
      have e0 : ∀ v : AV, look ((d, v) :: l) d = v := fun v => by rw [look_cons, if_pos rfl]
      have := h.slot d (by show (look ((d, v) :: l) d).known = true; rw [e0]; exact hk)
      have this' : a.tmps[d]? = some (look ((d, v) :: l) d).den ∧ Ok (St.m ⟨nt, (d, v) :: l, [], mem, gr⟩ C) w (look ((d, v) :: l) d) := this
      rw [e0] at this'
      show a.tmps[d]? = some (look ((d, v') :: l) d).den ∧ Ok _ w (look ((d, v') :: l) d)
      rw [e0, ← e.1]
      exact ⟨this'.1, e.2.2 _ _ this'.2⟩
    · have e1 : ∀ v : AV, look ((d, v) :: l) t = look l t := fun v => by rw [look_cons, if_neg he]
      have hk' : (look ((d, v') :: l) t).known = true := ht
      rw [e1] at hk'
      have := h.slot t (by show (look ((d, v) :: l) t).known = true; rw [e1]; exact hk')
      have this' : a.tmps[t]? = some (look ((d, v) :: l) t).den ∧ Ok (St.m ⟨nt, (d, v) :: l, [], mem, gr⟩ C) w (look ((d, v) :: l) t) := this
      rw [e1] at this'
      show a.tmps[t]? = some (look ((d, v') :: l) t).den ∧ Ok _ w (look ((d, v') :: l) t)
      rw [e1]
      exact this', (fun t p v hg => by cases hg), h.mem, h.nodup, h.gr, h.sepm, h.sepg, h.chg, h.m0⟩
/-- a slot that is used no more -/
theorem Fits.tail {C : Cx} {nt : Nat} {d : Nat} {v : AV} {l : List (Nat × AV)} {mem : List (Nat × Blk)} {gr : List (Nat × Gr)} {a : Act} {w : World} (h : Fits C ⟨nt, (d, v) :: l, [], mem, gr⟩ a w) (hd : (look l d).known = false) : Fits C ⟨nt, l, [], mem, gr⟩ a w :=
  ⟨h.size, h.defers, fun t ht => by
    have hne : d ≠ t := fun e => by subst e; rw [hd] at ht; cases ht
    have := h.slot t (by show (look ((d, v) :: l) t).known = true; rw [look_cons, if_neg hne]; exact ht)
    have e : look ((d, v) :: l) t = look l t := by rw [look_cons, if_neg hne]
    have this' : a.tmps[t]? = some (look ((d, v) :: l) t).den ∧ Ok (St.m ⟨nt, (d, v) :: l, [], mem, gr⟩ C) w (look ((d, v) :: l) t) := this
    rw [e] at this'
    exact this', (fun t p v hg => by cases hg), h.mem, h.nodup, h.gr, h.sepm, h.sepg, h.chg, h.m0⟩
section
variable {P : Program} {Q : Exit → Act → World → Prop} {C : Cx} {nt t : Nat} {b : Bool} {l : List (Nat × AV)} {mem : List (Nat × Blk)} {gr : List (Nat × Gr)} {a : Act} {w : World} {x y : Code}
/-- the same, and the slot is tested again -/
theorem test_keep (h : Fits C ⟨nt, (t, .bool (.v b)) :: l, [], mem, gr⟩ a w) (h1 : b = true → Fits C ⟨nt, (t, .bool .tt) :: l, [], mem, gr⟩ a w → x.wp P Q a w) (h2 : b = false → Fits C ⟨nt, (t, .bool .ff) :: l, [], mem, gr⟩ a w → y.wp P Q a w) : (Code.cond (.tmp t) x y).wp P Q a w :=
  cond_ok h (by show look ((t, _) :: l) t = _; rw [look_cons, if_pos rfl]) (fun hb => h1 hb (h.headS (by subst hb; exact ⟨rfl, id, fun _ _ _ => .bool _⟩) rfl)) (fun hb => h2 hb (h.headS (by subst hb; exact ⟨rfl, id, fun _ _ _ => .bool _⟩) rfl))
/-- a test of the first slot that is known -/
theorem test_ok (h : Fits C ⟨nt, (t, .bool (.v b)) :: l, [], mem, gr⟩ a w) (hd : (look l t).known = false) (h1 : b = true → Fits C ⟨nt, l, [], mem, gr⟩ a w → x.wp P Q a w) (h2 : b = false → Fits C ⟨nt, l, [], mem, gr⟩ a w → y.wp P Q a w) : (Code.cond (.tmp t) x y).wp P Q a w :=
  cond_ok h (by show look ((t, _) :: l) t = _; rw [look_cons, if_pos rfl]) (fun hb => h1 hb (h.tail hd)) (fun hb => h2 hb (h.tail hd))
theorem test_tt (h : Fits C ⟨nt, (t, .bool .tt) :: l, [], mem, gr⟩ a w) (hd : (look l t).known = false) (h1 : Fits C ⟨nt, l, [], mem, gr⟩ a w → x.wp P Q a w) : (Code.cond (.tmp t) x y).wp P Q a w :=
  cond_tt h (by show look ((t, _) :: l) t = _; rw [look_cons, if_pos rfl]) (h1 (h.tail hd))
theorem test_ff (h : Fits C ⟨nt, (t, .bool .ff) :: l, [], mem, gr⟩ a w) (hd : (look l t).known = false) (h1 : Fits C ⟨nt, l, [], mem, gr⟩ a w → y.wp P Q a w) : (Code.cond (.tmp t) x y).wp P Q a w :=
  cond_ff h (by show look ((t, _) :: l) t = _; rw [look_cons, if_pos rfl]) (h1 (h.tail hd))
end
def canB : BE → BE
  | .tt => .v true
  | .ff => .v false
  | b => b
mutual
/-- one form for all bools -/
def can : AV → AV
  | .bool b => .bool (canB b)
  | .agg l => .agg (canL l)
  | .tup l => .tup (canL l)
  | v => v
def canL : List AV → List AV
  | [] => []
  | v :: l => can v :: canL l
end
theorem canL_map (l : List AV) : canL l = l.map can := by
  induction l with
  | nil => rfl
  | cons v l ih => simp [canL, ih]
theorem canB_den (b : BE) : (canB b).den = b.den := by cases b <;> rfl
mutual
theorem can_den : ∀ v : AV, (can v).den = v.den
  | .bool b => by simp only [can, AV.den, canB_den]
  | .agg l => by simp only [can, AV.den, can_denL l]
  | .tup l => by simp only [can, AV.den, can_denL l]
  | .undef | .int .. | .str .. | .nilp | .ptr .. | .sl .. | .ep .. | .fn .. | .ifc .. | .nili | .raw .. => rfl
theorem can_denL : ∀ l : List AV, AV.denL (canL l) = AV.denL l
  | [] => rfl
  | v :: l => by simp only [canL, AV.denL, can_den v, can_denL l]
end
theorem can_one (v : AV) : (can v).one = v.one := by cases v <;> rfl
mutual
theorem can_ok {m : Nat → Nat → Prop} {w : World} : ∀ v : AV, Ok m w v ↔ Ok m w (can v)
  | .bool b => ⟨fun _ => .bool _, fun _ => .bool _⟩
  | .agg l => by
    have ih := can_okL (m := m) (w := w) l
    constructor
    · intro h
      cases h with
      | agg _ h1 h2 =>
        refine .agg _ (fun v hv => ?_) (ih.1 h2)
        rw [canL_map] at hv
        obtain ⟨y, hy, rfl⟩ := List.mem_map.1 hv
        rw [can_one]; exact h1 y hy
    · intro h
      have h' : Ok m w (.agg (canL l)) := h
      cases h' with
      | agg _ h1 h2 =>
        refine .agg _ (fun v hv => ?_) (ih.2 h2)
        rw [← can_one]; exact h1 _ (by rw [canL_map]; exact List.mem_map.2 ⟨v, hv, rfl⟩)
  | .tup l => by
    have ih := can_okL (m := m) (w := w) l
    constructor
    · intro h
      cases h with | tup _ h1 => exact .tup _ (ih.1 h1)
    · intro h
      have h' : Ok m w (.tup (canL l)) := h
      cases h' with | tup _ h1 => exact .tup _ (ih.2 h1)
  | .undef | .int .. | .str .. | .nilp | .ptr .. | .sl .. | .ep .. | .fn .. | .ifc .. | .nili | .raw .. => Iff.rfl
theorem can_okL {m : Nat → Nat → Prop} {w : World} : ∀ l : List AV, (∀ v ∈ l, Ok m w v) ↔ ∀ v ∈ canL l, Ok m w v
  | [] => by simp [canL]
  | v :: l => by
    have h1 := can_ok (m := m) (w := w) v
    have h2 := can_okL (m := m) (w := w) l
    simp only [canL, List.mem_cons, forall_eq_or_imp]
    exact and_congr h1 h2
end
theorem can_eq {m : Nat → Nat → Prop} {w : World} {v v' : AV} (h : Ok m w v) (e : can v = can v') : v.den = v'.den ∧ Ok m w v' :=
  ⟨by rw [← can_den v, ← can_den v', e], (can_ok v').2 (e ▸ (can_ok v).1 h)⟩
section
variable {P : Program} {T : List (Nat × TI)} {s : St} {a : Act} {w : World}
/-- a call ends by return, with this result and only new memory -/
theorem ret_spec (hT : TabOK P T) {m : Nat → Nat → Prop} {w0 : World} (h : Fits ⟨m, w0, fun _ => False, []⟩ s a w) {fn : Func} {res : Atom → AV} {rs : List ResultVar} (hfn : fn.results = rs.toArray) {r : List AV × List Ob} (hr : resL T s rs = some r) (ho : AllOb P r.2)
    (x : Atom) (he : can (resA r.1) = can (res x)) : bodyPost P fn (fun e w' => ∃ x, e = .returned (res x).den ∧ Ok m w' (res x) ∧ Below w0.heap.size w0 w') .ret a w := by
  refine (ret_ok hT h rfl hfn hr ho fun hv => ?_).1
  obtain ⟨h1, h2⟩ := done_ok h hv
  obtain ⟨h3, h4⟩ := can_eq h1 he
  exact ⟨x, by rw [h3], h4, h2⟩
end
section
variable {P : Program} {T : List (Nat × TI)} {s : St} {a : Act} {w : World}
theorem ret_spec' (hT : TabOK P T) {m : Nat → Nat → Prop} {w0 : World} (h : Fits ⟨m, w0, fun _ => False, []⟩ s a w) {fn : Func} {res : Atom → AV} {rs : List ResultVar} (hfn : fn.results = rs.toArray) {r : List AV × List Ob} (hr : resL T s rs = some r) (ho : AllOb P r.2)
    (x : Atom) (he : can (resA r.1) = can (res x)) : bodyPost P fn (fun e w' => ∃ x, e = .returned (res x).den ∧ Ok m w' (res x) ∧ Below w0.heap.size w0 w') .normal a w := by
  refine (ret_ok hT h rfl hfn hr ho fun hv => ?_).2
  obtain ⟨h1, h2⟩ := done_ok h hv
  obtain ⟨h3, h4⟩ := can_eq h1 he
  exact ⟨x, by rw [h3], h4, h2⟩
end
theorem ob_split {p : Prop} (h : p) : p := h
def pre {α : Type} : List α → List α → List α
  | [], r => r
  | x :: l, r => x :: pre l r
/-- a loop: the slots, blocks and rows that a round changes are in front -/
theorem loop_pre {P : Program} {Q : Exit → Act → World → Prop} {C : Cx} {ι : Type} (S : ι → List (Nat × AV)) (M : ι → List (Nat × Blk)) (G : ι → List (Nat × Gr)) (J : ι → Prop) (μ : ι → Nat) {nt : Nat} {rest : List (Nat × AV)} {restm : List (Nat × Blk)} {restg : List (Nat × Gr)} {c : Code} {a : Act} {w : World} (p₀ : ι) (h₀ : J p₀)
    (hf : Fits C ⟨nt, pre (S p₀) rest, [], pre (M p₀) restm, pre (G p₀) restg⟩ a w)
    (round : ∀ p, J p → ∀ a w, Fits C ⟨nt, pre (S p) rest, [], pre (M p) restm, pre (G p) restg⟩ a w → c.wp P (Exit.then (fun a' w' => ∃ p', J p' ∧ μ p' < μ p ∧ Fits C ⟨nt, pre (S p') rest, [], pre (M p') restm, pre (G p') restg⟩ a' w') Q) a w) : (Code.loop c).wp P Q a w :=
  loop_ok (fun p => ⟨nt, pre (S p) rest, [], pre (M p) restm, pre (G p) restg⟩) J μ p₀ h₀ hf round
/-- values of a row that say no more than others -/
def SimL : List AV → List AV → Prop
  | [], [] => True
  | v :: l, v' :: l' => Sim v v' ∧ SimL l l'
  | _, _ => False
theorem SimL.den : ∀ {l l' : List AV}, SimL l l' → AV.denL l = AV.denL l'
  | [], [], _ => rfl
  | v :: l, v' :: l', h => by simp only [AV.denL, h.1.1, SimL.den h.2]
theorem SimL.one : ∀ {l l' : List AV}, SimL l l' → (∀ v ∈ l, v.one = true) → ∀ v ∈ l', v.one = true
  | [], [], _, _ => by simp
  | v :: l, v' :: l', h, h1 => by
    simp only [List.mem_cons, forall_eq_or_imp] at h1 ⊢
    exact ⟨h.1.2.1 h1.1, SimL.one h.2 h1.2⟩
theorem SimL.ok {m : Nat → Nat → Prop} {w : World} : ∀ {l l' : List AV}, SimL l l' → (∀ v ∈ l, Ok m w v) → ∀ v ∈ l', Ok m w v
  | [], [], _, _ => by simp
  | v :: l, v' :: l', h, h1 => by
    simp only [List.mem_cons, forall_eq_or_imp] at h1 ⊢
    exact ⟨h.1.2.2 _ _ h1.1, SimL.ok h.2 h1.2⟩
theorem Sim.agg {l l' : List AV} (h : SimL l l') : Sim (.agg l) (.agg l') :=
  ⟨by simp only [AV.den, h.den], id, fun m w ho => by cases ho with | agg _ h1 h2 => exact .agg _ (h.one h1) (h.ok h2)⟩
theorem Sim.tup {l l' : List AV} (h : SimL l l') : Sim (.tup l) (.tup l') :=
  ⟨by simp only [AV.den, h.den], id, fun m w ho => by cases ho with | tup _ h1 => exact .tup _ (h.ok h1)⟩
theorem Spec.res {P : Program} {f : Nat} {args : List AV} {res res' : Atom → AV} (h : Spec P f args res) (hs : ∀ x, Sim (res x) (res' x)) : Spec P f args res' := by
  intro m w hm ha
  refine (h m w hm ha).mono ?_
  rintro e w' ⟨x, rfl, ho, hb⟩
  exact ⟨x, by rw [(hs x).1], (hs x).2.2 _ _ ho, hb⟩
theorem Sim.bool {b b' : BE} (h : b.den = b'.den) : Sim (.bool b) (.bool b') := ⟨by simp only [AV.den, h], id, fun _ _ _ => .bool _⟩
theorem Spec.sim {P : Program} {f : Nat} {args args' : List AV} {res : Atom → AV} (h : Spec P f args res) (hs : SimL args' args) : Spec P f args' res := by
  intro m w hm ha
  have := h m w hm (hs.ok ha)
  have e : args'.map AV.den = args.map AV.den := by
    clear this ha h
    induction args' generalizing args with
    | nil => cases args with
      | nil => rfl
      | cons => exact hs.elim
    | cons v l ih => cases args with
      | nil => exact hs.elim
      | cons v' l' => simp only [List.map_cons, hs.1.1, ih hs.2]
  rw [e]
  exact this
/-- where ways meet again -/
theorem seq_cut {P : Program} {Q : Exit → Act → World → Prop} {C : Cx} {ι : Type} (S : ι → List (Nat × AV)) (M : ι → List (Nat × Blk)) (G : ι → List (Nat × Gr)) (J : ι → Prop) {nt : Nat} {S0 rest : List (Nat × AV)} {M0 restm : List (Nat × Blk)} {G0 restg : List (Nat × Gr)} {x y : Code} {a : Act} {w : World}
    (hf : Fits C ⟨nt, pre S0 rest, [], pre M0 restm, pre G0 restg⟩ a w)
    (hx : x.wp P (Exit.then (fun a' w' => ∃ p, J p ∧ Fits C ⟨nt, pre (S p) rest, [], pre (M p) restm, pre (G p) restg⟩ a' w') Q) a w)
    (hy : ∀ p, J p → ∀ a' w', Fits C ⟨nt, pre (S p) rest, [], pre (M p) restm, pre (G p) restg⟩ a' w' → y.wp P Q a' w') : (Code.seq x y).wp P Q a w := by
  refine wp_seq (Code.wp_mono (fun e a' w' h => ?_) hx)
  cases e with
  | normal => obtain ⟨p, hp, hf'⟩ := h; exact hy p hp a' w' hf'
  | _ => exact h
/-- where the ways of one code meet again -/
theorem cut_one {P : Program} {Q : Exit → Act → World → Prop} {C : Cx} {ι : Type} (S : ι → List (Nat × AV)) (M : ι → List (Nat × Blk)) (G : ι → List (Nat × Gr)) (J : ι → Prop) {nt : Nat} {S0 rest : List (Nat × AV)} {M0 restm : List (Nat × Blk)} {G0 restg : List (Nat × Gr)} {x : Code} {a : Act} {w : World}
    (hf : Fits C ⟨nt, pre S0 rest, [], pre M0 restm, pre G0 restg⟩ a w)
    (hx : x.wp P (Exit.then (fun a' w' => ∃ p, J p ∧ Fits C ⟨nt, pre (S p) rest, [], pre (M p) restm, pre (G p) restg⟩ a' w') Q) a w)
    (hy : ∀ p, J p → ∀ a' w', Fits C ⟨nt, pre (S p) rest, [], pre (M p) restm, pre (G p) restg⟩ a' w' → Q .normal a' w') : x.wp P Q a w := by
  refine Code.wp_mono (fun e a' w' h => ?_) hx
  cases e with
  | normal => obtain ⟨p, hp, hf'⟩ := h; exact hy p hp a' w' hf'
  | _ => exact h
/-- the same where the result reads like the one named -/
theorem ret_sim {P : Program} {T : List (Nat × TI)} {s : St} {a : Act} {w : World} (hT : TabOK P T) {m : Nat → Nat → Prop} {w0 : World} (h : Fits ⟨m, w0, fun _ => False, []⟩ s a w) {fn : Func} {res : Atom → AV} {rs : List ResultVar} (hfn : fn.results = rs.toArray) {r : List AV × List Ob} (hr : resL T s rs = some r) (ho : AllOb P r.2)
    (x : Atom) (he : Sim (can (resA r.1)) (can (res x))) : bodyPost P fn (fun e w' => ∃ x, e = .returned (res x).den ∧ Ok m w' (res x) ∧ Below w0.heap.size w0 w') .ret a w := by
  refine (ret_ok hT h rfl hfn hr ho fun hv => ?_).1
  obtain ⟨h1, h2⟩ := done_ok h hv
  exact ⟨x, by rw [← can_den (resA r.1), he.1, can_den], (can_ok _).2 (he.2.2 _ _ ((can_ok _).1 h1)), h2⟩
def noAtom : Atom := ⟨0, fun _ => none, fun _ => 0, fun _ => .empty⟩
end Go.Proofs.Ytkamdppnnhjajaa.Sym
