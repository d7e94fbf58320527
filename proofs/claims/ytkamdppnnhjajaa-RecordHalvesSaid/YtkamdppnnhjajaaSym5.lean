/-
  The symbolic executor is right: one operation, whichever. Over any program. Conditions: none.
-/
import Derived.Test.YtkamdppnnhjajaaSym4
namespace Go.Proofs.Ytkamdppnnhjajaa.Sym
open Go.RowKit
set_option linter.unusedVariables false
set_option linter.unusedSimpArgs false

section
variable {C : Cx} {s : St} {a : Act} {w : World} {P : Program} {K : Act → World → Prop} {Q : Exit → Act → World → Prop}
theorem wp_value {o : Oper} {v : Value} {w' : World} (h : (execOp a.eval o).run P w = .ok (.value v) w') (hK : K (a.put o.dst v) w') : o.wp P a w K Q := by
  unfold Oper.wp; rw [h]; exact hK
theorem wp_skip' {o : Oper} {w' : World} (h : (execOp a.eval o).run P w = .ok .skip w') (hK : K (a.put o.dst Go.undef) w') : o.wp P a w K Q := by
  unfold Oper.wp; rw [h]; exact hK
theorem known_of_one {v : AV} (h : v.one = true) : v.known = true := by cases v <;> simp_all [AV.one, AV.known]
theorem known_of_or {v : AV} (h : (v.one || isAggV v) = true) : v.known = true := by
  rcases one_or h with h | ⟨l, rfl⟩
  · exact known_of_one h
  · rfl
theorem getD_bool {t : Nat} {b : Bool} (h : a.tmps.getD t Go.undef = .bool b) : a.tmps[t]? = some (.bool b) := by
  rw [Array.getD_eq_getD_getElem?] at h
  cases hg : a.tmps[t]? with
  | none => rw [hg] at h; cases h
  | some v => rw [hg] at h; simp at h; rw [h]
theorem m_lt (h : Fits C s a w) : ∀ b o, s.m C b o → b < w.heap.size := by
  intro b o hm
  rcases hm with hm | ⟨k, e, he, rfl⟩ | ⟨k, t, ht, hv, _⟩
  · exact Nat.lt_of_lt_of_le (h.m0 b o hm) h.chg.size
  · exact lt_of_heap (h.mem _ _ he).1
  · obtain ⟨_, xs, ho⟩ := h.gr k t ht
    exact (ho.lt _ hv).2
theorem ok_cells {m : Nat → Nat → Prop} {v : AV} (hv : Ok m w v) (ho : (v.one || isAggV v) = true) : ∀ x ∈ v.cells, x.one = true ∧ Ok m w x := by
  intro x hx
  refine ⟨?_, hv.cells x hx⟩
  rcases one_or ho with h | ⟨l', rfl⟩
  · cases v <;> simp_all [AV.cells, AV.one]
  · cases hv with
    | agg _ ho _ => exact ho x hx
theorem den_bv (b : Bool) : (AV.bool (.v b)).den = .bool b := rfl
theorem run_bool_eq {t : Nat} (ht : P.underlying t = some .bool) (x y : Bool) : (Op.equal t (.bool x) (.bool y)).run P w = .ok (x == y) w := by
  have e : Op.equal t (.bool x) (.bool y) = Op.equalIn (9999 + 1) t (.bool x) (.bool y) := rfl
  rw [e]
  unfold Op.equalIn
  simp [run_underlying ht]
theorem run_ptr_eq {t : Nat} {e : TypeId} (ht : P.underlying t = some (.pointer e)) (A : Addr) : (Op.equal t (.pointer (some A)) (.pointer none)).run P w = .ok false w ∧ (Op.equal t (.pointer none) (.pointer none)).run P w = .ok true w := by
  have e1 : ∀ x y, Op.equal t x y = Op.equalIn (9999 + 1) t x y := fun _ _ => rfl
  rw [e1, e1]
  unfold Op.equalIn
  simp [run_underlying ht]
theorem run_ifc_eq {t : Nat} {ms : Array (String × TypeId)} {tt : Nat} {v : Value} (ht : P.underlying t = some (.interface ms)) : (Op.equal t (.iface tt v) .nilIface).run P w = .ok false w ∧ (Op.equal t .nilIface .nilIface).run P w = .ok true w := by
  have e1 : ∀ x y, Op.equal t x y = Op.equalIn (9999 + 1) t x y := fun _ _ => rfl
  rw [e1, e1]
  unfold Op.equalIn
  simp [run_underlying ht]
theorem std_bstr (n : Nat) (cells : Nat → List AV) : std.bstr n cells = rowStr n cells := rfl
theorem rowStr_succ (n : Nat) (cells : Nat → List AV) : rowStr (n + 1) cells = (rowStr n cells).push (byteAt (cells n)) := by
  simp [rowStr, List.range_succ]
theorem rowStr_size (n : Nat) (cells : Nat → List AV) : (rowStr n cells).size = n := by
  induction n with
  | zero => rfl
  | succ n ih => rw [rowStr_succ, ByteArray.size_push, ih]
theorem run_bytes {A : Option Addr} {n c : Nat} {cells : Nat → List AV} (hby : ∀ i, i < n → ∃ x, cells i = [.int .u8 x]) (hA : ∀ i, i < n → ∃ b off, A = some ⟨b, off, none⟩) (hrow : RowAt w w.heap.size A (rowFlat cells n)) :
    (Conv.bytesToString (.slice A n c)).run P w = .ok (.string (rowStr n cells)) w := by
  have hfl : rowFlat cells n = (List.range n).map fun i => .int .u8 (match cells i with | [.int _ x] => x | _ => 0) := by
    unfold rowFlat
    have : ∀ l : List Nat, (∀ i ∈ l, i < n) → (l.flatMap fun i => (cells i).map AV.den) = l.map fun i => .int .u8 (match cells i with | [.int _ x] => x | _ => 0) := by
      intro l
      induction l with
      | nil => intro _; rfl
      | cons j l ih =>
        intro hl
        obtain ⟨x, hx⟩ := hby j (hl j (by simp))
        rw [List.flatMap_cons, List.map_cons, ih fun i hi => hl i (List.mem_cons_of_mem _ hi)]
        simp [hx, AV.den]
    exact this _ fun i hi => by simpa using hi
  cases A with
  | none =>
    have : n = 0 := by
      rcases Nat.eq_zero_or_pos n with h | h
      · exact h
      · obtain ⟨b, off, h⟩ := hA 0 h; cases h
    subst this
    rfl
  | some ad =>
    have hlen : (rowFlat cells n).length = n := by rw [hfl]; simp
    have hload : (loadCells ad n).run P w = .ok (rowFlat cells n).toArray w := by
      by_cases hp : 0 < n
      · obtain ⟨b, off, hA', _, hc⟩ := hrow (by rw [hlen]; exact hp)
        injection hA' with hA'; subst hA'
        have := run_loadCells_list (P := P) w ⟨b, off, none⟩ (rowFlat cells n) (fun j u hu => by rw [Addr.add_lit]; exact hc j u hu)
        rwa [hlen] at this
      · have : n = 0 := by omega
        subst this
        have := run_loadCells_list (P := P) w ad [] (fun j u hu => by simp at hu)
        simpa [rowFlat] using this
    have key : ∀ (l : List Nat) (s0 : ByteArray), (∀ i ∈ l, i < n) → (forIn (l.map fun i => Value.int .u8 (match cells i with | [.int _ x] => x | _ => 0)) s0 (fun c s => (match c with
        | .int .u8 m => pure (ForInStep.yield (s.push (UInt8.ofNat m.toNat)))
        | _ => do
          stuck "bytesToString: byte expected"
          pure (ForInStep.yield s) : Sem (ForInStep ByteArray)))).run P w = .ok (l.foldl (fun s i => s.push (byteAt (cells i))) s0) w := by
      intro l
      induction l with
      | nil => intro s0 _; rfl
      | cons j l ih =>
        intro s0 hl
        obtain ⟨x, hx⟩ := hby j (hl j (by simp))
        rw [List.map_cons, List.forIn_cons, Sem.run_bind]
        simp only [hx, Sem.run_pure, Result.andThen_ok]
        rw [ih _ fun i hi => hl i (List.mem_cons_of_mem _ hi)]
        simp [byteAt, hx]
    have hk := key (List.range n) .empty (fun i hi => by simpa using hi)
    rw [← hfl] at hk
    simp only [Conv.bytesToString, Sem.run_bind, hload, Result.andThen_ok, List.forIn_toArray]
    exact congrArg (fun r : Result ByteArray => r.andThen fun a w' => Sem.run P (pure (Value.string a)) w') hk
theorem stepBin_ok {T : List (Nat × TI)} (hT : TabOK P T) {q : List (Nat × Bool)} {op : BinOp} {t t' : Nat} {x y : Operand} {r : AV × Eff × List Ob} (hx : (val s q x).known = true → a.eval x = (val s q x).den) (hy : (val s q y).known = true → a.eval y = (val s q y).den)
    (h : stepBin std T op t (val s q x) (val s q y) = some r) (hob : ∀ ob ∈ r.2.2, ob.holds P) {o : Oper} (ho : o.op = .binOp op t x y t') :
    r.2.1 = .no ∧ (execOp a.eval o).run P w = .ok (.value r.1.den) w ∧ ∀ m w, Ok m w r.1 := by
  generalize hvx : val s q x = vx at *
  generalize hvy : val s q y = vy at *
  unfold stepBin at h
  split at h
  · rename_i k x' k' y'
    have ex := hx rfl
    have ey := hy rfl
    simp only [AV.den] at ex ey
    split at h
    · rename_i hop2
      injection h with h; subst h
      have hnn : 0 ≤ y' := hob (.nn y') (by simp)
      have hnn' : ¬ y' < 0 := by omega
      refine ⟨rfl, ?_, fun m w => .int _ _⟩
      rcases hop2 with rfl | rfl <;> simp [execOp, ho, ex, ey, eqGuard, binOp, Op.shift, hnn', AV.den, std, stdShift]
    split at h
    · rename_i hk
      subst hk
      split at h
      · rename_i hdiv
        injection h with h; subst h
        have hne : y' ≠ 0 := hob (.ne0 y') (by simp)
        refine ⟨rfl, ?_, fun m w => .int _ _⟩
        rcases hdiv with rfl | rfl <;> simp [execOp, ho, ex, ey, eqGuard, binOp, Op.intDiv, hne, AV.den, std, stdDiv]
      split at h
      · rename_i hc
        injection h with h; subst h
        refine ⟨rfl, ?_, fun m w => .bool _⟩
        cases op <;> simp [isCmp] at hc <;> simp [execOp, ho, ex, ey, eqGuard, binOp, Op.intCmp, AV.den, BE.den, std, stdCmp]
      · split at h
        · rename_i hc
          injection h with h; subst h
          refine ⟨rfl, ?_, fun m w => .int _ _⟩
          cases op <;> simp [isArith] at hc <;> simp [execOp, ho, ex, ey, eqGuard, binOp, Op.intArith, Op.intBits, AV.den, std, stdArith]
        · cases h
    · cases h
  · have ex := hx rfl
    have ey := hy rfl
    simp only [AV.den] at ex ey
    split at h
    · rename_i sx sy hadd
      subst hadd
      injection h with h; subst h
      have hcat : sx.size + sy.size ≤ maxLen := hob (.cat sx sy) (by simp)
      have hmax : IntKind.i64.max = 9223372036854775807 := by decide
      have hle : ¬ (((sx.size + sy.size : Nat) : Int) > IntKind.i64.max) := by rw [hmax]; simp only [maxLen] at hcat; omega
      refine ⟨rfl, ?_, fun m w => .str _ (by show (sx ++ sy).size ≤ maxLen; rw [ByteArray.size_append]; exact hcat)⟩
      simp only [execOp, ho, ex, ey, eqGuard, binOp, Op.stringOp, AV.den, std]
      rw [if_neg hle]
      simp
    split at h
    · rename_i hc
      injection h with h; subst h
      refine ⟨rfl, ?_, fun m w => .bool _⟩
      cases op <;> simp [isCmp] at hc <;> simp [execOp, ho, ex, ey, eqGuard, binOp, Op.stringOp, AV.den, BE.den, std, stdScmp]
    · cases h
  · rename_i b1 b2
    have ex := hx rfl
    have ey := hy rfl
    simp only [AV.den] at ex ey
    split at h
    · rename_i ti hti
      split at h
      · rename_i hb
        injection h with h; subst h
        have hr := run_bool_eq (w := w) ((lookT_ok hT hti).bool hb) b1.den b2.den
        refine ⟨rfl, ?_, fun m w => .bool _⟩
        simp [execOp, ho, ex, ey, eqGuard, binOp, hr, den_bv, std]
      · cases h
    · rename_i ti hti
      split at h
      · rename_i hb
        injection h with h; subst h
        have hr := run_bool_eq (w := w) ((lookT_ok hT hti).bool hb) b1.den b2.den
        refine ⟨rfl, ?_, fun m w => .bool _⟩
        simp [execOp, ho, ex, ey, eqGuard, binOp, hr, den_bv, std]
      · cases h
    · cases h
  · rename_i key b off
    have ex := hx rfl
    have ey := hy rfl
    simp only [AV.den] at ex ey
    split at h
    · rename_i ti hti
      split at h
      · rename_i hb
        injection h with h; subst h
        obtain ⟨e, hu⟩ := (lookT_ok hT hti).ptr hb
        have hr := (run_ptr_eq (w := w) hu ⟨b, off, none⟩).1
        refine ⟨rfl, ?_, fun m w => .bool _⟩
        simp [execOp, ho, ex, ey, eqGuard, binOp, hr, AV.den, BE.den]
      · cases h
    · rename_i ti hti
      split at h
      · rename_i hb
        injection h with h; subst h
        obtain ⟨e, hu⟩ := (lookT_ok hT hti).ptr hb
        have hr := (run_ptr_eq (w := w) hu ⟨b, off, none⟩).1
        refine ⟨rfl, ?_, fun m w => .bool _⟩
        simp [execOp, ho, ex, ey, eqGuard, binOp, hr, AV.den, BE.den]
      · cases h
    · cases h
  · have ex := hx rfl
    have ey := hy rfl
    simp only [AV.den] at ex ey
    split at h
    · rename_i ti hti
      split at h
      · rename_i hb
        injection h with h; subst h
        obtain ⟨e, hu⟩ := (lookT_ok hT hti).ptr hb
        have hr := (run_ptr_eq (w := w) hu ⟨0, 0, none⟩).2
        refine ⟨rfl, ?_, fun m w => .bool _⟩
        simp [execOp, ho, ex, ey, eqGuard, binOp, hr, AV.den, BE.den]
      · cases h
    · rename_i ti hti
      split at h
      · rename_i hb
        injection h with h; subst h
        obtain ⟨e, hu⟩ := (lookT_ok hT hti).ptr hb
        have hr := (run_ptr_eq (w := w) hu ⟨0, 0, none⟩).2
        refine ⟨rfl, ?_, fun m w => .bool _⟩
        simp [execOp, ho, ex, ey, eqGuard, binOp, hr, AV.den, BE.den]
      · cases h
    · cases h
  · rename_i tt v
    have ex := hx rfl
    have ey := hy rfl
    simp only [AV.den] at ex ey
    split at h
    · rename_i ti hti
      split at h
      · rename_i hb
        injection h with h; subst h
        obtain ⟨ms, hu⟩ := (lookT_ok hT hti).itf hb
        have hr := (run_ifc_eq (w := w) (tt := tt) (v := v.den) hu).1
        refine ⟨rfl, ?_, fun m w => .bool _⟩
        simp [execOp, ho, ex, ey, eqGuard, binOp, hr, AV.den, BE.den]
      · cases h
    · rename_i ti hti
      split at h
      · rename_i hb
        injection h with h; subst h
        obtain ⟨ms, hu⟩ := (lookT_ok hT hti).itf hb
        have hr := (run_ifc_eq (w := w) (tt := tt) (v := v.den) hu).1
        refine ⟨rfl, ?_, fun m w => .bool _⟩
        simp [execOp, ho, ex, ey, eqGuard, binOp, hr, AV.den, BE.den]
      · cases h
    · cases h
  · rename_i l1 l2
    have ex := hx rfl
    have ey := hy rfl
    simp only [AV.den, denL_map] at ex ey
    split at h
    · injection h with h; subst h
      have hh : Ob.holds P (.eql t l1 l2) := hob _ (by simp)
      have hh := (hh w x y).1
      refine ⟨rfl, ?_, fun m w => .bool _⟩
      simp only [execOp, ho, ex, ey]
      rw [Sem.run_bind, hh]
      simp [AV.den, BE.den, std, Result.andThen]
    · injection h with h; subst h
      have hh : Ob.holds P (.eql t l1 l2) := hob _ (by simp)
      have hh := (hh w x y).2
      refine ⟨rfl, ?_, fun m w => .bool _⟩
      simp only [execOp, ho, ex, ey]
      rw [Sem.run_bind, hh]
      simp [AV.den, BE.den, std, Result.andThen]
    · cases h
  · cases h
theorem preOf_ok {s : St} : ∀ {l : List (Nat × List AV)} {pre : List (Nat × Blk)}, preOf s l = some pre → l.map (·.1) = pre.map (·.1) ∧ ∀ e ∈ pre, lookM s.mem e.1 = some e.2
  | [], pre, h => by simp [preOf] at h; subst h; exact ⟨rfl, fun e he => by cases he⟩
  | (k, c) :: l, pre, h => by
    simp only [preOf] at h
    split at h
    · rename_i b r hb hr
      injection h with h; subst h
      obtain ⟨h1, h2⟩ := preOf_ok hr
      refine ⟨by simp [h1], fun e he => ?_⟩
      rcases List.mem_cons.1 he with rfl | he
      · exact hb
      · exact h2 e he
    · cases h
theorem preOf_keys {s : St} : ∀ {l l' : List (Nat × List AV)}, l.map (·.1) = l'.map (·.1) → preOf s l = preOf s l'
  | [], [], _ => rfl
  | [], _ :: _, h => by cases h
  | _ :: _, [], h => by cases h
  | (k, c) :: l, (k', c') :: l', h => by
    simp only [List.map_cons, List.cons.injEq] at h
    obtain ⟨rfl, h⟩ := h
    simp only [preOf, preOf_keys h]
theorem nodup_dist {C : Cx} {s : St} {a : Act} {w : World} (h : Fits C s a w) : ∀ {pre : List (Nat × Blk)}, nodupB pre = true → (∀ e ∈ pre, lookM s.mem e.1 = some e.2) → pre.Pairwise fun e f => e.2.at_ ≠ f.2.at_
  | [], _, _ => .nil
  | (k, b) :: l, hn, hl => by
    simp only [nodupB, Bool.and_eq_true] at hn
    refine .cons (fun f hf => ?_) (nodup_dist h hn.2 fun e he => hl e (List.mem_cons_of_mem _ he))
    have := List.all_eq_true.1 hn.1 f hf
    simp only [Bool.not_eq_true', beq_eq_false_iff_ne] at this
    exact h.nodup k f.1 b f.2 (hl (k, b) (by simp)) (hl f (List.mem_cons_of_mem _ hf)) fun e => this e.symm
theorem stepNil_ok {T : List (Nat × TI)} (hT : TabOK P T) {q : List (Nat × Bool)} {op : BinOp} {t t' : Nat} {x y : Operand} {r : AV × Eff × List Ob} (hx : a.eval x = .nilIface)
    (h : stepNil T op t y = some r) {o : Oper} (ho : o.op = .binOp op t x y t') : r.2.1 = .no ∧ (execOp a.eval o).run P w = .ok (.value r.1.den) w ∧ ∀ m w, Ok m w r.1 := by
  unfold stepNil at h
  split at h
  · rename_i hc
    have hy : y = .const .nilIface := by
      unfold isNilC at hc
      split at hc
      · rfl
      · cases hc
    subst hy
    have hy : a.eval (.const .nilIface) = .nilIface := rfl
    split at h
    · rename_i ti hti
      split at h
      · rename_i hb
        injection h with h; subst h
        obtain ⟨ms, hu⟩ := (lookT_ok hT hti).itf hb
        have hr := (run_ifc_eq (w := w) (tt := 0) (v := .nilIface) hu).2
        refine ⟨rfl, ?_, fun m w => .bool _⟩
        simp [execOp, ho, hx, hy, eqGuard, binOp, hr, AV.den, BE.den]
      · cases h
    · rename_i ti hti
      split at h
      · rename_i hb
        injection h with h; subst h
        obtain ⟨ms, hu⟩ := (lookT_ok hT hti).itf hb
        have hr := (run_ifc_eq (w := w) (tt := 0) (v := .nilIface) hu).2
        refine ⟨rfl, ?_, fun m w => .bool _⟩
        simp [execOp, ho, hx, hy, eqGuard, binOp, hr, AV.den, BE.den]
      · cases h
    · cases h
  · cases h
theorem step_sound {T : List (Nat × TI)} (hT : TabOK P T) {cs : List (Nat × CS)} {i d : Nat} {q : List (Nat × Bool)} {o : Oper} (h : Fits C s a w) (hq : Path a q)
    (hs : ∀ x, ∃ r, step std T cs x i s q d o.type o.op = some r ∧ ∀ ob ∈ r.2.2, ob.holds P)
    (hK : ∀ x r w', step std T cs x i s q d o.type o.op = some r → Fits C (s.eff r.2.1) a w' → (r.1.known = true → Ok ((s.eff r.2.1).m C) w' r.1) → K (a.put o.dst r.1.den) w') : o.wp P a w K Q := by
  have V : ∀ {x : Operand}, (val s q x).known = true → a.eval x = (val s q x).den ∧ Ok (s.m C) w (val s q x) := fun hk => val_ok h hq hk
  obtain ⟨r, hr, hob⟩ := hs ⟨w.heap.size, fun _ => none, fun _ => 0, fun _ => .empty⟩
  have hr0 := hr
  cases hop : o.op with
  | move x =>
    rw [hop] at hr
    simp only [step] at hr
    split at hr
    · rename_i hk
      injection hr with hr; subst hr
      refine wp_value (v := (val s q x).den) (w' := w) (by simp [execOp, hop, (V hk).1]) ?_
      exact hK _ _ w hr0 h fun _ => (V hk).2
    · cases hr
  | makeFunc fn first cap =>
    rw [hop] at hr
    simp only [step] at hr
    split at hr
    · rename_i l r' hl hr'
      split at hr
      · rename_i f
        injection hr with hr; subst hr
        obtain ⟨h1, g1⟩ := vals_ok h hq hl
        obtain ⟨h2, g2⟩ := vals_ok h hq hr'
        have e1 : first.map a.eval = (l.map AV.den).toArray := by apply Array.ext'; simpa using h1
        have e2 : cap.map a.eval = (r'.map AV.den).toArray := by apply Array.ext'; simpa using h2
        have hmf : ∀ (fn : Fn) (first cap : Array Value) (w : World), (Instr.makeFunc fn first cap).run P w = .ok (.func fn first cap) w := fun _ _ _ _ => rfl
        refine wp_value (v := .func (.func f) (l.map AV.den).toArray (r'.map AV.den).toArray) (w' := w) (by simp [execOp, hop, e1, e2, hmf]) ?_
        have := hK _ _ w hr0 h fun _ => .fn f _ _ g1 g2
        simpa [AV.den, denL_map] using this
      · cases hr
    · cases hr
  | makeInterface t x =>
    rw [hop] at hr
    simp only [step] at hr
    split at hr
    · rename_i ti hti
      split at hr
      · cases hr
      · rename_i hi
        split at hr
        · rename_i hk
          injection hr with hr; subst hr
          obtain ⟨d', hu, hne⟩ := (lookT_ok hT hti).conc (by simpa using hi)
          have hxv := V hk
          refine wp_value (v := (AV.ifc t (val s q x)).den) (w' := w) ?_ (hK _ _ w hr0 h fun _ => .ifc _ _ hxv.2)
          have hmi : (Instr.makeInterface t (val s q x).den).run P w = .ok (.iface t (val s q x).den) w := by
            simp only [Instr.makeInterface, Sem.run_bind, run_underlying hu, Result.andThen_ok]
            cases d' <;> first | rfl | exact absurd rfl (hne _)
          simp [execOp, hop, hxv.1, hmi, AV.den]
        · cases hr
    · cases hr
  | nilCheck x =>
    rw [hop] at hr
    simp only [step] at hr
    split at hr
    · rename_i k b off hx
      injection hr with hr; subst hr
      have hxv := (V (x := x) (by rw [hx]; rfl)).1
      rw [hx] at hxv
      refine wp_value (v := (AV.ptr k b off).den) (w' := w) (by simp [execOp, hop, hxv, AV.den]) ?_
      exact hK _ _ w hr0 h fun _ => .ptr _ _ _
    · rename_i f l r' hx
      injection hr with hr; subst hr
      have hxv := V (x := x) (by rw [hx]; rfl)
      rw [hx] at hxv
      refine wp_value (v := (AV.fn f l r').den) (w' := w) (by simp [execOp, hop, hxv.1, AV.den]) ?_
      exact hK _ _ w hr0 h fun _ => hxv.2
    · cases hr
  | assign x =>
    rw [hop] at hr
    simp only [step] at hr
    split at hr
    · rename_i hnil
      have hx : x = .const (.slice none 0 0) := by
        unfold isNilS at hnil
        split at hnil
        · rfl
        · cases hnil
      subst hx
      split at hr
      · rename_i ti hti
        split at hr
        · rename_i e k hel
          split at hr
          · cases hr
          · rename_i hk
            injection hr with hr; subst hr
            obtain ⟨h1, h2⟩ := h.nilTok d k e (Nat.pos_of_ne_zero hk)
            refine wp_value (v := .slice none 0 0) (w' := w) (by simp [execOp, hop, Act.eval]) ?_
            exact hK _ _ w hr0 h1 fun _ => .sl _ _ _ _ _ _ (Nat.le_refl _) (by simp) (fun i hi => by omega) (fun i hi => by omega) (fun i hi => by omega) (fun i hi => by omega) (fun i hi => by omega)
        · cases hr
      · cases hr
    split at hr
    · rename_i hk
      injection hr with hr; subst hr
      refine wp_value (v := (val s q x).den) (w' := w) (by simp [execOp, hop, (V hk).1]) ?_
      exact hK _ _ w hr0 h fun _ => (V hk).2
    · cases hr
  | pick c x y =>
    rw [hop] at hr
    cases c with
    | tmp c =>
      simp only [step] at hr
      split at hr
      · rename_i e he
        obtain ⟨v, hv, rfl⟩ := Option.map_eq_some_iff.1 hr
        have hc := V (x := .tmp c) (by rw [he]; rfl)
        rw [he] at hc
        have hcb : a.eval (.tmp c) = .bool e.den := hc.1
        have hcs : a.tmps[c]? = some (.bool e.den) := getD_bool hcb
        have hp : ∀ b, e.den = b → Path a ((c, b) :: q) := by
          intro b hb y hy
          rcases List.mem_cons.1 hy with rfl | hy
          · rw [hcs, hb]
          · exact hq y hy
        have fin : (execOp a.eval o).run P w = .ok (.value v.den) w ∧ Ok (s.m C) w v := by
          cases e with
          | tt =>
            simp only [pick] at hv
            split at hv
            · rename_i hk
              injection hv with hv; subst hv
              have := val_ok h (hp true rfl) hk
              refine ⟨?_, this.2⟩
              simp [execOp, hop, hcb, BE.den, asBool, this.1]
            · cases hv
          | ff =>
            simp only [pick] at hv
            split at hv
            · rename_i hk
              injection hv with hv; subst hv
              have := val_ok h (hp false rfl) hk
              refine ⟨?_, this.2⟩
              simp [execOp, hop, hcb, BE.den, asBool, this.1]
            · cases hv
          | v b =>
            cases hx : val s ((c, true) :: q) x <;> cases hy : val s ((c, false) :: q) y <;> simp [pick, hx, hy] at hv
            rename_i a' b'
            subst hv
            refine ⟨?_, .bool _⟩
            cases hb : b with
            | true =>
              have := val_ok h (hp true (by rw [hb]; rfl)) (x := x) (by rw [hx]; rfl)
              rw [hx] at this
              have e1 : a.eval x = .bool a'.den := this.1
              simp [execOp, hop, hcb, BE.den, asBool, hb, e1, den_bv, std]
            | false =>
              have := val_ok h (hp false (by rw [hb]; rfl)) (x := y) (by rw [hy]; rfl)
              rw [hy] at this
              have e1 : a.eval y = .bool b'.den := this.1
              simp [execOp, hop, hcb, BE.den, asBool, hb, e1, den_bv, std]
        exact wp_value fin.1 (hK _ _ w hr0 h fun _ => fin.2)
      · cases hr
    | const v => simp [step] at hr
    | global g => simp [step] at hr
    | func f => simp [step] at hr
  | alloc t =>
    rw [hop] at hr
    simp only [step] at hr
    split at hr
    · rename_i ti hti
      injection hr with hr; subst hr
      obtain ⟨z, hz, hzc, hz1⟩ := (lookT_ok hT hti).zero
      have hn := h.new d t ti.zero (fun v hv => ⟨(hz1 v hv).1, (hz1 v hv).2 _ _⟩)
      rw [← hzc] at hn
      refine wp_value (v := .pointer (some ⟨w.heap.size, 0, none⟩)) (w' := w.alloc (.cells z.cells t)) ?_ ?_
      · simp [execOp, hop, Instr.alloc, hz, newVar, newRow]
      · exact hK _ _ _ hr0 hn.1 fun _ => .ptr _ _ _
    · cases hr
  | box t x =>
    rw [hop] at hr
    simp only [step] at hr
    split at hr
    · rename_i ho
      injection hr with hr; subst hr
      have hv := V (known_of_or ho)
      have hn := h.new d t (val s q x).cells (ok_cells hv.2 ho)
      rw [← den_cells (one_or ho)] at hn
      refine wp_value (v := .pointer (some ⟨w.heap.size, 0, none⟩)) (w' := w.alloc (.cells (val s q x).den.cells t)) ?_ ?_
      · simp [execOp, hop, Instr.box, newVar, newRow, hv.1]
      · exact hK _ _ _ hr0 hn.1 fun _ => .ptr _ _ _
    · cases hr
  | build t parts =>
    rw [hop] at hr
    simp only [step] at hr
    split at hr
    · rename_i ti l hti hl
      split at hr
      · cases hr
      rename_i hne
      obtain ⟨cells, hf, rfl⟩ := Option.map_eq_some_iff.1 hr
      have hty := lookT_ok hT hti
      obtain ⟨z, hz, hzc, hz1⟩ := hty.zero
      obtain ⟨hp1, hp2⟩ := valsP_ok h hq hl
      obtain ⟨fs, places, hu, hm, hpl⟩ := hty.places (by simpa using hne)
      have hfl := fillAV_ok ti.fields (places[·]?) hpl (s.m C) w l ti.zero cells (fun v hv => ⟨(hz1 v hv).1, (hz1 v hv).2 _ _⟩) hp2 hf
      have hargs : (parts.map fun (i, x) => (i, a.eval x)).toList = l.map fun y => (y.1, y.2.den) := by
        rw [Array.toList_map]; exact hp1
      have run : (execOp a.eval o).run P w = .ok (.value (.agg (cells.map AV.den).toArray)) w ∧ (∀ v ∈ cells, v.one = true ∧ Ok (s.m C) w v) := by
        refine ⟨?_, hfl.2⟩
        have hm' := hm w
        simp only [execOp, hop, Instr.build, Sem.run_bind, hz w, Result.andThen_ok, run_underlying hu, hm', hargs, hzc, hfl.1, Sem.run_pure]
      refine wp_value (v := (AV.agg cells).den) (w' := w) (by simpa [AV.den, denL_map] using run.1) ?_
      exact hK _ _ w hr0 h fun _ => .agg _ (fun v hv => (run.2 v hv).1) (fun v hv => (run.2 v hv).2)
    · cases hr
  | load t p =>
    rw [hop] at hr
    simp only [step] at hr
    split at hr
    · rename_i key b off ti hp hti
      split at hr
      · rename_i blk hb
        obtain ⟨v, hv, rfl⟩ := Option.map_eq_some_iff.1 hr
        have hat : blk.at_ = b := hob (.eqN blk.at_ b) (by simp)
        obtain ⟨h1, h2, _⟩ := h.mem _ _ hb
        obtain ⟨hok, hv⟩ := cut_ok hv h2
        have hpv := (V (x := p) (by rw [hp]; rfl)).1
        rw [hp] at hpv
        have hr := run_load (P := P) (w := w) (b := blk.at_) (base := 0) (lookT_ok hT hti) (fun j u hu => by
          rw [cell_of_row w _ _ _ _ _ h1]; simpa using hu) hv
        rw [hat, Nat.zero_add] at hr
        refine wp_value (v := v.den) (w' := w) ?_ (hK _ _ w hr0 h fun _ => hok)
        simp [execOp, hop, hpv, AV.den, hr]
      · cases hr
    · rename_i A' j k off cells ti hp hti
      obtain ⟨v, hv, rfl⟩ := Option.map_eq_some_iff.1 hr
      have hpv := V (x := p) (by rw [hp]; rfl)
      rw [hp] at hpv
      obtain ⟨hpv, hpo⟩ := hpv
      cases hpo with
      | ep _ _ _ _ _ hA hcl h1 h2 =>
        obtain ⟨b, o0, rfl⟩ := hA
        obtain ⟨hok, hv⟩ := cut_ok hv (fun x hx => ⟨h1 x hx, h2 x hx⟩)
        have hr := run_load (P := P) (w := w) (b := b) (base := o0 + j * k) (lookT_ok hT hti) (fun i u hu => by
          obtain ⟨b', o', he, hc, _⟩ := hcl i u hu
          injection he with he; injection he with e1 e2; subst e1; subst e2
          rwa [Nat.add_assoc]) hv
        refine wp_value (v := v.den) (w' := w) ?_ (hK _ _ w hr0 h fun _ => hok)
        simp [execOp, hop, hpv, AV.den, ← Nat.add_assoc, hr]
    · cases hr
  | store t p x =>
    rw [hop] at hr
    simp only [step] at hr
    split at hr
    · rename_i key b off ti hp hti
      split at hr
      · rename_i blk hb
        split at hr
        · rename_i hc
          obtain ⟨hc1, hc2, hc3⟩ := hc
          injection hr with hr; subst hr
          have hat : blk.at_ = b := hob (.eqN blk.at_ b) (by simp)
          obtain ⟨h1, h2, _⟩ := h.mem _ _ hb
          have hpv := (V (x := p) (by rw [hp]; rfl)).1
          rw [hp] at hpv
          have hxv := V (x := x) (known_of_or hc3)
          have hxc := ok_cells hxv.2 hc3
          have hset := h.set hb (blk.cells.take off ++ (val s q x).cells ++ blk.cells.drop (off + ti.size)) (fun v hv => by
            rcases List.mem_append.1 hv with hv | hv
            · rcases List.mem_append.1 hv with hv | hv
              · exact h2 v (List.mem_of_mem_take hv)
              · exact hxc v hv
            · exact h2 v (List.mem_of_mem_drop hv))
          have hst := run_storeCells_at P blk.at_ off blk.ty ((val s q x).cells.map AV.den) 0 (blk.cells.map AV.den).toArray w h1 (by simp; omega) (by
            intro v hv
            obtain ⟨y, hy, rfl⟩ := List.mem_map.1 hv
            exact one_of (hxc y hy).1)
          have hdc := den_cells (one_or hc3)
          have hsz := (lookT_ok hT hti).size w
          refine wp_skip' (w' := w.setRow blk.at_ ((blk.cells.take off ++ (val s q x).cells ++ blk.cells.drop (off + ti.size)).map AV.den).toArray) ?_ (hK _ _ _ hr0 hset fun hk => by cases hk)
          simp only [Nat.add_zero, List.length_map, hc1] at hst
          have hst' : (storeCells ⟨b, off, none⟩ ((val s q x).cells.map AV.den)).run P w = .ok () (w.setRow blk.at_ ((blk.cells.take off ++ (val s q x).cells ++ blk.cells.drop (off + ti.size)).map AV.den).toArray) := by
            rw [← hat, hst]
            simp [List.map_take, List.map_drop]
          simp [execOp, hop, hpv, hxv.1, AV.den, Instr.storeAt, Instr.sureAddr, storeVar, hdc, hsz, hc1, hst']
        · cases hr
      · cases hr
    · cases hr
  | fieldAddr t p f =>
    rw [hop] at hr
    simp only [step] at hr
    split at hr
    · rename_i key b off ti hp hti
      obtain ⟨y, hy, rfl⟩ := Option.map_eq_some_iff.1 hr
      have hpv := (V (x := p) (by rw [hp]; rfl)).1
      rw [hp] at hpv
      obtain ⟨fs, hu, fd, hfd, hfo, hfz, hf0, _⟩ := (lookT_ok hT hti).fields f y hy
      refine wp_value (v := (AV.ptr key b (off + y.1)).den) (w' := w) ?_ (hK _ _ w hr0 h fun _ => .ptr _ _ _)
      simp [execOp, hop, hpv, AV.den, Instr.fieldAt, run_underlying hu, hfd, Instr.sureAddr, fieldPlace, hfz w, hf0, Addr.add_lit, hfo]
    · rename_i A' j k off cells ti hp hti
      obtain ⟨y, hy, rfl⟩ := Option.map_eq_some_iff.1 hr
      have hpv := V (x := p) (by rw [hp]; rfl)
      rw [hp] at hpv
      obtain ⟨hpv, hpo⟩ := hpv
      cases hpo with
      | ep _ _ _ _ _ hA hcl h1 h2 =>
        obtain ⟨b, o0, rfl⟩ := hA
        obtain ⟨fs, hu, fd, hfd, hfo, hfz, hf0, _⟩ := (lookT_ok hT hti).fields f y hy
        refine wp_value (v := (AV.ep (some ⟨b, o0, none⟩) j k (off + y.1) cells).den) (w' := w) ?_ (hK _ _ w hr0 h fun _ => .ep _ _ _ _ _ ⟨_, _, rfl⟩ hcl h1 h2)
        simp [execOp, hop, hpv, AV.den, Instr.fieldAt, run_underlying hu, hfd, Instr.sureAddr, fieldPlace, hfz w, hf0, Addr.add_lit, hfo, Nat.add_assoc]
    · cases hr
  | field t x f =>
    rw [hop] at hr
    simp only [step] at hr
    split at hr
    · rename_i l ti hx hti
      split at hr
      · rename_i off n agg hf
        obtain ⟨v, hv, rfl⟩ := Option.map_eq_some_iff.1 hr
        have hxv := V (x := x) (by rw [hx]; rfl)
        rw [hx] at hxv
        obtain ⟨hxv, hxo⟩ := hxv
        cases hxo with
        | agg _ h1 h2 =>
          obtain ⟨hok, hv⟩ := cut_ok hv (fun x hx => ⟨h1 x hx, h2 x hx⟩)
          obtain ⟨fs, hu, fd, hfd, hfo, hfz, hf0, hag⟩ := (lookT_ok hT hti).fields f _ hf
          refine wp_value (v := v.den) (w' := w) ?_ (hK _ _ w hr0 h fun _ => hok)
          simp only at hfo hfz hf0 hag
          cases agg with
          | true =>
            rw [if_pos rfl] at hv
            obtain ⟨hl, rfl⟩ := hv
            simp [execOp, hop, hxv, AV.den, denL_map, Instr.field, run_underlying hu, hfd, asAgg, part, hag w, hfz w, hfo, List.map_take, List.map_drop]
          | false =>
            rw [if_neg (by simp)] at hv
            simp [execOp, hop, hxv, AV.den, denL_map, Instr.field, run_underlying hu, hfd, asAgg, part, hag w, hfz w, hfo, hv]
      · cases hr
    · cases hr
  | indexAddr t p ix =>
    rw [hop] at hr
    simp only [step] at hr
    split at hr
    · rename_i gx A' n c k cells ki j ti hp hix hti
      split at hr
      · rename_i e ek hel
        split at hr
        · rename_i hk
          subst hk
          injection hr with hr; subst hr
          have hpv := V (x := p) (by rw [hp]; rfl)
          have hiv := (V (x := ix) (by rw [hix]; rfl)).1
          rw [hp] at hpv
          rw [hix] at hiv
          obtain ⟨hpv, hpo⟩ := hpv
          have hb : 0 ≤ j ∧ j < (n : Int) := hob (.idx j n) (by simp)
          obtain ⟨hu, hsz⟩ := (lookT_ok hT hti).elem _ _ hel
          have hjn : j.toNat < n := by omega
          cases hpo with
          | sl _ _ _ _ _ _ g1 g2 g3 g4 g5 g6 g7 =>
            obtain ⟨b, o0, rfl⟩ := g4 _ hjn
            refine wp_value (v := (AV.ep (some ⟨b, o0, none⟩) j.toNat ek 0 (cells j.toNat)).den) (w' := w) ?_ (hK _ _ w hr0 h fun _ => .ep _ _ _ _ _ ⟨_, _, rfl⟩ (g5 _ hjn) (g6 _ hjn) (g7 _ hjn))
            simp [execOp, hop, hpv, hiv, AV.den, Instr.indexAt, asIntOf, run_underlying hu, hb, hsz w, Addr.add_lit]
        · cases hr
      · cases hr
    · cases hr
  | extract x n =>
    rw [hop] at hr
    simp only [step] at hr
    split at hr
    · rename_i l hx
      obtain ⟨v, hv, rfl⟩ := Option.map_eq_some_iff.1 hr
      have hxv := V (x := x) (by rw [hx]; rfl)
      rw [hx] at hxv
      obtain ⟨hxv, hxo⟩ := hxv
      cases hxo with
      | tup _ h1 =>
        refine wp_value (v := v.den) (w' := w) ?_ (hK _ _ w hr0 h fun _ => h1 v (List.mem_of_getElem? hv))
        simp [execOp, hop, hxv, AV.den, denL_map, Instr.extract, hv]
    · cases hr
  | binOp op t x y t' =>
    rw [hop] at hr
    simp only [step] at hr
    obtain ⟨e1, e2, e3⟩ : r.2.1 = .no ∧ (execOp a.eval o).run P w = .ok (.value r.1.den) w ∧ ∀ m w, Ok m w r.1 := by
      split at hr
      · rename_i hn
        have hx : val s q x = .nili := by
          unfold isNili at hn
          split at hn
          · assumption
          · cases hn
        have hxv := (V (x := x) (by rw [hx]; rfl)).1
        rw [hx] at hxv
        exact stepNil_ok (q := q) hT hxv hr hop
      · exact stepBin_ok (w := w) hT (fun hk => (V hk).1) (fun hk => (V hk).1) hr hob hop
    refine wp_value (v := r.1.den) (w' := w) e2 (hK _ _ w hr0 ?_ fun _ => e3 _ _)
    rw [e1]; exact h
  | unOp op t x =>
    rw [hop] at hr
    simp only [step] at hr
    cases op with
    | not =>
      split at hr
      · rename_i hx
        injection hr with hr; subst hr
        have hxv := (V (x := x) (by rw [hx]; rfl)).1
        rw [hx] at hxv
        exact wp_value (v := .bool false) (w' := w) (by simp [execOp, hop, hxv, AV.den, BE.den, Op.unary]) (hK _ _ w hr0 h fun _ => .bool _)
      · rename_i hx
        injection hr with hr; subst hr
        have hxv := (V (x := x) (by rw [hx]; rfl)).1
        rw [hx] at hxv
        exact wp_value (v := .bool true) (w' := w) (by simp [execOp, hop, hxv, AV.den, BE.den, Op.unary]) (hK _ _ w hr0 h fun _ => .bool _)
      · rename_i b _ hx
        injection hr with hr; subst hr
        have hxv := (V (x := x) (by rw [hx]; rfl)).1
        rw [hx] at hxv
        exact wp_value (v := .bool !b) (w' := w) (by simp [execOp, hop, hxv, AV.den, BE.den, Op.unary]) (hK _ _ w hr0 h fun _ => .bool _)
      · cases hr
    | _ => simp at hr
  | call c =>
    rw [hop] at hr
    simp only [step] at hr
    split at hr
    · rename_i hcal
      split at hr
      · rename_i x t hargs htys
        split at hr
        · rename_i sx ti hx hti
          split at hr
          · rename_i hst
            injection hr with hr; subst hr
            have hxv := (V (x := x) (by rw [hx]; rfl)).1
            rw [hx] at hxv
            have hu := (lookT_ok hT hti).str hst
            have ha : c.args = #[x] := by apply Array.ext'; simpa using hargs
            have ht' : c.argTypes = #[t] := by apply Array.ext'; simpa using htys
            refine wp_value (v := .int .i64 (sx.size : Int)) (w' := w) ?_ (hK _ _ w hr0 h fun _ => .int _ _)
            simp [execOp, hop, resolve, hcal, invoke, builtin, Builtin.len_, ha, ht', hxv, AV.den, run_underlying hu, goInt]
          · cases hr
        · rename_i gx A' n c' k cells ti hx hti
          split at hr
          · rename_i ek hel
            injection hr with hr; subst hr
            have hxv := (V (x := x) (by rw [hx]; rfl)).1
            rw [hx] at hxv
            have hu := ((lookT_ok hT hti).elem ek.1 ek.2 hel).1
            have ha : c.args = #[x] := by apply Array.ext'; simpa using hargs
            have ht' : c.argTypes = #[t] := by apply Array.ext'; simpa using htys
            refine wp_value (v := .int .i64 (n : Int)) (w' := w) ?_ (hK _ _ w hr0 h fun _ => .int _ _)
            simp [execOp, hop, resolve, hcal, invoke, builtin, Builtin.len_, ha, ht', hxv, AV.den, run_underlying hu, goInt]
          · cases hr
        · cases hr
      · cases hr
    · rename_i hcal
      split at hr
      · rename_i o1 o2 t1 t2 hargs htys
        split at hr
        · rename_i ht12
          subst ht12
          have ha : c.args = #[o1, o2] := by apply Array.ext'; simpa using hargs
          have ht' : c.argTypes = #[t1, t1] := by apply Array.ext'; simpa using htys
          have hstep : ∀ x, step std T cs x i s q d o.type o.op = stepAppend std T x s d t1 (val s q o1) (val s q o2) := by
            intro x; rw [hop]; simp only [step, hcal, hargs, htys, if_true]
          have hrun : ∀ {v : Value} {w' : World}, (Builtin.append_ #[t1, t1] o.type #[a.eval o1, a.eval o2]).run P w = .ok v w' → (execOp a.eval o).run P w = .ok (.value v) w' := by
            intro v w' hrun
            simp [execOp, hop, resolve, hcal, invoke, builtin, ha, ht', hrun]
          unfold stepAppend at hr
          split at hr
          · rename_i gx A1 n c1 k cells g' A2 n' c2 k' cells' ti hx hy hti
            split at hr
            · rename_i e ek hel
              split at hr
              · rename_i hke
                obtain ⟨hke, hby⟩ := hke
                subst hke
                have hxv := V (x := o1) (by rw [hx]; rfl)
                have hyv := V (x := o2) (by rw [hy]; rfl)
                rw [hx] at hxv
                rw [hy] at hyv
                obtain ⟨z, E⟩ := (lookT_ok hT hti).elty _ _ hel hby
                split at hr
                · rename_i key
                  split at hr
                  · rename_i t ht
                    split at hr
                    · rename_i hte
                      obtain ⟨hk1, hk2, hk3⟩ := hte
                      subst hk1; subst hk3
                      injection hr with hr; subst hr
                      obtain ⟨q1, q2, q3⟩ : t.A = A1 ∧ t.n = n ∧ t.c = c1 := hob (.eqT t A1 n c1) (by simp)
                      obtain ⟨q4, q5⟩ : n + n' ≤ maxLen ∧ (n + n') * ti.ebytes ≤ 140737488355328 := hob (.room (std.nadd n n') ti.ebytes) (by simp)
                      rw [← q1, ← q2, ← q3, ← hk2] at hxv
                      rw [← hk2] at hyv E
                      obtain ⟨A3, c3, w', r1, r2, r3⟩ := h.append ht hxv.2 hyv.2 E o.type (by rw [q2]; exact q4) (by rw [q2]; exact q5)
                      have e1 : a.eval o1 = t.v := hxv.1
                      have e2 : a.eval o2 = .slice A2 n' c2 := hyv.1
                      refine wp_value (v := .slice A3 (t.n + n') c3) (w' := w') (hrun (by rw [e1, e2]; exact r1)) ?_
                      have hst := hstep ⟨0, fun _ => A3, fun _ => c3, fun _ => .empty⟩
                      simp only [stepAppend, hx, hy, hti, hel, ht, hk2, and_self, if_true, hby, ne_eq, not_false_eq_true] at hst
                      rw [hk2, q2] at r2 r3
                      rw [q2]
                      exact hK _ _ _ hst r2 fun _ => r3
                    · cases hr
                  · cases hr
                · split at hr
                  · rename_i hnil
                    injection hr with hr; subst hr
                    obtain ⟨q4, q5⟩ : n' ≤ maxLen ∧ n' * ti.ebytes ≤ 140737488355328 := hob (.room n' ti.ebytes) (by simp)
                    have hnl : A1 = none ∧ n = 0 ∧ c1 = 0 := by
                      rw [hx] at hnil
                      cases A1 <;> cases n <;> cases c1 <;> simp [isNilL] at hnil ⊢
                    obtain ⟨rfl, rfl, rfl⟩ := hnl
                    have hkpos := E.pos
                    obtain ⟨f1, f2⟩ := h.nilTok d k' e hkpos
                    have hlk : lookM (s.eff (.grow d ⟨none, 0, 0, k', e⟩)).gr d = some ⟨none, 0, 0, k', e⟩ := by simp [St.eff, lookM_cons]
                    have hx0 : Ok ((s.eff (.grow d ⟨none, 0, 0, k', e⟩)).m C) w (.sl (some d) none 0 0 k' (fun _ => [])) := .sl _ _ _ _ _ _ (Nat.le_refl _) (by simp) (fun i hi => by omega) (fun i hi => by omega) (fun i hi => by omega) (fun i hi => by omega) (fun i hi => by omega)
                    obtain ⟨A3, c3, w', r1, r2, r3⟩ := f1.append hlk hx0 (f2 _ hyv.2) E o.type (by simp only; omega) (by simp only [Nat.zero_add]; exact q5)
                    have e1 : a.eval o1 = .slice none 0 0 := hxv.1
                    have e2 : a.eval o2 = .slice A2 n' c2 := hyv.1
                    simp only [Gr.v, Nat.zero_add] at r1 r2 r3
                    refine wp_value (v := .slice A3 n' c3) (w' := w') (hrun (by rw [e1, e2]; exact r1)) ?_
                    have hst := hstep ⟨0, fun _ => A3, fun _ => c3, fun _ => .empty⟩
                    simp only [stepAppend, hx, hy, hti, hel, hby, ne_eq, not_false_eq_true, and_self, if_true, isNilL] at hst
                    have hal : Alike ((s.eff (.grow d ⟨none, 0, 0, k', e⟩)).eff (.grow d ⟨A3, n', c3, k', e⟩)) (s.eff (.grow d ⟨A3, n', c3, k', e⟩)) := by
                      refine ⟨rfl, fun _ => rfl, fun _ => rfl, fun _ => rfl, fun k => ?_⟩
                      simp only [St.eff, lookM_cons, lookM_del]
                      split <;> rfl
                    refine hK _ _ _ hst (r2.alike hal) fun _ => ?_
                    rw [← hal.m C]
                    have hcells : appC 0 (fun _ => []) cells' = cells' := by funext i; simp [appC]
                    rw [hcells] at r3
                    exact r3
                  · cases hr
              · cases hr
            · cases hr
          · cases hr
        · cases hr
      · cases hr
    · rename_i g hcal
      have hstep : ∀ x, step std T cs x i s q d o.type o.op = stepCall s x (val s q g) (lookC cs i) (vals s q c.args.toList) := by
        intro x; rw [hop]; simp only [step, hcal]
      unfold stepCall at hr
      have enter : ∀ {f : Nat} {l r' args : List AV}, val s q g = .fn f l r' → vals s q c.args.toList = some args → Enters P f →
          (execOp a.eval o).run P w = .ok (.enter f ((l ++ args ++ r').map AV.den).toArray) w ∧ ∀ v ∈ l ++ args ++ r', Ok (s.m C) w v := by
        intro f l r' args hg hl hent
        have hgv := V (x := g) (by rw [hg]; rfl)
        rw [hg] at hgv
        obtain ⟨h1, h2⟩ := vals_ok h hq hl
        have hargs : c.args.map a.eval = (args.map AV.den).toArray := by
          apply Array.ext'
          simpa using h1
        have e1 : a.eval g = .func (.func f) (l.map AV.den).toArray (r'.map AV.den).toArray := by
          have := hgv.1
          simpa [AV.den, denL_map] using this
        have hent' := hent ((l ++ args ++ r').map AV.den).toArray w
        refine ⟨?_, fun v hv => ?_⟩
        · simp only [List.map_append] at hent'
          simp [execOp, hop, resolve, hcal, e1, Deferred.ofValue, invoke, hargs, List.append_assoc]
          simpa [List.append_assoc] using hent'
        · cases hgv.2 with
          | fn _ _ _ k1 k2 =>
            rcases List.mem_append.1 hv with hv | hv
            · rcases List.mem_append.1 hv with hv | hv
              · exact k1 v hv
              · exact h2 v hv
            · exact k2 v hv
      split at hr
      · rename_i f l r' res args hg hres hl
        injection hr with hr; subst hr
        obtain ⟨hent, hsp⟩ : Enters P f ∧ Spec P f (l ++ args ++ r') res := hob (.call f (l ++ args ++ r') res) (by simp)
        obtain ⟨hrun, hok⟩ := enter hg hl hent
        unfold Oper.wp
        rw [hrun]
        simp only [Oper.upon]
        refine (hsp (s.m C) w (m_lt h) hok).mono ?_
        rintro e w' ⟨x, rfl, hok, hb⟩
        exact hK x (res x, .no, [.call f (l ++ args ++ r') res]) w' (by rw [hstep, hg, hres, hl]; rfl) (h.below hb) fun _ => hok
      · rename_i f l r' res args hg hres hl
        split at hr
        · rename_i pre hpre
          split at hr
          · rename_i hnd
            injection hr with hr; subst hr
            obtain ⟨hent, hsp⟩ : Enters P f ∧ SpecX P f (l ++ args ++ r') pre res := hob (.callX f (l ++ args ++ r') pre res) (by simp)
            obtain ⟨hrun, hok⟩ := enter hg hl hent
            obtain ⟨p1, p2⟩ := preOf_ok hpre
            have hd := nodup_dist h hnd p2
            unfold Oper.wp
            rw [hrun]
            simp only [Oper.upon]
            refine (hsp (s.m C) w (m_lt h) hok ⟨fun e he => (h.mem _ _ (p2 e he)).1, fun e he => (h.mem _ _ (p2 e he)).2.1, fun e he o => .inr (.inl ⟨e.1, e.2, p2 e he, rfl⟩), hd⟩).mono ?_
            rintro e w' ⟨x, rfl, hok, hleft⟩
            obtain ⟨f1, f2⟩ := h.called hd p2 hleft
            have hpx : preOf s (res x).sets = some pre := by rw [preOf_keys (hleft.keys.trans p1.symm), hpre]
            exact hK x ((res x).v, .sets (upd pre (res x).sets ++ (res x).news), [.callX f (l ++ args ++ r') pre res]) w' (by rw [hstep, hg, hres, hl]; simp only [stepCall, hpx, hnd, if_true]) f1 fun _ => f2 _ hok
          · cases hr
        · cases hr
      · cases hr
    · cases hr
  | buildSlice t n parts =>
    rw [hop] at hr
    simp only [step] at hr
    split at hr
    · rename_i ti l hti hl
      split at hr
      · rename_i e k hel
        split at hr
        · rename_i te hte
          split at hr
          · cases hr
          · rename_i hc
            simp only [not_or, Decidable.not_not] at hc
            obtain ⟨hc1, hc2, hc3⟩ := hc
            obtain ⟨cells, hf, rfl⟩ := Option.map_eq_some_iff.1 hr
            obtain ⟨hu, hsz⟩ := (lookT_ok hT hti).elem _ _ hel
            obtain ⟨z, hz, hzc, hz1⟩ := (lookT_ok hT hte).zero
            obtain ⟨hp1, hp2⟩ := valsP_ok h hq hl
            have hzs : z.cells.size = k := by rw [hzc]; simpa using hc2
            have hk : 0 < k := by
              rcases Nat.eq_zero_or_pos k with h0 | h0
              · subst h0; simp at hc1
              · exact h0
            have hfl := fillAV_ok (places k 0 n) (fun i => some (i * k, k)) (fun f x hx => by
              obtain ⟨g1, g2⟩ := places_get k n 0 f x hx
              rw [Nat.zero_add] at g1
              simp [g1, g2]) (s.m C) w l (replL te.zero n) cells (fun v hv => ⟨(hz1 v (replL_mem hv)).1, (hz1 v (replL_mem hv)).2 _ _⟩) hp2 hf
            have hlen : cells.length = n * k := by rw [fillAV_len hf, replL_len, hc2]
            have hzero : ((Array.range (n * k)).map fun j => z.cells[j % z.cells.size]!) = ((replL te.zero n).map AV.den).toArray := by
              apply Array.ext'
              apply List.ext_getElem?
              intro j
              simp only [Array.toList_map, List.getElem?_map, Array.toList_range]
              by_cases hj : j < n * k
              · have h1 : (List.range (n * k))[j]? = some j := by simp [hj]
                have h2 := replL_get te.zero n j (by rw [hc2]; exact hj)
                have h3 : j % te.zero.length < te.zero.length := Nat.mod_lt _ (by omega)
                rw [h1, h2, List.getElem?_eq_getElem h3]
                simp only [Option.map_some, hzs]
                have h4 : j % k < z.cells.size := by rw [hzs]; exact Nat.mod_lt _ hk
                rw [getElem!_pos z.cells _ h4]
                congr 1
                simp only [hzc, hc2]
                simp
              · rw [List.getElem?_eq_none (by simp; omega), List.getElem?_eq_none (by rw [replL_len, hc2]; omega)]
                rfl
            have hargs : (parts.map fun (i, x) => (i, a.eval x)).toList = l.map fun y => (y.1, y.2.den) := by
              rw [Array.toList_map]; exact hp1
            have hb := below_alloc w (.cells (cells.map AV.den).toArray e)
            have hf' := h.below hb
            have run : (execOp a.eval o).run P w = .ok (.value (.slice (some ⟨w.heap.size, 0, none⟩) n n)) (w.alloc (.cells (cells.map AV.den).toArray e)) := by
              have hlim : ¬ (n * k > 2 ^ 24) := by omega
              simp only [execOp, hop, Instr.buildSlice, Sem.run_bind, run_underlying hu, Result.andThen_ok, hsz w, Sem.run_pure]
              rw [if_neg hlim, if_neg hc1]
              simp only [Sem.run_bind, hz w, Result.andThen_ok, Sem.run_pure]
              rw [hargs, hzero, hfl.1]
              simp [newRow]
            have hn0 : 0 < n := by
              rcases Nat.eq_zero_or_pos n with h0 | h0
              · subst h0; simp at hc1
              · exact h0
            have hchunk : ∀ i, i < n → (chunk k cells i).length = k := by
              intro i hi
              have := Nat.mul_le_mul_right k (show i + 1 ≤ n by omega)
              rw [Nat.add_mul, Nat.one_mul] at this
              simp [chunk]; omega
            have hmem : ∀ i, ∀ v ∈ chunk k cells i, v ∈ cells := fun i v hv => List.mem_of_mem_drop (List.mem_of_mem_take hv)
            have mono : ∀ v, Ok (s.m C) w v → Ok (s.m C) (w.alloc (.cells (cells.map AV.den).toArray e)) v := fun v hv => hv.mono fun b o u h1 h2 => ⟨(hb.cell (World.block_lt_of_cell? w _ h1)).trans h1, h2⟩
            have hnk : n ≤ n * k := Nat.le_mul_of_pos_right n hk
            have hmax : n ≤ maxLen := by simp only [maxLen]; omega
            have hok : ∀ g', Ok (s.m C) (w.alloc (.cells (cells.map AV.den).toArray e)) (.sl g' (some ⟨w.heap.size, 0, none⟩) n n k (chunk k cells)) := ?hok
            have hown : Own (w.alloc (.cells (cells.map AV.den).toArray e)) C.w0.heap.size e k (.slice (some ⟨w.heap.size, 0, none⟩) n n) n (cells.map AV.den) := by
              refine ⟨by rw [List.length_map]; exact hlen, .inr ⟨w.heap.size, n, _, rfl, h.chg.size, heap_alloc_new w _, Nat.le_refl _, hn0, hmax, by simp [hlen], ?_⟩⟩
              rw [List.take_of_length_le (by simp [hlen])]
            have hadd := hf'.addRow d ⟨some ⟨w.heap.size, 0, none⟩, n, n, k, e⟩ hk (xs := cells.map AV.den) hown (fun b hb' => by
              have hbe : b = w.heap.size := by
                simp only [Gr.v, ownB, show ¬ n = 0 by omega] at hb'
                simpa using hb'.symm
              subst hbe
              refine ⟨fun k' e' he' he => ?_, fun k' t' ht' hv => ?_, fun o' u hu' => ?_⟩
              · have := lt_of_heap (h.mem _ _ he').1; omega
              · obtain ⟨_, ys, hoo⟩ := h.gr k' t' ht'
                have := (hoo.lt _ hv).2; omega
              · rw [cell_of_row _ _ _ _ _ _ (heap_alloc_new w _)] at hu'
                have := (Array.getElem?_eq_some_iff.1 hu').1
                simp [hlen] at this
                exact this)
            by_cases hqe : q.isEmpty = true
            · have hrx : step std T cs ⟨w.heap.size, fun _ => none, fun _ => 0, fun _ => .empty⟩ i s q d o.type o.op = some (.sl (some d) (some ⟨w.heap.size, 0, none⟩) n n k (chunk k cells), .grow d ⟨some ⟨w.heap.size, 0, none⟩, n, n, k, e⟩, []) := by rw [hr0, if_pos hqe]
              exact wp_value (v := .slice (some ⟨w.heap.size, 0, none⟩) n n) (w' := w.alloc (.cells (cells.map AV.den).toArray e)) run (hK _ _ _ hrx hadd.1 fun _ => hadd.2 _ (hok _))
            · have hrx : step std T cs ⟨w.heap.size, fun _ => none, fun _ => 0, fun _ => .empty⟩ i s q d o.type o.op = some (.sl none (some ⟨w.heap.size, 0, none⟩) n n k (chunk k cells), .no, []) := by rw [hr0, if_neg hqe]
              exact wp_value (v := .slice (some ⟨w.heap.size, 0, none⟩) n n) (w' := w.alloc (.cells (cells.map AV.den).toArray e)) run (hK _ _ _ hrx hf' fun _ => hok _)
            intro g'
            refine .sl _ _ _ _ _ _ (Nat.le_refl _) (by simp only [maxLen]; omega) hchunk (fun i hi => ⟨_, _, rfl⟩) (fun i hi => ?_) (fun i hi v hv => (hfl.2 v (hmem i v hv)).1) (fun i hi v hv => mono _ (hfl.2 v (hmem i v hv)).2)
            intro j u hu'
            refine ⟨_, _, rfl, ?_, fun hm => ?_⟩
            · rw [Nat.zero_add, cell_of_row _ _ _ _ _ _ (heap_alloc_new w _)]
              have hj : j < k := by
                have := (List.getElem?_eq_some_iff.1 hu').1
                rwa [List.length_map, hchunk i hi] at this
              simp only [chunk, List.map_take, List.map_drop, List.getElem?_take_of_lt hj, List.getElem?_drop] at hu'
              simpa using hu'
            · have := m_lt h _ _ hm; omega
        · cases hr
      · cases hr
    · cases hr
  | convert t t' x =>
    rw [hop] at hr
    simp only [step] at hr
    split at hr
    · rename_i k j ti ti' hx hti hti'
      split at hr
      · rename_i k1 k2 hi1 hi2
        injection hr with hr; subst hr
        have hxv := (V (x := x) (by rw [hx]; rfl)).1
        rw [hx] at hxv
        have hu1 := (lookT_ok hT hti).int _ hi1
        have hu2 := (lookT_ok hT hti').int _ hi2
        refine wp_value (v := .int k2 (k2.wrap j)) (w' := w) ?_ (hK _ _ w hr0 h fun _ => .int _ _)
        simp [execOp, hop, convert, run_underlying hu1, run_underlying hu2, hxv, AV.den, Conv.intToInt]
      · cases hr
    · rename_i gx A1 n c1 k cells ti ti' hx hti hti'
      split at hr
      · rename_i hc
        simp only [Bool.and_eq_true, beq_iff_eq] at hc
        obtain ⟨⟨hb, hst⟩, rfl⟩ := hc
        injection hr with hr; subst hr
        have hby : ∀ i, i < n → ∃ x, cells i = [.int .u8 x] := hob (.bytes n cells) (by simp)
        have hxv := V (x := x) (by rw [hx]; rfl)
        rw [hx] at hxv
        obtain ⟨e1, hok⟩ := hxv
        have e1 : a.eval x = .slice A1 n c1 := e1
        obtain ⟨e, hu, hue⟩ := (lookT_ok hT hti).bytes hb
        have hu' := (lookT_ok hT hti').str hst
        have hrow := row_of_ok hok
        have hn63 : n ≤ maxLen := by have := hok; cases this with | sl _ _ _ _ _ _ g1 g2 => omega
        have hcells := hok
        refine wp_value (v := .string (rowStr n cells)) (w' := w) ?_ (hK _ _ w hr0 h fun _ => .str _ (by rw [std_bstr, rowStr_size]; exact hn63))
        have hconv := run_bytes (P := P) (w := w) (A := A1) (n := n) (c := c1) (cells := cells) hby (fun i hi => by cases hcells with | sl _ _ _ _ _ _ g1 g2 g3 g4 => exact g4 i hi) hrow
        simp [execOp, hop, convert, run_underlying hu, run_underlying hu', run_underlying hue, e1, hconv]
      · cases hr
    · cases hr
  | slice t x lo hi mx =>
    rw [hop] at hr
    cases mx with
    | some m =>
      simp only [step] at hr
      have B : ∀ {d j : Int} {o' : Operand}, bound std s q d (some o') = some j → ∃ k, a.eval o' = .int k j := fun hb => bound_ok h hq hb
      split at hr
      · rename_i gx A1 n c1 k cells ti hx hti
        split at hr
        · rename_i e ek hel
          split at hr
          · rename_i hek
            subst hek
            split at hr
            · rename_i l hiO hh mm hlo hhi hmx
              injection hr with hr; subst hr
              have hxv := V (x := x) (by rw [hx]; rfl)
              rw [hx] at hxv
              have hb : 0 ≤ l ∧ l ≤ hh ∧ hh ≤ mm ∧ mm ≤ (c1 : Int) ∧ hh ≤ (n : Int) := hob (.sl3 l hh mm n c1) (by simp)
              obtain ⟨hu, hsz⟩ := (lookT_ok hT hti).elem _ _ hel
              obtain ⟨e1, hok⟩ := hxv
              have e1 : a.eval x = .slice A1 n c1 := e1
              obtain ⟨k2, f2⟩ := B hhi
              obtain ⟨k3, f3⟩ := B hmx
              cases hok with
              | sl _ _ _ _ _ _ g1 g2 g3 g4 g5 g6 g7 =>
                have c0 : 0 ≤ mm ∧ mm ≤ (c1 : Int) := by omega
                have c2 : 0 ≤ hh ∧ hh ≤ ((mm.toNat : Nat) : Int) := by omega
                have c3 : 0 ≤ l ∧ l ≤ ((hh.toNat : Nat) : Int) := by omega
                have run : (execOp a.eval o).run P w = .ok (.value (.slice (adrOf A1 mm.toNat l.toNat ek) (hh.toNat - l.toNat) (mm.toNat - l.toNat))) w := by
                  cases lo with
                  | none =>
                    simp only [bound] at hlo
                    injection hlo with hlo; subst hlo
                    simp only [execOp, hop, e1, f2, f3, Option.map_some, Option.map_none, Instr.sliceAt, Instr.slice, Instr.sliceBounds, Instr.sliceBound, asIntOf, Sem.run_bind, run_underlying hu, Result.andThen_ok, Sem.run_pure, if_pos c0, if_pos c2]
                    simp [hsz w, adrOf]
                  | some lo =>
                    obtain ⟨k1, f1⟩ := B hlo
                    simp only [execOp, hop, e1, f1, f2, f3, Option.map_some, Option.map_none, Instr.sliceAt, Instr.slice, Instr.sliceBounds, Instr.sliceBound, asIntOf, Sem.run_bind, run_underlying hu, Result.andThen_ok, Sem.run_pure, if_pos c0, if_pos c2, if_pos c3]
                    simp [hsz w, adrOf]
                refine wp_value (v := .slice (adrOf A1 mm.toNat l.toNat ek) (hh.toNat - l.toNat) (mm.toNat - l.toNat)) (w' := w) run (hK _ _ w hr0 h fun _ => ?_)
                have hin : ∀ i, i < hh.toNat - l.toNat → l.toNat + i < n := fun i hi => by omega
                have hA : ∀ i, i < hh.toNat - l.toNat → ∃ b off, A1 = some ⟨b, off, none⟩ ∧ adrOf A1 mm.toNat l.toNat ek = some ⟨b, off + l.toNat * ek, none⟩ := by
                  intro i hi
                  obtain ⟨b, off, rfl⟩ := g4 _ (hin i hi)
                  refine ⟨b, off, rfl, ?_⟩
                  unfold adrOf
                  rw [if_neg (by omega)]
                  simp [Addr.add_lit]
                refine .sl _ _ _ _ _ _ (by simp only [std]; omega) (by simp only [std]; omega) (fun i hi => g3 _ (hin i hi)) (fun i hi => ?_) (fun i hi => ?_) (fun i hi => g6 _ (hin i hi)) (fun i hi => g7 _ (hin i hi))
                · obtain ⟨b, off, _, h2⟩ := hA i hi
                  exact ⟨b, _, h2⟩
                · obtain ⟨b, off, h1, h2⟩ := hA i hi
                  intro j u hu'
                  obtain ⟨b', off', h3, h4, h5⟩ := g5 _ (hin i hi) j u hu'
                  rw [h1] at h3; injection h3 with h3; injection h3 with q1 q2; subst q1; subst q2
                  have hs : off + l.toNat * ek + (i * ek + j) = off + ((l.toNat + i) * ek + j) := by rw [Nat.add_mul]; omega
                  exact ⟨b, off + l.toNat * ek, h2, by rw [hs]; exact h4, by rw [hs]; exact h5⟩
            · cases hr
          · cases hr
        · cases hr
      · cases hr
    | none =>
      simp only [step] at hr
      have B : ∀ {d j : Int} {o' : Operand}, bound std s q d (some o') = some j → ∃ k, a.eval o' = .int k j := fun hb => bound_ok h hq hb
      split at hr
      · rename_i y ti hx hti
        split at hr
        · rename_i l hh hlo hhi
          split at hr
          · rename_i hs
            injection hr with hr; subst hr
            have hxv := V (x := x) (by rw [hx]; rfl)
            rw [hx] at hxv
            have hb : 0 ≤ l ∧ l ≤ hh ∧ hh ≤ (y.size : Int) := hob (.sli l hh y.size) (by simp [std])
            have hu := (lookT_ok hT hti).str hs
            have hys : y.size ≤ maxLen := by cases hxv.2 with | str _ h => exact h
            refine wp_value (v := .string (y.extract l.toNat hh.toNat)) (w' := w) ?_ (hK _ _ w hr0 h fun _ => .str _ (by simp only [std]; rw [ByteArray.size_extract]; omega))
            have e1 : a.eval x = .string y := hxv.1
            cases lo with
            | none =>
              simp only [bound] at hlo
              injection hlo with hlo; subst hlo
              cases hi with
              | none =>
                simp only [bound, std] at hhi
                injection hhi with hhi; subst hhi
                simp [execOp, hop, e1, Instr.sliceAt, Instr.slice, Instr.sliceBounds, run_underlying hu]
              | some hi =>
                obtain ⟨k2, g2⟩ := B hhi
                have c2 : 0 ≤ hh ∧ hh ≤ (y.size : Int) := by omega
                simp [execOp, hop, e1, g2, Instr.sliceAt, Instr.slice, Instr.sliceBounds, Instr.sliceBound, asIntOf, run_underlying hu, c2]
            | some lo =>
              obtain ⟨k1, g1⟩ := B hlo
              cases hi with
              | none =>
                simp only [bound, std] at hhi
                injection hhi with hhi; subst hhi
                have c1 : 0 ≤ l ∧ l ≤ (y.size : Int) := by omega
                simp [execOp, hop, e1, g1, Instr.sliceAt, Instr.slice, Instr.sliceBounds, Instr.sliceBound, asIntOf, run_underlying hu, c1]
              | some hi =>
                obtain ⟨k2, g2⟩ := B hhi
                have c2 : 0 ≤ hh ∧ hh ≤ (y.size : Int) := by omega
                have c1 : 0 ≤ l ∧ l ≤ max hh 0 := by omega
                simp [execOp, hop, e1, g1, g2, Instr.sliceAt, Instr.slice, Instr.sliceBounds, Instr.sliceBound, asIntOf, run_underlying hu]
                rw [if_pos c2, if_pos c1]
          · cases hr
        · cases hr
      · rename_i gx A1 n c1 k cells ti hx hti
        split at hr
        · rename_i e ek hel
          split at hr
          · rename_i hek
            subst hek
            split at hr
            · rename_i l hh hlo hhi
              injection hr with hr; subst hr
              have hxv := V (x := x) (by rw [hx]; rfl)
              rw [hx] at hxv
              have hb : 0 ≤ l ∧ l ≤ hh ∧ hh ≤ (n : Int) := hob (.sli l hh n) (by simp)
              obtain ⟨hu, hsz⟩ := (lookT_ok hT hti).elem _ _ hel
              obtain ⟨e1, hok⟩ := hxv
              have e1 : a.eval x = .slice A1 n c1 := e1
              cases hok with
              | sl _ _ _ _ _ _ g1 g2 g3 g4 g5 g6 g7 =>
                have run : (execOp a.eval o).run P w = .ok (.value (.slice (adrOf A1 c1 l.toNat ek) (hh.toNat - l.toNat) (c1 - l.toNat))) w := by
                  cases lo with
                  | none =>
                    simp only [bound] at hlo
                    injection hlo with hlo; subst hlo
                    cases hi with
                    | none =>
                      simp only [bound, std] at hhi
                      injection hhi with hhi; subst hhi
                      simp [execOp, hop, e1, Instr.sliceAt, Instr.slice, Instr.sliceBounds, run_underlying hu, hsz w, adrOf]
                    | some hi =>
                      obtain ⟨k2, f2⟩ := B hhi
                      have c2 : 0 ≤ hh ∧ hh ≤ (c1 : Int) := by omega
                      simp [execOp, hop, e1, f2, Instr.sliceAt, Instr.slice, Instr.sliceBounds, Instr.sliceBound, asIntOf, run_underlying hu, c2, hsz w, adrOf]
                  | some lo =>
                    obtain ⟨k1, f1⟩ := B hlo
                    cases hi with
                    | none =>
                      simp only [bound, std] at hhi
                      injection hhi with hhi; subst hhi
                      have c2 : 0 ≤ l ∧ l ≤ (n : Int) := by omega
                      simp [execOp, hop, e1, f1, Instr.sliceAt, Instr.slice, Instr.sliceBounds, Instr.sliceBound, asIntOf, run_underlying hu, c2, hsz w, adrOf]
                    | some hi =>
                      obtain ⟨k2, f2⟩ := B hhi
                      have c2 : 0 ≤ hh ∧ hh ≤ (c1 : Int) := by omega
                      have c3 : 0 ≤ l ∧ l ≤ ((hh.toNat : Nat) : Int) := by omega
                      simp only [execOp, hop, e1, f1, f2, Option.map_some, Option.map_none, Instr.sliceAt, Instr.slice, Instr.sliceBounds, Instr.sliceBound, asIntOf, Sem.run_bind, run_underlying hu, Result.andThen_ok, Sem.run_pure, if_pos c2, if_pos c3]
                      simp [hsz w, adrOf]
                refine wp_value (v := .slice (adrOf A1 c1 l.toNat ek) (hh.toNat - l.toNat) (c1 - l.toNat)) (w' := w) run (hK _ _ w hr0 h fun _ => ?_)
                have hin : ∀ i, i < hh.toNat - l.toNat → l.toNat + i < n := fun i hi => by omega
                have hA : ∀ i, i < hh.toNat - l.toNat → ∃ b off, A1 = some ⟨b, off, none⟩ ∧ adrOf A1 c1 l.toNat ek = some ⟨b, off + l.toNat * ek, none⟩ := by
                  intro i hi
                  obtain ⟨b, off, rfl⟩ := g4 _ (hin i hi)
                  refine ⟨b, off, rfl, ?_⟩
                  unfold adrOf
                  rw [if_neg (by omega)]
                  simp [Addr.add_lit]
                refine .sl _ _ _ _ _ _ (by simp only [std]; omega) (by simp only [std]; omega) (fun i hi => g3 _ (hin i hi)) (fun i hi => ?_) (fun i hi => ?_) (fun i hi => g6 _ (hin i hi)) (fun i hi => g7 _ (hin i hi))
                · obtain ⟨b, off, _, h2⟩ := hA i hi
                  exact ⟨b, _, h2⟩
                · obtain ⟨b, off, h1, h2⟩ := hA i hi
                  intro j u hu'
                  obtain ⟨b', off', h3, h4, h5⟩ := g5 _ (hin i hi) j u hu'
                  rw [h1] at h3; injection h3 with h3; injection h3 with q1 q2; subst q1; subst q2
                  have hs : off + l.toNat * ek + (i * ek + j) = off + ((l.toNat + i) * ek + j) := by rw [Nat.add_mul]; omega
                  exact ⟨b, off + l.toNat * ek, h2, by rw [hs]; exact h4, by rw [hs]; exact h5⟩
            · cases hr
          · cases hr
        · cases hr
      · cases hr
  | index t x ix =>
    rw [hop] at hr
    simp only [step] at hr
    split at hr
    · rename_i y ki j ti hx hix hti
      split at hr
      · rename_i hs
        injection hr with hr; subst hr
        have hxv := (V (x := x) (by rw [hx]; rfl)).1
        have hiv := (V (x := ix) (by rw [hix]; rfl)).1
        rw [hx] at hxv
        rw [hix] at hiv
        have hb : 0 ≤ j ∧ j < (y.size : Int) := hob (.idx j y.size) (by simp [std])
        have hu := (lookT_ok hT hti).str hs
        have hlt : j.toNat < y.size := by omega
        refine wp_value (v := .int .u8 ((y[j.toNat]?.getD 0).toNat : Int)) (w' := w) ?_ (hK _ _ w hr0 h fun _ => .int _ _)
        simp [execOp, hop, hxv, hiv, AV.den, Instr.index, asIntOf, run_underlying hu, hb, hlt]
      · cases hr
    · cases hr
  | _ => rw [hop] at hr; simp [step] at hr
end
end Go.Proofs.Ytkamdppnnhjajaa.Sym
