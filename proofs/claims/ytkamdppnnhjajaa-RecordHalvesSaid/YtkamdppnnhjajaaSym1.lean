/-
  A small symbolic executor for straight pieces of code: its values, its states, and what they say of a frame and a world. No program in sight. Conditions: none.
-/
import Derived.Test.YtkamdppnnhjajaaLst
namespace Go.Proofs.Ytkamdppnnhjajaa.Sym
open Go.RowKit
set_option linter.unusedVariables false
set_option linter.unusedSimpArgs false

/-- a bool: known, or a term -/
inductive BE where
  | tt
  | ff
  | v (b : Bool)
def BE.den : BE → Bool
  | .tt => true
  | .ff => false
  | .v b => b

/-- a value: what is known of it. 'ptr key b off': the place off of the tracked block 'key', whose number is b. 'sl': a row that is read, k cells an element; g: may it grow in its place (which one is it)? 'ep': a place in an element of such a row. 'fn': a function's value, with what it bears. 'ifc': an interface's, with its type. -/
inductive AV where
  | undef
  | int (k : IntKind) (x : Int)
  | bool (b : BE)
  | str (s : ByteArray)
  | nilp
  | ptr (key b off : Nat)
  | sl (g : Option Nat) (A : Option Addr) (n c k : Nat) (cells : Nat → List AV)
  | ep (A : Option Addr) (i k off : Nat) (cells : List AV)
  | agg (l : List AV)
  | tup (l : List AV)
  | fn (f : Nat) (first cap : List AV)
  | ifc (t : Nat) (v : AV)
  | nili
  | raw (v : Value)

mutual
def AV.den : AV → Value
  | .undef => Go.undef
  | .int k x => .int k x
  | .bool b => .bool b.den
  | .str s => .string s
  | .nilp => .pointer none
  | .ptr _ b off => .pointer (some ⟨b, off, none⟩)
  | .sl _ A n c _ _ => .slice A n c
  | .ep A i k off _ => .pointer (A.map fun a => ⟨a.block, a.off + (i * k + off), none⟩)
  | .agg l => .agg (AV.denL l).toArray
  | .tup l => .tuple (AV.denL l).toArray
  | .fn f first cap => .func (.func f) (AV.denL first).toArray (AV.denL cap).toArray
  | .ifc t v => .iface t v.den
  | .nili => .nilIface
  | .raw v => v
def AV.denL : List AV → List Value
  | [] => []
  | v :: l => v.den :: AV.denL l
end
theorem denL_map (l : List AV) : AV.denL l = l.map AV.den := by
  induction l with
  | nil => rfl
  | cons v l ih => simp [AV.denL, ih]
/-- is a value one that fills one cell? -/
def AV.one : AV → Bool
  | .int .. | .bool .. | .str .. | .nilp | .ptr .. | .sl .. | .ep .. | .fn .. | .ifc .. | .nili => true
  | .raw v => v.oneCell'
  | _ => false
def AV.cells : AV → List AV
  | .agg l => l
  | v => [v]
def AV.known : AV → Bool
  | .undef => false
  | _ => true

/-- the cells vs lie at place o behind the address A, and nobody may change them -/
def Cells (m : Nat → Nat → Prop) (w : World) (A : Option Addr) (o : Nat) (vs : List Value) : Prop :=
  ∀ j u, vs[j]? = some u → ∃ b off, A = some ⟨b, off, none⟩ ∧ w.cell? ⟨b, off + (o + j), none⟩ = some u ∧ ¬ m b (off + (o + j))
/-- rows that a value names read so, and nobody may change them -/
inductive Ok (m : Nat → Nat → Prop) (w : World) : AV → Prop
  | undef : Ok m w .undef
  | int (k x) : Ok m w (.int k x)
  | bool (b) : Ok m w (.bool b)
  | str (s) : s.size ≤ maxLen → Ok m w (.str s)
  | nilp : Ok m w .nilp
  | ptr (key b off) : Ok m w (.ptr key b off)
  | raw (v) : Ok m w (.raw v)
  | sl (g A n c k cells) : n ≤ c → c ≤ maxLen → (∀ i, i < n → (cells i).length = k) → (∀ i, i < n → ∃ b off, A = some ⟨b, off, none⟩) → (∀ i, i < n → Cells m w A (i * k) ((cells i).map AV.den)) → (∀ i, i < n → ∀ v ∈ cells i, v.one = true) → (∀ i, i < n → ∀ v ∈ cells i, Ok m w v) → Ok m w (.sl g A n c k cells)
  | ep (A i k off cells) : (∃ b off, A = some ⟨b, off, none⟩) → Cells m w A (i * k) (cells.map AV.den) → (∀ v ∈ cells, v.one = true) → (∀ v ∈ cells, Ok m w v) → Ok m w (.ep A i k off cells)
  | agg (l) : (∀ v ∈ l, v.one = true) → (∀ v ∈ l, Ok m w v) → Ok m w (.agg l)
  | tup (l) : (∀ v ∈ l, Ok m w v) → Ok m w (.tup l)
  | fn (f l r) : (∀ v ∈ l, Ok m w v) → (∀ v ∈ r, Ok m w v) → Ok m w (.fn f l r)
  | ifc (t v) : Ok m w v → Ok m w (.ifc t v)
  | nili : Ok m w .nili

theorem Cells.mono {m m' : Nat → Nat → Prop} {w w' : World} {A : Option Addr} {o : Nat} {vs : List Value} (h : Cells m w A o vs)
    (hc : ∀ b o u, w.cell? ⟨b, o, none⟩ = some u → ¬ m b o → w'.cell? ⟨b, o, none⟩ = some u ∧ ¬ m' b o) : Cells m' w' A o vs := by
  intro j u hj
  obtain ⟨b, off, hA, h1, h2⟩ := h j u hj
  obtain ⟨h3, h4⟩ := hc _ _ _ h1 h2
  exact ⟨b, off, hA, h3, h4⟩
theorem Ok.mono {m m' : Nat → Nat → Prop} {w w' : World} {v : AV} (h : Ok m w v)
    (hc : ∀ b o u, w.cell? ⟨b, o, none⟩ = some u → ¬ m b o → w'.cell? ⟨b, o, none⟩ = some u ∧ ¬ m' b o) : Ok m' w' v := by
  induction h with
  | undef => exact .undef
  | int k x => exact .int k x
  | bool b => exact .bool b
  | str s h => exact .str s h
  | nilp => exact .nilp
  | ptr k b o => exact .ptr k b o
  | raw v => exact .raw v
  | sl g A n c k cells h1 h2 h3 h4 h5 h6 _ ih => exact .sl g A n c k cells h1 h2 h3 h4 (fun i hi => (h5 i hi).mono hc) h6 ih
  | ep A i k off cells h1 h2 h3 _ ih => exact .ep A i k off cells h1 (h2.mono hc) h3 ih
  | agg l h1 _ ih => exact .agg l h1 ih
  | tup l _ ih => exact .tup l ih
  | fn f l r _ _ i1 i2 => exact .fn f l r i1 i2
  | ifc t v _ ih => exact .ifc t v ih
  | nili => exact .nili
theorem one_of {v : AV} (h : v.one = true) : v.den.oneCell' = true := by
  cases v <;> simp_all [AV.one, AV.den, Value.oneCell']
theorem Ok.cells {m : Nat → Nat → Prop} {w : World} {v : AV} (h : Ok m w v) : ∀ x ∈ v.cells, Ok m w x := by
  cases h <;> simp only [AV.cells, List.mem_singleton, forall_eq] <;> first | assumption | (constructor <;> assumption) | skip
theorem den_cells {v : AV} (h : v.one = true ∨ ∃ l, v = .agg l) : v.den.cells = (v.cells.map AV.den).toArray := by
  rcases h with h | ⟨l, rfl⟩
  · cases v with
    | raw x => cases x <;> simp_all [AV.one, AV.den, AV.cells, Value.cells, Value.oneCell']
    | _ => simp_all [AV.one, AV.den, AV.cells, Value.cells, BE.den]
  · simp [AV.den, AV.cells, Value.cells, denL_map]

/-! ### states -/
structure Blk where
  at_ : Nat
  ty : TypeId
  cells : List AV
/-- a row that may grow in its place: its slice value, k cells an element, of type e -/
structure Gr where
  A : Option Addr
  n : Nat
  c : Nat
  k : Nat
  e : TypeId
def Gr.v (t : Gr) : Value := .slice t.A t.n t.c
structure St where
  nt : Nat
  tmps : List (Nat × AV)
  gs : List (Nat × List (Nat × Bool) × AV)
  mem : List (Nat × Blk)
  gr : List (Nat × Gr)

def look : List (Nat × AV) → Nat → AV
  | [], _ => .undef
  | (k, v) :: l, n => if k == n then v else look l n
def lookM {α : Type} : List (Nat × α) → Nat → Option α
  | [], _ => none
  | (k, v) :: l, n => if k == n then some v else lookM l n
def delM {α : Type} : List (Nat × α) → Nat → List (Nat × α)
  | [], _ => []
  | (k, v) :: l, n => if k == n then delM l n else (k, v) :: delM l n
def lookG : List (Nat × List (Nat × Bool) × AV) → Nat → Option (List (Nat × Bool) × AV)
  | [], _ => none
  | (k, v) :: l, n => if k == n then some v else lookG l n
def mentions : List (Nat × Bool) → Nat → Bool
  | [], _ => false
  | (k, _) :: l, n => k == n || mentions l n
/-- the slot n is written: what hangs on it is known no more -/
def dropG : List (Nat × List (Nat × Bool) × AV) → Nat → List (Nat × List (Nat × Bool) × AV)
  | [], _ => []
  | (k, p, v) :: l, n => if k == n then dropG l n else if mentions p n then (k, [], .undef) :: dropG l n else (k, p, v) :: dropG l n
def hasP : List (Nat × Bool) → Nat × Bool → Bool
  | [], _ => false
  | (k, b) :: l, (n, c) => (k == n && b == c) || hasP l (n, c)
def subP : List (Nat × Bool) → List (Nat × Bool) → Bool
  | [], _ => true
  | x :: l, q => hasP q x && subP l q

/-- what the whole call may rely on: m0: cells that may change though they were there; S: blocks that were there and that the call may change -/
structure Cx where
  m0 : Nat → Nat → Prop
  w0 : World
  S : Nat → Prop
  /-- what is to be done when the call ends -/
  ds : List Deferred
def St.m (s : St) (C : Cx) : Nat → Nat → Prop := fun b o => C.m0 b o ∨ (∃ k e, lookM s.mem k = some e ∧ e.at_ = b) ∨ ∃ k t, lookM s.gr k = some t ∧ ownB t.v = some b ∧ t.n * t.k ≤ o
def Path (a : Act) (p : List (Nat × Bool)) : Prop := ∀ e ∈ p, a.tmps[e.1]? = some (.bool e.2)
structure Fits (C : Cx) (s : St) (a : Act) (w : World) : Prop where
  size : a.tmps.size = s.nt
  defers : a.defers = C.ds
  slot : ∀ t, (look s.tmps t).known = true → a.tmps[t]? = some (look s.tmps t).den ∧ Ok (s.m C) w (look s.tmps t)
  gs : ∀ t p v, lookG s.gs t = some (p, v) → v.known = true → (Path a p → a.tmps[t]? = some v.den ∧ Ok (s.m C) w v) ∧ (¬ Path a p → a.tmps[t]? = some Go.undef)
  mem : ∀ k e, lookM s.mem k = some e → w.heap[e.at_]? = some (.cells (e.cells.map AV.den).toArray e.ty (0, 0)) ∧ (∀ v ∈ e.cells, v.one = true ∧ Ok (s.m C) w v) ∧ (C.w0.heap.size ≤ e.at_ ∨ C.S e.at_)
  nodup : ∀ k k' e e', lookM s.mem k = some e → lookM s.mem k' = some e' → k ≠ k' → e.at_ ≠ e'.at_
  gr : ∀ k t, lookM s.gr k = some t → 0 < t.k ∧ ∃ xs, Own w C.w0.heap.size t.e t.k t.v t.n xs
  sepm : ∀ k t k' e, lookM s.gr k = some t → lookM s.mem k' = some e → ownB t.v ≠ some e.at_
  sepg : ∀ k t k' t' b, lookM s.gr k = some t → lookM s.gr k' = some t' → k ≠ k' → ownB t.v = some b → ownB t'.v ≠ some b
  chg : Chg C.S C.w0 w
  m0 : ∀ b o, C.m0 b o → b < C.w0.heap.size

/-- alike: whatever is looked up is the same -/
structure Alike (s t : St) : Prop where
  nt : s.nt = t.nt
  tmps : ∀ k, look s.tmps k = look t.tmps k
  gs : ∀ k, lookG s.gs k = lookG t.gs k
  mem : ∀ k, lookM s.mem k = lookM t.mem k
  gr : ∀ k, lookM s.gr k = lookM t.gr k
theorem Alike.m {s t : St} (h : Alike s t) (C : Cx) : s.m C = t.m C := by
  unfold St.m
  funext b o
  simp only [h.mem, h.gr]
theorem Fits.alike {C : Cx} {s t : St} {a : Act} {w : World} (h : Fits C s a w) (e : Alike s t) : Fits C t a w := by
  obtain ⟨h1, h2, h3, h4, h5, h6, h9, h10, h11, h7, h8⟩ := h
  refine ⟨h1.trans e.nt, h2, ?_, ?_, ?_, ?_, ?_, ?_, ?_, h7, h8⟩
  · intro k; rw [← e.tmps, ← e.m C]; exact h3 k
  · intro k p v; rw [← e.gs, ← e.m C]; exact h4 k p v
  · intro k b; rw [← e.mem, ← e.m C]; exact h5 k b
  · intro k k' b b'; rw [← e.mem, ← e.mem]; exact h6 k k' b b'
  · intro k t'; rw [← e.gr]; exact h9 k t'
  · intro k t' k' b; rw [← e.gr, ← e.mem]; exact h10 k t' k' b
  · intro k t' k' t''; rw [← e.gr, ← e.gr]; exact h11 k t' k' t''

theorem look_cons (d : Nat) (v : AV) (l : List (Nat × AV)) (t : Nat) : look ((d, v) :: l) t = if d = t then v else look l t := by
  simp [look]
theorem lookM_cons {α : Type} (d : Nat) (v : α) (l : List (Nat × α)) (t : Nat) : lookM ((d, v) :: l) t = if d = t then some v else lookM l t := by
  simp [lookM]
theorem lookG_cons (d : Nat) (v : List (Nat × Bool) × AV) (l : List (Nat × List (Nat × Bool) × AV)) (t : Nat) : lookG ((d, v) :: l) t = if d = t then some v else lookG l t := by
  simp [lookG]
theorem lookM_del {α : Type} (l : List (Nat × α)) (n t : Nat) : lookM (delM l n) t = if n = t then none else lookM l t := by
  induction l with
  | nil => simp [delM, lookM]
  | cons x l ih =>
    obtain ⟨k, v⟩ := x
    simp only [delM, lookM_cons]
    by_cases h1 : k = n
    · subst h1
      simp only [beq_self_eq_true, if_true, ih]
      by_cases h2 : k = t <;> simp [h2]
    · have : (k == n) = false := by simp [h1]
      simp only [this, Bool.false_eq_true, if_false, lookM_cons, ih]
      by_cases h2 : k = t
      · subst h2
        have h4 : ¬ n = k := fun h => h1 h.symm
        simp [h4]
      · simp [h2]
def kill (n : Nat) (x : List (Nat × Bool) × AV) : List (Nat × Bool) × AV := if mentions x.1 n then ([], .undef) else x
theorem lookG_drop (l : List (Nat × List (Nat × Bool) × AV)) (n t : Nat) : lookG (dropG l n) t = if n = t then none else (lookG l t).map (kill n) := by
  induction l with
  | nil => simp [dropG, lookG]
  | cons x l ih =>
    obtain ⟨k, p, v⟩ := x
    simp only [dropG, lookG_cons]
    by_cases h1 : k = n
    · subst h1
      simp only [beq_self_eq_true, if_true, ih]
      by_cases h2 : k = t <;> simp [h2]
    · have : (k == n) = false := by simp [h1]
      simp only [this, Bool.false_eq_true, if_false]
      by_cases h3 : mentions p n = true
      · rw [if_pos h3, lookG_cons, ih]
        by_cases h2 : k = t
        · subst h2
          have h4 : ¬ n = k := fun h => h1 h.symm
          simp [h4, kill, h3]
        · simp [h2]
      · rw [if_neg h3, lookG_cons, ih]
        by_cases h2 : k = t
        · subst h2
          have h4 : ¬ n = k := fun h => h1 h.symm
          simp [h4, kill, h3]
        · simp [h2]
theorem not_mentions {p : List (Nat × Bool)} {n : Nat} (h : ¬ mentions p n = true) : ∀ x ∈ p, x.1 ≠ n := by
  induction p with
  | nil => intro x hx; cases hx
  | cons y p ih =>
    obtain ⟨k, b⟩ := y
    intro x hx
    simp [mentions] at h
    rcases List.mem_cons.1 hx with rfl | hx
    · exact h.1
    · exact ih (by simp [h.2]) x hx
theorem subP_path {a : Act} : ∀ {p q : List (Nat × Bool)}, subP p q = true → Path a q → Path a p := by
  have has : ∀ (q : List (Nat × Bool)) (x : Nat × Bool), hasP q x = true → x ∈ q := by
    intro q x
    induction q with
    | nil => simp [hasP]
    | cons y q ih =>
      obtain ⟨k, b⟩ := y
      obtain ⟨n, c⟩ := x
      intro h
      simp only [hasP, Bool.or_eq_true, Bool.and_eq_true, beq_iff_eq] at h
      rcases h with ⟨rfl, rfl⟩ | h
      · simp
      · exact List.mem_cons_of_mem _ (ih h)
  intro p q
  induction p with
  | nil => intro _ _ x hx; cases hx
  | cons y p ih =>
    intro h hq x hx
    simp only [subP, Bool.and_eq_true] at h
    rcases List.mem_cons.1 hx with rfl | hx
    · exact hq _ (has _ _ h.1)
    · exact ih h.2 hq x hx
end Go.Proofs.Ytkamdppnnhjajaa.Sym
