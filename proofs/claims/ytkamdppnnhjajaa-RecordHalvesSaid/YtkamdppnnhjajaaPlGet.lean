/-
  Records read from bytes: plain Lean. No program in sight. Conditions: none.
-/
import Derived.Test.YtkamdppnnhjajaaPlRec
namespace Go.Proofs.Ytkamdppnnhjajaa
open Go.RowKit Sym
set_option linter.unusedVariables false
set_option linter.unusedSimpArgs false

def app {α : Type} (l : List α) : Dec (List α) → Dec (List α)
  | .error e => .error e
  | .ok (r, s) => .ok (l ++ r, s)
theorem app_app {α : Type} (l r : List α) (d : Dec (List α)) : app l (app r d) = app (l ++ r) d := by
  cases d with
  | error e => rfl
  | ok x => obtain ⟨y, s⟩ := x; simp [app]
theorem app_nil {α : Type} (d : Dec (List α)) : app [] d = d := by
  cases d with
  | error e => rfl
  | ok x => obtain ⟨y, s⟩ := x; rfl
def late : Option Int → Nat → Bool
  | none, _ => false
  | some q, k => decide ((k : Int) ≤ q)
def decIt : Nat → Option Int → List UInt8 → Dec (List Itm)
  | 0, _, s => .ok ([], s)
  | n + 1, p, s => match decN s with
    | .error e => .error e
    | .ok (k, r) => if late p k then .error 3 else match decT r with
      | .error e => .error e
      | .ok (t, r2) => if 64 < t.length then .error 3 else app [⟨k, mkB t⟩] (decIt n (some k) r2)
def decItems (s : List UInt8) : Dec (List Itm) := match decN s with
  | .error e => .error e
  | .ok (n, r) => if 16 < n then .error 3 else decIt n none r
def decNext (s : List UInt8) : Dec Lab := match decN s with
  | .error e => .error e
  | .ok (n, r) => if n = 0 then .ok (noneL, r) else if n = 1 then decL r else .error 3
def fin (r : Rec) (rest : List UInt8) : Except Int Rec := if rest = [] then .ok r else .error 3
/-- behind the items and the next label -/
def decMark (k : Nat) (l : List Itm) (nx : Lab) (s : List UInt8) : Dec Rec := if k = 5 then (match decN s with
    | .error e => .error e
    | .ok (v, r) => .ok (⟨k, l, nx, v⟩, r)) else .ok (⟨k, l, nx, 0⟩, s)
def decBody (k : Nat) (s : List UInt8) : Dec Rec := match decItems s with
  | .error e => .error e
  | .ok (l, r) => match decNext r with
    | .error e => .error e
    | .ok (nx, r2) => decMark k l nx r2
def decM (s : List UInt8) : Dec Rec := match decN s with
  | .error e => .error e
  | .ok (k, r) => if k < 1 ∨ 5 < k then .error 3 else if bareK k then .ok (⟨k, [], noneL, 0⟩, r) else decBody k r
def decRec (s : List UInt8) : Except Int Rec := match decM s with
  | .error e => .error e
  | .ok (r, rest) => fin r rest
def Res.err {α : Type} : Except Int α → Int
  | .error e => e
  | .ok _ => 0

section
variable {m k : Nat} {p : Option Int} {s r r2 t : List UInt8} {e : Int}
theorem it_e1 (h : decN s = .error e) : decIt (m + 1) p s = .error e := by simp only [decIt, h]
theorem it_e2 (h : decN s = .ok (k, r)) (hl : late p k = true) : decIt (m + 1) p s = .error 3 := by simp only [decIt, h, hl, if_true]
theorem it_e3 (h : decN s = .ok (k, r)) (hl : late p k = false) (ht : decT r = .error e) : decIt (m + 1) p s = .error e := by simp [decIt, h, hl, ht]
theorem it_e4 (h : decN s = .ok (k, r)) (hl : late p k = false) (ht : decT r = .ok (t, r2)) (h64 : 64 < t.length) : decIt (m + 1) p s = .error 3 := by simp [decIt, h, hl, ht, h64]
theorem it_ok (h : decN s = .ok (k, r)) (hl : late p k = false) (ht : decT r = .ok (t, r2)) (h64 : ¬ 64 < t.length) : decIt (m + 1) p s = app [⟨k, mkB t⟩] (decIt m (some k) r2) := by simp [decIt, h, hl, ht, h64]
end
theorem app_err {α : Type} {l : List α} {d : Dec (List α)} {e : Int} (h : d = .error e) : app l d = .error e := by rw [h]; rfl
/-- the last key of the first i -/
def lastK (f : Nat → Itm) (i : Nat) : Option Int := if i = 0 then none else some (f (i - 1)).key
def firsts (f : Nat → Itm) (i : Nat) : List Itm := (List.range i).map f
def fSet (f : Nat → Itm) (i : Nat) (x : Itm) : Nat → Itm := fun t => if t = i then x else f t
theorem firsts_set (f : Nat → Itm) (i : Nat) (x : Itm) : firsts (fSet f i x) (i + 1) = firsts f i ++ [x] := by
  unfold firsts
  rw [List.range_succ, List.map_append]
  congr 1
  · apply List.map_congr_left
    intro t ht
    have := List.mem_range.1 ht
    simp [fSet, show ¬ t = i by omega]
  · simp [fSet]
theorem lastK_set (f : Nat → Itm) (i : Nat) (x : Itm) : lastK (fSet f i x) (i + 1) = some x.key := by
  simp [lastK, fSet]
theorem firsts_len (f : Nat → Itm) (i : Nat) : (firsts f i).length = i := by simp [firsts]
theorem firsts_get (f : Nat → Itm) (n : Nat) : ∀ t, t < n → itF (firsts f n) t = f t := by
  intro t ht
  simp [itF, firsts, List.getD, ht]
end Go.Proofs.Ytkamdppnnhjajaa
