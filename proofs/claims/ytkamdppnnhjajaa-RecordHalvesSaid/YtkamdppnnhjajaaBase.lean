/-
  Words and laws that hold over any program: rows of cells that are read, rows that a call owns, what a call may have changed; append, copy and clear at elements of any number of cells. Conditions: none beyond the theorems' own.
-/
import Derived.WalkKit
import Derived.WalkLawsBesides
import Derived.WalkSpells
import Derived.Lib.Hide
import Derived.Deep.QuietTactic
import Derived.BigQuiet
import Derived.Deep.LoopGhost
import Derived.Deep.DeepCutAuto
import Derived.Deep.RegionLaw
import Derived.Lib.Overlaps
import Derived.Laws.CopyOwn
import Derived.IntWalk
namespace Go.Proofs.Ytkamdppnnhjajaa
open Go.RowKit
set_option linter.unusedVariables false
set_option linter.unusedSimpArgs false

/-! ### rows that are read -/

/-- the cells 'xs' lie from the address A on, in a block below B (of no cells: anywhere) -/
def RowAt (w : World) (B : Nat) (A : Option Addr) (xs : List Value) : Prop :=
  0 < xs.length → ∃ b off, A = some ⟨b, off, none⟩ ∧ b < B ∧ ∀ j u, xs[j]? = some u → w.cell? ⟨b, off + j, none⟩ = some u

theorem RowAt.nil {w : World} {B : Nat} {A : Option Addr} : RowAt w B A [] := fun h => absurd h (by simp)
theorem RowAt.keep {w w' : World} {B B' : Nat} {A : Option Addr} {xs : List Value} (h : RowAt w B A xs) (hB : B ≤ B') (hk : ∀ p : Addr, p.block < B → w'.cell? p = w.cell? p) : RowAt w' B' A xs :=
  fun hp => by
    obtain ⟨b, off, e, hb, hc⟩ := h hp
    exact ⟨b, off, e, by omega, fun j u hu => (hk _ hb).trans (hc j u hu)⟩
theorem RowAt.below {w w' : World} {B : Nat} {A : Option Addr} {xs : List Value} (h : RowAt w B A xs) (hb : Below B w w') : RowAt w' B A xs := h.keep (Nat.le_refl _) fun _ hp => hb.cell hp
theorem RowAt.more {w : World} {B B' : Nat} {A : Option Addr} {xs : List Value} (h : RowAt w B A xs) (hB : B ≤ B') : RowAt w B' A xs := h.keep hB fun _ _ => rfl
theorem RowAt.take {w : World} {B : Nat} {A : Option Addr} {xs : List Value} (h : RowAt w B A xs) (n : Nat) : RowAt w B A (xs.take n) := fun hp => by
  obtain ⟨b, off, e, hb, hc⟩ := h (by simp at hp; omega)
  refine ⟨b, off, e, hb, fun j u hu => hc j u ?_⟩
  rw [List.getElem?_take] at hu
  split at hu
  · exact hu
  · cases hu

/-! ### rows that the call owns -/

/-- the block that a slice value may write, if it has room at all -/
def ownB : Value → Option Nat
  | .slice (some a) _ c => if c = 0 then none else some a.block
  | _ => none

/-- the slice v of n elements (k cells each, of type e) holds the cells xs; it has no room at all, or its room is the whole of one block from B on -/
def Own (w : World) (B : Nat) (e : TypeId) (k : Nat) (v : Value) (n : Nat) (xs : List Value) : Prop :=
  xs.length = n * k ∧ ((n = 0 ∧ ∃ A, v = .slice A 0 0) ∨
    ∃ g cap cur, v = .slice (some ⟨g, 0, none⟩) n cap ∧ B ≤ g ∧ w.heap[g]? = some (.cells cur e (0, 0)) ∧ n ≤ cap ∧ 0 < cap ∧ cap ≤ maxLen ∧ cur.size = cap * k ∧ cur.toList.take (n * k) = xs)

theorem lt_of_heap {w : World} {g : Nat} {o : Obj} (h : w.heap[g]? = some o) : g < w.heap.size := (Array.getElem?_eq_some_iff.1 h).1

theorem Own.nil (w : World) (B : Nat) (e : TypeId) (k : Nat) (A : Option Addr) : Own w B e k (.slice A 0 0) 0 [] := ⟨by simp, .inl ⟨rfl, A, rfl⟩⟩

section
variable {w w' : World} {B : Nat} {e : TypeId} {k : Nat} {v : Value} {n : Nat} {xs : List Value}
theorem Own.isSlice (h : Own w B e k v n xs) : ∃ A c, v = .slice A n c ∧ n ≤ c ∧ c ≤ maxLen := by
  rcases h.2 with ⟨rfl, A, rfl⟩ | ⟨g, cap, cur, rfl, _, _, h1, _, h2, _⟩
  · exact ⟨A, 0, rfl, by omega, by simp⟩
  · exact ⟨_, cap, rfl, h1, h2⟩
theorem Own.lt (h : Own w B e k v n xs) : ∀ g, ownB v = some g → B ≤ g ∧ g < w.heap.size := by
  intro g hg
  rcases h.2 with ⟨rfl, A, rfl⟩ | ⟨g', cap, cur, rfl, hB, hh, h1, hc0, h2, _⟩
  · cases A <;> simp [ownB] at hg
  · have : cap ≠ 0 := by omega
    simp [ownB, this] at hg
    subst hg
    exact ⟨hB, lt_of_heap hh⟩
theorem Own.elem (h : Own w B e k v n xs) : ∀ g, ownB v = some g → ∃ cur, w.heap[g]? = some (.cells cur e (0, 0)) := by
  intro g hg
  rcases h.2 with ⟨rfl, A, rfl⟩ | ⟨g', cap, cur, rfl, hB, hh, h1, hc0, h2, _⟩
  · cases A <;> simp [ownB] at hg
  · have : cap ≠ 0 := by omega
    simp [ownB, this] at hg
    subst hg
    exact ⟨_, hh⟩
/-- a block of another element type is not its own -/
theorem Own.ne_of_elem (h : Own w B e k v n xs) {g : Nat} {cs : Array Value} {e' : TypeId} {fz : Nat × Nat} (hg : w.heap[g]? = some (.cells cs e' fz)) (hne : e ≠ e') : ownB v ≠ some g := by
  intro hv
  obtain ⟨cur, hc⟩ := h.elem g hv
  rw [hc] at hg
  injection hg with hg
  injection hg with _ hg
  exact hne hg
theorem Own.keep (h : Own w B e k v n xs) (hk : ∀ g, ownB v = some g → w'.heap[g]? = w.heap[g]?) : Own w' B e k v n xs := by
  refine ⟨h.1, ?_⟩
  rcases h.2 with hn | ⟨g, cap, cur, rfl, hB, hg, h1, hc0, rest⟩
  · exact .inl hn
  · refine .inr ⟨g, cap, cur, rfl, hB, ?_, h1, hc0, rest⟩
    rw [hk g (by have : cap ≠ 0 := by omega
                 simp [ownB, this])]
    exact hg
theorem Own.mono {B' : Nat} (h : Own w B e k v n xs) (hB : B' ≤ B) : Own w B' e k v n xs := by
  refine ⟨h.1, ?_⟩
  rcases h.2 with hn | ⟨g, cap, cur, rfl, hBg, r⟩
  · exact .inl hn
  · exact .inr ⟨g, cap, cur, rfl, Nat.le_trans hB hBg, r⟩
theorem Own.row (h : Own w B e k v n xs) : ∀ A m c, v = .slice A m c → RowAt w w.heap.size A xs := by
  intro A m c hv hp
  rcases h.2 with ⟨rfl, A', rfl⟩ | ⟨g, cap, cur, rfl, hB, hg, h1, hc0, hm, hs, ht⟩
  · have := h.1; simp at this; simp [this] at hp
  · injection hv with hA
    subst hA
    refine ⟨g, 0, rfl, lt_of_heap hg, fun j u hu => ?_⟩
    rw [Nat.zero_add, cell_of_row w g j cur e (0, 0) hg]
    rw [← ht, List.getElem?_take] at hu
    split at hu
    · simpa using hu
    · cases hu
end

/-! ### what may have changed -/

/-- but for the blocks of S, nothing that was there has changed -/
structure Chg (S : Nat → Prop) (w w' : World) : Prop where
  os : w'.os = w.os
  tape : w'.tape = w.tape
  output : w'.output = w.output
  size : w.heap.size ≤ w'.heap.size
  block : ∀ k, k < w.heap.size → ¬ S k → w'.heap[k]? = w.heap[k]?

section
variable {S S' : Nat → Prop} {a w w' : World}
theorem Chg.refl (S : Nat → Prop) (w : World) : Chg S w w := ⟨rfl, rfl, rfl, Nat.le_refl _, fun _ _ _ => rfl⟩
theorem Chg.trans (h : Chg S a w) (h' : Chg S' w w') (hs : ∀ k, k < a.heap.size → S' k → S k) : Chg S a w' :=
  ⟨h'.os.trans h.os, h'.tape.trans h.tape, h'.output.trans h.output, Nat.le_trans h.size h'.size,
    fun k hk hn => (h'.block k (Nat.lt_of_lt_of_le hk h.size) (fun h => hn (hs k hk h))).trans (h.block k hk hn)⟩
theorem Chg.mono (h : Chg S w w') (hs : ∀ k, S k → S' k) : Chg S' w w' := ⟨h.os, h.tape, h.output, h.size, fun k hk hn => h.block k hk fun h => hn (hs k h)⟩
theorem Chg.of_grown {row : Option Nat} (h : w.grownBy w' row) : Chg (fun k => row = some k) w w' := ⟨h.os, h.tape, h.output, h.size, fun k hk hn => h.block k hk fun e => hn e.symm⟩
theorem Chg.of_below {B : Nat} (h : Below B w w') : Chg (fun k => B ≤ k) w w' := ⟨h.os, h.tape, h.output, h.size, fun k _ hn => h.block k (by omega)⟩
theorem Chg.of_new (h : Below w.heap.size w w') : Chg S w w' := ⟨h.os, h.tape, h.output, h.size, fun k hk _ => h.block k hk⟩
theorem Chg.below (h : Chg S w w') {B : Nat} (hB : B ≤ w.heap.size) (hs : ∀ k, S k → B ≤ k) : Below B w w' :=
  ⟨h.os, h.tape, h.output, h.size, fun k hk => h.block k (by omega) fun hS => by have := hs k hS; omega⟩
theorem Chg.alloc (h : Chg S a w) (o : Obj) : Chg S a (w.alloc o) :=
  h.trans (S' := fun _ => False) ⟨rfl, rfl, rfl, by simp, fun k hk _ => Below.heap_alloc _ _ _ hk⟩ fun _ _ h => h.elim
theorem Chg.drew (h : Chg S a w) : Chg S a w.drew := ⟨h.os, h.tape, h.output, h.size, h.block⟩
theorem Chg.drewN (h : Chg S a w) (n : Nat) : Chg S a (w.drewN n) := ⟨h.os, h.tape, h.output, h.size, h.block⟩
theorem Chg.setCell (h : Chg S a w) (p : Addr) (hp : p.block < a.heap.size → S p.block) (u : Value) : Chg S a (w.setCell p u) :=
  h.trans (S' := fun k => k = p.block) ⟨rfl, rfl, rfl, by simp [World.setCell], fun k _ hn => Below.heap_setCell _ _ _ _ hn⟩ fun k hk e => by subst e; exact hp hk
end
theorem below_drewN {B : Nat} {a w : World} (h : Below B a w) (n : Nat) : Below B a (w.drewN n) := ⟨h.os, h.tape, h.output, h.size, h.block⟩

/-! ### an element type in the program's tables; append and copy at it -/

structure ElemTy (P : Program) (t e k bytes : Nat) (z : Value) : Prop where
  u : P.underlying t = some (.slice e)
  i : (P.info? e).map (fun i => (i.zero, i.size, i.bytes)) = some (some z, k, bytes)
  zs : z.cells.size = k
  pos : 0 < k

section
variable {P : Program} {w : World}

theorem run_loadRow {B : Nat} {A : Option Addr} {xs : List Value} (k m len c : Nat) (h : RowAt w B A xs) (hl : xs.length = m * k) : (Builtin.firstCells k m (.slice A len c)).run P w = .ok xs.toArray w := by
  by_cases hp : 0 < xs.length
  · obtain ⟨b, off, rfl, _, hc⟩ := h hp
    exact run_firstCells_some w k m ⟨b, off, none⟩ len c xs hl fun j v hv => by
      rw [Addr.add_lit]; exact hc j v hv
  · have hx : xs = [] := List.eq_nil_of_length_eq_zero (by omega)
    subst hx
    have hm : m * k = 0 := by simpa using hl.symm
    cases A with
    | none => exact run_firstCells_none w k m len c
    | some a => simp [Builtin.firstCells, hm, loadCells, loadCellsFrom]

/-- append(v, src..): of a row that the call owns -/
theorem run_append_Own {t e k bytes : Nat} {z : Value} (E : ElemTy P t e k bytes z) (ty : TypeId) {B C : Nat} {v : Value} {n : Nat} {xs : List Value} (hown : Own w B e k v n xs)
    (A : Option Addr) (m c : Nat) (news : List Value) (hl : news.length = m * k) (hnews : RowAt w C A news) (h1 : ∀ u ∈ news, u.oneCell' = true)
    (h63 : n + m ≤ maxLen) (hbytes : (n + m) * bytes ≤ 140737488355328) (hB : B ≤ w.heap.size) :
    ∃ v' w', (Builtin.append_ #[t, t] ty #[v, .slice A m c]).run P w = .ok v' w' ∧ Own w' B e k v' (n + m) (xs ++ news) ∧ w.grownBy w' (ownB v) ∧
      (ownB v' = ownB v ∨ ownB v' = some w.heap.size) := by
  obtain ⟨i, hi⟩ : ∃ i, P.info? e = some i := by
    have := E.i
    cases hq : P.info? e with
    | none => simp [hq] at this
    | some i => exact ⟨i, rfl⟩
  have hEi := E.i
  simp only [hi, Option.map_some, Option.some.injEq, Prod.mk.injEq] at hEi
  obtain ⟨hz, hk, hby⟩ := hEi
  subst hk; subst hby
  have hpos := E.pos
  have hzs := E.zs
  have ht := E.u
  have hlen : (xs ++ news).length = (n + m) * i.size := by rw [List.length_append, hown.1, hl, Nat.add_mul]
  have hsmall : n + m ≤ 9223372036854775807 := by simp only [maxLen] at h63; omega
  have grown : ∀ (old : Nat), old < n + m → ∀ (row : Option Nat),
      Own (w.drew.alloc (.cells (xs.toArray ++ news.toArray ++ Builtin.zeroCells z.cells (grownCap w (n + m) old e - (n + m))) e)) B e i.size
        (.slice (some ⟨w.heap.size, 0, none⟩) (n + m) (grownCap w (n + m) old e)) (n + m) (xs ++ news) ∧
      w.grownBy (w.drew.alloc (.cells (xs.toArray ++ news.toArray ++ Builtin.zeroCells z.cells (grownCap w (n + m) old e - (n + m))) e)) row := by
    intro old ho row
    have hge := grownCap_ge w (n + m) old e
    have hcm : grownCap w (n + m) old e ≤ maxLen := grownCap_le_maxLen w (n + m) old e h63
    refine ⟨⟨hlen, .inr ⟨w.heap.size, _, _, rfl, hB, heap_alloc_new w.drew _, hge, by omega, hcm, ?_, ?_⟩⟩, ⟨rfl, rfl, rfl, by simp, fun k hk _ => Below.heap_alloc w.drew _ k hk⟩⟩
    · simp only [Array.size_append, List.size_toArray, size_zeroCells, hzs, hown.1, hl, ← Nat.add_mul]
      congr 1
      omega
    · simp only [Array.toList_append, List.append_assoc]
      rw [← List.append_assoc, ← hlen]
      exact List.take_left
  have growfit : ∀ old, old < n + m → Builtin.nextslicecap (n + m) old * i.bytes ≤ 281474976710656 := fun old ho => growslice_fits ho hbytes
  have hf : ∀ w' : World, (∀ p, w'.cell? p = w.cell? p) → (Builtin.firstCells i.size m (.slice A m c)).run P w' = .ok news.toArray w' := fun w' hw =>
    run_loadRow (B := C) i.size m m c (hnews.keep (Nat.le_refl _) fun p _ => hw p) hl
  have hrow := fun A' m' c' h => hown.row A' m' c' h
  rcases hown.2 with ⟨rfl, A', rfl⟩ | ⟨g, cap, cur, rfl, hbg, hg, hnc, hc0, hcm, hcs, htake⟩
  · have hx : xs = [] := List.eq_nil_of_length_eq_zero (by simpa using hown.1)
    subst hx
    by_cases hm : m = 0
    · subst hm
      have hn : news = [] := List.eq_nil_of_length_eq_zero (by simpa using hl)
      subst hn
      refine ⟨.slice A' 0 0, w, ?_, Own.nil w B e i.size A', ⟨rfl, rfl, rfl, Nat.le_refl _, fun _ _ _ => rfl⟩, .inl rfl⟩
      have hfw := hf w fun _ => rfl
      cases A' <;> simp [Builtin.append_, run_underlying ht, sizeOf, typeInfo, hi, Builtin.lenOf, hfw, storeCells]
    · have hgr := grown 0 (by omega) (ownB (.slice A' 0 0))
      have hfit := growfit 0 (by omega)
      simp only [Nat.zero_add, List.nil_append, Array.empty_append] at hgr hfit ⊢
      refine ⟨_, _, ?_, hgr.1, hgr.2, .inr ?_⟩
      · have hfw := hf w.drew fun _ => rfl
        have hfo := run_loadRow (P := P) (w := w.drew) (B := 0) (A := A') (xs := []) i.size 0 0 0 RowAt.nil (by simp)
        have h63' : ¬ (9223372036854775807 < (m : Int)) := by omega
        have h48' : ¬ (281474976710656 < Builtin.nextslicecap m 0 * i.bytes) := by omega
        simp [Builtin.append_, run_underlying ht, sizeOf, typeInfo, zeroValue, hi, hz, Builtin.lenOf, hm, h63', h48', Question.forced, hfw, hfo, newRow, grownCap]
      · have : grownCap w m 0 e ≠ 0 := by have := grownCap_ge w m 0 e; omega
        simp [ownB, this]
  · by_cases hroom : n + m ≤ cap
    · have hfit : n * i.size + news.length ≤ cur.size := by rw [hl, hcs, ← Nat.add_mul]; exact Nat.mul_le_mul_right _ hroom
      have hst := run_storeCells_at P g (n * i.size) e news 0 cur w hg (by simpa using hfit) h1
      simp only [Nat.add_zero] at hst
      have hfw := hf w fun _ => rfl
      have hr : (Builtin.append_ #[t, t] ty #[.slice (some ⟨g, 0, none⟩) n cap, .slice A m c]).run P w =
          .ok (.slice (some ⟨g, 0, none⟩) (n + m) cap) (w.setRow g (cur.toList.take (n * i.size) ++ news ++ cur.toList.drop (n * i.size + news.length)).toArray) := by
        simp [Builtin.append_, run_underlying ht, sizeOf, typeInfo, hi, Builtin.lenOf, hroom, hfw, Addr.add_lit, hst]
      have hcap : cap ≠ 0 := by omega
      refine ⟨_, _, hr, ⟨hlen, .inr ⟨g, cap, _, rfl, hbg, setRow_heap w g cur _ e _ hg, hroom, hc0, hcm, ?_, ?_⟩⟩, ⟨rfl, rfl, rfl, by simp, fun k _ hk => setRow_other w g k _ (fun e => hk (by simp [ownB, e, hcap]))⟩, .inl (by simp [ownB])⟩
      · simp only [List.size_toArray, List.length_append, List.length_take, List.length_drop, Array.length_toList]
        omega
      · rw [htake, ← hlen]
        exact List.take_left
    · have hgr := grown cap (by omega) (ownB (.slice (some ⟨g, 0, none⟩) n cap))
      have hfit := growfit cap (by omega)
      refine ⟨_, _, ?_, hgr.1, hgr.2, .inr ?_⟩
      · have hfw := hf w.drew fun _ => rfl
        have hfo := run_loadRow (P := P) (w := w.drew) (B := w.heap.size) (A := some ⟨g, 0, none⟩) (xs := xs) i.size n n cap ((hrow _ _ _ rfl).keep (Nat.le_refl _) fun _ _ => rfl) hown.1
        have h63' : ¬ (9223372036854775807 < ((n : Int) + (m : Int))) := by omega
        have h48' : ¬ (281474976710656 < Builtin.nextslicecap (n + m) cap * i.bytes) := by omega
        simp [Builtin.append_, run_underlying ht, sizeOf, typeInfo, zeroValue, hi, hz, Builtin.lenOf, hroom, h63', h48', Question.forced, hfw, hfo, newRow, grownCap]
        congr 2
        apply Array.ext'
        simp [List.append_assoc]
      · have : grownCap w (n + m) cap e ≠ 0 := by have := grownCap_ge w (n + m) cap e; omega
        simp [ownB, this]
theorem run_append_zeros_Own {t tn e k bytes : Nat} {z : Value} {kq kn : IntKind} (E : ElemTy P t e k bytes z) (htn : P.underlying tn = some (.int kn)) (ty : TypeId) {C : Nat} {A : Option Addr} {n c : Nat} {xs : List Value}
    (hl : xs.length = n * k) (hx : RowAt w C A xs) (m : Nat) (hm : 0 < m) (hg : c < n + m) (h63 : n + m ≤ maxLen) (hbytes : (n + m) * bytes ≤ 140737488355328) :
    ∃ g cap cur, (Builtin.append_ #[t, tn] ty #[.slice A n c, .int kq m]).run P w = .ok (.slice (some ⟨w.heap.size, 0, none⟩) (n + m) cap) (w.drew.alloc (.cells cur e)) ∧
      g = w.heap.size ∧ n + m ≤ cap ∧ cap ≤ maxLen ∧ cur.size = cap * k ∧ cur.toList.take (n * k) = xs := by
  obtain ⟨i, hi⟩ : ∃ i, P.info? e = some i := by
    have := E.i
    cases hq : P.info? e with
    | none => simp [hq] at this
    | some i => exact ⟨i, rfl⟩
  have hEi := E.i
  simp only [hi, Option.map_some, Option.some.injEq, Prod.mk.injEq] at hEi
  obtain ⟨hz, hk, hby⟩ := hEi
  subst hk; subst hby
  have hpos := E.pos
  have hzs := E.zs
  have ht := E.u
  have hfo := run_loadRow (P := P) (w := w.drew) (B := C) (A := A) (xs := xs) i.size n n c (hx.keep (Nat.le_refl _) fun _ _ => rfl) hl
  have hk : m ≠ 0 := by omega
  have hmw : IntKind.i64.wrap (m : Int) = m := by rw [IntKind.wrap_i64]; simp only [maxLen] at h63; omega
  have hn : ¬ (n + m ≤ c) := by omega
  have h63' : ¬ (9223372036854775807 < ((n : Int) + (m : Int))) := by simp only [maxLen] at h63; omega
  have h48' : ¬ (281474976710656 < Builtin.nextslicecap (n + m) c * i.bytes) := by have := growslice_fits hg hbytes; omega
  have hmb : m * i.bytes ≤ (n + m) * i.bytes := Nat.mul_le_mul_right _ (by omega)
  have h48i : ¬ (281474976710656 < (m : Int) * (i.bytes : Int)) := by
    rw [← Int.natCast_mul]
    omega
  have hneg : ¬ ((m : Int) < 0) := by omega
  have hns : ¬ (m * i.size = 0) := Nat.mul_ne_zero hk (by omega)
  have hge := grownCap_ge w (n + m) c e
  have hcm := grownCap_le_maxLen w (n + m) c e h63
  refine ⟨w.heap.size, grownCap w (n + m) c e, xs.toArray ++ Builtin.zeroCells z.cells m ++ Builtin.zeroCells z.cells (grownCap w (n + m) c e - (n + m)), ?_, rfl, hge, hcm, ?_, ?_⟩
  · simp [Builtin.append_, run_underlying ht, run_underlying htn, sizeOf, typeInfo, zeroValue, hi, hz, asInt, asIntOf, hmw, hn, hneg, hns, h63', h48', h48i, Question.forced, hfo, newRow, grownCap]
  · simp only [Array.size_append, List.size_toArray, size_zeroCells, hzs, hl, ← Nat.add_mul]
    congr 1
    omega
  · simp only [Array.toList_append, List.append_assoc]
    rw [← hl]
    exact List.take_left

theorem run_copy_in {t e k bytes : Nat} {z : Value} (E : ElemTy P t e k bytes z) (ty : TypeId) {g o dLen dCap sLen sCap C : Nat} {A : Option Addr} {cur : Array Value} {e' : TypeId} {cs : List Value}
    (hg : w.heap[g]? = some (.cells cur e' (0, 0))) (hsrc : RowAt w C A cs) (m : Nat) (hm : min sLen dLen = m) (hn : cs.length = m * k) (hfit : o + cs.length ≤ cur.size) (h1 : ∀ v ∈ cs, v.oneCell' = true) :
    (Builtin.copy_ #[t, t] ty #[.slice (some ⟨g, o, none⟩) dLen dCap, .slice A sLen sCap]).run P w =
      .ok (goInt m) (w.setRow g (cur.toList.take o ++ cs ++ cur.toList.drop (o + cs.length)).toArray) := by
  obtain ⟨i, hi⟩ : ∃ i, P.info? e = some i := by
    have := E.i
    cases hq : P.info? e with
    | none => simp [hq] at this
    | some i => exact ⟨i, rfl⟩
  have hEi := E.i
  simp only [hi, Option.map_some, Option.some.injEq, Prod.mk.injEq] at hEi
  obtain ⟨hz, hk, hby⟩ := hEi
  subst hk
  have ht := E.u
  have hmin : Nat.min sLen dLen = m := hm
  have hf := run_loadRow (P := P) (w := w) i.size m sLen sCap hsrc hn
  have hst := run_storeCells_at P g o e' cs 0 cur w hg (by simpa using hfit) h1
  simp only [Nat.add_zero] at hst
  simp [Builtin.copy_, run_underlying ht, Builtin.lenOf, sizeOf, typeInfo, hi, hmin, hf, hst]

theorem run_clear_in {t e k bytes : Nat} {z : Value} (E : ElemTy P t e k bytes z) (ty : TypeId) {g o len cap : Nat} {cur : Array Value} {e' : TypeId}
    (hg : w.heap[g]? = some (.cells cur e' (0, 0))) (hfit : o + len * k ≤ cur.size) (h1 : ∀ v ∈ z.cells.toList, v.oneCell' = true) :
    (Builtin.clear_ #[t] ty #[.slice (some ⟨g, o, none⟩) len cap]).run P w =
      .ok (.tuple #[]) (w.setRow g (cur.toList.take o ++ (Builtin.zeroCells z.cells len).toList ++ cur.toList.drop (o + len * k)).toArray) := by
  obtain ⟨i, hi⟩ : ∃ i, P.info? e = some i := by
    have := E.i
    cases hq : P.info? e with
    | none => simp [hq] at this
    | some i => exact ⟨i, rfl⟩
  have hEi := E.i
  simp only [hi, Option.map_some, Option.some.injEq, Prod.mk.injEq] at hEi
  obtain ⟨hz, hk, hby⟩ := hEi
  subst hk
  have ht := E.u
  have hzs := E.zs
  have hlen : (Builtin.zeroCells z.cells len).toList.length = len * i.size := by rw [Array.length_toList, size_zeroCells, hzs]
  have hst := run_storeCells_at P g o e' (Builtin.zeroCells z.cells len).toList 0 cur w hg (by rw [hlen]; simpa using hfit) (by
    intro v hv
    simp only [Builtin.zeroCells, Array.toList_map, List.mem_map] at hv
    obtain ⟨j, hj, rfl⟩ := hv
    have hj' : j < len * z.cells.size := by simpa using hj
    have hp : 0 < z.cells.size := by rw [hzs]; exact E.pos
    have hlt : j % z.cells.size < z.cells.size := Nat.mod_lt _ hp
    rw [getElem!_pos z.cells _ hlt]
    exact h1 _ (by simp))
  rw [hlen] at hst
  simp only [Nat.add_zero] at hst
  cases len with
  | zero =>
    simp [Builtin.clear_, run_underlying ht, Builtin.zeroCells]
    exact (setRow_self w g cur e' (0, 0) hg).symm
  | succ len =>
    simp [Builtin.clear_, run_underlying ht, zeroValue, typeInfo, hi, hz, hst]
end
/-! ### a builtin whose run is known, as a step of the walk -/

theorem wpList_append_run {P : Program} {w w' : World} {v u v' : Value} {ops : Array Oper} {rest : List Oper} {o : Oper} {a : Act} {Q : Exit → Act → World → Prop} {t t' ty : TypeId}
    (hr : (Builtin.append_ #[t, t'] ty #[v, u]).run P w = .ok v' w') (hgd : o.guard = none) (s x : Operand)
    (ho : o.op = .call { callee := .builtin .append, args := #[s, x], argTypes := #[t, t'] }) (hty : o.type = ty) (hs : a.eval s = v) (hx : a.eval x = u)
    (h : wpList P ops Q rest (a.put o.dst v') w') : wpList P ops Q (o :: rest) a w := by
  subst hty
  refine wpList_plain hgd fun K hK => ?_
  unfold Oper.wp execOp
  simp only [ho, resolve, invoke, builtin, Sem.run_bind, Sem.run_pure, Result.andThen_ok, List.map_toArray, List.map_cons, List.map_nil, hs, hx, hr]
  exact hK _ _ h

theorem wpList_copy_run {P : Program} {w w' : World} {v u v' : Value} {ops : Array Oper} {rest : List Oper} {o : Oper} {a : Act} {Q : Exit → Act → World → Prop} {t t' ty : TypeId}
    (hr : (Builtin.copy_ #[t, t'] ty #[v, u]).run P w = .ok v' w') (hgd : o.guard = none) (s x : Operand)
    (ho : o.op = .call { callee := .builtin .copy, args := #[s, x], argTypes := #[t, t'] }) (hty : o.type = ty) (hs : a.eval s = v) (hx : a.eval x = u)
    (h : wpList P ops Q rest (a.put o.dst v') w') : wpList P ops Q (o :: rest) a w := by
  subst hty
  refine wpList_plain hgd fun K hK => ?_
  unfold Oper.wp execOp
  simp only [ho, resolve, invoke, builtin, Sem.run_bind, Sem.run_pure, Result.andThen_ok, List.map_toArray, List.map_cons, List.map_nil, hs, hx, hr]
  exact hK _ _ h

theorem step_copy_run {P : Program} {ops : Array Oper} {o : Oper} {a : Act} {w : World} {K : Act → World → Prop} {Q : Exit → Act → World → Prop} {E : Prop} {t t' ty : TypeId} {v u v' : Value} {w' : World}
    (hr : (Builtin.copy_ #[t, t'] ty #[v, u]).run P w = .ok v' w') (hg : o.guard = none) (d x : Operand) (hop : o.op = Op.call { callee := Callee.builtin Builtin.copy, args := #[d, x], argTypes := #[t, t'] })
    (hty : o.type = ty) (hd : a.eval d = v) (hx : a.eval x = u) (hK : K (a.put o.dst v') w') :
    if Region.wanted o (yielded ops a.tmps) = true then Oper.wp P o a w K Q else E := by
  subst hty
  have hw : Region.wanted o (yielded ops a.tmps) = true := by simp [Region.wanted, hg]
  rw [if_pos hw]
  unfold Oper.wp
  simp [execOp, hop, resolve, invoke, builtin, hd, hx, hr, Result.andThen]
  exact hK

theorem wpList_clear_run {P : Program} {w w' : World} {v v' : Value} {ops : Array Oper} {rest : List Oper} {o : Oper} {a : Act} {Q : Exit → Act → World → Prop} {t ty : TypeId}
    (hr : (Builtin.clear_ #[t] ty #[v]).run P w = .ok v' w') (hgd : o.guard = none) (s : Operand)
    (ho : o.op = .call { callee := .builtin .clear, args := #[s], argTypes := #[t] }) (hty : o.type = ty) (hs : a.eval s = v)
    (h : wpList P ops Q rest (a.put o.dst v') w') : wpList P ops Q (o :: rest) a w := by
  subst hty
  refine wpList_plain hgd fun K hK => ?_
  unfold Oper.wp execOp
  simp only [ho, resolve, invoke, builtin, Sem.run_bind, Sem.run_pure, Result.andThen_ok, List.map_toArray, List.map_cons, List.map_nil, hs, hr]
  exact hK _ _ h
theorem step_append_run {P : Program} {ops : Array Oper} {o : Oper} {a : Act} {w : World} {K : Act → World → Prop} {Q : Exit → Act → World → Prop} {E : Prop} {t t' ty : TypeId} {v u v' : Value} {w' : World}
    (hr : (Builtin.append_ #[t, t'] ty #[v, u]).run P w = .ok v' w') (hg : o.guard = none) (d x : Operand) (hop : o.op = Op.call { callee := Callee.builtin Builtin.append, args := #[d, x], argTypes := #[t, t'] })
    (hty : o.type = ty) (hd : a.eval d = v) (hx : a.eval x = u) (hK : K (a.put o.dst v') w') :
    if Region.wanted o (yielded ops a.tmps) = true then Oper.wp P o a w K Q else E := by
  subst hty
  have hw : Region.wanted o (yielded ops a.tmps) = true := by simp [Region.wanted, hg]
  rw [if_pos hw]
  unfold Oper.wp
  simp [execOp, hop, resolve, invoke, builtin, hd, hx, hr, Result.andThen]
  exact hK

theorem run_append_room_in {P : Program} {w : World} {t e k bytes : Nat} {z : Value} (E : ElemTy P t e k bytes z) (ty : TypeId) {g n cap m c C : Nat} {A : Option Addr} {cur : Array Value} {news : List Value}
    (hg : w.heap[g]? = some (.cells cur e (0, 0))) (hcs : cur.size = cap * k) (hroom : n + m ≤ cap) (hl : news.length = m * k) (hsrc : RowAt w C A news) (h1 : ∀ v ∈ news, v.oneCell' = true) :
    (Builtin.append_ #[t, t] ty #[.slice (some ⟨g, 0, none⟩) n cap, .slice A m c]).run P w =
      .ok (.slice (some ⟨g, 0, none⟩) (n + m) cap) (w.setRow g (cur.toList.take (n * k) ++ news ++ cur.toList.drop (n * k + news.length)).toArray) := by
  obtain ⟨i, hi⟩ : ∃ i, P.info? e = some i := by
    have := E.i
    cases hq : P.info? e with
    | none => simp [hq] at this
    | some i => exact ⟨i, rfl⟩
  have hEi := E.i
  simp only [hi, Option.map_some, Option.some.injEq, Prod.mk.injEq] at hEi
  obtain ⟨hz, hk, hby⟩ := hEi
  subst hk
  have ht := E.u
  have hfit : n * i.size + news.length ≤ cur.size := by rw [hl, hcs, ← Nat.add_mul]; exact Nat.mul_le_mul_right _ hroom
  have hst := run_storeCells_at P g (n * i.size) e news 0 cur w hg (by simpa using hfit) h1
  simp only [Nat.add_zero] at hst
  have hfw := run_loadRow (P := P) (w := w) i.size m m c hsrc hl
  simp [Builtin.append_, run_underlying ht, sizeOf, typeInfo, hi, Builtin.lenOf, hroom, hfw, Addr.add_lit, hst]

/-! ### a region that draws its order, whose calls make new memory, but whose values hang on nothing new: one walk of the text's order -/

/-- a world in which nothing that was in W has changed -/
structure NewW (W : World) where
  val : World
  below : Below W.heap.size W val
instance (W : World) : Nonempty (NewW W) := ⟨⟨W, Below.refl _ _⟩⟩

theorem wp_region_new {P : Program} {id : Nat} {Q : Exit → Act → World → Prop} {a : Act} {W : World} {l : List Oper} (hm : P.follows .mixedOrders = true) (hB : Region.lexB .any l.toArray = true)
    (h : wpQuiet P l.toArray (fun w' => ∃ x : NewW W, w' = x.val) (fun a' => ∀ w', (∃ x : NewW W, w' = x.val) → Q .normal a' w') l a) : (Code.region id l.toArray true).wp P Q a W :=
  wp_region_quiet (C := fun w' => ∃ x : NewW W, w' = x.val) hm hB ⟨⟨W.drew, (Below.refl _ _).drew⟩, rfl⟩ (by simpa using h)
theorem Calls.new_of {P : Program} {f : FuncId} {args : Array Value} {v : Value} {W : World} {x : NewW W}
    (h : Calls P f args x.val fun e w' => e = .returned v ∧ Below x.val.heap.size x.val w') : Calls P f args x.val fun e w'' => e = .returned v ∧ ∃ y : NewW W, w'' = y.val :=
  h.mono fun _ w'' ⟨he, hb⟩ => ⟨he, ⟨w'', x.below.trans (hb.mono x.below.size)⟩, rfl⟩
theorem Calls.new_drewN {P : Program} {f : FuncId} {args : Array Value} {v : Value} {W : World} {x : NewW W}
    (h : Calls P f args x.val fun e w' => e = .returned v ∧ ∃ n, w' = x.val.drewN n) : Calls P f args x.val fun e w'' => e = .returned v ∧ ∃ y : NewW W, w'' = y.val :=
  h.mono fun _ w'' ⟨he, n, hb⟩ => ⟨he, ⟨w'', by subst hb; exact x.below.trans (below_drewN (Below.refl _ _) n)⟩, rfl⟩
theorem Calls.new_same {P : Program} {f : FuncId} {args : Array Value} {v : Value} {W : World} {x : NewW W}
    (h : Calls P f args x.val fun e w' => e = .returned v ∧ w' = x.val) : Calls P f args x.val fun e w'' => e = .returned v ∧ ∃ y : NewW W, w'' = y.val :=
  h.mono fun _ w'' ⟨he, hb⟩ => ⟨he, x, hb⟩
theorem new_cell {W : World} {p : Addr} {v : Value} (h : W.cell? p = some v) : ∀ x : NewW W, x.val.cell? p = some v :=
  fun x => (x.below.cell (World.block_lt_of_cell? W _ h)).trans h

end Go.Proofs.Ytkamdppnnhjajaa
