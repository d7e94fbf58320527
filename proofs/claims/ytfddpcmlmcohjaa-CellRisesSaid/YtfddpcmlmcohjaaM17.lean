/-
  Chapter 17 in plain Lean: cells, marks, operations; what an operation and a merge make. No program in sight.
-/
import Derived.Test.YtfddpcmlmcohjaaLst
namespace Go.Proofs.Ytfddpcmlmcohjaa
open Go.RowKit
set_option linter.unusedVariables false
set_option linter.unusedSimpArgs false

structure Ans where
  code : Int
  version : Int
  has : Bool
  val : ByteArray
deriving DecidableEq
structure Mark where
  client : Int
  req : Int
  ans : Ans
deriving DecidableEq
structure Cel where
  version : Int
  has : Bool
  val : ByteArray
  marks : List Mark
deriving DecidableEq
structure Opr where
  client : Int
  req : Int
  kind : Int
  version : Int
  val : ByteArray
deriving DecidableEq
def Mark.enc (x : Mark) : List Value := [.int .i64 x.client, .int .u64 x.req, .int .i64 x.ans.code, .int .u64 x.ans.version, .bool x.ans.has, .string x.ans.val]
theorem Mark.enc_len (x : Mark) : x.enc.length = 6 := rfl
theorem Mark.enc_one (x : Mark) : ∀ v ∈ x.enc, v.oneCell' = true := by
  intro v hv
  simp [Mark.enc] at hv
  rcases hv with rfl | rfl | rfl | rfl | rfl | rfl <;> rfl

def SrtM (l : List Mark) : Prop := l.Pairwise (fun x y => x.client < y.client)
def ansOk (a : Ans) : Prop := a.val = ByteArray.empty ∧ (a.code = 0 ∨ a.code = 8)
instance (a : Ans) : Decidable (ansOk a) := by unfold ansOk; infer_instance
def markOk (m : Mark) : Prop := 0 ≤ m.client ∧ m.client ≤ 63 ∧ ansOk m.ans
instance (m : Mark) : Decidable (markOk m) := by unfold markOk; infer_instance
instance (l : List Mark) : Decidable (SrtM l) := by unfold SrtM; infer_instance
def valOk (s : ByteArray) (has : Bool) : Prop := s.size ≤ 2048 ∧ (has = true ∨ s = ByteArray.empty)
instance (s : ByteArray) (b : Bool) : Decidable (valOk s b) := by unfold valOk; infer_instance
def Good (l : List Mark) : Prop := SrtM l ∧ ∀ m ∈ l, markOk m
instance (l : List Mark) : Decidable (Good l) := by unfold Good; infer_instance
def IsC (c : Cel) : Prop := Good c.marks ∧ valOk c.val c.has
instance (c : Cel) : Decidable (IsC c) := by unfold IsC; infer_instance
def IsO (o : Opr) : Prop := 0 ≤ o.client ∧ o.client ≤ 63 ∧ 1 ≤ o.kind ∧ o.kind ≤ 4 ∧ o.val.size ≤ 2048 ∧ (o.kind = 1 ∨ o.kind = 4 → o.val = ByteArray.empty) ∧ (o.kind = 1 ∨ o.kind = 2 → o.version = 0)
instance (o : Opr) : Decidable (IsO o) := by unfold IsO; infer_instance

/-- the client of the last one of the first k marks -/
def lastC (l : List Mark) (k : Nat) : Int := match (l.take k).getLast? with | none => -1 | some m => m.client
theorem lastC_zero (l : List Mark) : lastC l 0 = -1 := by simp [lastC]
theorem lastC_succ {l : List Mark} {k : Nat} (h : k < l.length) : lastC l (k + 1) = l[k].client := by
  unfold lastC
  rw [List.take_succ_eq_append_getElem h, List.getLast?_concat]
theorem good_zero (l : List Mark) : Good (l.take 0) := ⟨by simp [SrtM], by simp⟩
theorem lastC_ge {l : List Mark} {k : Nat} (hg : Good (l.take k)) : -1 ≤ lastC l k := by
  unfold lastC
  cases h : (l.take k).getLast? with
  | none => simp
  | some m =>
    have := (hg.2 m (List.mem_of_getLast? h)).1
    show -1 ≤ m.client
    omega
theorem lastC_max {l : List Mark} {k : Nat} (hg : Good (l.take k)) : ∀ x ∈ l.take k, x.client ≤ lastC l k := by
  intro x hx
  unfold lastC
  cases h : (l.take k).getLast? with
  | none => rw [List.getLast?_eq_none_iff] at h; rw [h] at hx; cases hx
  | some m =>
    obtain ⟨a, ha⟩ := List.getLast?_eq_some_iff.1 h
    show x.client ≤ m.client
    rw [ha] at hx
    rcases List.mem_append.1 hx with hx | hx
    · have hs := hg.1
      unfold SrtM at hs
      rw [ha, List.pairwise_append] at hs
      have := hs.2.2 x hx m (by simp)
      omega
    · simp at hx; subst hx; exact Int.le_refl _
theorem good_succ {l : List Mark} {k : Nat} (h : k < l.length) (hg : Good (l.take k)) : Good (l.take (k + 1)) ↔ lastC l k < l[k].client ∧ l[k].client ≤ 63 ∧ ansOk l[k].ans := by
  rw [List.take_succ_eq_append_getElem h]
  constructor
  · rintro ⟨hs, hm⟩
    have h1 := hm l[k] (List.mem_append_right _ (List.mem_singleton.2 rfl))
    refine ⟨?_, h1.2.1, h1.2.2⟩
    unfold lastC
    cases hq : (l.take k).getLast? with
    | none => show -1 < _; have := h1.1; omega
    | some m =>
      unfold SrtM at hs
      rw [List.pairwise_append] at hs
      exact hs.2.2 m (List.mem_of_getLast? hq) l[k] (List.mem_singleton.2 rfl)
  · rintro ⟨h1, h2, h3⟩
    have h0 := lastC_ge hg
    refine ⟨?_, ?_⟩
    · unfold SrtM
      rw [List.pairwise_append]
      refine ⟨hg.1, by simp, fun x hx y hy => ?_⟩
      simp at hy; subst hy
      have := lastC_max hg x hx
      omega
    · intro m hm
      rcases List.mem_append.1 hm with hm | hm
      · exact hg.2 m hm
      · simp at hm; subst hm; exact ⟨by omega, h2, h3⟩
theorem good_take {l : List Mark} (k : Nat) (hg : Good l) : Good (l.take k) := ⟨hg.1.sublist (List.take_sublist _ _), fun m hm => hg.2 m (List.mem_of_mem_take hm)⟩

def putM : List Mark → Mark → List Mark
  | [], m => [m]
  | x :: l, m => if x.client < m.client then x :: putM l m else if x.client = m.client then m :: l else m :: x :: l
def ofM (l : List Mark) (c : Int) : Option Mark := l.find? (fun x => decide (x.client = c))

/-- place i of a row at which a client's mark stands, or would stand -/
def AtM (l : List Mark) (c : Int) (i : Nat) : Prop := i ≤ l.length ∧ (∀ x ∈ l.take i, x.client < c) ∧ ∀ x, l[i]? = some x → ¬ x.client < c
theorem AtM.zero {l : List Mark} {c : Int} (h : AtM l c 0) : ∀ x, l[0]? = some x → ¬ x.client < c := h.2.2
theorem AtM.cons {x : Mark} {l : List Mark} {c : Int} {i : Nat} (h : AtM (x :: l) c (i + 1)) : x.client < c ∧ AtM l c i :=
  ⟨h.2.1 x (by simp), by have := h.1; simp at this; omega, fun y hy => h.2.1 y (by simp [hy]), fun y hy => h.2.2 y (by simpa using hy)⟩
theorem putM_miss : ∀ {l : List Mark} {m : Mark} {i : Nat}, AtM l m.client i → (∀ x, l[i]? = some x → x.client ≠ m.client) → putM l m = l.take i ++ [m] ++ l.drop i
  | [], m, i, h, _ => by simp [putM]
  | x :: l, m, 0, h, hn => by
    have h1 := h.2.2 x rfl
    have h2 := hn x rfl
    simp [putM, h1, h2]
  | x :: l, m, i + 1, h, hn => by
    obtain ⟨h1, h2⟩ := h.cons
    simp [putM, h1, putM_miss h2 (fun y hy => hn y (by simpa using hy))]
theorem putM_hit : ∀ {l : List Mark} {m : Mark} {i : Nat}, AtM l m.client i → (∃ x, l[i]? = some x ∧ x.client = m.client) → putM l m = l.take i ++ [m] ++ l.drop (i + 1)
  | [], m, i, h, hx => by obtain ⟨x, hx, _⟩ := hx; simp at hx
  | x :: l, m, 0, h, hn => by
    obtain ⟨y, hy, hc⟩ := hn
    simp at hy; subst hy
    simp [putM, hc]
  | x :: l, m, i + 1, h, hn => by
    obtain ⟨h1, h2⟩ := h.cons
    have hn' : ∃ y, l[i]? = some y ∧ y.client = m.client := by obtain ⟨y, hy, hc⟩ := hn; exact ⟨y, by simpa using hy, hc⟩
    simp [putM, h1, putM_hit h2 hn']
theorem ofM_hit : ∀ {l : List Mark} {c : Int} {i : Nat}, AtM l c i → ∀ x, l[i]? = some x → x.client = c → ofM l c = some x
  | [], c, i, h, x, hx, _ => by simp at hx
  | y :: l, c, 0, h, x, hx, hc => by simp at hx; subst hx; simp [ofM, hc]
  | y :: l, c, i + 1, h, x, hx, hc => by
    obtain ⟨h1, h2⟩ := h.cons
    have : ofM l c = some x := ofM_hit h2 x (by simpa using hx) hc
    unfold ofM at this ⊢
    rw [List.find?_cons_of_neg (by simp; omega), this]
theorem ofM_miss {l : List Mark} {c : Int} {i : Nat} (hs : SrtM l) (h : AtM l c i) (hn : ∀ x, l[i]? = some x → x.client ≠ c) : ofM l c = none := by
  unfold ofM
  rw [List.find?_eq_none]
  intro x hx
  obtain ⟨j, hj, rfl⟩ := List.mem_iff_getElem.1 hx
  have : l[j].client ≠ c := by
    by_cases h1 : j < i
    · have := h.2.1 l[j] (List.mem_take_iff_getElem.2 ⟨j, by omega, rfl⟩)
      omega
    · have hi : i < l.length := by omega
      have ha := hn l[i] (List.getElem?_eq_getElem hi)
      have hb := h.2.2 l[i] (List.getElem?_eq_getElem hi)
      by_cases h2 : j = i
      · subst h2; exact ha
      · have := List.pairwise_iff_getElem.1 hs i j hi hj (by omega)
        omega
  simpa using this
theorem putM_length (l : List Mark) (m : Mark) : (putM l m).length ≤ l.length + 1 := by
  induction l with
  | nil => simp [putM]
  | cons x l ih =>
    simp only [putM]
    split
    · simp; omega
    · split <;> simp

def zeroAns : Ans := ⟨0, 0, false, ByteArray.empty⟩
def zeroMark : Mark := ⟨0, 0, zeroAns⟩
def zeroCel : Cel := ⟨0, false, ByteArray.empty, []⟩
def up (v : Int) : Int := IntKind.u64.wrap (v + 1)
/-- an operation that writes -/
def writeC (c : Cel) (o : Opr) : Cel × Ans × Bool × Int :=
  if o.kind ≠ 2 ∧ o.version ≠ c.version then
    (⟨c.version, c.has, c.val, putM c.marks ⟨o.client, o.req, ⟨8, c.version, c.has, ByteArray.empty⟩⟩⟩, ⟨8, c.version, c.has, ByteArray.empty⟩, false, 0)
  else (⟨up c.version, decide (o.kind ≠ 4), o.val, putM c.marks ⟨o.client, o.req, ⟨0, up c.version, decide (o.kind ≠ 4), ByteArray.empty⟩⟩⟩, ⟨0, up c.version, decide (o.kind ≠ 4), ByteArray.empty⟩, true, 0)
/-- what Do answers -/
def doC (c : Cel) (o : Opr) : Cel × Ans × Bool × Int :=
  if ¬ (IsC c ∧ IsO o) then (zeroCel, zeroAns, false, 1)
  else if o.kind = 1 then (c, ⟨0, c.version, c.has, c.val⟩, false, 0)
  else match ofM c.marks o.client with
    | none => writeC c o
    | some m => if m.req = o.req then (c, m.ans, false, 0) else if m.req > o.req then (c, ⟨9, 0, false, ByteArray.empty⟩, false, 0) else writeC c o
/-- the marks that Merge makes, of the first k marks of b -/
def stepM (a : List Mark) (out : List Mark) (m : Mark) : List Mark :=
  match ofM a m.client with
  | none => putM out m
  | some x => if x.req < m.req then putM out m else out
def mergeM (a b : List Mark) : List Mark := b.foldl (stepM a) a
def mergeC (a b : Cel) : Cel × Int :=
  if ¬ (IsC a ∧ IsC b) then (zeroCel, 1)
  else ((if a.version < b.version then ⟨b.version, b.has, b.val, mergeM a.marks b.marks⟩ else ⟨a.version, a.has, a.val, mergeM a.marks b.marks⟩), 0)
end Go.Proofs.Ytfddpcmlmcohjaa
