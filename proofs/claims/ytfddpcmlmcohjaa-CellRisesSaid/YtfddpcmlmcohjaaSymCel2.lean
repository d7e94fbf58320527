/-
  More contracts of chapter 17's functions in the executor's words. Conditions: fewer marks than 2^31.
-/
import Derived.Test.YtfddpcmlmcohjaaSymCel
import Derived.Test.YtfddpcmlmcohjaaCelled2
namespace Go.Proofs.Ytfddpcmlmcohjaa.Sym
open Go Go.RowKit
set_option linter.unusedVariables false
set_option linter.unusedSimpArgs false

def opAV (o : Opr) : AV := .agg [.int .i64 o.client, .int .u64 o.req, .int .i64 o.kind, .int .u64 o.version, .str o.val]
def ansC (x : Ans) : List AV := [.int .i64 x.code, .int .u64 x.version, .bool (.v x.has), .str x.val]
/-- the place of a client's mark -/
def lowM (l : List Mark) (c : Int) : Nat := (l.takeWhile (fun x => decide (x.client < c))).length
theorem low_at : ∀ {l : List Mark} {c : Int} {i : Nat}, AtM l c i → i = lowM l c
  | [], c, i, h => by have := h.1; simp at this; simp [lowM, this]
  | x :: l, c, 0, h => by
    have := h.2.2 x (by simp)
    simp [lowM, this]
  | x :: l, c, i + 1, h => by
    obtain ⟨h1, h2⟩ := AtM.cons h
    have := low_at h2
    simp [lowM, h1] at this ⊢
    exact this
theorem low_is : ∀ {l : List Mark} {c : Int} {m : Mark}, SrtM l → ofM l c = some m → l[lowM l c]? = some m
  | [], c, m, _, h => by simp [ofM] at h
  | x :: l, c, m, hs, h => by
    obtain ⟨h1, h2⟩ := List.pairwise_cons.1 hs
    rw [ofM_cons] at h
    by_cases hc : x.client = c
    · rw [if_pos hc] at h; injection h with h; subst h
      simp [lowM, hc]
    · rw [if_neg hc] at h
      have hm := ofM_is h
      have hlt := h1 m hm.1
      have hx : x.client < c := by omega
      have := low_is h2 h
      simp [lowM, hx] at this ⊢
      exact this
theorem isC_s (A : Option Addr) (k : Nat) (c : Cel) (hs : c.marks.length < 2147483000) : Spec Try.prog 26 [celAV A k c] (fun _ => .bool (.v (decide (IsC c)))) := by
  intro m w hm ha
  refine (isC_c w A k c (cel_r (ha _ (by simp)) hs)).mono ?_
  rintro e w' ⟨rfl, hb⟩
  exact ⟨noAtom, rfl, .bool _, hb⟩
theorem op_val {m : Nat → Nat → Prop} {w : World} {o : Opr} (h : Ok m w (opAV o)) : o.val.size ≤ maxLen := by
  have := ok_agg h (.str o.val) (by simp [opAV])
  cases this with | str _ h => exact h
theorem isO_s (o : Opr) : Spec Try.prog 28 [opAV o] (fun _ => .bool (.v (decide (IsO o)))) := by
  intro m w hm ha
  refine (isO_c o w (op_val (ha _ (by simp)))).mono ?_
  rintro e w' ⟨rfl, hb⟩
  exact ⟨noAtom, rfl, .bool _, hb⟩
theorem risO_s (o : Opr) : Spec Try.prog 29 [opAV o] (fun _ => .bool (.v (decide (IsO o)))) := by
  intro m w hm ha
  refine (risO_c o w (op_val (ha _ (by simp)))).mono ?_
  rintro e w' ⟨rfl, hb⟩
  exact ⟨noAtom, rfl, .bool _, hb⟩
theorem same_s (A1 A2 : Option Addr) (k1 k2 : Nat) (c1 c2 : Cel) (hs1 : c1.marks.length < 2147483000) (hs2 : c2.marks.length < 2147483000) : Spec Try.prog 30 [celAV A1 k1 c1, celAV A2 k2 c2] (fun _ => .bool (.v (decide (c1 = c2)))) := by
  intro m w hm ha
  refine (same_f w A1 A2 k1 k2 c1 c2 (cel_r (ha _ (by simp)) hs1) (cel_r (ha _ (by simp)) hs2)).mono ?_
  rintro e w' ⟨rfl, hb⟩
  exact ⟨noAtom, rfl, .bool _, hb⟩
theorem celled_s : Spec Try.prog 25 [] (fun _ => .bool .tt) := by
  intro m w hm ha
  refine (celled_c w).mono ?_
  rintro e w' ⟨rfl, hb⟩
  exact ⟨noAtom, rfl, .bool _, hb⟩
theorem find_s (A : Option Addr) (k : Nat) (l : List Mark) (c : Int) (hs : l.length < 2147483000) (hg : SrtM l) (hm : ∀ m ∈ l, 0 ≤ m.client ∧ m.client ≤ 63) (hc : 0 ≤ c ∧ c ≤ 63) : Spec Try.prog 42 [marksAV A k l, .int .i64 c] (fun _ => .tup [.int .i64 (lowM l c : Int), .bool (.v (ofM l c).isSome)]) := by
  intro m w hmm ha
  refine (findM_c w A k l c (marks_reads (ha (marksAV A k l) (by simp))) hs hg hm hc).mono ?_
  rintro e w' ⟨i, b, rfl, hi, hb, hbel⟩
  have hlo := low_at hi
  have hbb : b = (ofM l c).isSome := by
    rw [Bool.eq_iff_iff, hb]
    constructor
    · rintro ⟨x, h1, h2⟩
      have := ofM_mem hg (List.mem_of_getElem? h1)
      rw [h2] at this
      simp [this]
    · intro h
      obtain ⟨x, hx⟩ := Option.isSome_iff_exists.1 h
      exact ⟨x, by rw [hlo]; exact low_is hg hx, (ofM_is hx).2⟩
  refine ⟨noAtom, by subst hlo hbb; rfl, .tup _ (fun v hv => ?_), hbel⟩
  simp only [List.mem_cons, List.not_mem_nil, or_false] at hv
  rcases hv with rfl | rfl
  · exact .int _ _
  · exact .bool _
theorem put_s (A : Option Addr) (k : Nat) (l : List Mark) (x : Mark) (hs : l.length < 2147483000) (hg : SrtM l) (hl : ∀ m ∈ l, 0 ≤ m.client ∧ m.client ≤ 63) (hc : 0 ≤ x.client ∧ x.client ≤ 63) : Spec Try.prog 43 [marksAV A k l, .agg (markC x)] (fun y => marksAV (y.A 0) (y.c 0) (putM l x)) := by
  intro m w hm ha
  have h1 := ha (marksAV A k l) (by simp)
  have h2 := ha (.agg (markC x)) (by simp)
  refine (put17_c w A k l x (marks_reads h1) hs hg hl hc).mono ?_
  rintro e w' ⟨v', rfl, ho, hb⟩
  obtain ⟨A', c', rfl, _, _⟩ := Own.isSlice ho
  refine ⟨⟨0, fun _ => A', fun _ => c'⟩, rfl, own_marks ho hm (fun y hy => ?_), hb⟩
  rcases putM_mem hy with hy | rfl
  · exact marks_vals h1 y hy
  · have := ok_agg h2 (.str y.ans.val) (by simp [markC])
    cases this with | str _ h => exact h
theorem clone_s (A : Option Addr) (k : Nat) (l : List Mark) (hs : l.length < 2147483000) : Spec Try.prog 49 [marksAV A k l] (fun y => marksAV (y.A 0) (y.c 0) l) := by
  intro m w hm ha
  have h1 := ha (marksAV A k l) (by simp)
  refine (clone_c w A k l (marks_reads h1) hs).mono ?_
  rintro e w' ⟨v', rfl, ho, hb⟩
  obtain ⟨A', c', rfl, _, _⟩ := Own.isSlice ho
  exact ⟨⟨0, fun _ => A', fun _ => c'⟩, rfl, own_marks ho hm (fun y hy => marks_vals h1 y hy), hb⟩
theorem now_s (A : Option Addr) (k : Nat) (c : Cel) (code : Int) : Spec Try.prog 41 [celAV A k c, .int .i64 code] (fun _ => .agg (ansC ⟨code, c.version, c.has, ByteArray.empty⟩)) := by
  intro m w hm ha
  refine (now_c w A k c code).mono ?_
  rintro e w' ⟨rfl, hb⟩
  refine ⟨noAtom, rfl, .agg _ (fun v hv => ?_) (fun v hv => ?_), hb⟩
  · simp only [ansC, List.mem_cons, List.not_mem_nil, or_false] at hv
    rcases hv with rfl | rfl | rfl | rfl <;> rfl
  · simp only [ansC, List.mem_cons, List.not_mem_nil, or_false] at hv
    rcases hv with rfl | rfl | rfl | rfl
    · exact .int _ _
    · exact .int _ _
    · exact .bool _
    · exact .str _ (by decide)
theorem ba_beq (f g : ByteArray) : (f == g) = true ↔ f = g := by
  cases f with | mk a => cases g with | mk b =>
  have : (ByteArray.mk a == ByteArray.mk b) = (a == b) := rfl
  rw [this]
  simp
theorem eqL_mark (x y : Mark) : eqL (markC x) (markC y) = decide (x = y) := by
  obtain ⟨a, b, ⟨c, d, e, f⟩⟩ := x
  obtain ⟨a', b', ⟨c', d', e', f'⟩⟩ := y
  rw [Bool.eq_iff_iff]
  simp [markC, eqL, eqC, BE.den, ba_beq]
theorem eqL_ans (x y : Ans) : eqL (ansC x) (ansC y) = decide (x = y) := by
  obtain ⟨c, d, e, f⟩ := x
  obtain ⟨c', d', e', f'⟩ := y
  rw [Bool.eq_iff_iff]
  simp [ansC, eqL, eqC, BE.den, ba_beq]
theorem guard_no {P : Program} {op : BinOp} {t : TypeId} (hg : P.eqGuardType P.depth t = false) (o1 o2 : Operand) (a b : Array Value) (w : World) : (eqGuard op t o1 o2 (.agg a) (.agg b)).run P w = .ok () w := by
  unfold eqGuard
  cases op <;> simp [hg] <;> rfl
theorem ob_mark (x y : Mark) : Ob.holds Try.prog (.eql 55 (markC x) (markC y)) := by
  intro w o1 o2
  have h1 : (binOp .eql 55 (.agg ((markC x).map AV.den).toArray) (.agg ((markC y).map AV.den).toArray)).run Try.prog w = .ok (.bool (eqL (markC x) (markC y))) w := by
    rw [eqL_mark]
    refine (run_eql_struct w _ _ _).trans ?_
    have := equalMark x y w
    refine (congrArg (fun r => Result.andThen r _) this).trans ?_
    rfl
  have h2 : (binOp .neq 55 (.agg ((markC x).map AV.den).toArray) (.agg ((markC y).map AV.den).toArray)).run Try.prog w = .ok (.bool (!eqL (markC x) (markC y))) w := by
    rw [eqL_mark]
    exact neqMark x y w
  constructor
  · simp [guard_no guardMark, h1]
  · simp [guard_no guardMark, h2]
end Go.Proofs.Ytfddpcmlmcohjaa.Sym
