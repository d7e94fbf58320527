/-
  Chapter 17's cells in the executor's words, and contracts of functions said in them. Conditions: fewer marks than 2^31.
-/
import Derived.Test.YtfddpcmlmcohjaaSymKit
import Derived.Test.YtfddpcmlmcohjaaSymTab
import Derived.Test.YtfddpcmlmcohjaaLaw17b
import Derived.Test.YtfddpcmlmcohjaaRefC3
namespace Go.Proofs.Ytfddpcmlmcohjaa.Sym
open Go Go.RowKit
set_option linter.unusedVariables false
set_option linter.unusedSimpArgs false

def markC (x : Mark) : List AV := [.int .i64 x.client, .int .u64 x.req, .int .i64 x.ans.code, .int .u64 x.ans.version, .bool (.v x.ans.has), .str x.ans.val]
def rowM (g : Option Nat) (A : Option Addr) (n k : Nat) (f : Nat → Mark) : AV := .sl g A n k 6 (fun i => markC (f i))
def marksAV (A : Option Addr) (k : Nat) (l : List Mark) : AV := rowM none A l.length k (fun i => l.getD i zeroMark)
def celAV (A : Option Addr) (k : Nat) (c : Cel) : AV := .agg [.int .u64 c.version, .bool (.v c.has), .str c.val, marksAV A k c.marks]
theorem markC_den (x : Mark) : (markC x).map AV.den = x.enc := rfl
theorem marks_open (l : List Mark) : ∃ n f, (∀ A k, marksAV A k l = rowM none A n k f) ∧ n = l.length ∧ f = (fun i => l.getD i zeroMark) := ⟨_, _, fun _ _ => rfl, rfl, rfl⟩
theorem rowFlat_marks (l : List Mark) : rowFlat (fun i => markC (l.getD i zeroMark)) l.length = l.flatMap Mark.enc := by
  have key : ∀ n, n ≤ l.length → rowFlat (fun i => markC (l.getD i zeroMark)) n = (l.take n).flatMap Mark.enc := by
    intro n
    induction n with
    | zero => intro _; simp [rowFlat]
    | succ n ih =>
      intro h
      rw [rowFlat_succ, ih (by omega), List.take_succ_eq_append_getElem (by omega), List.flatMap_append]
      simp [List.getD, List.getElem?_eq_getElem (show n < l.length by omega), markC_den]
  have := key l.length (Nat.le_refl _)
  rwa [List.take_length] at this
theorem marks_reads {m : Nat → Nat → Prop} {w : World} {A : Option Addr} {k : Nat} {l : List Mark} (h : Ok m w (marksAV A k l)) : ReadsL Mark.enc w w.heap.size A l := by
  have := row_of_ok h
  rw [rowFlat_marks] at this
  exact this
theorem reads_marks {m : Nat → Nat → Prop} {w : World} {A : Option Addr} {k : Nat} {l : List Mark} (hl : l.length ≤ k) (hk : k ≤ maxLen) (hs : ∀ x ∈ l, x.ans.val.size ≤ maxLen)
    (h : 0 < (l.flatMap Mark.enc).length → ∃ b off, A = some ⟨b, off, none⟩ ∧ ∀ j u, (l.flatMap Mark.enc)[j]? = some u → w.cell? ⟨b, off + j, none⟩ = some u ∧ ¬ m b (off + j)) : Ok m w (marksAV A k l) := by
  have hg : ∀ i (hi : i < l.length), l.getD i zeroMark = l[i] := fun i hi => by simp [List.getD, hi]
  have hpos : ∀ i, i < l.length → 0 < (l.flatMap Mark.enc).length := fun i hi => by rw [flat_length Mark.enc_len]; omega
  refine .sl _ _ _ _ _ _ hl hk (fun i _ => rfl) (fun i hi => ?_) (fun i hi j u hu => ?_) (fun i hi v hv => ?_) (fun i hi v hv => ?_)
  · obtain ⟨b, off, hA, _⟩ := h (hpos i hi); exact ⟨b, off, hA⟩
  · obtain ⟨b, off, hA, hc⟩ := h (hpos i hi)
    have hu' : (Mark.enc (l.getD i zeroMark))[j]? = some u := hu
    rw [hg i hi] at hu'
    exact ⟨b, off, hA, hc _ u (flat_get Mark.enc_len (List.getElem?_eq_getElem hi) hu')⟩
  · simp only [markC, List.mem_cons, List.not_mem_nil, or_false] at hv
    rcases hv with rfl | rfl | rfl | rfl | rfl | rfl <;> rfl
  · simp only [markC, List.mem_cons, List.not_mem_nil, or_false] at hv
    rcases hv with rfl | rfl | rfl | rfl | rfl | rfl
    · exact .int _ _
    · exact .int _ _
    · exact .int _ _
    · exact .int _ _
    · exact .bool _
    · exact .str _ (by rw [hg i hi]; exact hs _ (List.getElem_mem hi))
theorem marks_vals {m : Nat → Nat → Prop} {w : World} {A : Option Addr} {k : Nat} {l : List Mark} (h : Ok m w (marksAV A k l)) : ∀ x ∈ l, x.ans.val.size ≤ maxLen := by
  intro x hx
  obtain ⟨i, hi, rfl⟩ := List.mem_iff_getElem.1 hx
  cases h with
  | sl _ _ _ _ _ _ h1 h2 h3 h4 h5 h6 h7 =>
    have := h7 i hi (.str (l.getD i zeroMark).ans.val) (by simp [markC])
    cases this with
    | str _ h => simpa [List.getD, hi] using h
/-- a row that a call made -/
theorem own_marks {m : Nat → Nat → Prop} {w : World} {B : Nat} {e : TypeId} {A : Option Addr} {k : Nat} {l : List Mark} (h : OwnL Mark.enc 6 w B e (.slice A l.length k) l) (hm : ∀ b o, m b o → b < B) (hs : ∀ x ∈ l, x.ans.val.size ≤ maxLen) : Ok m w (marksAV A k l) := by
  obtain ⟨A', c', he, h1, h2⟩ := Own.isSlice h
  injection he with _ _ e3; subst e3
  refine reads_marks h1 h2 hs fun hp => ?_
  rw [flat_length Mark.enc_len] at hp
  obtain ⟨b, hA, hb⟩ := own_head h (by omega)
  refine ⟨b, 0, hA, fun j u hu => ⟨by rw [Nat.zero_add]; exact own_cells h hb j u hu, fun hmm => ?_⟩⟩
  have := (Own.lt h b hb).1
  have := hm _ _ hmm
  omega
theorem cel_r {m : Nat → Nat → Prop} {w : World} {A : Option Addr} {k : Nat} {c : Cel} (h : Ok m w (celAV A k c)) (hs : c.marks.length < 2147483000) : CelR w A k c := by
  have h1 := ok_agg h (marksAV A k c.marks) (by simp)
  have h2 := ok_agg h (.str c.val) (by simp)
  obtain ⟨h3, h4⟩ := ok_len h1
  exact ⟨marks_reads h1, h3, h4, hs, by cases h2 with | str _ h => exact h⟩
theorem putM_mem {l : List Mark} {m x : Mark} (h : x ∈ putM l m) : x ∈ l ∨ x = m := by
  induction l with
  | nil => simp [putM] at h; exact .inr h
  | cons y l ih =>
    simp only [putM] at h
    split at h
    · rcases List.mem_cons.1 h with rfl | h
      · exact .inl (by simp)
      · rcases ih h with h | h
        · exact .inl (by simp [h])
        · exact .inr h
    · split at h
      · rcases List.mem_cons.1 h with rfl | h
        · exact .inr rfl
        · exact .inl (by simp [h])
      · rcases List.mem_cons.1 h with rfl | h
        · exact .inr rfl
        · exact .inl h
/-! ### contracts, said anew -/
theorem risC_s (A : Option Addr) (k : Nat) (c : Cel) (hs : c.marks.length < 2147483000) : Spec Try.prog 27 [celAV A k c] (fun _ => .bool (.v (decide (IsC c)))) := by
  intro m w hm ha
  refine (risC_c w A k c (cel_r (ha _ (by simp)) hs)).mono ?_
  rintro e w' ⟨rfl, hb⟩
  exact ⟨noAtom, rfl, .bool _, hb⟩
theorem rmark_s (A : Option Addr) (k : Nat) (l : List Mark) (x : Mark) (hs : l.length < 2147483000) : Spec Try.prog 45 [marksAV A k l, .agg (markC x)] (fun y => marksAV (y.A 0) (y.c 0) (putM l x)) := by
  intro m w hm ha
  have h1 := ha (marksAV A k l) (by simp)
  have h2 := ha (.agg (markC x)) (by simp)
  obtain ⟨h3, h4⟩ := ok_len h1
  refine (rmark_c w A k l x (marks_reads h1) hs h3 h4).mono ?_
  rintro e w' ⟨v', rfl, ho, hb⟩
  obtain ⟨A', c', rfl, _, _⟩ := Own.isSlice ho
  refine ⟨⟨0, fun _ => A', fun _ => c'⟩, rfl, own_marks ho hm (fun y hy => ?_), hb⟩
  rcases putM_mem hy with hy | rfl
  · exact marks_vals h1 y hy
  · have := ok_agg h2 (.str y.ans.val) (by simp [markC])
    cases this with | str _ h => exact h
theorem rof_s (A : Option Addr) (k : Nat) (l : List Mark) (cl : Int) (hs : l.length < 2147483000) : Spec Try.prog 44 [marksAV A k l, .int .i64 cl] (fun _ => .tup [.agg (markC ((ofM l cl).getD zeroMark)), .bool (.v (ofM l cl).isSome)]) := by
  intro m w hm ha
  have h1 := ha (marksAV A k l) (by simp)
  refine (rof_c w A k l cl (marks_reads h1) hs).mono ?_
  rintro e w' ⟨rfl, hb⟩
  have hz : (zeroMark.ans.val).size ≤ maxLen := by simp [zeroMark, zeroAns]
  have hx : ((ofM l cl).getD zeroMark).ans.val.size ≤ maxLen := by
    cases ho : ofM l cl with
    | none => exact hz
    | some x => exact marks_vals h1 x (ofM_is ho).1
  refine ⟨noAtom, ?_, .tup _ (fun v hv => ?_), hb⟩
  · cases ho : ofM l cl <;> rfl
  · simp only [List.mem_cons, List.not_mem_nil, or_false] at hv
    rcases hv with rfl | rfl
    · refine .agg _ (fun v hv => ?_) (fun v hv => ?_)
      · simp only [markC, List.mem_cons, List.not_mem_nil, or_false] at hv
        rcases hv with rfl | rfl | rfl | rfl | rfl | rfl <;> rfl
      · simp only [markC, List.mem_cons, List.not_mem_nil, or_false] at hv
        rcases hv with rfl | rfl | rfl | rfl | rfl | rfl
        · exact .int _ _
        · exact .int _ _
        · exact .int _ _
        · exact .int _ _
        · exact .bool _
        · exact .str _ hx
    · exact .bool _
end Go.Proofs.Ytfddpcmlmcohjaa.Sym
