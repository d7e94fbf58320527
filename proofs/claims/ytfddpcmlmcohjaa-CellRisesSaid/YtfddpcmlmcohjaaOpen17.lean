/-
  The arguments of chapter 17's statements, read as cells and operations. Conditions: none.
-/
import Derived.Test.YtfddpcmlmcohjaaOpenBase2
import Derived.Test.YtfddpcmlmcohjaaCell3
namespace Go.Proofs.Ytfddpcmlmcohjaa
open Go.ChangeShapes Go.WideShapes Go.ChangeAt Go.RowKit Go.Deep
set_option linter.unusedVariables false
set_option linter.unusedSimpArgs false
set_option maxRecDepth 100000

def InCel (w : World) (v : Value) : Prop := ∃ (A : Option Addr) (k : Nat) (c : Cel), v = CelV c A k ∧ ReadsL Mark.enc w w.heap.size A c.marks ∧ c.marks.length ≤ k ∧ k ≤ maxLen ∧ c.val.size ≤ maxLen
def InOpr (v : Value) : Prop := ∃ o : Opr, v = OprV o ∧ o.val.size ≤ maxLen
def InU (v : Value) : Prop := ∃ n, v = .int .u64 n

section
variable {H : Type} {enc : TypeId × Value → H} {w : World} {base : Nat} {spare : Nat → Bool} {held : Bool}
theorem dec_ans (n : Nat) (cs : List Value) (y : DataW H × List MemPlace) (h : DataW.trod enc Try.prog w base spare held n 47 cs = some y) : ∃ x : Ans, cs = [.int .i64 x.code, .int .u64 x.version, .bool x.has, .string x.val] := by
  obtain ⟨xs, m, rfl, rfl, hlen, hxl, hf⟩ := DataW.trod_struct Try.underlying47 h
  have hC : Try.prog.cellsOf 47 = 4 := by kernel_rfl
  have h0 : DataW.trod enc Try.prog w base spare held m 26 ((cs.drop 0).take (Try.prog.cellsOf 26)) = xs[0]? := hf 0 _ rfl
  have h1 : DataW.trod enc Try.prog w base spare held m 23 ((cs.drop 1).take (Try.prog.cellsOf 23)) = xs[1]? := hf 1 _ rfl
  have h2 : DataW.trod enc Try.prog w base spare held m 4 ((cs.drop 2).take (Try.prog.cellsOf 4)) = xs[2]? := hf 2 _ rfl
  have h3 : DataW.trod enc Try.prog w base spare held m 9 ((cs.drop 3).take (Try.prog.cellsOf 9)) = xs[3]? := hf 3 _ rfl
  rw [hC] at hlen
  rw [show Try.prog.cellsOf 26 = 1 by kernel_rfl] at h0
  rw [show Try.prog.cellsOf 23 = 1 by kernel_rfl] at h1
  rw [show Try.prog.cellsOf 4 = 1 by kernel_rfl] at h2
  rw [show Try.prog.cellsOf 9 = 1 by kernel_rfl] at h3
  match cs, hlen with
  | [c0, c1, c2, c3], _ =>
    match xs, hxl with
    | [y0, y1, y2, y3], _ =>
      obtain ⟨a, e0, _, _⟩ := DataW.trod_int Try.underlying26 h0
      obtain ⟨b, e1, _, _⟩ := DataW.trod_int Try.underlying23 h1
      obtain ⟨c, e2, _⟩ := DataW.trod_bool Try.underlying4 h2
      obtain ⟨s, e3, _, _⟩ := DataW.trod_string Try.underlying9 h3
      simp at e0 e1 e2 e3
      subst e0; subst e1; subst e2; subst e3
      exact ⟨⟨a, b, c, s⟩, rfl⟩
theorem dec_mark (n : Nat) (cs : List Value) (y : DataW H × List MemPlace) (h : DataW.trod enc Try.prog w base spare held n 55 cs = some y) : ∃ x : Mark, cs = x.enc ∧ True := by
  obtain ⟨xs, m, rfl, rfl, hlen, hxl, hf⟩ := DataW.trod_struct Try.underlying55 h
  have hC : Try.prog.cellsOf 55 = 6 := by kernel_rfl
  have h0 : DataW.trod enc Try.prog w base spare held m 3 ((cs.drop 0).take (Try.prog.cellsOf 3)) = xs[0]? := hf 0 _ rfl
  have h1 : DataW.trod enc Try.prog w base spare held m 23 ((cs.drop 1).take (Try.prog.cellsOf 23)) = xs[1]? := hf 1 _ rfl
  have h2 : DataW.trod enc Try.prog w base spare held m 47 ((cs.drop 2).take (Try.prog.cellsOf 47)) = xs[2]? := hf 2 _ rfl
  rw [hC] at hlen
  rw [show Try.prog.cellsOf 3 = 1 by kernel_rfl] at h0
  rw [show Try.prog.cellsOf 23 = 1 by kernel_rfl] at h1
  rw [show Try.prog.cellsOf 47 = 4 by kernel_rfl] at h2
  match cs, hlen with
  | [c0, c1, c2, c3, c4, c5], _ =>
    match xs, hxl with
    | [y0, y1, y2], _ =>
      obtain ⟨a, e0, _, _⟩ := DataW.trod_int Try.underlying3 h0
      obtain ⟨b, e1, _, _⟩ := DataW.trod_int Try.underlying23 h1
      obtain ⟨x, e2⟩ := dec_ans _ _ _ h2
      simp at e0 e1 e2
      obtain ⟨rfl, rfl, rfl, rfl⟩ := e2
      subst e0; subst e1
      exact ⟨⟨a, b, x⟩, rfl, trivial⟩
variable {r : Reach} {b0 : Nat} {v : Value} {d : DataW H} {p : List MemPlace}
theorem in_cel (hv : Value.okWide Try.prog w r b0 41 v) (h : DataW.Trod enc Try.prog w base spare held 41 v d p) : InCel w v := by
  obtain ⟨cs, rfl, _⟩ := okWide_struct Try.underlying41 hv
  obtain ⟨fuel, hf⟩ := h
  obtain ⟨xs, m, rfl, _, hlen, hxl, hf⟩ := DataW.trod_struct Try.underlying41 hf
  have hC : Try.prog.cellsOf 41 = 4 := by kernel_rfl
  simp only [Value.cells] at hlen hf
  have h0 : DataW.trod enc Try.prog w base spare held m 23 ((cs.toList.drop 0).take (Try.prog.cellsOf 23)) = xs[0]? := hf 0 _ rfl
  have h1 : DataW.trod enc Try.prog w base spare held m 4 ((cs.toList.drop 1).take (Try.prog.cellsOf 4)) = xs[1]? := hf 1 _ rfl
  have h2 : DataW.trod enc Try.prog w base spare held m 9 ((cs.toList.drop 2).take (Try.prog.cellsOf 9)) = xs[2]? := hf 2 _ rfl
  have h3 : DataW.trod enc Try.prog w base spare held m 39 ((cs.toList.drop 3).take (Try.prog.cellsOf 39)) = xs[3]? := hf 3 _ rfl
  rw [hC] at hlen
  rw [show Try.prog.cellsOf 23 = 1 by kernel_rfl] at h0
  rw [show Try.prog.cellsOf 4 = 1 by kernel_rfl] at h1
  rw [show Try.prog.cellsOf 9 = 1 by kernel_rfl] at h2
  rw [show Try.prog.cellsOf 39 = 1 by kernel_rfl] at h3
  obtain ⟨l, rfl⟩ : ∃ l : List Value, cs = l.toArray := ⟨cs.toList, by simp⟩
  simp only [List.toList_toArray] at *
  match l, hlen with
  | [c0, c1, c2, c3], _ =>
    match xs, hxl with
    | [y0, y1, y2, y3], _ =>
      obtain ⟨a, e0, _, _⟩ := DataW.trod_int Try.underlying23 h0
      obtain ⟨b, e1, _⟩ := DataW.trod_bool Try.underlying4 h1
      obtain ⟨s, e2, _, ws⟩ := DataW.trod_string Try.underlying9 h2
      obtain ⟨A, c, l, e3, hr, hl, hm, _⟩ := trod_list (en := Mark.enc) Try.underlying39 (k := 6) (by kernel_rfl) Mark.enc_len (by decide) dec_mark h3
      simp at e0 e1 e2 e3
      subst e0; subst e1; subst e2; subst e3
      exact ⟨A, c, ⟨a, b, s, l⟩, rfl, hr, hl, hm, ws⟩
theorem in_opr (hv : Value.okWide Try.prog w r b0 43 v) (h : DataW.Trod enc Try.prog w base spare held 43 v d p) : InOpr v := by
  obtain ⟨cs, rfl, _⟩ := okWide_struct Try.underlying43 hv
  obtain ⟨fuel, hf⟩ := h
  obtain ⟨xs, m, rfl, _, hlen, hxl, hf⟩ := DataW.trod_struct Try.underlying43 hf
  have hC : Try.prog.cellsOf 43 = 5 := by kernel_rfl
  simp only [Value.cells] at hlen hf
  have h0 : DataW.trod enc Try.prog w base spare held m 3 ((cs.toList.drop 0).take (Try.prog.cellsOf 3)) = xs[0]? := hf 0 _ rfl
  have h1 : DataW.trod enc Try.prog w base spare held m 23 ((cs.toList.drop 1).take (Try.prog.cellsOf 23)) = xs[1]? := hf 1 _ rfl
  have h2 : DataW.trod enc Try.prog w base spare held m 3 ((cs.toList.drop 2).take (Try.prog.cellsOf 3)) = xs[2]? := hf 2 _ rfl
  have h3 : DataW.trod enc Try.prog w base spare held m 23 ((cs.toList.drop 3).take (Try.prog.cellsOf 23)) = xs[3]? := hf 3 _ rfl
  have h4 : DataW.trod enc Try.prog w base spare held m 9 ((cs.toList.drop 4).take (Try.prog.cellsOf 9)) = xs[4]? := hf 4 _ rfl
  rw [hC] at hlen
  rw [show Try.prog.cellsOf 3 = 1 by kernel_rfl] at h0 h2
  rw [show Try.prog.cellsOf 23 = 1 by kernel_rfl] at h1 h3
  rw [show Try.prog.cellsOf 9 = 1 by kernel_rfl] at h4
  obtain ⟨l, rfl⟩ : ∃ l : List Value, cs = l.toArray := ⟨cs.toList, by simp⟩
  simp only [List.toList_toArray] at *
  match l, hlen with
  | [c0, c1, c2, c3, c4], _ =>
    match xs, hxl with
    | [y0, y1, y2, y3, y4], _ =>
      obtain ⟨a, e0, _, _⟩ := DataW.trod_int Try.underlying3 h0
      obtain ⟨b, e1, _, _⟩ := DataW.trod_int Try.underlying23 h1
      obtain ⟨c, e2, _, _⟩ := DataW.trod_int Try.underlying3 h2
      obtain ⟨d', e3, _, _⟩ := DataW.trod_int Try.underlying23 h3
      obtain ⟨s, e4, _, ws⟩ := DataW.trod_string Try.underlying9 h4
      simp at e0 e1 e2 e3 e4
      subst e0; subst e1; subst e2; subst e3; subst e4
      exact ⟨⟨a, b, c, d', s⟩, rfl, ws⟩
theorem in_u (hv : Value.okWide Try.prog w r b0 23 v) (h : DataW.Trod enc Try.prog w base spare held 23 v d p) : InU v := by
  obtain ⟨n, rfl, hw⟩ := in_int Try.underlying23 hv h
  exact ⟨n, rfl⟩
end
end Go.Proofs.Ytfddpcmlmcohjaa
