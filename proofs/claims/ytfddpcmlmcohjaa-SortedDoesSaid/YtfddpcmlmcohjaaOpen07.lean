/-
  The arguments of chapter 7's statements, read as lists of items. Conditions: none.
-/
import Derived.Test.YtfddpcmlmcohjaaChecked
import Derived.Test.YtfddpcmlmcohjaaOpenBase
import Derived.Test.YtfddpcmlmcohjaaM07
namespace Go.Proofs.Ytfddpcmlmcohjaa
open Go.ChangeShapes Go.WideShapes Go.ChangeAt Go.RowKit Go.Deep
set_option linter.unusedVariables false
set_option linter.unusedSimpArgs false
set_option maxRecDepth 100000

def Item.wf (x : Item) : Prop := 0 ≤ x.key ∧ x.key < 18446744073709551616 ∧ x.val.size ≤ maxLen
def InItems (w : World) (v : Value) : Prop := ∃ (A : Option Addr) (c : Nat) (l : List Item), v = .slice A l.length c ∧ ReadsL Item.enc w w.heap.size A l ∧ l.length ≤ c ∧ c ≤ maxLen ∧ ∀ x ∈ l, x.wf
def InU64 (v : Value) : Prop := ∃ n, v = .int .u64 n ∧ 0 ≤ n ∧ n < 18446744073709551616
def InI64 (v : Value) : Prop := ∃ n, v = .int .i64 n ∧ -9223372036854775808 ≤ n ∧ n ≤ 9223372036854775807
def InStr (v : Value) : Prop := ∃ s, v = .string s ∧ s.size ≤ maxLen

section
variable {H : Type} {enc : TypeId × Value → H} {w : World} {base : Nat} {spare : Nat → Bool} {held : Bool}
theorem dec_item (n : Nat) (cs : List Value) (y : DataW H × List MemPlace) (h : DataW.trod enc Try.prog w base spare held n 31 cs = some y) : ∃ x : Item, cs = x.enc ∧ x.wf := by
  obtain ⟨xs, m, rfl, rfl, hlen, hxl, hf⟩ := DataW.trod_struct Try.underlying31 h
  have hC : Try.prog.cellsOf 31 = 2 := by kernel_rfl
  have h0 : DataW.trod enc Try.prog w base spare held m 23 ((cs.drop 0).take (Try.prog.cellsOf 23)) = xs[0]? := hf 0 _ rfl
  have h1 : DataW.trod enc Try.prog w base spare held m 9 ((cs.drop 1).take (Try.prog.cellsOf 9)) = xs[1]? := hf 1 _ rfl
  have k0 : Try.prog.cellsOf 23 = 1 := by kernel_rfl
  have k1 : Try.prog.cellsOf 9 = 1 := by kernel_rfl
  rw [hC] at hlen
  rw [k0] at h0
  rw [k1] at h1
  match cs, hlen with
  | [c0, c1], _ =>
    match xs, hxl with
    | [y0, y1], _ =>
      obtain ⟨a, e0, _, wa⟩ := DataW.trod_int Try.underlying23 h0
      obtain ⟨s, e1, _, ws⟩ := DataW.trod_string Try.underlying9 h1
      simp at e0 e1
      subst e0; subst e1
      exact ⟨⟨a, s⟩, rfl, (u64_range wa).1, (u64_range wa).2, ws⟩
variable {r : Reach} {b0 : Nat} {v : Value} {d : DataW H} {p : List MemPlace}
theorem in_items (hv : Value.okWide Try.prog w r b0 22 v) (h : DataW.Trod enc Try.prog w base spare held 22 v d p) : InItems w v :=
  open_list (en := Item.enc) Try.underlying22 (k := 2) (by kernel_rfl) Item.enc_len (by decide) dec_item hv h
theorem in_u64 (hv : Value.okWide Try.prog w r b0 23 v) (h : DataW.Trod enc Try.prog w base spare held 23 v d p) : InU64 v := by
  obtain ⟨n, rfl, hw⟩ := in_int Try.underlying23 hv h
  exact ⟨n, rfl, u64_range hw⟩
theorem in_i64 (hv : Value.okWide Try.prog w r b0 3 v) (h : DataW.Trod enc Try.prog w base spare held 3 v d p) : InI64 v := by
  obtain ⟨n, rfl, hw⟩ := in_int Try.underlying3 hv h
  exact ⟨n, rfl, i64_range hw⟩
theorem in_str (hv : Value.okWide Try.prog w r b0 9 v) (h : DataW.Trod enc Try.prog w base spare held 9 v d p) : InStr v := in_string Try.underlying9 hv h
end
end Go.Proofs.Ytfddpcmlmcohjaa
