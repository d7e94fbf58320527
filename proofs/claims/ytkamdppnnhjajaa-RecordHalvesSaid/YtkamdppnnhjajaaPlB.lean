/-
  Bytes as lists; numbers as bytes, labels as bits: plain Lean. No program in sight. Conditions: none.
-/
import Derived.Test.YtkamdppnnhjajaaSymMan
namespace Go.Proofs.Ytkamdppnnhjajaa
open Go.RowKit
set_option linter.unusedVariables false
set_option linter.unusedSimpArgs false

def mkB (l : List UInt8) : ByteArray := ⟨l.toArray⟩
def unB (s : ByteArray) : List UInt8 := s.data.toList
theorem mk_un (s : ByteArray) : mkB (unB s) = s := by simp [mkB, unB]
theorem un_mk (l : List UInt8) : unB (mkB l) = l := by simp [mkB, unB]
theorem un_inj {s t : ByteArray} (h : unB s = unB t) : s = t := by rw [← mk_un s, ← mk_un t, h]
theorem un_append (s t : ByteArray) : unB (s ++ t) = unB s ++ unB t := by
  show (s ++ t).data.toList = _
  rw [ByteArray.data_append, Array.toList_append]
  rfl
theorem mk_append (a b : List UInt8) : mkB a ++ mkB b = mkB (a ++ b) := by apply un_inj; rw [un_append, un_mk, un_mk, un_mk]
theorem un_size (s : ByteArray) : (unB s).length = s.size := Array.length_toList
theorem mk_size (l : List UInt8) : (mkB l).size = l.length := by rw [← un_size, un_mk]
theorem un_extract (s : ByteArray) (i j : Nat) : unB (s.extract i j) = ((unB s).take j).drop i := by
  unfold unB
  rw [ByteArray.data_extract, Array.toList_extract]
  simp [List.extract, List.drop_take]
theorem mk_extract (l : List UInt8) (i j : Nat) : (mkB l).extract i j = mkB ((l.take j).drop i) := by apply un_inj; rw [un_extract, un_mk, un_mk]
theorem un_get (s : ByteArray) (i : Nat) : s[i]? = (unB s)[i]? := by
  unfold unB
  rw [Array.getElem?_toList]
  by_cases h : i < s.size
  · rw [getElem?_pos s i h, getElem?_pos s.data i h]; rfl
  · rw [getElem?_neg s i h, getElem?_neg s.data i h]
theorem mk_get (l : List UInt8) (i : Nat) : (mkB l)[i]? = l[i]? := by rw [un_get, un_mk]
theorem un_push (s : ByteArray) (c : UInt8) : unB (s.push c) = unB s ++ [c] := by simp [unB, ByteArray.data_push]
theorem mk_push (l : List UInt8) (c : UInt8) : (mkB l).push c = mkB (l ++ [c]) := by apply un_inj; rw [un_push, un_mk, un_mk]
theorem un_empty : unB ByteArray.empty = [] := rfl
theorem toList_un (s : ByteArray) : s.toList = unB s := by simp [unB, ByteArray.toList_eq]
theorem eqB (s t : ByteArray) : (s.toList == t.toList) = decide (unB s = unB t) := by
  rw [toList_un, toList_un]
  by_cases h : unB s = unB t
  · simp [h]
  · simp [h]
theorem beqB (s t : ByteArray) : (s == t) = true ↔ s = t := by
  cases s with | mk a => cases t with | mk b =>
  have : (ByteArray.mk a == ByteArray.mk b) = (a == b) := rfl
  rw [this]
  simp
theorem mk_inj {a b : List UInt8} : mkB a = mkB b ↔ a = b := ⟨fun h => by rw [← un_mk a, ← un_mk b, h], fun h => by rw [h]⟩
theorem mk_nil : mkB [] = ByteArray.empty := rfl
end Go.Proofs.Ytkamdppnnhjajaa
