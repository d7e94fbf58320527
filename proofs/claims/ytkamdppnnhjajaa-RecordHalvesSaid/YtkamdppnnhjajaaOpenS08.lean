/-
  The arguments of chapter 8's statements in the executor's words. Conditions: none.
-/
import Derived.Test.YtkamdppnnhjajaaChecked
import Derived.Test.YtkamdppnnhjajaaOpenBase2
import Derived.Test.YtkamdppnnhjajaaSymTab
import Derived.Test.YtkamdppnnhjajaaSymRec1
namespace Go.Proofs.Ytkamdppnnhjajaa.Sym
open Go Go.ChangeShapes Go.WideShapes Go.ChangeAt Go.RowKit Go.Deep
set_option linter.unusedVariables false
set_option linter.unusedSimpArgs false
set_option maxRecDepth 100000

abbrev m0 : Nat → Nat → Prop := fun _ _ => False
def InRec (w : World) (v : Value) : Prop := ∃ (A : Option Addr) (n c : Nat) (f : Nat → Itm) (kd : Int) (nx : Lab) (mk : Int), v = (recI A n c f kd nx mk).den ∧ Ok m0 w (recI A n c f kd nx mk) ∧ n ≤ maxLen ∧ U64 nx.bits ∧ U64 mk ∧ ∀ i, i < n → U64 (f i).key
def InU (w : World) (v : Value) : Prop := ∃ n : Int, v = .int .u64 n ∧ U64 n
def InS (w : World) (v : Value) : Prop := ∃ s : ByteArray, v = .string s ∧ s.size ≤ maxLen
def InLab (w : World) (v : Value) : Prop := ∃ l : Lab, v = (labAV l).den ∧ Ok m0 w (labAV l) ∧ U64 l.bits
theorem u64_wf {n : Int} (h : (Lit.int .u64 n).wf = true) : U64 n := by
  simp [Lit.wf, IntKind.min, IntKind.max, IntKind.signed, IntKind.bits] at h
  exact ⟨by omega, by omega⟩
def itmE (x : Itm) : List Value := [.int .u64 x.key, .string x.val]
theorem itmE_len (x : Itm) : (itmE x).length = 2 := rfl
theorem rows_ok {m : Nat → Nat → Prop} {w : World} {A : Option Addr} {k : Nat} {l : List Itm} (hl : l.length ≤ k) (hk : k ≤ maxLen) (hs : ∀ x ∈ l, x.val.size ≤ maxLen)
    (h : 0 < (l.flatMap itmE).length → ∃ b off, A = some ⟨b, off, none⟩ ∧ ∀ j u, (l.flatMap itmE)[j]? = some u → w.cell? ⟨b, off + j, none⟩ = some u ∧ ¬ m b (off + j)) : Ok m w (rowI A l.length k (itF l)) := by
  have hg : ∀ i (hi : i < l.length), itF l i = l[i] := fun i hi => by simp [itF, List.getD, hi]
  have hpos : ∀ i, i < l.length → 0 < (l.flatMap itmE).length := fun i hi => by rw [flat_length itmE_len]; omega
  refine .sl _ _ _ _ _ _ hl hk (fun i _ => rfl) (fun i hi => ?_) (fun i hi j u hu => ?_) (fun i hi v hv => ?_) (fun i hi v hv => ?_)
  · obtain ⟨b, off, hA, _⟩ := h (hpos i hi); exact ⟨b, off, hA⟩
  · obtain ⟨b, off, hA, hc⟩ := h (hpos i hi)
    have hu' : (itmE (itF l i))[j]? = some u := hu
    rw [hg i hi] at hu'
    exact ⟨b, off, hA, hc _ u (flat_get itmE_len (List.getElem?_eq_getElem hi) hu')⟩
  · simp only [itC, List.mem_cons, List.not_mem_nil, or_false] at hv
    rcases hv with rfl | rfl <;> rfl
  · simp only [itC, List.mem_cons, List.not_mem_nil, or_false] at hv
    rcases hv with rfl | rfl
    · exact .int _ _
    · exact .str _ (by rw [hg i hi]; exact hs _ (List.getElem_mem hi))
section
variable {H : Type} {enc : TypeId × Value → H} {w : World} {base : Nat} {spare : Nat → Bool} {held : Bool}
theorem dec_itm (n : Nat) (cs : List Value) (y : DataW H × List MemPlace) (h : DataW.trod enc Try.prog w base spare held n 53 cs = some y) : ∃ x : Itm, cs = itmE x ∧ (x.val.size ≤ maxLen ∧ U64 x.key) := by
  obtain ⟨xs, m, rfl, rfl, hlen, hxl, hf⟩ := DataW.trod_struct Try.underlying53 h
  have hC : Try.prog.cellsOf 53 = 2 := by kernel_rfl
  have h0 : DataW.trod enc Try.prog w base spare held m 23 ((cs.drop 0).take (Try.prog.cellsOf 23)) = xs[0]? := hf 0 _ rfl
  have h1 : DataW.trod enc Try.prog w base spare held m 9 ((cs.drop 1).take (Try.prog.cellsOf 9)) = xs[1]? := hf 1 _ rfl
  rw [hC] at hlen
  rw [show Try.prog.cellsOf 23 = 1 by kernel_rfl] at h0
  rw [show Try.prog.cellsOf 9 = 1 by kernel_rfl] at h1
  match cs, hlen with
  | [c0, c1], _ =>
    match xs, hxl with
    | [y0, y1], _ =>
      obtain ⟨a, e0, _, wa⟩ := DataW.trod_int Try.underlying23 h0
      obtain ⟨s, e1, _, ws⟩ := DataW.trod_string Try.underlying9 h1
      simp at e0 e1
      subst e0; subst e1
      exact ⟨⟨a, s⟩, rfl, ws, u64_wf wa⟩
theorem dec_lab (n : Nat) (cs : List Value) (y : DataW H × List MemPlace) (h : DataW.trod enc Try.prog w base spare held n 25 cs = some y) : ∃ x : Lab, cs = [.int .i64 x.len, .int .u64 x.bits] ∧ U64 x.bits := by
  obtain ⟨xs, m, rfl, rfl, hlen, hxl, hf⟩ := DataW.trod_struct Try.underlying25 h
  have hC : Try.prog.cellsOf 25 = 2 := by kernel_rfl
  have h0 : DataW.trod enc Try.prog w base spare held m 3 ((cs.drop 0).take (Try.prog.cellsOf 3)) = xs[0]? := hf 0 _ rfl
  have h1 : DataW.trod enc Try.prog w base spare held m 23 ((cs.drop 1).take (Try.prog.cellsOf 23)) = xs[1]? := hf 1 _ rfl
  rw [hC] at hlen
  rw [show Try.prog.cellsOf 3 = 1 by kernel_rfl] at h0
  rw [show Try.prog.cellsOf 23 = 1 by kernel_rfl] at h1
  match cs, hlen with
  | [c0, c1], _ =>
    match xs, hxl with
    | [y0, y1], _ =>
      obtain ⟨a, e0, _, _⟩ := DataW.trod_int Try.underlying3 h0
      obtain ⟨b, e1, _, wb⟩ := DataW.trod_int Try.underlying23 h1
      simp at e0 e1
      subst e0; subst e1
      exact ⟨⟨a, b⟩, rfl, u64_wf wb⟩
variable {r : Reach} {b0 : Nat} {v : Value} {d : DataW H} {p : List MemPlace}
theorem in_u (hv : Value.okWide Try.prog w r b0 23 v) (h : DataW.Trod enc Try.prog w base spare held 23 v d p) : InU w v := by
  obtain ⟨n, rfl, hw⟩ := in_int Try.underlying23 hv h
  exact ⟨n, rfl, u64_wf hw⟩
theorem in_s (hv : Value.okWide Try.prog w r b0 9 v) (h : DataW.Trod enc Try.prog w base spare held 9 v d p) : InS w v := in_string Try.underlying9 hv h
theorem in_lab (hv : Value.okWide Try.prog w r b0 25 v) (h : DataW.Trod enc Try.prog w base spare held 25 v d p) : InLab w v := by
  obtain ⟨cs, rfl, _⟩ := okWide_struct Try.underlying25 hv
  obtain ⟨fuel, hf⟩ := h
  obtain ⟨x, hx, hb⟩ := dec_lab _ _ _ hf
  obtain ⟨l, rfl⟩ : ∃ l : List Value, cs = l.toArray := ⟨cs.toList, by simp⟩
  simp only [Value.cells, List.toList_toArray] at hx
  subst hx
  refine ⟨x, rfl, ?_, hb⟩
  refine .agg _ (fun v hv => ?_) (fun v hv => ?_)
  · simp only [List.mem_cons, List.not_mem_nil, or_false] at hv
    rcases hv with rfl | rfl <;> rfl
  · simp only [List.mem_cons, List.not_mem_nil, or_false] at hv
    rcases hv with rfl | rfl
    · exact .int _ _
    · exact .int _ _
theorem in_rec (hv : Value.okWide Try.prog w r b0 27 v) (h : DataW.Trod enc Try.prog w base spare held 27 v d p) : InRec w v := by
  obtain ⟨cs, rfl, _⟩ := okWide_struct Try.underlying27 hv
  obtain ⟨fuel, hf⟩ := h
  obtain ⟨xs, m, rfl, _, hlen, hxl, hf⟩ := DataW.trod_struct Try.underlying27 hf
  have hC : Try.prog.cellsOf 27 = 5 := by kernel_rfl
  simp only [Value.cells] at hlen hf
  have h0 : DataW.trod enc Try.prog w base spare held m 3 ((cs.toList.drop 0).take (Try.prog.cellsOf 3)) = xs[0]? := hf 0 _ rfl
  have h1 : DataW.trod enc Try.prog w base spare held m 22 ((cs.toList.drop 1).take (Try.prog.cellsOf 22)) = xs[1]? := hf 1 _ rfl
  have h2 : DataW.trod enc Try.prog w base spare held m 25 ((cs.toList.drop 2).take (Try.prog.cellsOf 25)) = xs[2]? := hf 2 _ rfl
  have h3 : DataW.trod enc Try.prog w base spare held m 23 ((cs.toList.drop 4).take (Try.prog.cellsOf 23)) = xs[3]? := hf 3 _ rfl
  rw [hC] at hlen
  rw [show Try.prog.cellsOf 3 = 1 by kernel_rfl] at h0
  rw [show Try.prog.cellsOf 22 = 1 by kernel_rfl] at h1
  rw [show Try.prog.cellsOf 25 = 2 by kernel_rfl] at h2
  rw [show Try.prog.cellsOf 23 = 1 by kernel_rfl] at h3
  obtain ⟨l, rfl⟩ : ∃ l : List Value, cs = l.toArray := ⟨cs.toList, by simp⟩
  simp only [List.toList_toArray] at *
  match l, hlen with
  | [c0, c1, c2, c3, c4], _ =>
    match xs, hxl with
    | [y0, y1, y2, y3], _ =>
      obtain ⟨kd, e0, _, _⟩ := DataW.trod_int Try.underlying3 h0
      obtain ⟨A, c, l, e1, hr, hl, hm, hwf⟩ := trod_list (en := itmE) Try.underlying22 (k := 2) (by kernel_rfl) itmE_len (by decide) dec_itm h1
      obtain ⟨nx, e2, hb⟩ := dec_lab _ _ _ h2
      obtain ⟨mk, e3, _, wm⟩ := DataW.trod_int Try.underlying23 h3
      simp at e0 e1 e2 e3
      obtain ⟨e2, e4⟩ := e2
      subst e0; subst e1; subst e2; subst e3; subst e4
      have hrow : Ok m0 w (rowI A l.length c (itF l)) := rows_ok hl hm (fun x hx => (hwf x hx).1) fun hp => by
        obtain ⟨b, off, hA, _, hc⟩ := hr hp
        exact ⟨b, off, hA, fun j u hu => ⟨hc j u hu, id⟩⟩
      refine ⟨A, l.length, c, itF l, kd, nx, mk, rfl, ?_, by omega, hb, u64_wf wm, fun i hi => ?_⟩
      · refine .agg _ (fun v hv => ?_) (fun v hv => ?_)
        · simp only [List.mem_cons, List.not_mem_nil, or_false] at hv
          rcases hv with rfl | rfl | rfl | rfl | rfl <;> rfl
        · simp only [List.mem_cons, List.not_mem_nil, or_false] at hv
          rcases hv with rfl | rfl | rfl | rfl | rfl
          · exact .int _ _
          · exact hrow
          · exact .int _ _
          · exact .int _ _
          · exact .int _ _
      · have : itF l i = l[i] := by simp [itF, List.getD, hi]
        rw [this]
        exact (hwf _ (List.getElem_mem hi)).2
end
end Go.Proofs.Ytkamdppnnhjajaa.Sym
