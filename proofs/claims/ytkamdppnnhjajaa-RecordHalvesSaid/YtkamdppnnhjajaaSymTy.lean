/-
  What the executor asks of a type, held against the program's tables by computing. Over any program. Conditions: none.
-/
import Derived.Test.YtkamdppnnhjajaaSym6
namespace Go.Proofs.Ytkamdppnnhjajaa.Sym
open Go.RowKit
set_option linter.unusedVariables false
set_option linter.unusedSimpArgs false

def zok : AV → Bool
  | .int .. | .bool _ | .nilp | .nili => true
  | .str s => Nat.ble s.size 65536
  | .sl none none 0 0 _ _ => true
  | .raw v => v.oneCell'
  | _ => false
theorem zok_ok {v : AV} (h : zok v = true) : v.one = true ∧ ∀ m w, Ok m w v := by
  unfold zok at h
  split at h
  · exact ⟨rfl, fun m w => .int _ _⟩
  · exact ⟨rfl, fun m w => .bool _⟩
  · exact ⟨rfl, fun m w => .nilp⟩
  · exact ⟨rfl, fun m w => .nili⟩
  · exact ⟨rfl, fun m w => .str _ (by have := Nat.le_of_ble_eq_true h; simp only [maxLen]; omega)⟩
  · exact ⟨rfl, fun m w => .sl _ _ _ _ _ _ (Nat.le_refl _) (by simp) (fun i hi => by omega) (fun i hi => by omega) (fun i hi => by omega) (fun i hi => by omega) (fun i hi => by omega)⟩
  · exact ⟨h, fun m w => .raw _⟩
  · cases h
section
variable {P : Program}
def aggB (P : Program) (t : Nat) : Option Bool := (P.underlying t).map fun d => match d with
  | .struct _ | .array _ _ => true
  | _ => false
theorem aggB_ok {t : Nat} {b : Bool} (h : aggB P t = some b) (w : World) : (isAgg t).run P w = .ok b w := by
  unfold aggB at h
  obtain ⟨d, hd, rfl⟩ := Option.map_eq_some_iff.1 h
  simp only [isAgg, Sem.run_bind, run_underlying hd, Result.andThen_ok]
  cases d <;> rfl
def sizeB (P : Program) (t : Nat) : Option Nat := (P.info? t).map (·.size)
theorem sizeB_ok {t n : Nat} (h : sizeB P t = some n) (w : World) : (sizeOf t).run P w = .ok n w := by
  unfold sizeB at h
  obtain ⟨d, hd, rfl⟩ := Option.map_eq_some_iff.1 h
  simp [sizeOf, typeInfo, hd]
def fieldsB (P : Program) : List Field → List (Nat × Nat × Bool) → Bool
  | [], [] => true
  | f :: fs, (off, n, g) :: l => f.offset == off && sizeB P f.type == some n && n != 0 && aggB P f.type == some g && fieldsB P fs l
  | _, _ => false
theorem fieldsB_ok : ∀ {fs : List Field} {l : List (Nat × Nat × Bool)}, fieldsB P fs l = true →
    (∀ (f : Nat) x, l[f]? = some x → ∃ fd : Field, fs[f]? = some fd ∧ fd.offset = x.1 ∧ sizeB P fd.type = some x.2.1 ∧ x.2.1 ≠ 0 ∧ aggB P fd.type = some x.2.2) ∧ fs.mapM (fun f => (P.info? f.type).map fun i => (f.offset, i.size)) = some (l.map fun x => (x.1, x.2.1))
  | [], [], _ => ⟨fun f x h => by simp at h, rfl⟩
  | [], _ :: _, h => by simp [fieldsB] at h
  | _ :: _, [], h => by simp [fieldsB] at h
  | f :: fs, (off, n, g) :: l, h => by
    simp only [fieldsB, Bool.and_eq_true, beq_iff_eq, bne_iff_ne] at h
    obtain ⟨⟨⟨⟨h1, h2⟩, h3⟩, h4⟩, h5⟩ := h
    obtain ⟨i1, i2⟩ := fieldsB_ok h5
    refine ⟨fun k x hx => ?_, ?_⟩
    · cases k with
      | zero => simp at hx; subst hx; exact ⟨f, rfl, h1, h2, h3, h4⟩
      | succ k => exact i1 k x (by simpa using hx)
    · unfold sizeB at h2
      obtain ⟨d, hd, hn⟩ := Option.map_eq_some_iff.1 h2
      simp [List.mapM_cons, hd, i2, h1, hn]
def tyB (P : Program) (t : Nat) (i : TI) : Bool :=
  sizeB P t == some i.size && aggB P t == some i.agg && i.zero.all zok &&
  (i.fields.isEmpty || match P.underlying t with | some (.struct fs) => fieldsB P fs.toList i.fields | _ => false) &&
  (match i.elem with | none => true | some (e, k) => (match P.underlying t with | some (.slice e') => e' == e | _ => false) && sizeB P e == some k) &&
  (!i.str || match P.underlying t with | some .string => true | _ => false) &&
  (!i.bool || match P.underlying t with | some .bool => true | _ => false) &&
  (match i.elem with | some (e, k) => (i.ebytes == 0 || (match P.info? e with | some inf => inf.bytes == i.ebytes && inf.size == k && k != 0 && (match inf.zero with | some z => z.cells.size == k | none => false) | none => false)) | none => true) &&
  (match i.int with | none => true | some k => match P.underlying t with | some (.int k') => k' == k | _ => false) &&
  (match P.underlying t with | some (.pointer _) => true | some _ => !i.ptr | none => false) &&
  (match P.underlying t with | some (.interface _) => i.itf | some _ => !i.itf | none => false) &&
  (!i.bytes || match P.underlying t with | some (.slice e) => (match P.underlying e with | some (.int .u8) => true | _ => false) | _ => false)
theorem tyB_ok {t : Nat} {i : TI} (h : tyB P t i = true) (hz : ((P.info? t).bind (·.zero)).map Value.cells = some (i.zero.map AV.den).toArray) : TyOK P t i := by
  simp only [tyB, Bool.and_eq_true, beq_iff_eq] at h
  obtain ⟨⟨⟨⟨⟨⟨⟨⟨⟨⟨⟨h1, h2⟩, h3⟩, h4⟩, h5⟩, h6⟩, h7⟩, h8⟩, h9⟩, h10⟩, h11⟩, h12⟩ := h
  have hf : i.fields.isEmpty = false → ∃ fs, P.underlying t = some (.struct fs) ∧ fieldsB P fs.toList i.fields = true := by
    intro hne
    simp only [hne, Bool.false_or] at h4
    split at h4
    · rename_i fs hu; exact ⟨fs, hu, h4⟩
    · cases h4
  refine ⟨sizeB_ok h1, aggB_ok h2, ?_, ?_, ?_, ?_, ?_, ?_, ?_, ?_, ?_, ?_, ?_, ?_⟩
  · cases hi : P.info? t with
    | none => simp [hi] at hz
    | some inf =>
      cases hzz : inf.zero with
      | none => simp [hi, hzz] at hz
      | some z =>
        simp [hi, hzz] at hz
        refine ⟨z, fun w => by simp [zeroValue, typeInfo, hi, hzz], hz, fun v hv => ?_⟩
        have := List.all_eq_true.1 h3 v hv
        exact zok_ok this
  · intro f x hx
    obtain ⟨fs, hu, hb⟩ := hf (by cases hl : i.fields with | nil => simp [hl] at hx | cons => rfl)
    obtain ⟨fd, g1, g2, g3, g4, g5⟩ := (fieldsB_ok hb).1 f x hx
    exact ⟨fs, hu, fd, by simpa using g1, g2, sizeB_ok g3, g4, aggB_ok g5⟩
  · intro hne
    obtain ⟨fs, hu, hb⟩ := hf hne
    obtain ⟨g1, g2⟩ := fieldsB_ok hb
    refine ⟨fs, (i.fields.map fun x => (x.1, x.2.1)).toArray, hu, fun w => ?_, fun f x hx => by simp [hx]⟩
    have := run_places (P := P) w fs.toList _ g2
    have e : (fs.mapM fun f => do pure (f.offset, ← sizeOf f.type) : Sem (Array (Nat × Nat))) = (do pure (← fs.toList.mapM fun f => Prod.mk f.offset <$> sizeOf f.type).toArray) := by
      rw [← Array.toArray_toList (xs := fs), Array.mapM_eq_mapM_toList]
      simp
    rw [e]
    simp [this]
  · intro e k he
    rw [he] at h5
    simp only [Bool.and_eq_true, beq_iff_eq] at h5
    obtain ⟨g1, g2⟩ := h5
    split at g1
    · rename_i e' hu
      have : e' = e := by simpa using g1
      subst this
      exact ⟨hu, sizeB_ok g2⟩
    · cases g1
  · intro hs
    simp only [hs, Bool.not_true, Bool.false_or] at h6
    split at h6
    · rename_i hu; exact hu
    · cases h6
  · intro hs
    simp only [hs, Bool.not_true, Bool.false_or] at h7
    split at h7
    · rename_i hu; exact hu
    · cases h7
  · intro e k he hne
    rw [he] at h8 h5
    simp only [Bool.or_eq_true, beq_iff_eq] at h8
    rcases h8 with h8 | h8
    · exact absurd h8 hne
    · simp only [Bool.and_eq_true, beq_iff_eq] at h5
      obtain ⟨g1, _⟩ := h5
      split at g1
      · rename_i e' hu
        have : e' = e := by simpa using g1
        subst this
        split at h8
        · rename_i inf hi
          simp only [Bool.and_eq_true, beq_iff_eq, bne_iff_ne] at h8
          obtain ⟨⟨⟨p1, p2⟩, p3⟩, p4⟩ := h8
          split at p4
          · rename_i z hz
            exact ⟨z, hu, by simp [hi, hz, p1, p2], by simpa using p4, Nat.pos_of_ne_zero p3⟩
          · cases p4
        · cases h8
      · cases g1
  · intro k hk
    rw [hk] at h9
    simp only at h9
    split at h9
    · rename_i k' hu
      have : k' = k := by simpa using h9
      subst this; exact hu
    · cases h9
  · intro hp
    split at h10
    · rename_i e hu; exact ⟨e, hu⟩
    · simp [hp] at h10
    · cases h10
  · intro hp
    split at h11
    · rename_i ms hu; exact ⟨ms, hu⟩
    · simp [hp] at h11
    · cases h11
  · intro hp
    split at h11
    · simp [hp] at h11
    · rename_i d hne hu; exact ⟨d, hu, fun ms he => hne ms he⟩
    · cases h11
  · intro hp
    simp only [hp, Bool.not_true, Bool.false_or] at h12
    split at h12
    · rename_i e hu
      split at h12
      · rename_i hue; exact ⟨e, hu, hue⟩
      · cases h12
    · cases h12
end
end Go.Proofs.Ytkamdppnnhjajaa.Sym
