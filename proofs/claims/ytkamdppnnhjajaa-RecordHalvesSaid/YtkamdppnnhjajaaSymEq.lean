/-
  Structs and arrays of numbers, bools and texts compared, as the executor says it. Over any program. Conditions: none.
-/
import Derived.Test.YtkamdppnnhjajaaPlB
import Derived.ChangeKeysEq
namespace Go.Proofs.Ytkamdppnnhjajaa.Sym
open Go.RowKit
set_option linter.unusedVariables false
set_option linter.unusedSimpArgs false

inductive Sh where
  | int (k : IntKind)
  | bool
  | str
def Sh.fits : Sh → AV → Prop
  | .int k, .int k' _ => k = k'
  | .bool, .bool _ => True
  | .str, .str _ => True
  | _, _ => False
def fitsL : List Sh → List AV → Prop
  | [], [] => True
  | h :: l, v :: r => h.fits v ∧ fitsL l r
  | _, _ => False
def shFields (P : Program) (g : TypeId → Option (List Sh)) : List Field → Nat → Option (List Sh)
  | [], _ => some []
  | f :: fs, off => if f.name == "_" || f.offset != off then none else match g f.type with
    | some sh => if sizeB P f.type == some sh.length && (aggB P f.type).isSome && (aggB P f.type != some false || sh.length == 1) then (shFields P g fs (off + sh.length)).map (sh ++ ·) else none
    | none => none
def eqShape (P : Program) : Nat → TypeId → Option (List Sh)
  | 0, _ => none
  | d + 1, t => match P.underlying t with
    | some .bool => some [.bool]
    | some (.int k) => some [.int k]
    | some .string => some [.str]
    | some (.struct fs) => if P.stoodInHeld t then none else shFields P (eqShape P d) fs.toList 0
    | some (.array n e) => match eqShape P d e with
      | some sh => if P.cellsOf e == sh.length && (P.info? e).isSome && sizeB P e == some sh.length && (aggB P e).isSome && (aggB P e != some false || sh.length == 1) then some (List.replicate n sh).flatten else none
      | none => none
    | _ => none
def mkV (g : Bool) (l : List AV) : Value := if g then .agg (l.map AV.den).toArray else (l.map AV.den).headD Go.undef
theorem fitsL_len : ∀ {sh : List Sh} {l : List AV}, fitsL sh l → l.length = sh.length
  | [], [], _ => rfl
  | _ :: _, _ :: _, h => by simp [fitsL_len h.2]
  | [], _ :: _, h => h.elim
  | _ :: _, [], h => h.elim
theorem fitsL_split : ∀ {s1 s2 : List Sh} {l : List AV}, fitsL (s1 ++ s2) l → ∃ a b, l = a ++ b ∧ fitsL s1 a ∧ fitsL s2 b
  | [], s2, l, h => ⟨[], l, rfl, trivial, h⟩
  | _ :: _, _, [], h => h.elim
  | s :: s1, s2, v :: l, h => by
    obtain ⟨a, b, rfl, h1, h2⟩ := fitsL_split h.2
    exact ⟨v :: a, b, rfl, ⟨h.1, h1⟩, h2⟩
theorem eqL_append : ∀ {a b a' b' : List AV}, a.length = a'.length → eqL (a ++ b) (a' ++ b') = (eqL a a' && eqL b b')
  | [], b, [], b', _ => by cases b <;> cases b' <;> simp [eqL]
  | [], _, _ :: _, _, h => by cases h
  | _ :: _, _, [], _, h => by cases h
  | v :: a, b, v' :: a', b', h => by
    have := eqL_append (a := a) (b := b) (a' := a') (b' := b') (by simpa using h)
    simp only [List.cons_append, eqL, this, Bool.and_assoc]
section
variable {P : Program} {w : World}
theorem run_part {e : TypeId} {g : Bool} {sh : List Sh} {px x sx : List AV} (hg : aggB P e = some g) (hs : sizeB P e = some sh.length) (h1 : g = false → sh.length = 1) (hx : fitsL sh x) :
    (part e ((px ++ x ++ sx).map AV.den).toArray px.length).run P w = .ok (mkV g x) w := by
  have hl := fitsL_len hx
  unfold part
  simp only [Sem.run_bind, aggB_ok hg w, Result.andThen_ok]
  cases g with
  | true =>
    simp only [if_true, Sem.run_bind, sizeB_ok hs w, Result.andThen_ok, Sem.run_pure, mkV]
    congr 2
    apply Array.ext'
    rw [Array.toList_extract]
    simp only [List.extract, Nat.add_sub_cancel_left, List.map_append, ← hl]
    rw [List.append_assoc, List.drop_append_of_le_length (by simp), List.drop_eq_nil_of_le (by simp), List.nil_append, List.take_append_of_le_length (by simp), List.take_of_length_le (by simp)]
  | false =>
    obtain ⟨v, rfl⟩ : ∃ v, x = [v] := by
      rw [h1 rfl] at hl
      exact List.length_eq_one_iff.1 hl
    have : ((px ++ [v] ++ sx).map AV.den).toArray[px.length]? = some v.den := by simp
    rw [this]
    simp [mkV]
theorem eq_fields {d D : Nat} (IH : ∀ t sh, eqShape P d t = some sh → ∀ x y g, aggB P t = some g → fitsL sh x → fitsL sh y → (Op.equalIn (D + d) t (mkV g x) (mkV g y)).run P w = .ok (eqL x y) w) :
    ∀ (fs : List Field) (off : Nat) (sh : List Sh), shFields P (eqShape P d) fs off = some sh → ∀ (px py x y : List AV), px.length = off → py.length = off → fitsL sh x → fitsL sh y →
      (Op.eqFields (D + d) ((px ++ x).map AV.den).toArray ((py ++ y).map AV.den).toArray fs).run P w = .ok (eqL x y) w
  | [], off, sh, h, px, py, x, y, hp, hq, hx, hy => by
    simp only [shFields, Option.some.injEq] at h
    subst h
    cases x with
    | cons => exact hx.elim
    | nil => cases y with
      | cons => exact hy.elim
      | nil => simp [Op.eqFields, eqL]
  | f :: fs, off, sh, h, px, py, x, y, hp, hq, hx, hy => by
    simp only [shFields] at h
    split at h
    · cases h
    · rename_i hn
      simp only [Bool.or_eq_true, beq_iff_eq, bne_iff_ne, not_or, ne_eq, Decidable.not_not] at hn
      obtain ⟨hn1, hn2⟩ := hn
      split at h
      · rename_i s1 hs1
        split at h
        · rename_i hc
          simp only [Bool.and_eq_true, beq_iff_eq, Bool.or_eq_true, bne_iff_ne, ne_eq] at hc
          obtain ⟨⟨hc1, hc2⟩, hc3⟩ := hc
          obtain ⟨s2, hs2, rfl⟩ := Option.map_eq_some_iff.1 h
          obtain ⟨a, b, rfl, ha, hb⟩ := fitsL_split hx
          obtain ⟨a', b', rfl, ha', hb'⟩ := fitsL_split hy
          obtain ⟨g, hg⟩ := Option.isSome_iff_exists.1 hc2
          have h1 : g = false → s1.length = 1 := by
            intro hgf
            rcases hc3 with h | h
            · rw [hg, hgf] at h; exact absurd rfl h
            · exact h
          have p1 := run_part (P := P) (w := w) (px := px) (sx := b) hg hc1 h1 ha
          have p2 := run_part (P := P) (w := w) (px := py) (sx := b') hg hc1 h1 ha'
          rw [hp] at p1
          rw [hq] at p2
          have la := fitsL_len ha
          have la' := fitsL_len ha'
          have e1 := IH _ _ hs1 a a' g hg ha ha'
          have e2 := eq_fields IH fs (off + s1.length) s2 hs2 (px ++ a) (py ++ a') b b' (by simp [hp, la]) (by simp [hq, la']) hb hb'
          rw [eqL_append (la.trans la'.symm)]
          simp only [← List.append_assoc]
          unfold Op.eqFields
          simp only [hn1, ne_eq, not_false_eq_true, if_true, Sem.run_bind, hn2, p1, p2, e1, Result.andThen_ok]
          cases hE : eqL a a' with
          | true => simpa using e2
          | false => simp
        · cases h
      · cases h
theorem eq_items {d D : Nat} {e : TypeId} {g : Bool} {sh : List Sh} (hg : aggB P e = some g) (hs : sizeB P e = some sh.length) (h1 : g = false → sh.length = 1)
    (IH : ∀ x y, fitsL sh x → fitsL sh y → (Op.equalIn (D + d) e (mkV g x) (mkV g y)).run P w = .ok (eqL x y) w) :
    ∀ (n i : Nat) (px py x y : List AV), px.length = i * sh.length → py.length = i * sh.length → fitsL (List.replicate n sh).flatten x → fitsL (List.replicate n sh).flatten y →
      (Op.eqItems (D + d) e sh.length ((px ++ x).map AV.den).toArray ((py ++ y).map AV.den).toArray (List.range' i n)).run P w = .ok (eqL x y) w
  | 0, i, px, py, x, y, hp, hq, hx, hy => by
    cases x with
    | cons => exact hx.elim
    | nil => cases y with
      | cons => exact hy.elim
      | nil => simp [Op.eqItems, eqL]
  | n + 1, i, px, py, x, y, hp, hq, hx, hy => by
    rw [List.replicate_succ, List.flatten_cons] at hx hy
    obtain ⟨a, b, rfl, ha, hb⟩ := fitsL_split hx
    obtain ⟨a', b', rfl, ha', hb'⟩ := fitsL_split hy
    have p1 := run_part (P := P) (w := w) (px := px) (sx := b) hg hs h1 ha
    have p2 := run_part (P := P) (w := w) (px := py) (sx := b') hg hs h1 ha'
    rw [hp] at p1
    rw [hq] at p2
    have la := fitsL_len ha
    have la' := fitsL_len ha'
    have e1 := IH a a' ha ha'
    have e2 := eq_items hg hs h1 IH n (i + 1) (px ++ a) (py ++ a') b b' (by rw [List.length_append, hp, la, Nat.add_mul, Nat.one_mul]) (by rw [List.length_append, hq, la', Nat.add_mul, Nat.one_mul]) hb hb'
    rw [eqL_append (la.trans la'.symm)]
    simp only [← List.append_assoc]
    rw [List.range'_succ]
    unfold Op.eqItems
    simp only [Sem.run_bind, p1, p2, e1, Result.andThen_ok]
    cases hE : eqL a a' with
    | true => simpa using e2
    | false => simp
theorem eq_shape (w : World) : ∀ (d : Nat) (t : TypeId) (sh : List Sh), eqShape P d t = some sh → ∀ (D : Nat) (x y : List AV) (g : Bool), aggB P t = some g → fitsL sh x → fitsL sh y → (Op.equalIn (D + d) t (mkV g x) (mkV g y)).run P w = .ok (eqL x y) w
  | 0, t, sh, h, _, _, _, _, _, _, _ => by cases h
  | d + 1, t, sh, h, D, x, y, g, hg, hx, hy => by
    have one : ∀ {s : Sh} {z : List AV}, fitsL [s] z → ∃ v, z = [v] ∧ s.fits v := by
      intro s z hz
      match z, hz with
      | [v], hz => exact ⟨v, rfl, hz.1⟩
    simp only [eqShape] at h
    split at h
    · rename_i hu
      injection h with h; subst h
      obtain ⟨v, rfl, hv⟩ := one hx
      obtain ⟨u, rfl, hu'⟩ := one hy
      have : g = false := by simpa [aggB, hu] using hg
      subst this
      cases v <;> simp only [Sh.fits] at hv
      cases u <;> simp only [Sh.fits] at hu'
      simp only [mkV, List.map_cons, List.headD_cons, Bool.false_eq_true, if_false, AV.den, ← Nat.add_assoc]
      rw [run_equalIn_bool w _ _ _ _ hu]
      simp [eqL, eqC]
    · rename_i k hu
      injection h with h; subst h
      obtain ⟨v, rfl, hv⟩ := one hx
      obtain ⟨u, rfl, hu'⟩ := one hy
      have : g = false := by simpa [aggB, hu] using hg
      subst this
      cases v <;> simp only [Sh.fits] at hv
      cases u <;> simp only [Sh.fits] at hu'
      subst hv; subst hu'
      simp only [mkV, List.map_cons, List.headD_cons, Bool.false_eq_true, if_false, AV.den, ← Nat.add_assoc]
      rw [run_equalIn_int w _ _ _ _ _ _ hu]
      simp [eqL, eqC]
    · rename_i hu
      injection h with h; subst h
      obtain ⟨v, rfl, hv⟩ := one hx
      obtain ⟨u, rfl, hu'⟩ := one hy
      have : g = false := by simpa [aggB, hu] using hg
      subst this
      cases v <;> simp only [Sh.fits] at hv
      cases u <;> simp only [Sh.fits] at hu'
      rename_i s1 s2
      simp only [mkV, List.map_cons, List.headD_cons, Bool.false_eq_true, if_false, AV.den, ← Nat.add_assoc]
      rw [run_equalIn_string w _ _ _ _ hu]
      have e : (s1.toList == s2.toList) = (s1 == s2) := by
        rw [Bool.eq_iff_iff, beq_iff_eq, toList_un, toList_un]
        constructor
        · intro h; rw [un_inj h]; exact (beqB _ _).2 rfl
        · intro h; rw [(beqB _ _).1 h]
      simp [eqL, eqC, e]
    · rename_i fs hu
      split at h
      · cases h
      · rename_i hst
        have : g = true := by simpa [aggB, hu] using hg
        subst this
        have hfs : P.fieldsOf t = fs := by simp [Program.fieldsOf, hu]
        have := eq_fields (w := w) (D := D) (fun t sh h x y g hg hx hy => eq_shape w d t sh h D x y g hg hx hy) fs.toList 0 sh h [] [] x y rfl rfl hx hy
        simp only [mkV, if_true, ← Nat.add_assoc]
        rw [run_equalIn_struct w _ t _ _ (by rw [hfs]; exact hu) (by simpa using hst), hfs]
        exact this
    · rename_i n e hu
      split at h
      · rename_i s1 hs1
        split at h
        · rename_i hc
          simp only [Bool.and_eq_true, beq_iff_eq, Bool.or_eq_true, bne_iff_ne, ne_eq] at hc
          obtain ⟨⟨⟨⟨c1, c2⟩, c3⟩, c4⟩, c5⟩ := hc
          injection h with h; subst h
          have : g = true := by simpa [aggB, hu] using hg
          subst this
          obtain ⟨i, hi⟩ := Option.isSome_iff_exists.1 c2
          obtain ⟨g', hg'⟩ := Option.isSome_iff_exists.1 c4
          have h1 : g' = false → s1.length = 1 := by
            intro hgf
            rcases c5 with h | h
            · rw [hg', hgf] at h; exact absurd rfl h
            · exact h
          have := eq_items (w := w) (D := D) (d := d) hg' c3 h1 (fun x y hx hy => eq_shape w d e s1 hs1 D x y g' hg' hx hy) n 0 [] [] x y (by simp) (by simp) hx hy
          simp only [mkV, if_true, ← Nat.add_assoc]
          rw [run_equalIn_array w _ _ _ hu hi, c1, List.range_eq_range']
          exact this
        · cases h
      · cases h
    · cases h
theorem ob_eql {t : Nat} {d : Nat} {sh : List Sh} (hsh : eqShape P d t = some sh) (hd : d ≤ 10000) (hg : P.eqGuardType P.depth t = false) (ha : aggB P t = some true) {x y : List AV} (hx : fitsL sh x) (hy : fitsL sh y) : Ob.holds P (.eql t x y) := by
  intro w o1 o2
  have h := eq_shape w d t sh hsh (10000 - d) x y true ha hx hy
  rw [show 10000 - d + d = 10000 by omega] at h
  have hgd : ∀ op, (eqGuard op t o1 o2 (.agg (x.map AV.den).toArray) (.agg (y.map AV.den).toArray)).run P w = .ok () w := by
    intro op
    unfold eqGuard
    cases op <;> simp [hg] <;> rfl
  simp only [mkV, if_true] at h
  constructor
  · simp only [Sem.run_bind, hgd, Result.andThen_ok]
    rw [run_eql_struct, h]
    rfl
  · simp only [Sem.run_bind, hgd, Result.andThen_ok]
    rw [run_neq_struct, h]
    rfl
end
end Go.Proofs.Ytkamdppnnhjajaa.Sym
