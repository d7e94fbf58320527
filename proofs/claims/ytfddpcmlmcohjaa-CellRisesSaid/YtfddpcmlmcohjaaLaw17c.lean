/-
  Chapter 17's law of rising versions in plain Lean. No program in sight.
-/
import Derived.Test.YtfddpcmlmcohjaaLaw17
import Derived.Test.YtfddpcmlmcohjaaLaw17b
namespace Go.Proofs.Ytfddpcmlmcohjaa
open Go.RowKit
set_option linter.unusedVariables false
set_option linter.unusedSimpArgs false

/-- each mark of the row m has its place in the row l: of the same client, and the same mark if the client is not cl -/
def Stays (cl : Int) (m l : List Mark) : Prop := ∀ x ∈ m, ∃ y ∈ l, y.client = x.client ∧ (x.client ≠ cl → y = x)
theorem stays_refl (cl : Int) (m : List Mark) : Stays cl m m := fun x hx => ⟨x, hx, rfl, fun _ => rfl⟩
theorem stays_put (cl : Int) (m : List Mark) (hs : SrtM m) (y : Mark) (hy : y.client = cl) : Stays cl m (putM m y) := by
  intro x hx
  have h := ofM_putM m y x.client
  have hm := ofM_mem hs hx
  by_cases hc : y.client = x.client
  · rw [if_pos hc] at h
    exact ⟨y, (ofM_is h).1, hc, fun hn => absurd (hc.symm.trans hy) hn⟩
  · rw [if_neg hc, hm] at h
    exact ⟨x, (ofM_is h).1, rfl, fun _ => rfl⟩
def getO : Opr := ⟨0, 0, 1, 0, ByteArray.empty⟩
theorem get_o : IsO getO := by decide
theorem rises (c : Cel) (o : Opr) : (doC c o = (zeroCel, zeroAns, false, 1) ∧ ¬ (IsC c ∧ IsO o)) ∨ ∃ a x p, doC c o = (a, x, p, 0) ∧ doC a getO = (a, ⟨0, a.version, a.has, a.val⟩, false, 0) ∧ IsC a ∧ IsC c ∧
    (p = true → a.version = up c.version ∧ x.version = a.version ∧ x.has = a.has ∧ x.code = 0 ∧ a.val = o.val) ∧ (p = false → a.version = c.version ∧ a.val = c.val ∧ a.has = c.has) ∧ Stays o.client c.marks a.marks := by
  have gets : ∀ a, IsC a → doC a getO = (a, ⟨0, a.version, a.has, a.val⟩, false, 0) := by
    intro a ha
    simp [doC, ha, get_o]
    exact fun h => absurd rfl h
  rcases do_cases c o with h | ⟨hc, ho, h⟩
  · exact .inl h
  · refine .inr ?_
    rcases h with ⟨hk, h⟩ | ⟨hk, m, hm, ⟨hq, h⟩ | ⟨hq, h⟩⟩ | ⟨hk, hm, h⟩
    · exact ⟨_, _, _, h, gets _ hc, hc, hc, fun hp => (by cases hp), fun _ => ⟨rfl, rfl, rfl⟩, stays_refl _ _⟩
    · exact ⟨_, _, _, h, gets _ hc, hc, hc, fun hp => (by cases hp), fun _ => ⟨rfl, rfl, rfl⟩, stays_refl _ _⟩
    · exact ⟨_, _, _, h, gets _ hc, hc, hc, fun hp => (by cases hp), fun _ => ⟨rfl, rfl, rfl⟩, stays_refl _ _⟩
    · obtain ⟨v, b, s, a, p, hw, ha, hv, hor⟩ := write_is c o hc ho hk
      rw [hw] at h
      have hd := put_is (v := v) hc ho ha hv
      refine ⟨_, _, _, h, gets _ hd, hd, hc, ?_, ?_, stays_put _ _ hc.1.1 _ rfl⟩
      · intro hp
        rcases hor with ⟨_, h1, h2, h3, h4, h5⟩ | ⟨h1, _⟩
        · exact ⟨h1, h2, h3, h4, h5⟩
        · rw [hp] at h1; cases h1
      · intro hp
        rcases hor with ⟨h1, _⟩ | ⟨_, h1, h2, h3⟩
        · rw [hp] at h1; cases h1
        · exact ⟨h1, h3, h2⟩
/-- place k of the row m stands at a place of the row l, from at on -/
def From (m l : List Mark) (cl : Int) (k at' : Nat) : Prop := ∀ x, m[k]? = some x → ∃ j y, at' ≤ j ∧ l[j]? = some y ∧ y.client = x.client ∧ (x.client ≠ cl → y = x)
theorem from_zero {m l : List Mark} {cl : Int} (h : Stays cl m l) (k : Nat) : From m l cl k 0 := by
  intro x hx
  obtain ⟨y, hy, h1, h2⟩ := h x (List.mem_of_getElem? hx)
  obtain ⟨j, hj⟩ := List.getElem?_of_mem hy
  exact ⟨j, y, Nat.zero_le _, hj, h1, h2⟩
theorem srt_lt {l : List Mark} (hs : SrtM l) {i j : Nat} {x y : Mark} (hx : l[i]? = some x) (hy : l[j]? = some y) (h : i < j) : x.client < y.client := by
  obtain ⟨hi, rfl⟩ := List.getElem?_eq_some_iff.1 hx
  obtain ⟨hj, rfl⟩ := List.getElem?_eq_some_iff.1 hy
  exact List.pairwise_iff_getElem.1 hs i j hi hj h
/-- the place at at is not this one's, if the client there is less: go on -/
theorem from_step {m l : List Mark} {cl : Int} {k at' : Nat} {x y : Mark} (hx : m[k]? = some x) (hy : l[at']? = some y) (h : From m l cl k at') (hlt : y.client < x.client) : From m l cl k (at' + 1) := by
  intro x' hx'
  rw [hx] at hx'; injection hx' with hx'; subst hx'
  obtain ⟨j, z, h1, h2, h3, h4⟩ := h x hx
  refine ⟨j, z, ?_, h2, h3, h4⟩
  rcases Nat.lt_or_eq_of_le h1 with h | h
  · exact h
  · subst h; rw [hy] at h2; injection h2 with h2; subst h2; omega
/-- it is this one's, if the client there is not less -/
theorem from_here {m l : List Mark} {cl : Int} {k at' : Nat} {x : Mark} (hs : SrtM l) (hx : m[k]? = some x) (h : From m l cl k at') (hge : ∀ y, l[at']? = some y → ¬ y.client < x.client) : ∃ y, l[at']? = some y ∧ y.client = x.client ∧ (x.client ≠ cl → y = x) := by
  obtain ⟨j, z, h1, h2, h3, h4⟩ := h x hx
  rcases Nat.lt_or_eq_of_le h1 with hlt | he
  · have hj := (List.getElem?_eq_some_iff.1 h2).1
    have hy := List.getElem?_eq_getElem (l := l) (i := at') (by omega)
    have h5 := srt_lt hs hy h2 hlt
    have := hge _ hy
    omega
  · subst he; exact ⟨z, h2, h3, h4⟩
/-- behind it the next one's place is not ahead -/
theorem from_next {m l : List Mark} {cl : Int} {k at' : Nat} {x y : Mark} (hm : SrtM m) (hs : SrtM l) (hst : Stays cl m l) (hx : m[k]? = some x) (hy : l[at']? = some y) (hc : y.client = x.client) : From m l cl (k + 1) at' := by
  intro x' hx'
  have h1 := srt_lt hm hx hx' (by omega)
  obtain ⟨j, z, _, h2, h3, h4⟩ := from_zero hst (k + 1) x' hx'
  refine ⟨j, z, ?_, h2, h3, h4⟩
  rcases Nat.lt_or_ge j at' with h | h
  · have := srt_lt hs h2 hy h
    omega
  · exact h
end Go.Proofs.Ytfddpcmlmcohjaa
