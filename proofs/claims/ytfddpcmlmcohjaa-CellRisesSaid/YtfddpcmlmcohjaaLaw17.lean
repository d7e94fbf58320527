/-
  Chapter 17's laws in plain Lean: what is done again, what comes later, what rises. No program in sight.
-/
import Derived.Test.YtfddpcmlmcohjaaCellDo
namespace Go.Proofs.Ytfddpcmlmcohjaa
open Go.RowKit
set_option linter.unusedVariables false
set_option linter.unusedSimpArgs false

theorem ofM_put (l : List Mark) (m : Mark) : ofM (putM l m) m.client = some m := by
  induction l with
  | nil => simp [putM, ofM]
  | cons x l ih =>
    simp only [putM]
    split
    · unfold ofM at ih ⊢
      rw [List.find?_cons_of_neg (by simp; omega), ih]
    · split <;> simp [ofM]
/-- Do refuses, or is done -/
theorem do_cases (c : Cel) (o : Opr) : (doC c o = (zeroCel, zeroAns, false, 1) ∧ ¬ (IsC c ∧ IsO o)) ∨ (IsC c ∧ IsO o ∧ ((o.kind = 1 ∧ doC c o = (c, ⟨0, c.version, c.has, c.val⟩, false, 0)) ∨
    (o.kind ≠ 1 ∧ ∃ m, ofM c.marks o.client = some m ∧ ((m.req = o.req ∧ doC c o = (c, m.ans, false, 0)) ∨ (o.req < m.req ∧ doC c o = (c, ⟨9, 0, false, ByteArray.empty⟩, false, 0)))) ∨
    (o.kind ≠ 1 ∧ (∀ m, ofM c.marks o.client = some m → m.req < o.req) ∧ doC c o = writeC c o))) := by
  by_cases h : IsC c ∧ IsO o
  · refine .inr ⟨h.1, h.2, ?_⟩
    by_cases hk : o.kind = 1
    · exact .inl ⟨hk, by simp [doC, h.1, h.2, hk]⟩
    · refine .inr ?_
      cases hm : ofM c.marks o.client with
      | none => exact .inr ⟨hk, fun m h => (by cases h), by simp [doC, h.1, h.2, hk, hm]⟩
      | some m =>
        by_cases h1 : m.req = o.req
        · exact .inl ⟨hk, m, rfl, .inl ⟨h1, by simp [doC, h.1, h.2, hk, hm, h1]⟩⟩
        · by_cases h2 : o.req < m.req
          · exact .inl ⟨hk, m, rfl, .inr ⟨h2, by simp [doC, h.1, h.2, hk, hm, h1, h2]⟩⟩
          · exact .inr ⟨hk, fun x hx => (by injection hx with hx; subst hx; omega), by simp [doC, h.1, h.2, hk, hm, h1, h2]⟩
  · exact .inl ⟨by unfold doC; rw [if_pos h], h⟩
/-- what a write makes: a right cell, with the operation's mark -/
theorem write_is (c : Cel) (o : Opr) (hc : IsC c) (ho : IsO o) (hk : o.kind ≠ 1) : ∃ v h s a p, writeC c o = (⟨v, h, s, putM c.marks ⟨o.client, o.req, a⟩⟩, a, p, 0) ∧ ansOk a ∧ valOk s h ∧
    ((p = true ∧ v = up c.version ∧ a.version = v ∧ a.has = h ∧ a.code = 0 ∧ s = o.val) ∨ (p = false ∧ v = c.version ∧ h = c.has ∧ s = c.val)) := by
  unfold writeC
  split
  · exact ⟨_, _, _, _, _, rfl, ⟨rfl, .inr rfl⟩, hc.2, .inr ⟨rfl, rfl, rfl, rfl⟩⟩
  · refine ⟨_, _, _, _, _, rfl, ⟨rfl, .inl rfl⟩, ⟨ho.2.2.2.2.1, ?_⟩, .inl ⟨rfl, rfl, rfl, rfl, rfl, rfl⟩⟩
    by_cases h4 : o.kind = 4
    · exact .inr (ho.2.2.2.2.2.1 (.inr h4))
    · exact .inl (by simp [h4])
theorem put_is {c : Cel} {o : Opr} (hc : IsC c) (ho : IsO o) {v : Int} {h : Bool} {s : ByteArray} {a : Ans} (ha : ansOk a) (hv : valOk s h) : IsC ⟨v, h, s, putM c.marks ⟨o.client, o.req, a⟩⟩ :=
  ⟨putM_good hc.1 ⟨ho.1, ho.2.1, ha⟩, hv⟩
theorem ans_ne_nine {c : Cel} {m : Mark} {cl : Int} (hc : IsC c) (hm : ofM c.marks cl = some m) : m.ans.code ≠ 9 := by
  have := (hc.1.2 m (List.mem_of_find?_eq_some hm)).2.2.2
  omega
/-- an operation that is done again is answered as before, and changes nothing; one that came before is late -/
theorem twice (c : Cel) (o : Opr) : doC c o = (zeroCel, zeroAns, false, 1) ∨ ∃ a x p, doC c o = (a, x, p, 0) ∧ doC a o = (a, x, false, 0) ∧
    (o.kind ≠ 1 → x.code ≠ 9 → ∀ later, o.req < later → ∃ d z, doC a ⟨o.client, later, 2, 0, ByteArray.empty⟩ = (d, z, true, 0) ∧ z.code = 0 ∧ doC d o = (d, ⟨9, 0, false, ByteArray.empty⟩, false, 0)) := by
  have late : ∀ a m, IsC a → IsO o → o.kind ≠ 1 → ofM a.marks o.client = some m → m.req = o.req → ∀ later, o.req < later → ∃ d z, doC a ⟨o.client, later, 2, 0, ByteArray.empty⟩ = (d, z, true, 0) ∧ z.code = 0 ∧ doC d o = (d, ⟨9, 0, false, ByteArray.empty⟩, false, 0) := by
    intro a m ha ho hk hm hq later hl
    have hn : IsO ⟨o.client, later, 2, 0, ByteArray.empty⟩ := ⟨ho.1, ho.2.1, by simp, by simp, by simp, fun _ => rfl, fun _ => rfl⟩
    have h1 : doC a ⟨o.client, later, 2, 0, ByteArray.empty⟩ = (⟨up a.version, true, ByteArray.empty, putM a.marks ⟨o.client, later, ⟨0, up a.version, true, ByteArray.empty⟩⟩⟩, ⟨0, up a.version, true, ByteArray.empty⟩, true, 0) := by
      have e1 : ¬ m.req = later := by omega
      have e2 : ¬ later < m.req := by omega
      simp [doC, ha, hn, hm, e1, e2, writeC]
    refine ⟨_, _, h1, rfl, ?_⟩
    have hd : IsC ⟨up a.version, true, ByteArray.empty, putM a.marks ⟨o.client, later, ⟨0, up a.version, true, ByteArray.empty⟩⟩⟩ :=
      ⟨putM_good ha.1 ⟨ho.1, ho.2.1, rfl, .inl rfl⟩, by simp [valOk]⟩
    have h2 := ofM_put a.marks ⟨o.client, later, ⟨0, up a.version, true, ByteArray.empty⟩⟩
    simp only at h2
    have e1 : ¬ later = o.req := by omega
    simp [doC, hd, ho, hk, h2, e1, hl]
  rcases do_cases c o with ⟨h, _⟩ | ⟨hc, ho, h⟩
  · exact .inl h
  · refine .inr ?_
    rcases h with ⟨hk, h⟩ | ⟨hk, m, hm, ⟨hq, h⟩ | ⟨hq, h⟩⟩ | ⟨hk, hm, h⟩
    · exact ⟨_, _, _, h, h, fun hn => absurd hk hn⟩
    · exact ⟨_, _, _, h, h, fun _ _ => late c m hc ho hk hm hq⟩
    · exact ⟨_, _, _, h, h, fun _ h9 => absurd rfl h9⟩
    · obtain ⟨v, b, s, a, p, hw, ha, hv, _⟩ := write_is c o hc ho hk
      rw [hw] at h
      have hd := put_is (v := v) hc ho ha hv
      have h2 := ofM_put c.marks ⟨o.client, o.req, a⟩
      simp only at h2
      refine ⟨_, _, _, h, ?_, fun _ _ => late _ _ hd ho hk h2 rfl⟩
      simp [doC, hd, ho, hk, h2]
end Go.Proofs.Ytfddpcmlmcohjaa
