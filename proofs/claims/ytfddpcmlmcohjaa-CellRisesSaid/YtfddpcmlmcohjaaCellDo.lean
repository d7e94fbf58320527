/-
  The program's cell.Do, whole. Conditions: fewer marks than 2^31.
-/
import Derived.Test.YtfddpcmlmcohjaaCellDo6
namespace Go.Proofs.Ytfddpcmlmcohjaa
open Go.RowKit
set_option linter.unusedVariables false

theorem do_c (w : World) (A : Option Addr) (k : Nat) (c : Cel) (o : Opr) (h : CelR w A k c) (ho : o.val.size ≤ maxLen) :
    Calls Try.prog 23 #[CelV c A k, OprV o] w (DoP w (doC c o)) := by
  by_cases hc : IsC c
  · by_cases hx : IsO o
    · by_cases hk : o.kind = 1
      · have hd : doC c o = (c, ⟨0, c.version, c.has, c.val⟩, false, 0) := by simp [doC, hc, hx, hk]
        rw [hd]; exact do_get w A k c o h ho hc hx hk
      · have hd0 : doC c o = match ofM c.marks o.client with
          | none => writeC c o
          | some m => if m.req = o.req then (c, m.ans, false, 0) else if m.req > o.req then (c, ⟨9, 0, false, ByteArray.empty⟩, false, 0) else writeC c o := by simp [doC, hc, hx, hk]; rfl
        have key : (∀ m, ofM c.marks o.client = some m → m.req < o.req) → Calls Try.prog 23 #[CelV c A k, OprV o] w (DoP w (writeC c o)) := by
          intro hm
          have hk2 : o.kind = 2 ∨ o.kind = 3 ∨ o.kind = 4 := by have h1 := hx.2.2.1; have h2 := hx.2.2.2.1; omega
          rcases hk2 with hk2 | hk2 | hk2
          · have := do_ok2 w A k c o h ho hc hx hm hk2
            simpa [writeC, hk2] using this
          · by_cases hv : o.version = c.version
            · have := do_ok3 w A k c o h ho hc hx hm hk2 hv
              simpa [writeC, hk2, hv] using this
            · have := do_no3 w A k c o h ho hc hx hm hk2 hv
              simpa [writeC, hk2, hv] using this
          · by_cases hv : o.version = c.version
            · have := do_ok4 w A k c o h ho hc hx hm hk2 hv
              simpa [writeC, hk2, hv] using this
            · have := do_no4 w A k c o h ho hc hx hm hk2 hv
              simpa [writeC, hk2, hv] using this
        rw [hd0]
        cases hm : ofM c.marks o.client with
        | none => exact key (fun m h => by rw [hm] at h; cases h)
        | some m =>
          simp only
          by_cases h1 : m.req = o.req
          · rw [if_pos h1]; exact do_mark_eq w A k c o h ho hc hx hk m hm h1
          · rw [if_neg h1]
            by_cases h2 : m.req > o.req
            · rw [if_pos h2]; exact do_mark_gt w A k c o h ho hc hx hk m hm h2
            · rw [if_neg h2]; exact key (fun x h => by rw [hm] at h; injection h with h; subst h; omega)
    · have hd : doC c o = (zeroCel, zeroAns, false, 1) := by simp [doC, hx]
      rw [hd]; exact do_bad2 w A k c o h ho hc hx
  · have hd : doC c o = (zeroCel, zeroAns, false, 1) := by simp [doC, hc]
    rw [hd]; exact do_bad1 w A k c o h ho hc
end Go.Proofs.Ytfddpcmlmcohjaa
