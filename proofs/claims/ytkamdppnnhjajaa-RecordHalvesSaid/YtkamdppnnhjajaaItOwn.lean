/-
  Rows of items that a call owns; slices.Clone of them. Conditions: fewer items than 2^31.
-/
import Derived.Test.YtkamdppnnhjajaaOpenS08
import Derived.Test.YtkamdppnnhjajaaInsertI
import Derived.Test.YtkamdppnnhjajaaSymAt
namespace Go.Proofs.Ytkamdppnnhjajaa.Sym
open Go Go.RowKit
set_option linter.unusedVariables false
set_option linter.unusedSimpArgs false
set_option maxHeartbeats 1000000
set_option maxRecDepth 100000

theorem itmE_one (x : Itm) : ∀ v ∈ itmE x, v.oneCell' = true := by
  intro v hv
  simp only [itmE, List.mem_cons, List.not_mem_nil, or_false] at hv
  rcases hv with rfl | rfl <;> rfl
theorem rowFlat_its (l : List Itm) : rowFlat (fun i => itC (itF l i)) l.length = l.flatMap itmE := by
  have key : ∀ n, n ≤ l.length → rowFlat (fun i => itC (itF l i)) n = (l.take n).flatMap itmE := by
    intro n
    induction n with
    | zero => intro _; simp [rowFlat]
    | succ n ih =>
      intro h
      rw [rowFlat_succ, ih (by omega), List.take_succ_eq_append_getElem (by omega), List.flatMap_append]
      simp [itF, List.getD, List.getElem?_eq_getElem (show n < l.length by omega)]
      rfl
  have := key l.length (Nat.le_refl _)
  rwa [List.take_length] at this
theorem its_reads {m : Nat → Nat → Prop} {w : World} {A : Option Addr} {c : Nat} {l : List Itm} (h : Ok m w (rowI A l.length c (itF l))) : ReadsL itmE w w.heap.size A l := by
  have := row_of_ok h
  rw [rowFlat_its] at this
  exact this
theorem its_vals {m : Nat → Nat → Prop} {w : World} {A : Option Addr} {c : Nat} {l : List Itm} (h : Ok m w (rowI A l.length c (itF l))) : ∀ x ∈ l, x.val.size ≤ maxLen := by
  intro x hx
  obtain ⟨i, hi, rfl⟩ := List.mem_iff_getElem.1 hx
  cases h with
  | sl _ _ _ _ _ _ h1 h2 h3 h4 h5 h6 h7 =>
    have := h7 i hi (.str (itF l i).val) (by simp [itC])
    cases this with | str _ h => simpa [itF, List.getD, hi] using h
theorem own_its {m : Nat → Nat → Prop} {w : World} {B : Nat} {e : TypeId} {A : Option Addr} {n c : Nat} {l : List Itm} (h : OwnL itmE 2 w B e (.slice A n c) l) (hm : ∀ b o, m b o → b < B) (hs : ∀ x ∈ l, x.val.size ≤ maxLen) : Ok m w (rowI A l.length c (itF l)) := by
  obtain ⟨A', c', he, h1, h2⟩ := Own.isSlice h
  injection he with e1 e2 e3; subst e3; subst e2
  refine rows_ok h1 h2 hs fun hp => ?_
  rw [flat_length itmE_len] at hp
  obtain ⟨b, hA, hb⟩ := own_head h (by omega)
  refine ⟨b, 0, hA, fun j u hu => ⟨by rw [Nat.zero_add]; exact own_cells h hb j u hu, fun hmm => ?_⟩⟩
  have := (Own.lt h b hb).1
  have := hm _ _ hmm
  omega
theorem clone_c (w : World) (A : Option Addr) (k : Nat) (l : List Itm) (hr : ReadsL itmE w w.heap.size A l) (hl : l.length < 2147483000) :
    Calls Try.prog 56 #[.slice A l.length k] w fun e w' => ∃ v', e = .returned v' ∧ OwnL itmE 2 w' w.heap.size 53 v' l ∧ Below w.heap.size w w' := by
  have hq : ∀ (A : Option Addr) (n k : Nat) (w : World), (binOp .eql 22 (.slice A n k) (.slice none 0 0)).run Try.prog w = .ok (.bool A.isNone) w := fun A n k w => Go.Lib.run_eql_slice_nil w _ _ A n k 0 0 Try.underlying22
  cases A with
  | none =>
    obtain rfl : l = [] := by
      refine List.eq_nil_of_length_eq_zero (Nat.eq_zero_of_not_pos fun h => ?_)
      obtain ⟨b, off, he, _⟩ := hr.at_ (k := 2) itmE_len (by decide) h
      cases he
    clear hr
    go_enter Try.func56, Try.ntmps56
    go_wp2_with fail
    go_ret
    exact ⟨_, rfl, Own.nil _ _ _ _ _, Below.refl _ _⟩
  | some a =>
    obtain ⟨W1, hW1⟩ : ∃ W1, W1 = w.alloc (.cells #[] 53) := ⟨_, rfl⟩
    have hb1 : Below w.heap.size w W1 := by rw [hW1]; exact (Below.refl _ _).alloc (Nat.le_refl _) _
    obtain ⟨v', w', hr', hO, hG, hv⟩ := run_append_Own (P := Try.prog) etyI 22 (Own.nil W1 w.heap.size 53 2 (some ⟨w.heap.size, 0, none⟩)) (some a) l.length k (l.flatMap itmE) (flat_length itmE_len l) (hr.below hb1) (flat_one itmE_one l) (by simp only [maxLen]; omega) (by omega) hb1.size
    rw [Nat.zero_add, List.nil_append] at hO
    have HO : Hid (OwnL itmE 2 w' w.heap.size 53 v' l ∧ Below w.heap.size w w') := ⟨hO, hb1.grown hG hb1.size fun g hg => by simp [ownB] at hg⟩
    rw [hW1] at hr'
    clear hO hG hv hb1 hW1
    go_enter Try.func56, Try.ntmps56
    go_wp2_with (at_builtin; refine wpList_append_run hr' rfl (.tmp 5) (.tmp 6) rfl rfl rfl rfl ?_)
    go_ret
    exact ⟨_, rfl, HO.out⟩
theorem clone_s (A : Option Addr) (c : Nat) (l : List Itm) (hs : l.length < 2147483000) : Spec Try.prog 56 [rowI A l.length c (itF l)] (fun y => rowI (y.A 0) l.length (y.c 0) (itF l)) := by
  intro m w hm ha
  have h1 := ha (rowI A l.length c (itF l)) (by simp)
  refine (clone_c w A c l (its_reads h1) hs).mono ?_
  rintro e w' ⟨v', rfl, ho, hb⟩
  obtain ⟨A', c', rfl, _, _⟩ := Own.isSlice ho
  exact ⟨⟨0, fun _ => A', fun _ => c', fun _ => ⟨#[]⟩⟩, rfl, own_its ho hm (its_vals h1), hb⟩
/-- the same, of a row of so many -/
theorem clone_sf (A : Option Addr) (n c : Nat) (f : Nat → Itm) (hs : n < 2147483000) : Spec Try.prog 56 [rowI A n c f] (fun y => rowI (y.A 0) n (y.c 0) f) := by
  have h := clone_s A c (firsts f n) (by rw [firsts_len]; exact hs)
  have e : ∀ A c, Sim (rowI A (firsts f n).length c (itF (firsts f n))) (rowI A n c f) := fun A c => Sim.resl (firsts_len f n) fun t ht => by rw [firsts_get f n t ht]
  have e' : ∀ A c, Sim (rowI A n c f) (rowI A (firsts f n).length c (itF (firsts f n))) := fun A c => Sim.resl (firsts_len f n).symm fun t ht => by rw [firsts_len] at ht; rw [firsts_get f n t ht]
  intro m w hm ha
  have h2 : Spec Try.prog 56 [rowI A n c f] (fun y => rowI (y.A 0) (firsts f n).length (y.c 0) (itF (firsts f n))) := h.sim ⟨e' A c, trivial⟩
  refine (h2 m w hm ha).mono ?_
  rintro en w' ⟨x, rfl, hok, hb⟩
  exact ⟨x, by rw [(e (x.A 0) (x.c 0)).1], (e (x.A 0) (x.c 0)).2.2 _ _ hok, hb⟩
end Go.Proofs.Ytkamdppnnhjajaa.Sym
