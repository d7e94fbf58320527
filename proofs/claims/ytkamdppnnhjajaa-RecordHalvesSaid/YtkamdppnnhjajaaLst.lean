/-
  Lists of things of several cells each, laid in a row. No program in sight.
-/
import Derived.Test.YtkamdppnnhjajaaBase
namespace Go.Proofs.Ytkamdppnnhjajaa
open Go.RowKit
set_option linter.unusedVariables false
set_option linter.unusedSimpArgs false

section
variable {α : Type} {enc : α → List Value} {k : Nat}
theorem flat_length (hk : ∀ x, (enc x).length = k) : ∀ l : List α, (l.flatMap enc).length = l.length * k
  | [] => by simp
  | x :: l => by simp [List.flatMap_cons, flat_length hk l, hk, Nat.add_mul, Nat.add_comm]
theorem flat_take (hk : ∀ x, (enc x).length = k) : ∀ (l : List α) (i : Nat), (l.flatMap enc).take (i * k) = (l.take i).flatMap enc
  | [], i => by simp
  | x :: l, 0 => by simp
  | x :: l, i + 1 => by
    have h := hk x
    rw [List.flatMap_cons, List.take_succ_cons, List.flatMap_cons, Nat.add_mul, Nat.one_mul, Nat.add_comm, ← h, List.take_length_add_append, h, flat_take hk l i]
theorem flat_drop (hk : ∀ x, (enc x).length = k) : ∀ (l : List α) (i : Nat), (l.flatMap enc).drop (i * k) = (l.drop i).flatMap enc
  | [], i => by simp
  | x :: l, 0 => by simp
  | x :: l, i + 1 => by
    have h := hk x
    rw [List.flatMap_cons, List.drop_succ_cons, Nat.add_mul, Nat.one_mul, Nat.add_comm, ← h, List.drop_length_add_append, h, flat_drop hk l i]
theorem flat_get (hk : ∀ x, (enc x).length = k) {l : List α} {i : Nat} {x : α} (hx : l[i]? = some x) {j : Nat} {u : Value} (hu : (enc x)[j]? = some u) : (l.flatMap enc)[i * k + j]? = some u := by
  have hj : j < k := by
    have := (List.getElem?_eq_some_iff.1 hu).1
    rw [hk] at this
    exact this
  have hd : (l.flatMap enc)[i * k + j]? = ((l.flatMap enc).drop (i * k))[j]? := by rw [List.getElem?_drop]
  have hi : i < l.length := (List.getElem?_eq_some_iff.1 hx).1
  have he : l[i] = x := (List.getElem?_eq_some_iff.1 hx).2
  rw [hd, flat_drop hk, List.drop_eq_getElem_cons hi, List.flatMap_cons, he, List.getElem?_append_left (by rw [hk]; exact hj)]
  exact hu
theorem flat_one (h1 : ∀ x, ∀ v ∈ enc x, v.oneCell' = true) (l : List α) : ∀ v ∈ l.flatMap enc, v.oneCell' = true := by
  intro v hv
  obtain ⟨x, _, hx⟩ := List.mem_flatMap.1 hv
  exact h1 x v hx
end

theorem Own.alloc {w : World} {B k n : Nat} {e : TypeId} {v : Value} {xs : List Value} (h : Own w B e k v n xs) (o : Obj) : Own (w.alloc o) B e k v n xs :=
  Own.keep h fun g hg => Below.heap_alloc _ _ _ (Own.lt h g hg).2
theorem Own.below {w w' : World} {B k n : Nat} {e : TypeId} {v : Value} {xs : List Value} (h : Own w B e k v n xs) (hb : Below w.heap.size w w') : Own w' B e k v n xs :=
  Own.keep h fun g hg => hb.block g (Own.lt h g hg).2
theorem Own.drewN {w : World} {B k n : Nat} {e : TypeId} {v : Value} {xs : List Value} (h : Own w B e k v n xs) (m : Nat) : Own (w.drewN m) B e k v n xs := h
theorem Own.drew {w : World} {B k n : Nat} {e : TypeId} {v : Value} {xs : List Value} (h : Own w B e k v n xs) : Own w.drew B e k v n xs := h

/-- the slice at A reads as the list l -/
def ReadsL {α : Type} (enc : α → List Value) (w : World) (B : Nat) (A : Option Addr) (l : List α) : Prop := RowAt w B A (l.flatMap enc)
/-- the call owns the slice v, which reads as the list l -/
def OwnL {α : Type} (enc : α → List Value) (k : Nat) (w : World) (B : Nat) (e : TypeId) (v : Value) (l : List α) : Prop := Own w B e k v l.length (l.flatMap enc)

section
variable {α : Type} {enc : α → List Value} {k : Nat} {w w' : World} {B : Nat} {A : Option Addr} {l : List α}
theorem ReadsL.nil : ReadsL enc w B A [] := RowAt.nil
theorem ReadsL.below (h : ReadsL enc w B A l) (hb : Below B w w') : ReadsL enc w' B A l := RowAt.below h hb
theorem ReadsL.more {B' : Nat} (h : ReadsL enc w B A l) (hB : B ≤ B') : ReadsL enc w B' A l := RowAt.more h hB
theorem ReadsL.at_ (h : ReadsL enc w B A l) (hk : ∀ x, (enc x).length = k) (hp : 0 < k) {i : Nat} (hi : i < l.length) :
    ∃ b off, A = some ⟨b, off, none⟩ ∧ b < B ∧ ∀ j u, (enc l[i])[j]? = some u → w.cell? ⟨b, off + i * k + j, none⟩ = some u := by
  obtain ⟨b, off, e, hb, hc⟩ := h (by rw [flat_length hk]; exact Nat.mul_pos (by omega) hp)
  exact ⟨b, off, e, hb, fun j u hu => by rw [Nat.add_assoc]; exact hc _ u (flat_get hk (List.getElem?_eq_getElem hi) hu)⟩
theorem ReadsL.take (h : ReadsL enc w B A l) (hk : ∀ x, (enc x).length = k) (n : Nat) : ReadsL enc w B A (l.take n) := by
  unfold ReadsL at h ⊢
  rw [← flat_take hk]
  exact RowAt.take h _
theorem ReadsL.cut (h : ReadsL enc w B A l) (hk : ∀ x, (enc x).length = k) {i c : Nat} (hc : l.length ≤ c) : ReadsL enc w B (if c = i then A else A.map (fun x => x.add (i * k))) (l.drop i) := by
  unfold ReadsL at h ⊢
  rw [← flat_drop hk]
  intro hp
  rw [List.length_drop, flat_length hk] at hp
  have hi : i < l.length := by
    refine Nat.lt_of_not_le fun hle => ?_
    have := Nat.mul_le_mul_right k hle
    omega
  obtain ⟨b, off, e, hb, hcell⟩ := h (by rw [flat_length hk]; omega)
  rw [if_neg (by omega), e]
  refine ⟨b, off + i * k, by simp [Addr.add_lit], hb, fun j u hu => ?_⟩
  rw [Nat.add_assoc]
  exact hcell _ u (by rwa [List.getElem?_drop] at hu)
theorem OwnL.reads {e : TypeId} {n c : Nat} (h : OwnL enc k w B e (.slice A n c) l) : ReadsL enc w w.heap.size A l := Own.row h A n c rfl
end
end Go.Proofs.Ytkamdppnnhjajaa
