/-
  The program's cell.Merge. Conditions: fewer marks than 2^31.
-/
import Derived.Test.YtfddpcmlmcohjaaRefC3
namespace Go.Proofs.Ytfddpcmlmcohjaa
open Go.RowKit
set_option linter.unusedVariables false
set_option linter.unusedSimpArgs false
set_option maxHeartbeats 2000000
set_option maxRecDepth 100000

theorem stepM_good {a out : List Mark} {m : Mark} (h : Good out) (hm : markOk m) : Good (stepM a out m) := by
  unfold stepM
  split
  · exact putM_good h hm
  · split
    · exact putM_good h hm
    · exact h
theorem fold_good {a : List Mark} : ∀ (l : List Mark) (out : List Mark), Good out → (∀ m ∈ l, markOk m) → Good (l.foldl (stepM a) out)
  | [], out, h, _ => h
  | m :: l, out, h, hm => by
    rw [List.foldl_cons]
    exact fold_good l _ (stepM_good h (hm m (by simp))) (fun x hx => hm x (by simp [hx]))
def MerP (w : World) (r : Cel × Int) (e : Ending) (w' : World) : Prop :=
  ∃ A k, e = .returned (.tuple #[CelV r.1 A k, .int .i64 r.2]) ∧ CelR w' A k r.1 ∧ Below w.heap.size w w'

/-- the three blocks that Merge makes first -/
structure MeF (w : World) (n : Nat) (A1 : Option Addr) (k1 : Nat) (a : Cel) (A2 : Option Addr) (k2 : Nat) (b : Cel) : Prop where
  b0 : w.heap[n]? = some (.cells #[.int .u64 a.version, .bool a.has, .string a.val, .slice A1 a.marks.length k1] 41 (0, 0))
  b1 : w.heap[n + 1]? = some (.cells #[.int .u64 b.version, .bool b.has, .string b.val, .slice A2 b.marks.length k2] 41 (0, 0))
  b2 : w.heap[n + 2]? = some (.cells #[.int .u64 0, .bool false, .string ⟨#[]⟩, .slice none 0 0] 41 (0, 0))
section
variable {w w' : World} {n : Nat} {A1 A2 : Option Addr} {k1 k2 : Nat} {a b : Cel}
theorem MeF.below (h : MeF w n A1 k1 a A2 k2 b) (hb : Below w.heap.size w w') : MeF w' n A1 k1 a A2 k2 b :=
  ⟨(hb.block _ (lt_of_heap h.b0)).trans h.b0, (hb.block _ (lt_of_heap h.b1)).trans h.b1, (hb.block _ (lt_of_heap h.b2)).trans h.b2⟩
theorem MeF.keep (h : MeF w n A1 k1 a A2 k2 b) (hk : ∀ i, i < 3 → w'.heap[n + i]? = w.heap[n + i]?) : MeF w' n A1 k1 a A2 k2 b :=
  ⟨(hk 0 (by decide)).trans h.b0, (hk 1 (by decide)).trans h.b1, (hk 2 (by decide)).trans h.b2⟩
theorem MeF.a0 (h : MeF w n A1 k1 a A2 k2 b) : w.cell? ⟨n, 0, none⟩ = some (.int .u64 a.version) := cell_of_row w _ 0 _ _ _ h.b0
theorem MeF.a1 (h : MeF w n A1 k1 a A2 k2 b) : w.cell? ⟨n, 1, none⟩ = some (.bool a.has) := cell_of_row w _ 1 _ _ _ h.b0
theorem MeF.a2 (h : MeF w n A1 k1 a A2 k2 b) : w.cell? ⟨n, 2, none⟩ = some (.string a.val) := cell_of_row w _ 2 _ _ _ h.b0
theorem MeF.a3 (h : MeF w n A1 k1 a A2 k2 b) : w.cell? ⟨n, 3, none⟩ = some (.slice A1 a.marks.length k1) := cell_of_row w _ 3 _ _ _ h.b0
theorem MeF.c0 (h : MeF w n A1 k1 a A2 k2 b) : w.cell? ⟨n + 1, 0, none⟩ = some (.int .u64 b.version) := cell_of_row w _ 0 _ _ _ h.b1
theorem MeF.c1 (h : MeF w n A1 k1 a A2 k2 b) : w.cell? ⟨n + 1, 1, none⟩ = some (.bool b.has) := cell_of_row w _ 1 _ _ _ h.b1
theorem MeF.c2 (h : MeF w n A1 k1 a A2 k2 b) : w.cell? ⟨n + 1, 2, none⟩ = some (.string b.val) := cell_of_row w _ 2 _ _ _ h.b1
theorem MeF.c3 (h : MeF w n A1 k1 a A2 k2 b) : w.cell? ⟨n + 1, 3, none⟩ = some (.slice A2 b.marks.length k2) := cell_of_row w _ 3 _ _ _ h.b1
theorem MeF.r0 (h : MeF w n A1 k1 a A2 k2 b) : w.cell? ⟨n + 2, 0, none⟩ = some (.int .u64 0) := cell_of_row w _ 0 _ _ _ h.b2
theorem MeF.r1 (h : MeF w n A1 k1 a A2 k2 b) : w.cell? ⟨n + 2, 1, none⟩ = some (.bool false) := cell_of_row w _ 1 _ _ _ h.b2
theorem MeF.r2 (h : MeF w n A1 k1 a A2 k2 b) : w.cell? ⟨n + 2, 2, none⟩ = some (.string ⟨#[]⟩) := cell_of_row w _ 2 _ _ _ h.b2
theorem MeF.r3 (h : MeF w n A1 k1 a A2 k2 b) : w.cell? ⟨n + 2, 3, none⟩ = some (.slice none 0 0) := cell_of_row w _ 3 _ _ _ h.b2
theorem MeF.f2 (h : MeF w n A1 k1 a A2 k2 b) (j : Nat) : w.frozen? ⟨n + 2, j, none⟩ = false := by simp [World.frozen?, h.b2]
end
theorem meStart (w : World) (A1 A2 : Option Addr) (k1 k2 : Nat) (a b : Cel) : ∃ W1, ((w.alloc (.cells #[.int .u64 a.version, .bool a.has, .string a.val, .slice A1 a.marks.length k1] 41)).alloc (.cells #[.int .u64 b.version, .bool b.has, .string b.val, .slice A2 b.marks.length k2] 41)).alloc (.cells #[.int .u64 0, .bool false, .string ⟨#[]⟩, .slice none 0 0] 41) = W1 ∧
    MeF W1 w.heap.size A1 k1 a A2 k2 b ∧ Below w.heap.size w W1 := by
  refine ⟨_, rfl, ⟨?_, ?_, ?_⟩, (((Below.refl _ _).alloc (Nat.le_refl _) _).alloc (by simp) _).alloc (by simp; omega) _⟩
  · rw [Below.heap_alloc _ _ _ (by simp; omega), Below.heap_alloc _ _ _ (by simp), heap_alloc_new]
  · rw [Below.heap_alloc _ _ _ (by simp)]
    have := heap_alloc_new (w.alloc (.cells #[.int .u64 a.version, .bool a.has, .string a.val, .slice A1 a.marks.length k1] 41)) (.cells #[.int .u64 b.version, .bool b.has, .string b.val, .slice A2 b.marks.length k2] 41)
    simpa using this
  · have := heap_alloc_new ((w.alloc (.cells #[.int .u64 a.version, .bool a.has, .string a.val, .slice A1 a.marks.length k1] 41)).alloc (.cells #[.int .u64 b.version, .bool b.has, .string b.val, .slice A2 b.marks.length k2] 41)) (.cells #[.int .u64 0, .bool false, .string ⟨#[]⟩, .slice none 0 0] 41)
    simpa using this

theorem mer_bad1 (w : World) (A1 A2 : Option Addr) (k1 k2 : Nat) (a b : Cel) (ha : CelR w A1 k1 a) (hb : CelR w A2 k2 b) (hx : ¬ IsC a) :
    Calls Try.prog 31 #[CelV a A1 k1, CelV b A2 k2] w (MerP w (zeroCel, 1)) := by
  obtain ⟨W1, hW1, hf1, hb1⟩ := meStart w A1 A2 k1 k2 a b
  have HI := isC_c W1 A1 k1 a (ha.below hb1)
  rw [decide_eq_false hx] at HI
  unfold CelV at *
  have a0 := hf1.a0; have a1 := hf1.a1; have a2 := hf1.a2; have a3 := hf1.a3
  clear hx ha hb
  go_enter Try.func31, Try.ntmps31
  go_wp2_with fail
  refine HI.mono ?_
  rintro e w2 ⟨rfl, hb2⟩
  have hf2 := hf1.below hb2
  have HF := Lib.hid (hb1.trans (hb2.mono hb1.size))
  have hr0 := hf2.r0; have hr1 := hf2.r1; have hr2 := hf2.r2; have hr3 := hf2.r3
  have hg2 := hf2.f2
  clear hf2 hb2 hb1 hf1 HI
  go_wp2_with fail
  refine bodyPost_ret (v := .tuple #[CelV zeroCel none 0, .int .i64 1]) ?_ rfl ⟨none, 0, rfl, ⟨ReadsL.nil, Nat.le_refl _, by decide, by decide, by decide⟩, ?_⟩
  · simp [results, Try.results31, go_sem, hr0, hr1, hr2, hr3, hg2]
    first | rfl | exact ⟨rfl, rfl⟩
  · (repeat (first | with_reducible exact HF.out | with_reducible refine Below.drew ?_ | with_reducible refine below_drewN ?_ _ | with_reducible refine Below.setCell ?_ (by first | (show _ ≤ _; omega) | (simp; omega) | exact Nat.le_refl _ | simp) _ | with_reducible refine Below.alloc ?_ (by first | (show _ ≤ _; omega) | (simp; omega) | simp) _)); done
theorem mer_bad2 (w : World) (A1 A2 : Option Addr) (k1 k2 : Nat) (a b : Cel) (ha : CelR w A1 k1 a) (hb : CelR w A2 k2 b) (hx0 : IsC a) (hx : ¬ IsC b) :
    Calls Try.prog 31 #[CelV a A1 k1, CelV b A2 k2] w (MerP w (zeroCel, 1)) := by
  obtain ⟨W1, hW1, hf1, hb1⟩ := meStart w A1 A2 k1 k2 a b
  have HI := isC_c W1 A1 k1 a (ha.below hb1)
  rw [decide_eq_true hx0] at HI
  have HJ := fun w' (h : Below w.heap.size w w') => isC_c w' A2 k2 b (hb.below h)
  rw [decide_eq_false hx] at HJ
  unfold CelV at *
  have a0 := hf1.a0; have a1 := hf1.a1; have a2 := hf1.a2; have a3 := hf1.a3
  clear hx ha hb hx0
  go_enter Try.func31, Try.ntmps31
  go_wp2_with fail
  refine HI.mono ?_
  rintro e w2 ⟨rfl, hb2⟩
  have hf2 := hf1.below hb2
  have HF := Lib.hid (And.intro hf2 (hb1.trans (hb2.mono hb1.size)))
  have c0 := hf2.c0; have c1 := hf2.c1; have c2 := hf2.c2; have c3 := hf2.c3
  clear hf2 hb2 hb1 hf1 HI a0 a1 a2 a3
  go_wp2_with fail
  refine (HJ _ HF.out.2).mono ?_
  rintro e w3 ⟨rfl, hb3⟩
  have hf3 := HF.out.1.below hb3
  have HF2 := Lib.hid (HF.out.2.trans (hb3.mono HF.out.2.size))
  have hr0 := hf3.r0; have hr1 := hf3.r1; have hr2 := hf3.r2; have hr3 := hf3.r3
  have hg2 := hf3.f2
  clear hf3 hb3 HF HJ c0 c1 c2 c3
  go_wp2_with fail
  refine bodyPost_ret (v := .tuple #[CelV zeroCel none 0, .int .i64 1]) ?_ rfl ⟨none, 0, rfl, ⟨ReadsL.nil, Nat.le_refl _, by decide, by decide, by decide⟩, ?_⟩
  · simp [results, Try.results31, go_sem, hr0, hr1, hr2, hr3, hg2]
    first | rfl | exact ⟨rfl, rfl⟩
  · (repeat (first | with_reducible exact HF2.out | with_reducible refine Below.drew ?_ | with_reducible refine below_drewN ?_ _ | with_reducible refine Below.setCell ?_ (by first | (show _ ≤ _; omega) | (simp; omega) | exact Nat.le_refl _ | simp) _ | with_reducible refine Below.alloc ?_ (by first | (show _ ≤ _; omega) | (simp; omega) | simp) _)); done

/-- what a round of Merge finds: the three blocks, the cell that is made (at block cb), and its marks -/
structure MeL (w wr : World) (A1 : Option Addr) (k1 : Nat) (a : Cel) (A2 : Option Addr) (k2 : Nat) (b : Cel) (cb : Nat) (q0 q1 q2 v : Value) (out : List Mark) : Prop where
  me : MeF wr w.heap.size A1 k1 a A2 k2 b
  blk : wr.heap[cb]? = some (.cells #[q0, q1, q2, v] 41 (0, 0))
  own : ∃ B, cb < B ∧ OwnL Mark.enc 6 wr B 55 v out
  le : w.heap.size + 2 < cb
  good : Good out
  below : Below w.heap.size w wr
section
variable {w wr w' : World} {A1 A2 : Option Addr} {k1 k2 cb : Nat} {a b : Cel} {q0 q1 q2 v v' : Value} {out out' : List Mark}
theorem MeL.store (h : MeF wr w.heap.size A1 k1 a A2 k2 b ∧ wr.heap[cb]? = some (.cells #[q0, q1, q2, v] 41 (0, 0)) ∧ w.heap.size + 2 < cb ∧ Below w.heap.size w wr) (hb : Below wr.heap.size wr w') {B : Nat} (hB : cb < B) (hO : OwnL Mark.enc 6 w' B 55 v' out') (hg : Good out') :
    MeL w (w'.setCell ⟨cb, 3, none⟩ v') A1 k1 a A2 k2 b cb q0 q1 q2 v' out' := by
  obtain ⟨h1, h2, h3, h4⟩ := h
  have hf := h1.below hb
  have hx := (hb.block _ (lt_of_heap h2)).trans h2
  refine ⟨hf.keep fun i hi => heap_set_other _ _ _ _ _ (by omega), heap_set_row _ _ 3 _ v' _ _ hx, ⟨B, hB, Own.setlow hO hB v'⟩, h3, hg, Below.setCell (Below.keepb h4 h4.size hb) (show w.heap.size ≤ cb by omega) v'⟩
theorem MeF.alloc (h : MeF wr w.heap.size A1 k1 a A2 k2 b) (hb : Below w.heap.size w wr) (x0 x1 x2 x3 : Value) :
    MeF (wr.alloc (.cells #[x0, x1, x2, x3] 41)) w.heap.size A1 k1 a A2 k2 b ∧ (wr.alloc (.cells #[x0, x1, x2, x3] 41)).heap[wr.heap.size]? = some (.cells #[x0, x1, x2, x3] 41 (0, 0)) ∧ w.heap.size + 2 < wr.heap.size ∧ Below w.heap.size w (wr.alloc (.cells #[x0, x1, x2, x3] 41)) :=
  ⟨h.below ((Below.refl _ _).alloc (Nat.le_refl _) _), heap_alloc_new wr _, lt_of_heap h.b2, hb.alloc hb.size _⟩
theorem MeL.four (h : MeL w wr A1 k1 a A2 k2 b cb q0 q1 q2 v out) : MeF wr w.heap.size A1 k1 a A2 k2 b ∧ wr.heap[cb]? = some (.cells #[q0, q1, q2, v] 41 (0, 0)) ∧ w.heap.size + 2 < cb ∧ Below w.heap.size w wr := ⟨h.me, h.blk, h.le, h.below⟩
theorem MeL.drewN (h : MeL w wr A1 k1 a A2 k2 b cb q0 q1 q2 v out) (n : Nat) : MeL w (wr.drewN n) A1 k1 a A2 k2 b cb q0 q1 q2 v out :=
  ⟨⟨h.me.b0, h.me.b1, h.me.b2⟩, h.blk, h.own, h.le, h.good, below_drewN h.below n⟩
theorem MeL.more (h : MeL w wr A1 k1 a A2 k2 b cb q0 q1 q2 v out) (hb : Below wr.heap.size wr w') : MeL w w' A1 k1 a A2 k2 b cb q0 q1 q2 v out := by
  obtain ⟨B, hB, hO⟩ := h.own
  exact ⟨h.me.below hb, (hb.block _ (lt_of_heap h.blk)).trans h.blk, ⟨B, hB, Own.below hO hb⟩, h.le, h.good, Below.keepb h.below h.below.size hb⟩
end

end Go.Proofs.Ytfddpcmlmcohjaa
