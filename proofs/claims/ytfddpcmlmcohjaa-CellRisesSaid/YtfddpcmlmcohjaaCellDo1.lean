/-
  The program's cell.Do. Conditions: fewer marks than 2^31.
-/
import Derived.Test.YtfddpcmlmcohjaaCell5
namespace Go.Proofs.Ytfddpcmlmcohjaa
open Go.RowKit
set_option linter.unusedVariables false
set_option linter.unusedSimpArgs false
set_option maxHeartbeats 1000000
set_option maxRecDepth 100000

def AnsV (a : Ans) : Value := .agg #[.int .i64 a.code, .int .u64 a.version, .bool a.has, .string a.val]
def DoP (w : World) (r : Cel × Ans × Bool × Int) (e : Ending) (w' : World) : Prop :=
  ∃ A k, e = .returned (.tuple #[CelV r.1 A k, AnsV r.2.1, .bool r.2.2.1, .int .i64 r.2.2.2]) ∧ CelR w' A k r.1 ∧ Below w.heap.size w w'

/-- the four blocks that Do makes -/
structure DoF (w : World) (n : Nat) (A : Option Addr) (k : Nat) (c : Cel) (o : Opr) : Prop where
  b0 : w.heap[n]? = some (.cells #[.int .u64 c.version, .bool c.has, .string c.val, .slice A c.marks.length k] 41 (0, 0))
  b1 : w.heap[n + 1]? = some (.cells #[.int .i64 o.client, .int .u64 o.req, .int .i64 o.kind, .int .u64 o.version, .string o.val] 43 (0, 0))
  b2 : w.heap[n + 2]? = some (.cells #[.int .u64 0, .bool false, .string ⟨#[]⟩, .slice none 0 0] 41 (0, 0))
  b3 : w.heap[n + 3]? = some (.cells #[.int .i64 0, .int .u64 0, .bool false, .string ⟨#[]⟩] 47 (0, 0))
theorem DoF.below {w w' : World} {n : Nat} {A : Option Addr} {k : Nat} {c : Cel} {o : Opr} (h : DoF w n A k c o) (hb : Below w.heap.size w w') : DoF w' n A k c o :=
  ⟨(hb.block _ (lt_of_heap h.b0)).trans h.b0, (hb.block _ (lt_of_heap h.b1)).trans h.b1, (hb.block _ (lt_of_heap h.b2)).trans h.b2, (hb.block _ (lt_of_heap h.b3)).trans h.b3⟩
section
variable {w : World} {n : Nat} {A : Option Addr} {k : Nat} {c : Cel} {o : Opr}
theorem DoF.c0 (h : DoF w n A k c o) : w.cell? ⟨n, 0, none⟩ = some (.int .u64 c.version) := cell_of_row w _ 0 _ _ _ h.b0
theorem DoF.c1 (h : DoF w n A k c o) : w.cell? ⟨n, 1, none⟩ = some (.bool c.has) := cell_of_row w _ 1 _ _ _ h.b0
theorem DoF.c2 (h : DoF w n A k c o) : w.cell? ⟨n, 2, none⟩ = some (.string c.val) := cell_of_row w _ 2 _ _ _ h.b0
theorem DoF.c3 (h : DoF w n A k c o) : w.cell? ⟨n, 3, none⟩ = some (.slice A c.marks.length k) := cell_of_row w _ 3 _ _ _ h.b0
theorem DoF.o0 (h : DoF w n A k c o) : w.cell? ⟨n + 1, 0, none⟩ = some (.int .i64 o.client) := cell_of_row w _ 0 _ _ _ h.b1
theorem DoF.o1 (h : DoF w n A k c o) : w.cell? ⟨n + 1, 1, none⟩ = some (.int .u64 o.req) := cell_of_row w _ 1 _ _ _ h.b1
theorem DoF.o2 (h : DoF w n A k c o) : w.cell? ⟨n + 1, 2, none⟩ = some (.int .i64 o.kind) := cell_of_row w _ 2 _ _ _ h.b1
theorem DoF.o3 (h : DoF w n A k c o) : w.cell? ⟨n + 1, 3, none⟩ = some (.int .u64 o.version) := cell_of_row w _ 3 _ _ _ h.b1
theorem DoF.o4 (h : DoF w n A k c o) : w.cell? ⟨n + 1, 4, none⟩ = some (.string o.val) := cell_of_row w _ 4 _ _ _ h.b1
theorem DoF.r0 (h : DoF w n A k c o) : w.cell? ⟨n + 2, 0, none⟩ = some (.int .u64 0) := cell_of_row w _ 0 _ _ _ h.b2
theorem DoF.r1 (h : DoF w n A k c o) : w.cell? ⟨n + 2, 1, none⟩ = some (.bool false) := cell_of_row w _ 1 _ _ _ h.b2
theorem DoF.r2 (h : DoF w n A k c o) : w.cell? ⟨n + 2, 2, none⟩ = some (.string ⟨#[]⟩) := cell_of_row w _ 2 _ _ _ h.b2
theorem DoF.r3 (h : DoF w n A k c o) : w.cell? ⟨n + 2, 3, none⟩ = some (.slice none 0 0) := cell_of_row w _ 3 _ _ _ h.b2
theorem DoF.s0 (h : DoF w n A k c o) : w.cell? ⟨n + 3, 0, none⟩ = some (.int .i64 0) := cell_of_row w _ 0 _ _ _ h.b3
theorem DoF.s1 (h : DoF w n A k c o) : w.cell? ⟨n + 3, 1, none⟩ = some (.int .u64 0) := cell_of_row w _ 1 _ _ _ h.b3
theorem DoF.s2 (h : DoF w n A k c o) : w.cell? ⟨n + 3, 2, none⟩ = some (.bool false) := cell_of_row w _ 2 _ _ _ h.b3
theorem DoF.s3 (h : DoF w n A k c o) : w.cell? ⟨n + 3, 3, none⟩ = some (.string ⟨#[]⟩) := cell_of_row w _ 3 _ _ _ h.b3
theorem DoF.f0 (h : DoF w n A k c o) (j : Nat) : w.frozen? ⟨n, j, none⟩ = false := by simp [World.frozen?, h.b0]
theorem DoF.f2 (h : DoF w n A k c o) (j : Nat) : w.frozen? ⟨n + 2, j, none⟩ = false := by simp [World.frozen?, h.b2]
theorem DoF.f3 (h : DoF w n A k c o) (j : Nat) : w.frozen? ⟨n + 3, j, none⟩ = false := by simp [World.frozen?, h.b3]
end
def doStart (w : World) (A : Option Addr) (k : Nat) (c : Cel) (o : Opr) : World :=
  (((w.alloc (.cells #[.int .u64 c.version, .bool c.has, .string c.val, .slice A c.marks.length k] 41)).alloc (.cells #[.int .i64 o.client, .int .u64 o.req, .int .i64 o.kind, .int .u64 o.version, .string o.val] 43)).alloc
    (.cells #[.int .u64 0, .bool false, .string ⟨#[]⟩, .slice none 0 0] 41)).alloc (.cells #[.int .i64 0, .int .u64 0, .bool false, .string ⟨#[]⟩] 47)
theorem doStart_below (w : World) (A : Option Addr) (k : Nat) (c : Cel) (o : Opr) : Below w.heap.size w (doStart w A k c o) :=
  ((((Below.refl _ _).alloc (Nat.le_refl _) _).alloc (by simp) _).alloc (by simp; omega) _).alloc (by simp; omega) _
theorem doStart_frame (w : World) (A : Option Addr) (k : Nat) (c : Cel) (o : Opr) : DoF (doStart w A k c o) w.heap.size A k c o := by
  unfold doStart
  refine ⟨?_, ?_, ?_, ?_⟩
  · rw [Below.heap_alloc _ _ _ (by simp; omega), Below.heap_alloc _ _ _ (by simp; omega), Below.heap_alloc _ _ _ (by simp), heap_alloc_new]
  · rw [Below.heap_alloc _ _ _ (by simp), Below.heap_alloc _ _ _ (by simp)]
    have := heap_alloc_new (w.alloc (.cells #[.int .u64 c.version, .bool c.has, .string c.val, .slice A c.marks.length k] 41)) (.cells #[.int .i64 o.client, .int .u64 o.req, .int .i64 o.kind, .int .u64 o.version, .string o.val] 43)
    simpa using this
  · rw [Below.heap_alloc _ _ _ (by simp)]
    have := heap_alloc_new ((w.alloc (.cells #[.int .u64 c.version, .bool c.has, .string c.val, .slice A c.marks.length k] 41)).alloc (.cells #[.int .i64 o.client, .int .u64 o.req, .int .i64 o.kind, .int .u64 o.version, .string o.val] 43)) (.cells #[.int .u64 0, .bool false, .string ⟨#[]⟩, .slice none 0 0] 41)
    simpa using this
  · have := heap_alloc_new (((w.alloc (.cells #[.int .u64 c.version, .bool c.has, .string c.val, .slice A c.marks.length k] 41)).alloc (.cells #[.int .i64 o.client, .int .u64 o.req, .int .i64 o.kind, .int .u64 o.version, .string o.val] 43)).alloc (.cells #[.int .u64 0, .bool false, .string ⟨#[]⟩, .slice none 0 0] 41)) (.cells #[.int .i64 0, .int .u64 0, .bool false, .string ⟨#[]⟩] 47)
    simpa using this

theorem do_bad1 (w : World) (A : Option Addr) (k : Nat) (c : Cel) (o : Opr) (h : CelR w A k c) (ho : o.val.size ≤ maxLen) (hx : ¬ IsC c) :
    Calls Try.prog 23 #[CelV c A k, OprV o] w (DoP w (zeroCel, zeroAns, false, 1)) := by
  have hf1 := doStart_frame w A k c o
  have hb1 := doStart_below w A k c o
  obtain ⟨W1, hW1⟩ : ∃ W1, W1 = doStart w A k c o := ⟨_, rfl⟩
  rw [← hW1] at hf1 hb1
  have HI := isC_c W1 A k c (h.below hb1)
  rw [decide_eq_false hx] at HI
  unfold CelV at HI
  unfold doStart at hW1
  clear h hx
  unfold CelV OprV
  go_enter Try.func23, Try.ntmps23
  go_wp2_with fail
  rw [← hW1]
  refine HI.mono ?_
  rintro e w2 ⟨rfl, hb2⟩
  have hf2 := hf1.below hb2
  have hB2 := hb1.trans (hb2.mono hb1.size)
  have HF := Lib.hid (And.intro hf2 hB2)
  have hr0 := hf2.r0; have hr1 := hf2.r1; have hr2 := hf2.r2; have hr3 := hf2.r3
  have hs0 := hf2.s0; have hs1 := hf2.s1; have hs2 := hf2.s2; have hs3 := hf2.s3
  have hg2 := hf2.f2
  have hg3 := hf2.f3
  clear HI hf1 hb1 hW1 hf2 hB2 hb2
  go_wp2_with fail
  refine bodyPost_ret (v := .tuple #[CelV zeroCel none 0, AnsV zeroAns, .bool false, .int .i64 1]) ?_ rfl ⟨none, 0, rfl, ⟨ReadsL.nil, Nat.le_refl _, by decide, by decide, by decide⟩, ?_⟩
  · simp [results, Try.results23, go_sem, hr0, hr1, hr2, hr3, hs0, hs1, hs2, hs3]
    exact ⟨rfl, rfl⟩
  · (repeat (first | with_reducible exact HF.out.2 | with_reducible refine Below.drew ?_ | with_reducible refine below_drewN ?_ _ | with_reducible refine Below.setCell ?_ (by first | (show _ ≤ _; omega) | (simp; omega) | exact Nat.le_refl _ | simp) _ | with_reducible refine Below.alloc ?_ (by first | (show _ ≤ _; omega) | (simp; omega) | simp) _)); done
theorem do_bad2 (w : World) (A : Option Addr) (k : Nat) (c : Cel) (o : Opr) (h : CelR w A k c) (ho : o.val.size ≤ maxLen) (hc : IsC c) (hx : ¬ IsO o) :
    Calls Try.prog 23 #[CelV c A k, OprV o] w (DoP w (zeroCel, zeroAns, false, 1)) := by
  have hf1 := doStart_frame w A k c o
  have hb1 := doStart_below w A k c o
  obtain ⟨W1, hW1⟩ : ∃ W1, W1 = doStart w A k c o := ⟨_, rfl⟩
  rw [← hW1] at hf1 hb1
  have HI := isC_c W1 A k c (h.below hb1)
  rw [decide_eq_true hc] at HI
  have HJ := fun w => isO_c o w ho
  rw [decide_eq_false hx] at HJ
  unfold OprV at HJ
  unfold CelV at HI
  unfold doStart at hW1
  clear h hx hc
  unfold CelV OprV
  go_enter Try.func23, Try.ntmps23
  go_wp2_with fail
  rw [← hW1]
  refine HI.mono ?_
  rintro e w2 ⟨rfl, hb2⟩
  have hf2 := hf1.below hb2
  have hB2 := hb1.trans (hb2.mono hb1.size)
  have HF := Lib.hid (And.intro hf2 hB2)
  have hr0 := hf2.r0; have hr1 := hf2.r1; have hr2 := hf2.r2; have hr3 := hf2.r3
  have hs0 := hf2.s0; have hs1 := hf2.s1; have hs2 := hf2.s2; have hs3 := hf2.s3
  have hg2 := hf2.f2
  have hg3 := hf2.f3
  have ho0 := hf2.o0; have ho1 := hf2.o1; have ho2 := hf2.o2; have ho3 := hf2.o3; have ho4 := hf2.o4
  clear HI hf1 hb1 hW1 hf2 hB2 hb2
  clear hr0 hr1 hr2 hr3 hs0 hs1 hs2 hs3 hg2 hg3
  go_wp2_with fail
  refine (HJ _).mono ?_
  rintro e w3 ⟨rfl, hb3⟩
  have hf3 := HF.out.1.below hb3
  have hB3 := HF.out.2.trans (hb3.mono HF.out.2.size)
  clear HF
  have HF := Lib.hid (And.intro hf3 hB3)
  have hr0 := hf3.r0; have hr1 := hf3.r1; have hr2 := hf3.r2; have hr3 := hf3.r3
  have hs0 := hf3.s0; have hs1 := hf3.s1; have hs2 := hf3.s2; have hs3 := hf3.s3
  have hg2 := hf3.f2
  have hg3 := hf3.f3
  clear ho0 ho1 ho2 ho3 ho4 hf3 hB3 hb3 HJ
  go_wp2_with fail
  refine bodyPost_ret (v := .tuple #[CelV zeroCel none 0, AnsV zeroAns, .bool false, .int .i64 1]) ?_ rfl ⟨none, 0, rfl, ⟨ReadsL.nil, Nat.le_refl _, by decide, by decide, by decide⟩, ?_⟩
  · simp [results, Try.results23, go_sem, hr0, hr1, hr2, hr3, hs0, hs1, hs2, hs3]
    exact ⟨rfl, rfl⟩
  · (repeat (first | with_reducible exact HF.out.2 | with_reducible refine Below.drew ?_ | with_reducible refine below_drewN ?_ _ | with_reducible refine Below.setCell ?_ (by first | (show _ ≤ _; omega) | (simp; omega) | exact Nat.le_refl _ | simp) _ | with_reducible refine Below.alloc ?_ (by first | (show _ ≤ _; omega) | (simp; omega) | simp) _)); done
end Go.Proofs.Ytfddpcmlmcohjaa
