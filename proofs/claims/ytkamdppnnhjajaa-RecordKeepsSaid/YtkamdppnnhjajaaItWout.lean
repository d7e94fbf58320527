/-
  record.Without, where it is done. Conditions: sixteen items at most.
-/
import Derived.Test.YtkamdppnnhjajaaItWith
namespace Go.Proofs.Ytkamdppnnhjajaa.Sym
open Go Go.RowKit
set_option linter.unusedVariables false
set_option linter.unusedSimpArgs false
set_option maxHeartbeats 1000000
set_option maxRecDepth 100000

structure Tail2 (w0 wq W5 V1 V2 V3 V4 V5 : World) (b : Nat) (A7 : Option Addr) (n7 c7 : Nat) (v1 : Value) (kd : Int) (nx : Lab) (mk : Int) (B : Nat) (xs : List Value) : Prop where
  e5 : wq.setCell ⟨b, 1, none⟩ (.slice A7 n7 c7) = W5
  r5 : wq.cell? ⟨b, 1, none⟩ = some v1
  f5 : wq.frozen? ⟨b, 1, none⟩ = false
  d0 : W5.cell? ⟨b, 0, none⟩ = some (.int .i64 kd)
  d1 : W5.cell? ⟨b, 1, none⟩ = some (.slice A7 n7 c7)
  d2 : W5.cell? ⟨b, 2, none⟩ = some (.int .i64 nx.len)
  d3 : W5.cell? ⟨b, 3, none⟩ = some (.int .u64 nx.bits)
  d4 : W5.cell? ⟨b, 4, none⟩ = some (.int .u64 mk)
  s0 : W5.setCell ⟨b + 1, 0, none⟩ (.int .i64 kd) = V1
  y0 : W5.cell? ⟨b + 1, 0, none⟩ = some (.int .i64 0)
  f70 : W5.frozen? ⟨b + 1, 0, none⟩ = false
  s1 : V1.setCell ⟨b + 1, 1, none⟩ (.slice A7 n7 c7) = V2
  y1 : V1.cell? ⟨b + 1, 1, none⟩ = some (.slice none 0 0)
  f71 : V1.frozen? ⟨b + 1, 1, none⟩ = false
  s2 : V2.setCell ⟨b + 1, 2, none⟩ (.int .i64 nx.len) = V3
  y2 : V2.cell? ⟨b + 1, 2, none⟩ = some (.int .i64 0)
  f72 : V2.frozen? ⟨b + 1, 2, none⟩ = false
  s3 : V3.setCell ⟨b + 1, 3, none⟩ (.int .u64 nx.bits) = V4
  y3 : V3.cell? ⟨b + 1, 3, none⟩ = some (.int .u64 0)
  f73 : V3.frozen? ⟨b + 1, 3, none⟩ = false
  s4 : V4.setCell ⟨b + 1, 4, none⟩ (.int .u64 mk) = V5
  y4 : V4.cell? ⟨b + 1, 4, none⟩ = some (.int .u64 0)
  f74 : V4.frozen? ⟨b + 1, 4, none⟩ = false
  z0 : V5.cell? ⟨b + 1, 0, none⟩ = some (.int .i64 kd)
  z1 : V5.cell? ⟨b + 1, 1, none⟩ = some (.slice A7 n7 c7)
  z2 : V5.cell? ⟨b + 1, 2, none⟩ = some (.int .i64 nx.len)
  z3 : V5.cell? ⟨b + 1, 3, none⟩ = some (.int .u64 nx.bits)
  z4 : V5.cell? ⟨b + 1, 4, none⟩ = some (.int .u64 mk)
  own : Own V5 B 53 2 (.slice A7 n7 c7) n7 xs
  below : Below w0.heap.size w0 V5
theorem tail2_ok {w0 wq : World} {b : Nat} {A7 : Option Addr} {n7 c7 : Nat} {kd : Int} {nx : Lab} {mk : Int} {B : Nat} {xs : List Value} {v1 : Value} (hx : wq.heap[b]? = some (.cells #[.int .i64 kd, v1, .int .i64 nx.len, .int .u64 nx.bits, .int .u64 mk] 27 (0, 0)))
    (hy : wq.heap[b + 1]? = some (.cells #[.int .i64 0, .slice none 0 0, .int .i64 0, .int .u64 0, .int .u64 0] 27 (0, 0))) (hO : Own wq B 53 2 (.slice A7 n7 c7) n7 xs) (hbB : b + 1 < B) (hw : w0.heap.size ≤ b) (hb : Below w0.heap.size w0 wq) : ∃ W5 V1 V2 V3 V4 V5, Tail2 w0 wq W5 V1 V2 V3 V4 V5 b A7 n7 c7 v1 kd nx mk B xs := by
  obtain ⟨W5, e5⟩ : ∃ W5, wq.setCell ⟨b, 1, none⟩ (.slice A7 n7 c7) = W5 := ⟨_, rfl⟩
  have hx5 : W5.heap[b]? = some (.cells #[.int .i64 kd, .slice A7 n7 c7, .int .i64 nx.len, .int .u64 nx.bits, .int .u64 mk] 27 (0, 0)) := by rw [← e5, heap_set_row _ _ _ _ _ _ _ hx]; rfl
  have hy5 := (heap_set_other wq b 1 (.slice A7 n7 c7) (b + 1) (by omega)).trans hy
  rw [e5] at hy5
  have hO5 : Own W5 B 53 2 (.slice A7 n7 c7) n7 xs := by rw [← e5]; exact own_setlow hO (by omega) _
  have hb5 : Below w0.heap.size w0 W5 := by rw [← e5]; exact hb.setCell (by exact hw) _
  obtain ⟨V1, g1⟩ : ∃ V, W5.setCell ⟨b + 1, 0, none⟩ (.int .i64 kd) = V := ⟨_, rfl⟩
  obtain ⟨V2, g2⟩ : ∃ V, V1.setCell ⟨b + 1, 1, none⟩ (.slice A7 n7 c7) = V := ⟨_, rfl⟩
  obtain ⟨V3, g3⟩ : ∃ V, V2.setCell ⟨b + 1, 2, none⟩ (.int .i64 nx.len) = V := ⟨_, rfl⟩
  obtain ⟨V4, g4⟩ : ∃ V, V3.setCell ⟨b + 1, 3, none⟩ (.int .u64 nx.bits) = V := ⟨_, rfl⟩
  obtain ⟨V5, g5⟩ : ∃ V, V4.setCell ⟨b + 1, 4, none⟩ (.int .u64 mk) = V := ⟨_, rfl⟩
  have k1 := heap_set_row W5 (b + 1) 0 _ (.int .i64 kd) _ _ hy5
  rw [g1] at k1
  have k2 := heap_set_row V1 (b + 1) 1 _ (.slice A7 n7 c7) _ _ k1
  rw [g2] at k2
  have k3 := heap_set_row V2 (b + 1) 2 _ (.int .i64 nx.len) _ _ k2
  rw [g3] at k3
  have k4 := heap_set_row V3 (b + 1) 3 _ (.int .u64 nx.bits) _ _ k3
  rw [g4] at k4
  have k5 : V5.heap[b + 1]? = some (.cells #[.int .i64 kd, .slice A7 n7 c7, .int .i64 nx.len, .int .u64 nx.bits, .int .u64 mk] 27 (0, 0)) := by rw [← g5]; exact heap_set_row _ _ _ _ _ _ _ k4
  refine ⟨W5, V1, V2, V3, V4, V5, e5, cell_of_row wq _ 1 _ _ _ hx, by simp [World.frozen?, hx], cell_of_row W5 _ 0 _ _ _ hx5, cell_of_row W5 _ 1 _ _ _ hx5, cell_of_row W5 _ 2 _ _ _ hx5, cell_of_row W5 _ 3 _ _ _ hx5, cell_of_row W5 _ 4 _ _ _ hx5, g1, cell_of_row W5 _ 0 _ _ _ hy5, by simp [World.frozen?, hy5], g2, cell_of_row V1 _ 1 _ _ _ k1, by simp [World.frozen?, k1], g3, cell_of_row V2 _ 2 _ _ _ k2, by simp [World.frozen?, k2], g4, cell_of_row V3 _ 3 _ _ _ k3, by simp [World.frozen?, k3], g5, cell_of_row V4 _ 4 _ _ _ k4, by simp [World.frozen?, k4], cell_of_row V5 _ 0 _ _ _ k5, cell_of_row V5 _ 1 _ _ _ k5, cell_of_row V5 _ 2 _ _ _ k5, cell_of_row V5 _ 3 _ _ _ k5, cell_of_row V5 _ 4 _ _ _ k5, ?_, ?_⟩
  · rw [← g5, ← g4, ← g3, ← g2, ← g1]
    exact own_setlow (own_setlow (own_setlow (own_setlow (own_setlow hO5 hbB _) hbB _) hbB _) hbB _) hbB _
  · rw [← g5, ← g4, ← g3, ← g2, ← g1]
    have hw1 : w0.heap.size ≤ b + 1 := by omega
    exact ((((hb5.setCell (by exact hw1) _).setCell (by exact hw1) _).setCell (by exact hw1) _).setCell (by exact hw1) _).setCell (by exact hw1) _
theorem without_c (w : World) (A : Option Addr) (c : Nat) (l : List Itm) (kd : Int) (nx : Lab) (mk : Int) (hnb : U64 nx.bits) (key : Int) (hr : Ok m0 w (rowI A l.length c (itF l))) (hi : isRF kd l.length (itF l) nx mk = true)
    (p : Nat) (hp : p = bsF (itF l) key 0 l.length) (hhh : hitF (itF l) key l.length p = true) (hpn : p < l.length) :
    Calls Try.prog 21 #[.agg #[.int .i64 kd, .slice A l.length c, .int .i64 nx.len, .int .u64 nx.bits, .int .u64 mk], .int .u64 key] w fun e w' => ∃ A' c', e = .returned (.tuple #[.agg #[.int .i64 kd, .slice A' (l.length - 1) c', .int .i64 nx.len, .int .u64 nx.bits, .int .u64 mk], .bool true]) ∧
      OwnL itmE 2 w' w.heap.size 53 (.slice A' (l.length - 1) c') (l.take p ++ l.drop (p + 1)) ∧ Below w.heap.size w w' := by
  have hn16 : l.length ≤ 16 := (isRF_kind hi).2.2.1
  obtain ⟨W1, hW1⟩ : ∃ W1, W1 = (w.alloc (.cells #[.int .i64 kd, .slice A l.length c, .int .i64 nx.len, .int .u64 nx.bits, .int .u64 mk] 27)).alloc (.cells #[.int .i64 0, .slice none 0 0, .int .i64 0, .int .u64 0, .int .u64 0] 27) := ⟨_, rfl⟩
  have hb1 : Below w.heap.size w W1 := by rw [hW1]; exact ((Below.refl _ _).alloc (Nat.le_refl _) _).alloc (by simp) _
  have hs1 : W1.heap.size = w.heap.size + 2 := by rw [hW1]; simp
  have hr1 : Ok m0 W1 (rowI A l.length c (itF l)) := hr.mono fun b o u h1 h2 => ⟨by rw [hb1.cell (World.block_lt_of_cell? w _ h1)]; exact h1, h2⟩
  have hrd := (its_reads hr)
  have hx0 : W1.heap[w.heap.size]? = some (.cells #[.int .i64 kd, .slice A l.length c, .int .i64 nx.len, .int .u64 nx.bits, .int .u64 mk] 27 (0, 0)) := by
    rw [hW1, Below.heap_alloc _ _ _ (by simp)]; exact heap_alloc_new w _
  have hx1 : W1.heap[w.heap.size + 1]? = some (.cells #[.int .i64 0, .slice none 0 0, .int .i64 0, .int .u64 0, .int .u64 0] 27 (0, 0)) := by
    have := heap_alloc_new (w.alloc (.cells #[.int .i64 kd, .slice A l.length c, .int .i64 nx.len, .int .u64 nx.bits, .int .u64 mk] 27)) (.cells #[.int .i64 0, .slice none 0 0, .int .i64 0, .int .u64 0, .int .u64 0] 27)
    rw [← hW1] at this
    simpa using this
  have HA : Calls Try.prog 55 #[.slice A l.length c, .int .u64 key] W1 fun e w' => e = .returned (.tuple #[.int .i64 (p : Int), .bool true]) ∧ Below W1.heap.size W1 w' := by
    refine (at_s A l.length c (itF l) (by omega) key m0 W1 (fun _ _ h => h.elim) (fun v hv => ?_)).mono ?_
    · simp only [List.mem_cons, List.not_mem_nil, or_false] at hv
      rcases hv with rfl | rfl
      · exact hr1
      · exact .int _ _
    · rintro e w' ⟨x, rfl, _, hb⟩
      refine ⟨?_, hb⟩
      rw [← hp, hhh]
      rfl
  have HI : ∀ w2, Below W1.heap.size W1 w2 → Calls Try.prog 15 #[.agg #[.int .i64 kd, .slice A l.length c, .int .i64 nx.len, .int .u64 nx.bits, .int .u64 mk]] w2 fun e w' => e = .returned (.bool true) ∧ Below w2.heap.size w2 w' := by
    intro w2 hb
    have hr2 : Ok m0 w2 (rowI A l.length c (itF l)) := hr1.mono fun b o u h1 h2 => ⟨by rw [hb.cell (World.block_lt_of_cell? W1 _ h1)]; exact h1, h2⟩
    refine (isR_s A l.length c (itF l) (by simp only [maxLen]; omega) kd nx mk hnb m0 w2 (fun _ _ h => h.elim) (fun v hv => ?_)).mono ?_
    · simp only [List.mem_cons, List.not_mem_nil, or_false] at hv
      subst hv
      refine .agg _ (fun v hv => ?_) (fun v hv => ?_)
      · simp only [List.mem_cons, List.not_mem_nil, or_false] at hv
        rcases hv with rfl | rfl | rfl | rfl | rfl <;> rfl
      · simp only [List.mem_cons, List.not_mem_nil, or_false] at hv
        rcases hv with rfl | rfl | rfl | rfl | rfl
        · exact .int _ _
        · exact hr2
        · exact .int _ _
        · exact .int _ _
        · exact .int _ _
    · rintro e w' ⟨x, rfl, _, hb⟩
      rw [hi]
      exact ⟨rfl, hb⟩
  have hW1' := hW1.symm
  clear hp hhh
  have o1 : W1.cell? ⟨w.heap.size, 1, none⟩ = some (.slice A l.length c) := cell_of_row W1 _ 1 _ _ _ hx0
  clear hW1 hr1
  go_enter Try.func21, Try.ntmps21
  go_wp2_with fail
  refine HA.mono ?_
  rintro e w2 ⟨rfl, hb2⟩
  have hx2 := (hb2.block _ (lt_of_heap hx0)).trans hx0
  have hy2 := (hb2.block _ (lt_of_heap hx1)).trans hx1
  have hB2 := hb1.trans (hb2.mono hb1.size)
  have p0 : w2.cell? ⟨w.heap.size, 0, none⟩ = some (.int .i64 kd) := cell_of_row w2 _ 0 _ _ _ hx2
  have p1 : w2.cell? ⟨w.heap.size, 1, none⟩ = some (.slice A l.length c) := cell_of_row w2 _ 1 _ _ _ hx2
  have p2 : w2.cell? ⟨w.heap.size, 2, none⟩ = some (.int .i64 nx.len) := cell_of_row w2 _ 2 _ _ _ hx2
  have p3 : w2.cell? ⟨w.heap.size, 3, none⟩ = some (.int .u64 nx.bits) := cell_of_row w2 _ 3 _ _ _ hx2
  have p4 : w2.cell? ⟨w.heap.size, 4, none⟩ = some (.int .u64 mk) := cell_of_row w2 _ 4 _ _ _ hx2
  have HI2 := HI w2 hb2
  clear HA HI hW1' o1
  go_wp2_with fail
  refine HI2.mono ?_
  rintro e w3 ⟨rfl, hb3⟩
  have hx3 := (hb3.block _ (lt_of_heap hx2)).trans hx2
  have hy3 := (hb3.block _ (lt_of_heap hy2)).trans hy2
  have hB3 := hB2.trans (hb3.mono hB2.size)
  have q1 : w3.cell? ⟨w.heap.size, 1, none⟩ = some (.slice A l.length c) := cell_of_row w3 _ 1 _ _ _ hx3
  have HC := clone_c w3 A c l ((hrd.below hB3).more hB3.size) (by omega)
  have hwp : IntKind.i64.wrap ((p : Int) + 1) = (p : Int) + 1 := wrap_in (by omega) (by omega)
  have hs3 : w.heap.size + 2 ≤ w3.heap.size := by have := hb2.size; have := hb3.size; omega
  clear HI2 p0 p1 p2 p3 p4
  go_wp2_with fail
  refine HC.mono ?_
  rintro e w4 ⟨v4, rfl, hO4, hb4⟩
  obtain ⟨A4, c4, rfl, hn4, hc4⟩ := Own.isSlice hO4
  have hx4 := (hb4.block _ (lt_of_heap hx3)).trans hx3
  have hy4 := (hb4.block _ (lt_of_heap hy3)).trans hy3
  have hB4 := hB3.trans (hb4.mono hB3.size)
  have HN := deleteI w4 w3.heap.size (.slice A4 l.length c4) l.length p (l.flatMap itmE) hO4 hpn (by omega) (flat_one itmE_one l)
  have HK : Hid (∀ w7 A7 c7, Own w7 w3.heap.size 53 2 (.slice A7 (l.length - 1) c7) (l.length - 1) ((l.flatMap itmE).take (p * 2) ++ (l.flatMap itmE).drop ((p + 1) * 2)) → w4.grownBy w7 (ownB (.slice A4 l.length c4)) →
      ∃ W5 V1 V2 V3 V4 V5, Tail2 w w7 W5 V1 V2 V3 V4 V5 w.heap.size A7 (l.length - 1) c7 (.slice A l.length c) kd nx mk w3.heap.size ((l.flatMap itmE).take (p * 2) ++ (l.flatMap itmE).drop ((p + 1) * 2))) := by
    intro w7 A7 c7 h7 hG
    have hown : ∀ k, k < w3.heap.size → ¬ ownB (.slice A4 l.length c4) = some k := fun k hk he => by have := (Own.lt hO4 _ he).1; omega
    refine tail2_ok ((hG.block _ (lt_of_heap hx4) (fun e => hown _ (by omega) e.symm)).trans hx4) ((hG.block _ (lt_of_heap hy4) (fun e => hown _ (by omega) e.symm)).trans hy4) h7 (by omega) (Nat.le_refl _) (hB4.grown hG hB4.size fun k hk => ?_)
    have := (Own.lt hO4 _ hk).1; omega
  clear HC hx4 hy4 hO4 hb4 hB4 hx3 hy3 hB3 q1
  go_wp2_with fail
  refine HN.mono ?_
  rintro e w7 ⟨v7, rfl, h7, hG, _⟩
  obtain ⟨A7, c7, rfl, _, hc7m⟩ := Own.isSlice h7
  obtain ⟨W5, V1, V2, V3, V4, V5, T⟩ := HK.out w7 A7 c7 h7 hG
  clear HN HK h7 hG
  have e5 := T.e5
  have r5 := T.r5
  have f5 := T.f5
  have d0 := T.d0
  have d1 := T.d1
  have d2 := T.d2
  have d3 := T.d3
  have d4 := T.d4
  have s0 := T.s0
  have y0 := T.y0
  have f70 := T.f70
  have s1 := T.s1
  have y1 := T.y1
  have f71 := T.f71
  have s2 := T.s2
  have y2 := T.y2
  have f72 := T.f72
  have s3 := T.s3
  have y3 := T.y3
  have f73 := T.f73
  have s4 := T.s4
  have y4 := T.y4
  have f74 := T.f74
  have z0 := T.z0
  have z1 := T.z1
  have z2 := T.z2
  have z3 := T.z3
  have z4 := T.z4
  have hT := Lib.hid (And.intro T.own T.below)
  clear T
  go_wp2_with fail
  refine ⟨rfl, .tuple #[.agg #[.int .i64 kd, .slice A7 (l.length - 1) c7, .int .i64 nx.len, .int .u64 nx.bits, .int .u64 mk], .bool true], ?_, ?_⟩
  · simp [results, Try.results21, go_sem, z0, z1, z2, z3, z4]
  have hlen : (l.take p ++ l.drop (p + 1)).length = l.length - 1 := by simp; omega
  refine ⟨A7, c7, rfl, ?_, hT.out.2⟩
  have h1 := hT.out.1
  unfold OwnL
  rw [hlen, List.flatMap_append, ← flat_take itmE_len, ← flat_drop itmE_len]
  exact Own.mono h1 (by omega)
end Go.Proofs.Ytkamdppnnhjajaa.Sym
