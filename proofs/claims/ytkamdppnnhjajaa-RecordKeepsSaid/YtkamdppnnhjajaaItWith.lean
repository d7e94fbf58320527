/-
  record.With, where it is done. Conditions: sixteen items at most.
-/
import Derived.Test.YtkamdppnnhjajaaItOwn
namespace Go.Proofs.Ytkamdppnnhjajaa.Sym
open Go Go.RowKit
set_option linter.unusedVariables false
set_option linter.unusedSimpArgs false
set_option maxHeartbeats 1000000
set_option maxRecDepth 100000

theorem heap_set_other (w : World) (b j : Nat) (v : Value) (i : Nat) (h : b ≠ i) : (w.setCell ⟨b, j, none⟩ v).heap[i]? = w.heap[i]? := heap_setCell_other w ⟨b, j, none⟩ i v (fun e => h e.symm)
theorem heap_set_row (w : World) (b j : Nat) (r : Array Value) (v : Value) (t : TypeId) (m : Nat × Nat) (h : w.heap[b]? = some (.cells r t m)) : (w.setCell ⟨b, j, none⟩ v).heap[b]? = some (.cells (r.setIfInBounds j v) t m) := by
  rw [setCell_eq_setRow w b _ r _ _ _ h]; exact setRow_heap w b r _ _ _ h
theorem own_set1 {w : World} {B e k g n c : Nat} {xs : List Value} (h : Own w B e k (.slice (some ⟨g, 0, none⟩) n c) n xs) (hn : 0 < n) {j : Nat} (hj : j < n * k) (u : Value) :
    Own (w.setCell ⟨g, j, none⟩ u) B e k (.slice (some ⟨g, 0, none⟩) n c) n (xs.set j u) := by
  rcases h.2 with ⟨h0, _⟩ | ⟨g', cap, cur, hvv, hBg, hg, hnc, hc0, hcm, hcs, htake⟩
  · omega
  injection hvv with h1 _ h3
  injection h1 with h1; injection h1 with h1
  subst h1; subst h3
  refine ⟨by rw [List.length_set]; exact h.1, .inr ⟨g, c, cur.setIfInBounds j u, rfl, hBg, ?_, hnc, hc0, hcm, by simpa using hcs, ?_⟩⟩
  · rw [setCell_eq_setRow w g _ cur _ _ _ hg]; exact setRow_heap w g cur _ _ _ hg
  · rw [Array.toList_setIfInBounds, List.take_set, htake]
theorem own_setlow {w : World} {B e k n : Nat} {v : Value} {xs : List Value} (h : Own w B e k v n xs) {b j : Nat} (hb : b < B) (u : Value) : Own (w.setCell ⟨b, j, none⟩ u) B e k v n xs :=
  h.keep fun g hg => heap_set_other w b j u g (by have := (h.lt g hg).1; omega)
theorem flat_set (l : List Itm) (p : Nat) (v : ByteArray) (h : p < l.length) : (l.flatMap itmE).set (p * 2 + 1) (.string v) = (l.set p ⟨(itF l p).key, v⟩).flatMap itmE := by
  induction l generalizing p with
  | nil => simp at h
  | cons x l ih =>
    cases p with
    | zero => rfl
    | succ p =>
      have := ih p (by simpa using h)
      have e : (p + 1) * 2 + 1 = (p * 2 + 1) + 2 := by omega
      rw [e]
      simp only [List.set_cons_succ, List.flatMap_cons]
      show (.int .u64 x.key : Value) :: .string x.val :: (l.flatMap itmE).set (p * 2 + 1) (.string v) = .int .u64 x.key :: .string x.val :: _
      rw [this]
      rfl
structure Tail (w0 wq W5 W6 V1 V2 V3 V4 V5 : World) (b g n c p : Nat) (v1 : Value) (nx : Lab) (mk : Int) (val : ByteArray) (B : Nat) (xs : List Value) : Prop where
  e5 : wq.setCell ⟨b, 1, none⟩ (.slice (some ⟨g, 0, none⟩) n c) = W5
  r5 : wq.cell? ⟨b, 1, none⟩ = some v1
  f5 : wq.frozen? ⟨b, 1, none⟩ = false
  c5 : W5.cell? ⟨b, 1, none⟩ = some (.slice (some ⟨g, 0, none⟩) n c)
  e6 : W5.setCell ⟨g, p * 2 + 1, none⟩ (.string val) = W6
  r6 : ∃ u, W5.cell? ⟨g, p * 2 + 1, none⟩ = some u
  f6 : W5.frozen? ⟨g, p * 2 + 1, none⟩ = false
  d0 : W6.cell? ⟨b, 0, none⟩ = some (.int .i64 1)
  d1 : W6.cell? ⟨b, 1, none⟩ = some (.slice (some ⟨g, 0, none⟩) n c)
  d2 : W6.cell? ⟨b, 2, none⟩ = some (.int .i64 nx.len)
  d3 : W6.cell? ⟨b, 3, none⟩ = some (.int .u64 nx.bits)
  d4 : W6.cell? ⟨b, 4, none⟩ = some (.int .u64 mk)
  s0 : W6.setCell ⟨b + 1, 0, none⟩ (.int .i64 1) = V1
  y0 : W6.cell? ⟨b + 1, 0, none⟩ = some (.int .i64 0)
  f70 : W6.frozen? ⟨b + 1, 0, none⟩ = false
  s1 : V1.setCell ⟨b + 1, 1, none⟩ (.slice (some ⟨g, 0, none⟩) n c) = V2
  y1 : V1.cell? ⟨b + 1, 1, none⟩ = some (.slice none 0 0)
  f71 : V1.frozen? ⟨b + 1, 1, none⟩ = false
  s2 : V2.setCell ⟨b + 1, 2, none⟩ (.int .i64 nx.len) = V3
  y2 : V2.cell? ⟨b + 1, 2, none⟩ = some (.int .i64 0)
  f72 : V2.frozen? ⟨b + 1, 2, none⟩ = false
  s3 : V3.setCell ⟨b + 1, 3, none⟩ (.int .u64 nx.bits) = V4
  y3 : V3.cell? ⟨b + 1, 3, none⟩ = some (.int .u64 0)
  f73 : V3.frozen? ⟨b + 1, 3, none⟩ = false
  s4 : V4.setCell ⟨b + 1, 4, none⟩ (.int .u64 mk) = V5
  y4 : V4.cell? ⟨b + 1, 4, none⟩ = some (.int .u64 0)
  f74 : V4.frozen? ⟨b + 1, 4, none⟩ = false
  z0 : V5.cell? ⟨b + 1, 0, none⟩ = some (.int .i64 1)
  z1 : V5.cell? ⟨b + 1, 1, none⟩ = some (.slice (some ⟨g, 0, none⟩) n c)
  z2 : V5.cell? ⟨b + 1, 2, none⟩ = some (.int .i64 nx.len)
  z3 : V5.cell? ⟨b + 1, 3, none⟩ = some (.int .u64 nx.bits)
  z4 : V5.cell? ⟨b + 1, 4, none⟩ = some (.int .u64 mk)
  own : Own V5 B 53 2 (.slice (some ⟨g, 0, none⟩) n c) n (xs.set (p * 2 + 1) (.string val))
  below : Below w0.heap.size w0 V5
theorem tail_ok {w0 wq : World} {b g n c p : Nat} {nx : Lab} {mk : Int} {val : ByteArray} {B : Nat} {xs : List Value} {v1 : Value} (hx : wq.heap[b]? = some (.cells #[.int .i64 1, v1, .int .i64 nx.len, .int .u64 nx.bits, .int .u64 mk] 27 (0, 0)))
    (hy : wq.heap[b + 1]? = some (.cells #[.int .i64 0, .slice none 0 0, .int .i64 0, .int .u64 0, .int .u64 0] 27 (0, 0))) (hO : Own wq B 53 2 (.slice (some ⟨g, 0, none⟩) n c) n xs) (hbB : b + 1 < B) (hw : w0.heap.size ≤ b) (hp : p < n) (hb : Below w0.heap.size w0 wq) : ∃ W5 W6 V1 V2 V3 V4 V5, Tail w0 wq W5 W6 V1 V2 V3 V4 V5 b g n c p v1 nx mk val B xs := by
  obtain ⟨W5, e5⟩ : ∃ W5, wq.setCell ⟨b, 1, none⟩ (.slice (some ⟨g, 0, none⟩) n c) = W5 := ⟨_, rfl⟩
  obtain ⟨W6, e6⟩ : ∃ W6, W5.setCell ⟨g, p * 2 + 1, none⟩ (.string val) = W6 := ⟨_, rfl⟩
  have hc0 : c ≠ 0 := by obtain ⟨A, c', he, h1, _⟩ := hO.isSlice; injection he with _ _ e; omega
  have hgv : ownB (.slice (some ⟨g, 0, none⟩) n c) = some g := by simp [ownB, hc0]
  have hBg := (hO.lt g hgv).1
  have hx5 : W5.heap[b]? = some (.cells #[.int .i64 1, .slice (some ⟨g, 0, none⟩) n c, .int .i64 nx.len, .int .u64 nx.bits, .int .u64 mk] 27 (0, 0)) := by rw [← e5, heap_set_row _ _ _ _ _ _ _ hx]; rfl
  have hy5 := (heap_set_other wq b 1 (.slice (some ⟨g, 0, none⟩) n c) (b + 1) (by omega)).trans hy
  rw [e5] at hy5
  have hO5 : Own W5 B 53 2 (.slice (some ⟨g, 0, none⟩) n c) n xs := by rw [← e5]; exact own_setlow hO (by omega) _
  have hx6 := (heap_set_other W5 g (p * 2 + 1) (.string val) b (by omega)).trans hx5
  have hy6 := (heap_set_other W5 g (p * 2 + 1) (.string val) (b + 1) (by omega)).trans hy5
  rw [e6] at hx6 hy6
  have hO6 : Own W6 B 53 2 (.slice (some ⟨g, 0, none⟩) n c) n (xs.set (p * 2 + 1) (.string val)) := by rw [← e6]; exact own_set1 hO5 (by omega) (by omega) _
  obtain ⟨cur, hcur⟩ := hO5.elem g hgv
  have hgc := own_cells hO5 hgv (p * 2 + 1) _ (List.getElem?_eq_getElem (by rw [hO5.1]; omega))
  have hb6 : Below w0.heap.size w0 W6 := by rw [← e6, ← e5]; exact (hb.setCell (by exact hw) _).setCell (by show w0.heap.size ≤ g; omega) _
  obtain ⟨V1, g1⟩ : ∃ V, W6.setCell ⟨b + 1, 0, none⟩ (.int .i64 1) = V := ⟨_, rfl⟩
  obtain ⟨V2, g2⟩ : ∃ V, V1.setCell ⟨b + 1, 1, none⟩ (.slice (some ⟨g, 0, none⟩) n c) = V := ⟨_, rfl⟩
  obtain ⟨V3, g3⟩ : ∃ V, V2.setCell ⟨b + 1, 2, none⟩ (.int .i64 nx.len) = V := ⟨_, rfl⟩
  obtain ⟨V4, g4⟩ : ∃ V, V3.setCell ⟨b + 1, 3, none⟩ (.int .u64 nx.bits) = V := ⟨_, rfl⟩
  obtain ⟨V5, g5⟩ : ∃ V, V4.setCell ⟨b + 1, 4, none⟩ (.int .u64 mk) = V := ⟨_, rfl⟩
  have k1 := heap_set_row W6 (b + 1) 0 _ (.int .i64 1) _ _ hy6
  rw [g1] at k1
  have k2 := heap_set_row V1 (b + 1) 1 _ (.slice (some ⟨g, 0, none⟩) n c) _ _ k1
  rw [g2] at k2
  have k3 := heap_set_row V2 (b + 1) 2 _ (.int .i64 nx.len) _ _ k2
  rw [g3] at k3
  have k4 := heap_set_row V3 (b + 1) 3 _ (.int .u64 nx.bits) _ _ k3
  rw [g4] at k4
  have k5 : V5.heap[b + 1]? = some (.cells #[.int .i64 1, .slice (some ⟨g, 0, none⟩) n c, .int .i64 nx.len, .int .u64 nx.bits, .int .u64 mk] 27 (0, 0)) := by rw [← g5]; exact heap_set_row _ _ _ _ _ _ _ k4
  refine ⟨W5, W6, V1, V2, V3, V4, V5, e5, cell_of_row wq _ 1 _ _ _ hx, by simp [World.frozen?, hx], cell_of_row W5 _ 1 _ _ _ hx5, e6, ⟨_, hgc⟩, by simp [World.frozen?, hcur], cell_of_row W6 _ 0 _ _ _ hx6, cell_of_row W6 _ 1 _ _ _ hx6, cell_of_row W6 _ 2 _ _ _ hx6, cell_of_row W6 _ 3 _ _ _ hx6, cell_of_row W6 _ 4 _ _ _ hx6, g1, cell_of_row W6 _ 0 _ _ _ hy6, by simp [World.frozen?, hy6], g2, cell_of_row V1 _ 1 _ _ _ k1, by simp [World.frozen?, k1], g3, cell_of_row V2 _ 2 _ _ _ k2, by simp [World.frozen?, k2], g4, cell_of_row V3 _ 3 _ _ _ k3, by simp [World.frozen?, k3], g5, cell_of_row V4 _ 4 _ _ _ k4, by simp [World.frozen?, k4], cell_of_row V5 _ 0 _ _ _ k5, cell_of_row V5 _ 1 _ _ _ k5, cell_of_row V5 _ 2 _ _ _ k5, cell_of_row V5 _ 3 _ _ _ k5, cell_of_row V5 _ 4 _ _ _ k5, ?_, ?_⟩
  · rw [← g5, ← g4, ← g3, ← g2, ← g1]
    exact own_setlow (own_setlow (own_setlow (own_setlow (own_setlow hO6 hbB _) hbB _) hbB _) hbB _) hbB _
  · rw [← g5, ← g4, ← g3, ← g2, ← g1]
    have hw1 : w0.heap.size ≤ b + 1 := by omega
    exact ((((hb6.setCell (by exact hw1) _).setCell (by exact hw1) _).setCell (by exact hw1) _).setCell (by exact hw1) _).setCell (by exact hw1) _
def withL (l : List Itm) (p : Nat) (hh : Bool) (key : Int) (val : ByteArray) : List Itm := if hh then l.set p ⟨(itF l p).key, val⟩ else l.take p ++ [⟨key, val⟩] ++ l.drop p
theorem flat_ins (l : List Itm) (p : Nat) (key : Int) (v : ByteArray) (h : p ≤ l.length) : ((l.flatMap itmE).take (p * 2) ++ itmE ⟨key, ⟨#[]⟩⟩ ++ (l.flatMap itmE).drop (p * 2)).set (p * 2 + 1) (.string v) = (withL l p false key v).flatMap itmE := by
  have e : (l.flatMap itmE).take (p * 2) ++ itmE ⟨key, ⟨#[]⟩⟩ ++ (l.flatMap itmE).drop (p * 2) = (l.take p ++ [(⟨key, ⟨#[]⟩⟩ : Itm)] ++ l.drop p).flatMap itmE := by
    rw [flat_take itmE_len, flat_drop itmE_len]
    simp
  have hl : (l.take p).length = p := by rw [List.length_take]; omega
  rw [e, flat_set _ _ _ (by simp; omega)]
  congr 1
  have hk : itF (l.take p ++ [(⟨key, ⟨#[]⟩⟩ : Itm)] ++ l.drop p) p = ⟨key, ⟨#[]⟩⟩ := by
    simp [itF, List.getD, List.getElem?_append_right, hl]
  rw [hk]
  show _ = l.take p ++ [⟨key, v⟩] ++ l.drop p
  rw [List.append_assoc, List.append_assoc, List.set_append_right _ _ (by omega), hl, Nat.sub_self]
  rfl
theorem with_c (w : World) (A : Option Addr) (c : Nat) (l : List Itm) (nx : Lab) (mk : Int) (hnb : U64 nx.bits) (key : Int) (val : ByteArray) (hr : Ok m0 w (rowI A l.length c (itF l))) (hi : isRF 1 l.length (itF l) nx mk = true) (hv : val.size ≤ 64)
    (p : Nat) (hh : Bool) (hp : p = bsF (itF l) key 0 l.length) (hhh : hh = hitF (itF l) key l.length p) (hple : p ≤ l.length) (hpin : hh = true → p < l.length) (hfull : hh = true ∨ l.length ≠ 16) :
    Calls Try.prog 19 #[.agg #[.int .i64 1, .slice A l.length c, .int .i64 nx.len, .int .u64 nx.bits, .int .u64 mk], .int .u64 key, .string val] w fun e w' => ∃ A' c', e = .returned (.tuple #[.agg #[.int .i64 1, .slice A' (withL l p hh key val).length c', .int .i64 nx.len, .int .u64 nx.bits, .int .u64 mk], .int .i64 0]) ∧
      OwnL itmE 2 w' w.heap.size 53 (.slice A' (withL l p hh key val).length c') (withL l p hh key val) ∧ Below w.heap.size w w' := by
  have hn16 : l.length ≤ 16 := (isRF_kind hi).2.2.1
  obtain ⟨W1, hW1⟩ : ∃ W1, W1 = (w.alloc (.cells #[.int .i64 1, .slice A l.length c, .int .i64 nx.len, .int .u64 nx.bits, .int .u64 mk] 27)).alloc (.cells #[.int .i64 0, .slice none 0 0, .int .i64 0, .int .u64 0, .int .u64 0] 27) := ⟨_, rfl⟩
  have hb1 : Below w.heap.size w W1 := by rw [hW1]; exact ((Below.refl _ _).alloc (Nat.le_refl _) _).alloc (by simp) _
  have hs1 : W1.heap.size = w.heap.size + 2 := by rw [hW1]; simp
  have hr1 : Ok m0 W1 (rowI A l.length c (itF l)) := hr.mono fun b o u h1 h2 => ⟨by rw [hb1.cell (World.block_lt_of_cell? w _ h1)]; exact h1, h2⟩
  have hrd := (its_reads hr)
  have hx0 : W1.heap[w.heap.size]? = some (.cells #[.int .i64 1, .slice A l.length c, .int .i64 nx.len, .int .u64 nx.bits, .int .u64 mk] 27 (0, 0)) := by
    rw [hW1, Below.heap_alloc _ _ _ (by simp)]; exact heap_alloc_new w _
  have hx1 : W1.heap[w.heap.size + 1]? = some (.cells #[.int .i64 0, .slice none 0 0, .int .i64 0, .int .u64 0, .int .u64 0] 27 (0, 0)) := by
    have := heap_alloc_new (w.alloc (.cells #[.int .i64 1, .slice A l.length c, .int .i64 nx.len, .int .u64 nx.bits, .int .u64 mk] 27)) (.cells #[.int .i64 0, .slice none 0 0, .int .i64 0, .int .u64 0, .int .u64 0] 27)
    rw [← hW1] at this
    simpa using this
  have hargs : ∀ w2, Ok m0 w2 (rowI A l.length c (itF l)) → ∀ v ∈ [rowI A l.length c (itF l), .int .u64 key], Ok m0 w2 v := by
    intro w2 h v hv
    simp only [List.mem_cons, List.not_mem_nil, or_false] at hv
    rcases hv with rfl | rfl
    · exact h
    · exact .int _ _
  have HA : Calls Try.prog 55 #[.slice A l.length c, .int .u64 key] W1 fun e w' => e = .returned (.tuple #[.int .i64 (p : Int), .bool hh]) ∧ Below W1.heap.size W1 w' := by
    refine (at_s A l.length c (itF l) (by omega) key m0 W1 (fun _ _ h => h.elim) (hargs W1 hr1)).mono ?_
    rintro e w' ⟨x, rfl, _, hb⟩
    refine ⟨?_, hb⟩
    rw [← hp, ← hhh]
    rfl
  have HI : ∀ w2, Below W1.heap.size W1 w2 → Calls Try.prog 15 #[.agg #[.int .i64 1, .slice A l.length c, .int .i64 nx.len, .int .u64 nx.bits, .int .u64 mk]] w2 fun e w' => e = .returned (.bool true) ∧ Below w2.heap.size w2 w' := by
    intro w2 hb
    have hr2 : Ok m0 w2 (rowI A l.length c (itF l)) := hr1.mono fun b o u h1 h2 => ⟨by rw [hb.cell (World.block_lt_of_cell? W1 _ h1)]; exact h1, h2⟩
    refine (isR_s A l.length c (itF l) (by simp only [maxLen]; omega) 1 nx mk hnb m0 w2 (fun _ _ h => h.elim) (fun v hv => ?_)).mono ?_
    · simp only [List.mem_cons, List.not_mem_nil, or_false] at hv
      subst hv
      refine .agg _ (fun v hv => ?_) (fun v hv => ?_)
      · simp only [List.mem_cons, List.not_mem_nil, or_false] at hv
        rcases hv with rfl | rfl | rfl | rfl | rfl <;> rfl
      · simp only [List.mem_cons, List.not_mem_nil, or_false] at hv
        rcases hv with rfl | rfl | rfl | rfl | rfl
        · exact .int _ _
        · exact hr2
        · exact .int _ _
        · exact .int _ _
        · exact .int _ _
    · rintro e w' ⟨x, rfl, _, hb⟩
      rw [hi]
      exact ⟨rfl, hb⟩
  have hW1' := hW1.symm
  clear hp hhh
  have o1 : W1.cell? ⟨w.heap.size, 1, none⟩ = some (.slice A l.length c) := cell_of_row W1 _ 1 _ _ _ hx0
  clear hW1 hargs hr1
  go_enter Try.func19, Try.ntmps19
  go_wp2_with fail
  refine HA.mono ?_
  rintro e w2 ⟨rfl, hb2⟩
  have hx2 := (hb2.block _ (lt_of_heap hx0)).trans hx0
  have hy2 := (hb2.block _ (lt_of_heap hx1)).trans hx1
  have hB2 := hb1.trans (hb2.mono hb1.size)
  have p0 : w2.cell? ⟨w.heap.size, 0, none⟩ = some (.int .i64 1) := cell_of_row w2 _ 0 _ _ _ hx2
  have p1 : w2.cell? ⟨w.heap.size, 1, none⟩ = some (.slice A l.length c) := cell_of_row w2 _ 1 _ _ _ hx2
  have p2 : w2.cell? ⟨w.heap.size, 2, none⟩ = some (.int .i64 nx.len) := cell_of_row w2 _ 2 _ _ _ hx2
  have p3 : w2.cell? ⟨w.heap.size, 3, none⟩ = some (.int .u64 nx.bits) := cell_of_row w2 _ 3 _ _ _ hx2
  have p4 : w2.cell? ⟨w.heap.size, 4, none⟩ = some (.int .u64 mk) := cell_of_row w2 _ 4 _ _ _ hx2
  have HI2 := HI w2 hb2
  clear HA HI hW1' o1
  go_wp2_with fail
  refine HI2.mono ?_
  rintro e w3 ⟨rfl, hb3⟩
  have hx3 := (hb3.block _ (lt_of_heap hx2)).trans hx2
  have hy3 := (hb3.block _ (lt_of_heap hy2)).trans hy2
  have hB3 := hB2.trans (hb3.mono hB2.size)
  have q0 : w3.cell? ⟨w.heap.size, 0, none⟩ = some (.int .i64 1) := cell_of_row w3 _ 0 _ _ _ hx3
  have q1 : w3.cell? ⟨w.heap.size, 1, none⟩ = some (.slice A l.length c) := cell_of_row w3 _ 1 _ _ _ hx3
  have HC := clone_c w3 A c l ((hrd.below hB3).more hB3.size) (by omega)
  have hv1 : ¬ (64 : Int) < (val.size : Int) := by omega
  clear HI2 p0 p1 p2 p3 p4
  cases hh with
  | true =>
    have hpn : p < l.length := hpin rfl
    clear hfull hpin
    go_wp2_with fail
    refine HC.mono ?_
    rintro e w4 ⟨v4, rfl, hO4, hb4⟩
    obtain ⟨A4, c4, rfl, hn4, hc4⟩ := Own.isSlice hO4
    obtain ⟨g, rfl, _⟩ := own_head hO4 (by omega)
    have hx4 := (hb4.block _ (lt_of_heap hx3)).trans hx3
    have hy4 := (hb4.block _ (lt_of_heap hy3)).trans hy3
    have hB4 := hB3.trans (hb4.mono hB3.size)
    obtain ⟨W5, W6, V1, V2, V3, V4, V5, T⟩ := tail_ok (val := val) hx4 hy4 hO4 (by have := hb2.size; have := hb3.size; omega) (Nat.le_refl _) hpn hB4
    obtain ⟨u6, r6⟩ := T.r6
    have e5 := T.e5
    have r5 := T.r5
    have f5 := T.f5
    have c5 := T.c5
    have e6 := T.e6
    have f6 := T.f6
    have d0 := T.d0
    have d1 := T.d1
    have d2 := T.d2
    have d3 := T.d3
    have d4 := T.d4
    have s0 := T.s0
    have y0 := T.y0
    have f70 := T.f70
    have s1 := T.s1
    have y1 := T.y1
    have f71 := T.f71
    have s2 := T.s2
    have y2 := T.y2
    have f72 := T.f72
    have s3 := T.s3
    have y3 := T.y3
    have f73 := T.f73
    have s4 := T.s4
    have y4 := T.y4
    have f74 := T.f74
    have z0 := T.z0
    have z1 := T.z1
    have z2 := T.z2
    have z3 := T.z3
    have z4 := T.z4
    have hT := Lib.hid (And.intro T.own T.below)
    clear T HC hx4 hy4 hO4 hb4 hB4 hx3 hy3 hB3 q0 q1
    go_wp2_with fail
    refine ⟨rfl, .tuple #[.agg #[.int .i64 1, .slice (some ⟨g, 0, none⟩) l.length c4, .int .i64 nx.len, .int .u64 nx.bits, .int .u64 mk], .int .i64 0], ?_, ?_⟩
    · simp [results, Try.results19, go_sem, z0, z1, z2, z3, z4]
    have hlen : (withL l p true key val).length = l.length := by simp [withL]
    rw [hlen]
    refine ⟨some ⟨g, 0, none⟩, c4, rfl, ?_, hT.out.2⟩
    have h1 := hT.out.1
    unfold OwnL
    rw [hlen, show withL l p true key val = l.set p ⟨(itF l p).key, val⟩ from rfl, ← flat_set l p val hpn]
    exact Own.mono h1 (by have := hb2.size; have := hb3.size; omega)
  | false =>
    have hf1 : ((l.length : Int) == 16) = false := by
      rcases hfull with h | h
      · cases h
      · simp; omega
    clear hfull hpin
    go_wp2_with fail
    refine HC.mono ?_
    rintro e w4 ⟨v4, rfl, hO4, hb4⟩
    obtain ⟨A4, c4, rfl, hn4, hc4⟩ := Own.isSlice hO4
    have hx4 := (hb4.block _ (lt_of_heap hx3)).trans hx3
    have hy4 := (hb4.block _ (lt_of_heap hy3)).trans hy3
    have hB4 := hB3.trans (hb4.mono hB3.size)
    have hs3 : w.heap.size + 2 ≤ w3.heap.size := by have := hb2.size; have := hb3.size; omega
    have a5 : w4.cell? ⟨w.heap.size, 1, none⟩ = some (.slice A l.length c) := cell_of_row w4 _ 1 _ _ _ hx4
    have b5 : w4.frozen? ⟨w.heap.size, 1, none⟩ = false := by simp [World.frozen?, hx4]
    obtain ⟨U5, e5⟩ : ∃ U5, w4.setCell ⟨w.heap.size, 1, none⟩ (.slice A4 l.length c4) = U5 := ⟨_, rfl⟩
    have hx5 : U5.heap[w.heap.size]? = some (.cells #[.int .i64 1, .slice A4 l.length c4, .int .i64 nx.len, .int .u64 nx.bits, .int .u64 mk] 27 (0, 0)) := by rw [← e5, heap_set_row _ _ _ _ _ _ _ hx4]; rfl
    have hy5 := (heap_set_other w4 w.heap.size 1 (.slice A4 l.length c4) (w.heap.size + 1) (by omega)).trans hy4
    rw [e5] at hy5
    have c5 : U5.cell? ⟨w.heap.size, 1, none⟩ = some (.slice A4 l.length c4) := cell_of_row U5 _ 1 _ _ _ hx5
    have hO5 : Own U5 w3.heap.size 53 2 (.slice A4 l.length c4) l.length (l.flatMap itmE) := by rw [← e5]; exact own_setlow hO4 (by omega) _
    have hs5 : U5.heap.size = w4.heap.size := by rw [← e5]; simp
    obtain ⟨U6, e6⟩ : ∃ U6, U5.alloc (.cells #[.int .u64 key, .string ⟨#[]⟩] 53) = U6 := ⟨_, rfl⟩
    have hb6 : Below U5.heap.size U5 U6 := by rw [← e6]; exact (Below.refl _ _).alloc (Nat.le_refl _) _
    have hv6 : U6.heap[U5.heap.size]? = some (.cells (itmE ⟨key, ⟨#[]⟩⟩).toArray 53 (0, 0)) := by rw [← e6]; exact heap_alloc_new U5 _
    have hO6 := Own.below hO5 hb6
    have hx6 := (hb6.block _ (lt_of_heap hx5)).trans hx5
    have hy6 := (hb6.block _ (lt_of_heap hy5)).trans hy5
    have hs6 : U5.heap.size ≤ U6.heap.size := hb6.size
    have hs4 : w3.heap.size ≤ w4.heap.size := hb4.size
    have hB6 : Below w.heap.size w U6 := by
      rw [← e6, ← e5]
      exact (hB4.setCell (Nat.le_refl _) _).alloc (by have := hB4.size; simpa using this) _
    have HN := insertI U6 w3.heap.size (.slice A4 l.length c4) l.length p U5.heap.size 1 (l.flatMap itmE) (itmE ⟨key, ⟨#[]⟩⟩) hO6 hple (by omega) hv6 (itmE_len _) (fun he => by have := (Own.lt hO5 _ he).2; omega) (itmE_one _) (flat_one itmE_one l) (by omega)
    have HK : Hid (∀ w7 A7 c7, Own w7 w3.heap.size 53 2 (.slice A7 (l.length + 1) c7) (l.length + 1) ((l.flatMap itmE).take (p * 2) ++ itmE ⟨key, ⟨#[]⟩⟩ ++ (l.flatMap itmE).drop (p * 2)) → U6.grownBy w7 (ownB (.slice A4 l.length c4)) →
        ∃ g, A7 = some ⟨g, 0, none⟩ ∧ c7 ≠ 0 ∧ ∃ W5 W6 V1 V2 V3 V4 V5, Tail w w7 W5 W6 V1 V2 V3 V4 V5 w.heap.size g (l.length + 1) c7 p (.slice A4 l.length c4) nx mk val w3.heap.size ((l.flatMap itmE).take (p * 2) ++ itmE ⟨key, ⟨#[]⟩⟩ ++ (l.flatMap itmE).drop (p * 2))) := by
      intro w7 A7 c7 h7 hG
      obtain ⟨g, rfl, hgv⟩ := own_head h7 (by omega)
      have hown : ∀ k, k < w3.heap.size → ¬ ownB (.slice A4 l.length c4) = some k := fun k hk he => by have := (Own.lt hO5 _ he).1; omega
      refine ⟨g, rfl, ?_, tail_ok (val := val) ((hG.block _ (lt_of_heap hx6) (fun e => hown _ (by omega) e.symm)).trans hx6) ((hG.block _ (lt_of_heap hy6) (fun e => hown _ (by omega) e.symm)).trans hy6) h7 (by omega) (Nat.le_refl _) (by omega) (hB6.grown hG (Nat.le_trans hB4.size (by omega)) fun k hk => ?_)⟩
      · obtain ⟨A', c', he, h1, _⟩ := h7.isSlice; injection he with _ _ e; omega
      · have := (Own.lt hO5 _ hk).1; have := hb2.size; omega
    clear HC hx4 hy4 hO4 hb4 hB4 hx3 hy3 hB3 q0 q1 hx5 hy5 hO5 hx6 hy6 hO6 hB6 hv6 hb6 hs5 hs6
    go_wp2_with fail
    refine HN.mono ?_
    rintro e w7 ⟨v7, rfl, h7, hG, _⟩
    obtain ⟨A7, c7, rfl, _, hc7m⟩ := Own.isSlice h7
    obtain ⟨g, rfl, hc7, W5, W6, V1, V2, V3, V4, V5, T⟩ := HK.out w7 A7 c7 h7 hG
    clear e5 e6 a5 b5 c5 HN HK h7 hG
    obtain ⟨u6, r6⟩ := T.r6
    have e5 := T.e5
    have r5 := T.r5
    have f5 := T.f5
    have c5 := T.c5
    have e6 := T.e6
    have f6 := T.f6
    have d0 := T.d0
    have d1 := T.d1
    have d2 := T.d2
    have d3 := T.d3
    have d4 := T.d4
    have s0 := T.s0
    have y0 := T.y0
    have f70 := T.f70
    have s1 := T.s1
    have y1 := T.y1
    have f71 := T.f71
    have s2 := T.s2
    have y2 := T.y2
    have f72 := T.f72
    have s3 := T.s3
    have y3 := T.y3
    have f73 := T.f73
    have s4 := T.s4
    have y4 := T.y4
    have f74 := T.f74
    have z0 := T.z0
    have z1 := T.z1
    have z2 := T.z2
    have z3 := T.z3
    have z4 := T.z4
    have hT := Lib.hid (And.intro T.own T.below)
    clear T
    have hp1 : (p : Int) < (l.length : Int) + 1 := by omega
    have hp2 : p < l.length + 1 := by omega
    go_wp2_with fail
    refine ⟨rfl, .tuple #[.agg #[.int .i64 1, .slice (some ⟨g, 0, none⟩) (l.length + 1) c7, .int .i64 nx.len, .int .u64 nx.bits, .int .u64 mk], .int .i64 0], ?_, ?_⟩
    · simp [results, Try.results19, go_sem, z0, z1, z2, z3, z4]
    have hlen : (withL l p false key val).length = l.length + 1 := by simp [withL]; omega
    rw [hlen]
    refine ⟨some ⟨g, 0, none⟩, c7, rfl, ?_, hT.out.2⟩
    have h1 := hT.out.1
    unfold OwnL
    rw [hlen, ← flat_ins l p key val hple]
    exact Own.mono h1 (by omega)
end Go.Proofs.Ytkamdppnnhjajaa.Sym
