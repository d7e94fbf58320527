/-
  The program's package cell: put, now. Conditions: fewer marks than 2^31.
-/
import Derived.Test.YtfddpcmlmcohjaaCell4
namespace Go.Proofs.Ytfddpcmlmcohjaa
open Go.RowKit
set_option linter.unusedVariables false
set_option linter.unusedSimpArgs false
set_option maxHeartbeats 1000000
set_option maxRecDepth 100000

theorem Own.set1 {w : World} {B e k g n c : Nat} {xs : List Value} (h : Own w B e k (.slice (some ⟨g, 0, none⟩) n c) n xs) (hn : 0 < n) {j : Nat} (hj : j < n * k) (u : Value) :
    Own (w.setCell ⟨g, j, none⟩ u) B e k (.slice (some ⟨g, 0, none⟩) n c) n (xs.set j u) := by
  rcases h.2 with ⟨h0, _⟩ | ⟨g', cap, cur, hvv, hBg, hg, hnc, hc0, hcm, hcs, htake⟩
  · omega
  injection hvv with h1 _ h3
  injection h1 with h1; injection h1 with h1
  subst h1; subst h3
  refine ⟨by rw [List.length_set]; exact h.1, .inr ⟨g, c, cur.setIfInBounds j u, rfl, hBg, ?_, hnc, hc0, hcm, by simpa using hcs, ?_⟩⟩
  · rw [setCell_eq_setRow w g _ cur _ _ _ hg]; exact setRow_heap w g cur _ _ _ hg
  · rw [Array.toList_setIfInBounds, List.take_set, htake]
theorem set6 {xs : List Value} {o : Nat} (h : o + 6 ≤ xs.length) (a b c d e f : Value) :
    (((((xs.set o a).set (o + 1) b).set (o + 2) c).set (o + 3) d).set (o + 4) e).set (o + 5) f = xs.take o ++ [a, b, c, d, e, f] ++ xs.drop (o + 6) := by
  apply List.ext_getElem?
  intro i
  simp only [List.getElem?_set, List.length_set, List.append_assoc]
  by_cases h1 : i < o
  · rw [List.getElem?_append_left (by simp; omega), List.getElem?_take]
    simp [h1, show ¬ o = i from by omega, show ¬ o + 1 = i from by omega, show ¬ o + 2 = i from by omega, show ¬ o + 3 = i from by omega, show ¬ o + 4 = i from by omega, show ¬ o + 5 = i from by omega]
  · rw [List.getElem?_append_right (by simp; omega), List.length_take, Nat.min_eq_left (by omega)]
    obtain ⟨q, rfl⟩ : ∃ q, i = o + q := ⟨i - o, by omega⟩
    rw [show o + q - o = q from by omega]
    match q with
    | 0 => simp; omega
    | 1 => simp; omega
    | 2 => simp; omega
    | 3 => simp; omega
    | 4 => simp; omega
    | 5 => simp; omega
    | q + 6 =>
      rw [List.getElem?_append_right (by simp), List.getElem?_drop]
      simp [show o + 6 + q = o + (q + 6) from by omega]
theorem Below.set1 {B : Nat} {w w' : World} (h : Below B w w') {g j : Nat} (hg : B ≤ g) (u : Value) : Below B w (w'.setCell ⟨g, j, none⟩ u) := Below.setCell h hg u

theorem put17_c (w : World) (A : Option Addr) (k : Nat) (l : List Mark) (m : Mark) (hr : ReadsL Mark.enc w w.heap.size A l) (hl : l.length < 2147483000) (hs : SrtM l) (hm : ∀ m ∈ l, 0 ≤ m.client ∧ m.client ≤ 63) (hc : 0 ≤ m.client ∧ m.client ≤ 63) :
    Calls Try.prog 43 #[.slice A l.length k, .agg #[.int .i64 m.client, .int .u64 m.req, .int .i64 m.ans.code, .int .u64 m.ans.version, .bool m.ans.has, .string m.ans.val]] w fun e w' => ∃ v', e = .returned v' ∧ OwnL Mark.enc 6 w' w.heap.size 55 v' (putM l m) ∧ Below w.heap.size w w' := by
  obtain ⟨W1, hW1⟩ : ∃ W1, W1 = w.alloc (.cells (Mark.enc m).toArray 55) := ⟨_, rfl⟩
  have hW1' : w.alloc (.cells #[.int .i64 m.client, .int .u64 m.req, .int .i64 m.ans.code, .int .u64 m.ans.version, .bool m.ans.has, .string m.ans.val] 55) = W1 := hW1.symm
  have hb1 : Below w.heap.size w W1 := by rw [hW1]; exact (Below.refl _ _).alloc (Nat.le_refl _) _
  have hs1 : W1.heap.size = w.heap.size + 1 := by rw [hW1]; simp
  have hx1 : W1.heap[w.heap.size]? = some (.cells (Mark.enc m).toArray 55 (0, 0)) := by rw [hW1]; exact heap_alloc_new w _
  have HC := clone_c W1 A k l ((hr.below hb1).more hb1.size) hl
  clear hW1 hr
  have HS1 := Lib.hid hs1
  clear hs1
  go_enter Try.func43, Try.ntmps43
  go_wp2_with fail
  refine HC.mono ?_
  rintro e w2 ⟨v2, rfl, hO2, hb2⟩
  have hx2 := (hb2.block _ (lt_of_heap hx1)).trans hx1
  have hB2 := hb1.trans (hb2.mono hb1.size)
  have p0 : w2.cell? ⟨w.heap.size, 0, none⟩ = some (.int .i64 m.client) := cell_of_row w2 _ 0 _ _ _ hx2
  obtain ⟨A2, c2, rfl, hn2, hc2⟩ := Own.isSlice hO2
  have HF := findM_c w2 A2 c2 l m.client (OwnL.reads hO2) hl hs hm hc
  have HW1 : Hid (W1.heap.size ≤ w2.heap.size) := hb2.size
  clear HC hx1 hW1' hb1 hb2
  go_wp2_with fail
  refine HF.mono ?_
  rintro e w3 ⟨i, b, rfl, hat, hbx, hb3⟩
  have hx3 := (hb3.block _ (lt_of_heap hx2)).trans hx2
  have hO3 := Own.below hO2 hb3
  have hB3 := hB2.trans (hb3.mono hB2.size)
  have p0 : w3.cell? ⟨w.heap.size, 0, none⟩ = some (.int .i64 m.client) := cell_of_row w3 _ 0 _ _ _ hx3
  have p1 : w3.cell? ⟨w.heap.size, 1, none⟩ = some (.int .u64 m.req) := cell_of_row w3 _ 1 _ _ _ hx3
  have p2 : w3.cell? ⟨w.heap.size, 2, none⟩ = some (.int .i64 m.ans.code) := cell_of_row w3 _ 2 _ _ _ hx3
  have p3 : w3.cell? ⟨w.heap.size, 3, none⟩ = some (.int .u64 m.ans.version) := cell_of_row w3 _ 3 _ _ _ hx3
  have p4 : w3.cell? ⟨w.heap.size, 4, none⟩ = some (.bool m.ans.has) := cell_of_row w3 _ 4 _ _ _ hx3
  have p5 : w3.cell? ⟨w.heap.size, 5, none⟩ = some (.string m.ans.val) := cell_of_row w3 _ 5 _ _ _ hx3
  cases b with
  | false =>
    have hmiss : ∀ x, l[i]? = some x → x.client ≠ m.client := fun x hx he => by have := hbx.2 ⟨x, hx, he⟩; cases this
    have HP := Lib.hid (putM_miss hat hmiss)
    have hi := hat.1
    obtain ⟨W4, hW4⟩ : ∃ W4, W4 = w3.alloc (.cells (Mark.enc m).toArray 55) := ⟨_, rfl⟩
    have hb4 : Below w3.heap.size w3 W4 := by rw [hW4]; exact (Below.refl _ _).alloc (Nat.le_refl _) _
    have hx4 : W4.heap[w3.heap.size]? = some (.cells (Mark.enc m).toArray 55 (0, 0)) := by rw [hW4]; exact heap_alloc_new w3 _
    have hO4 := Own.below hO3 hb4
    have HI := insertM W4 W1.heap.size (.slice A2 l.length c2) l.length i w3.heap.size 1 (l.flatMap Mark.enc) m.enc hO4 hi (by omega) hx4 (Mark.enc_len m) (fun he => by have := (Own.lt hO3 _ he).2; omega) (Mark.enc_one m) (flat_one Mark.enc_one l) (Nat.le_trans HW1.out (Nat.le_trans hb3.size hb4.size))
    have HR : Hid (∀ w' v', Own w' W1.heap.size 55 6 v' (l.length + 1) ((l.flatMap Mark.enc).take (i * 6) ++ m.enc ++ (l.flatMap Mark.enc).drop (i * 6)) → W4.grownBy w' (ownB (.slice A2 l.length c2)) → OwnL Mark.enc 6 w' w.heap.size 55 v' (putM l m) ∧ Below w.heap.size w w') := by
      intro w' v' hO hG
      refine ⟨?_, (hB3.trans (hb4.mono hB3.size)).grown hG (Nat.le_trans hB3.size hb4.size) fun g hg => by have := (Own.lt hO4 g hg).1; have := HS1.out; omega⟩
      have hlen : (putM l m).length = l.length + 1 := by rw [HP.out]; simp; omega
      unfold OwnL
      rw [hlen, HP.out]
      simp only [List.flatMap_append, List.flatMap_cons, List.flatMap_nil, List.append_nil]
      rw [← flat_take Mark.enc_len, ← flat_drop Mark.enc_len]
      exact Own.mono hO (by have := HS1.out; omega)
    rw [hW4] at HI
    clear hat hbx hmiss hs hm hO4 hx4 hb4 hB3 hx3 hO3 hx2 hO2 hB2 HF
    go_wp2_with fail
    refine HI.mono ?_
    rw [← hW4]
    rintro e w5 ⟨v', rfl, hO5, hG5, _⟩
    have HF := Lib.hid (HR.out _ _ hO5 hG5)
    clear hO5 hG5 HR HI hW4
    go_wp2_with fail
    go_ret
    exact ⟨_, rfl, HF.out⟩
  | true =>
    have hhit := hbx.1 rfl
    have HP := Lib.hid (putM_hit hat hhit)
    have hi : i < l.length := by obtain ⟨x, hx, _⟩ := hhit; exact (List.getElem?_eq_some_iff.1 hx).1
    have hn0 : 0 < l.length := by omega
    obtain ⟨b, off, hA2, _, hx⟩ := (OwnL.reads hO3).at_ (k := 6) Mark.enc_len (by decide) hi
    obtain ⟨g, rfl⟩ : ∃ g, A2 = some ⟨g, 0, none⟩ := by
      rcases hO3.2 with ⟨h0, _⟩ | ⟨g', cap, cur, hvv, _⟩
      · omega
      · injection hvv with h1 _ h3; exact ⟨_, h1⟩
    injection hA2 with hA2
    injection hA2 with h1 h2
    subst h1; subst h2
    have g0 := hx 0 _ rfl
    have g1 := hx 1 _ rfl
    have g2 := hx 2 _ rfl
    have g3 := hx 3 _ rfl
    have g4 := hx 4 _ rfl
    have g5 := hx 5 _ rfl
    simp only [Nat.add_zero, Nat.zero_add] at g0 g1 g2 g3 g4 g5
    have hfr : ∀ j, w3.frozen? ⟨g, j, none⟩ = false := fun j => by
      obtain ⟨cur, hg⟩ := Own.elem hO3 g (by simp [ownB]; omega)
      simp [World.frozen?, hg]
    have hBg : W1.heap.size ≤ g := (Own.lt hO3 g (by simp [ownB]; omega)).1
    clear hat hbx hhit hs hm hx hx2 hO2 hB2 HF
    have hi6 : i * 6 + 6 ≤ l.length * 6 := by omega
    have hxl := hO3.1
    have HE : Hid (∀ v1 v2 v3 v4 v5 v6, v1 = Value.int .i64 m.client → v2 = Value.int .u64 m.req → v3 = Value.int .i64 m.ans.code → v4 = Value.int .u64 m.ans.version → v5 = Value.bool m.ans.has → v6 = Value.string m.ans.val →
        OwnL Mark.enc 6 ((((((w3.setCell ⟨g, i * 6, none⟩ v1).setCell ⟨g, i * 6 + 1, none⟩ v2).setCell ⟨g, i * 6 + 2, none⟩ v3).setCell ⟨g, i * 6 + 3, none⟩ v4).setCell ⟨g, i * 6 + 4, none⟩ v5).setCell ⟨g, i * 6 + 5, none⟩ v6) w.heap.size 55 (.slice (some ⟨g, 0, none⟩) l.length c2) (putM l m) ∧
        Below w.heap.size w ((((((w3.setCell ⟨g, i * 6, none⟩ v1).setCell ⟨g, i * 6 + 1, none⟩ v2).setCell ⟨g, i * 6 + 2, none⟩ v3).setCell ⟨g, i * 6 + 3, none⟩ v4).setCell ⟨g, i * 6 + 4, none⟩ v5).setCell ⟨g, i * 6 + 5, none⟩ v6)) := by
      intro v1 v2 v3 v4 v5 v6 h1 h2 h3 h4 h5 h6
      have hwg : w.heap.size ≤ g := by have := HS1.out; omega
      refine ⟨?_, (((((hB3.setCell hwg v1).setCell hwg v2).setCell hwg v3).setCell hwg v4).setCell hwg v5).setCell hwg v6⟩
      have hO := (((((hO3.set1 hn0 (j := i * 6) (by omega) v1).set1 hn0 (j := i * 6 + 1) (by omega) v2).set1 hn0 (j := i * 6 + 2) (by omega) v3).set1 hn0 (j := i * 6 + 3) (by omega) v4).set1 hn0 (j := i * 6 + 4) (by omega) v5).set1 hn0 (j := i * 6 + 5) (by omega) v6
      rw [set6 (by omega)] at hO
      subst h1; subst h2; subst h3; subst h4; subst h5; subst h6
      have hlen : (putM l m).length = l.length := by rw [HP.out]; simp; omega
      unfold OwnL
      rw [hlen, HP.out]
      simp only [List.flatMap_append, List.flatMap_cons, List.flatMap_nil, List.append_nil]
      rw [← flat_take Mark.enc_len, ← flat_drop Mark.enc_len, Nat.add_mul, Nat.one_mul]
      exact Own.mono hO (by have := HS1.out; omega)
    go_wp2_with fail
    go_ret
    exact ⟨_, rfl, HE.out _ _ _ _ _ _ rfl rfl rfl rfl rfl rfl⟩

theorem now_c (w : World) (A : Option Addr) (k : Nat) (c : Cel) (code : Int) :
    Calls Try.prog 41 #[CelV c A k, .int .i64 code] w fun e w' => e = .returned (.agg #[.int .i64 code, .int .u64 c.version, .bool c.has, .string ByteArray.empty]) ∧ Below w.heap.size w w' := by
  obtain ⟨ver, has, val, l⟩ := c
  unfold CelV
  simp only
  go_enter Try.func41, Try.ntmps41
  go_wp2_with fail
  exact bodyPost_ret (v := .agg #[.int .i64 code, .int .u64 ver, .bool has, .string ByteArray.empty]) (by simp [results, Try.results41, go_sem]; rfl) rfl ⟨rfl, ((Below.refl _ _).alloc (Nat.le_refl _) _).alloc (by simp) _⟩
end Go.Proofs.Ytfddpcmlmcohjaa
