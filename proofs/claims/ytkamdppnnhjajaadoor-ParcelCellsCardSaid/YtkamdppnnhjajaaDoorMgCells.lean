/-
  BsearchM, InsertM, CellPut, SymDo8, PlDo18, SymLCells, WalkParcelCells, ClaimParcelCells: put together by a program of mine (a claim may have 60 files at most). Conditions: none.
-/
import Derived.Test.YtkamdppnnhjajaaDoorChecked
import Derived.Lib.SliceRun
import Derived.Test.YtkamdppnnhjajaaDoorRows
import Derived.Test.YtkamdppnnhjajaaDoorCards
import Derived.Test.YtkamdppnnhjajaaDoorTie
import Derived.Test.YtkamdppnnhjajaaDoorMgP1
import Derived.Test.YtkamdppnnhjajaaDoorMgP2
import Derived.Test.YtkamdppnnhjajaaDoorMgP3
import Derived.Test.YtkamdppnnhjajaaDoorMgP4
import Derived.Test.YtkamdppnnhjajaaDoorMgP5
import Derived.Test.YtkamdppnnhjajaaDoorMgP6
namespace Go.Proofs.YtkamdppnnhjajaaDoor
open Go.RowKit
set_option linter.unusedVariables false
set_option linter.unusedSimpArgs false
set_option maxHeartbeats 400000
set_option maxRecDepth 100000

def BInvM (l : List Mark) (cf : Mark → Int) (a b : Nat) : Prop :=
  a ≤ b ∧ b ≤ l.length ∧ (l.Pairwise (fun x y => cf y < 0 → cf x < 0) → (∀ x ∈ l.take a, cf x < 0) ∧ ∀ x ∈ l.drop b, ¬ cf x < 0)

theorem binv_lowM {l : List Mark} {cf : Mark → Int} {a b h : Nat} (H : BInvM l cf a b) (_h2 : h < b) (hh : h < l.length) (hc : cf l[h] < 0) : BInvM l cf (h + 1) b := by
  refine ⟨by omega, H.2.1, fun hs => ⟨fun x hx => ?_, (H.2.2 hs).2⟩⟩
  obtain ⟨i, hi, rfl⟩ := List.mem_take_iff_getElem.1 hx
  by_cases e : i = h
  · subst e; exact hc
  · exact List.pairwise_iff_getElem.1 hs i h (by omega) hh (by omega) hc
theorem binv_highM {l : List Mark} {cf : Mark → Int} {a b h : Nat} (H : BInvM l cf a b) (h1 : a ≤ h) (h2 : h < b) (hh : h < l.length) (hc : ¬ cf l[h] < 0) : BInvM l cf a h := by
  refine ⟨h1, by omega, fun hs => ⟨(H.2.2 hs).1, fun x hx => ?_⟩⟩
  obtain ⟨i, hi, rfl⟩ := List.mem_drop_iff_getElem.1 hx
  by_cases e : i = 0
  · subst e; exact hc
  · exact fun hn => hc (List.pairwise_iff_getElem.1 hs h (h + i) hh (by omega) (by omega) hn)

def BPostM (l : List Mark) (cf : Mark → Int) (B : Nat) (w : World) (e : Ending) (w' : World) : Prop :=
  ∃ (i : Nat) (b : Bool), e = .returned (.tuple #[.int .i64 i, .bool b]) ∧ i ≤ l.length ∧ (b = true ↔ ∃ x, l[i]? = some x ∧ cf x = 0) ∧
    (l.Pairwise (fun x y => cf y < 0 → cf x < 0) → (∀ x ∈ l.take i, cf x < 0) ∧ ∀ x ∈ l.drop i, ¬ cf x < 0) ∧ Below B w w'

theorem bsearchM (w : World) (A : Option Addr) (c : Nat) (l : List Mark) (tv : Value) (cf : Mark → Int) (hr : ReadsL Mark.enc w w.heap.size A l) (hl : l.length < 2147483648)
    (hcmp : ∀ x ∈ l, ∀ w1 : World, w.heap.size ≤ w1.heap.size → Calls Tryd.prog 87 #[.agg #[.int .i64 x.client, .int .u64 x.req, .int .i64 x.ans.code, .int .u64 x.ans.version, .bool x.ans.has, .string x.ans.val], tv] w1 fun e w' => e = .returned (.int .i64 (cf x)) ∧ Below w1.heap.size w1 w') :
    Calls Tryd.prog 86 #[.slice A l.length c, tv, .func (.func 87) #[] #[]] w (BPostM l cf w.heap.size w) := by
  have HC := Lib.hid hcmp
  clear hcmp
  go_enter Tryd.func86, Tryd.ntmps86
  go_wp2
  go_loopw [9, 10, 11] (fun i j _ wr => ∃ a b : Nat, i = .int .i64 a ∧ j = .int .i64 b ∧ BInvM l cf a b ∧ Below w.heap.size w wr) (fun i j _ _ => (intOf j).toNat - (intOf i).toNat)
  case atStart => exact ⟨0, l.length, rfl, rfl, ⟨Nat.zero_le _, Nat.le_refl _, fun _ => by simp⟩, Below.refl _ _⟩
  case round =>
    rename_i wr _
    obtain ⟨a, b, rfl, rfl, hI, hb⟩ := hrel
    have ha := hI.1
    have hbl := hI.2.1
    by_cases hlt : a < b
    · have hm : (a + b) / 2 < l.length := by omega
      obtain ⟨bk, off, rfl, hbk, hc⟩ := (ReadsL.below hr hb).at_ (k := 6) Mark.enc_len (by decide) hm
      have g0 := hc 0 _ rfl
      have g1 := hc 1 _ rfl
      have g2 := hc 2 _ rfl
      have g3 := hc 3 _ rfl
      have g4 := hc 4 _ rfl
      have g5 := hc 5 _ rfl
      simp only [Nat.add_zero] at g0
      clear hc
      have hmem := List.getElem_mem hm
      have hs := hb.size
      go_wp2_with (go_at_call 87; refine (HC.out _ hmem _ hs).mono ?_; rintro e w' ⟨rfl, hb'⟩)
      · have hneg : cf l[(a + b) / 2] < 0 := by assumption
        refine ⟨⟨(a + b) / 2 + 1, b, by go_num, rfl, binv_lowM hI (by omega) hm hneg, hb.trans (hb'.mono hs)⟩, by simp [intOf]; omega⟩
      · have hpos : ¬ cf l[(a + b) / 2] < 0 := by omega
        refine ⟨⟨a, (a + b) / 2, rfl, by go_num, binv_highM hI (by omega) (by omega) hm hpos, hb.trans (hb'.mono hs)⟩, by simp [intOf]; omega⟩
    · obtain rfl : a = b := by omega
      by_cases hn : a < l.length
      · obtain ⟨bk, off, rfl, hbk, hc⟩ := (ReadsL.below hr hb).at_ (k := 6) Mark.enc_len (by decide) hn
        have g0 := hc 0 _ rfl
        have g1 := hc 1 _ rfl
        have g2 := hc 2 _ rfl
        have g3 := hc 3 _ rfl
        have g4 := hc 4 _ rfl
        have g5 := hc 5 _ rfl
        simp only [Nat.add_zero] at g0
        clear hc
        have hmem := List.getElem_mem hn
        have hs := hb.size
        by_cases hz : cf l[a] = 0
        · have hz' : (cf l[a] == 0) = true := by simp [hz]
          have HZ := Lib.hid hz
          clear hz
          go_wp2_with (go_at_call 87; refine (HC.out _ hmem _ hs).mono ?_; rintro e w' ⟨rfl, hb'⟩)
          go_ret2
          exact ⟨a, true, rfl, by omega, by simp [List.getElem?_eq_getElem hn, HZ.out], hI.2.2, hb.trans (hb'.mono hs)⟩
        · have hz' : (cf l[a] == 0) = false := by simp [hz]
          have HZ := Lib.hid hz
          clear hz
          go_wp2_with (go_at_call 87; refine (HC.out _ hmem _ hs).mono ?_; rintro e w' ⟨rfl, hb'⟩)
          go_ret2
          exact ⟨a, false, rfl, by omega, by simp [List.getElem?_eq_getElem hn, HZ.out], hI.2.2, hb.trans (hb'.mono hs)⟩
      · go_wp2
        go_ret2
        exact ⟨a, false, rfl, by omega, by simp [List.getElem?_eq_none (Nat.le_of_not_lt hn)], hI.2.2, hb⟩
end Go.Proofs.YtkamdppnnhjajaaDoor

namespace Go.Proofs.YtkamdppnnhjajaaDoor
open Go.RowKit
set_option linter.unusedVariables false
set_option linter.unusedSimpArgs false
set_option maxHeartbeats 400000
set_option maxRecDepth 100000
theorem etyM : ElemTy Tryd.prog 30 62 6 56 (.agg #[.int .i64 0, .int .u64 0, .int .i64 0, .int .u64 0, .bool false, .string ⟨#[]⟩]) := ⟨by kernel_rfl, by kernel_rfl, rfl, by decide⟩

theorem insertM (w : World) (B : Nat) (v : Value) (n i vb vc : Nat) (xs : List Value) (vals : List Value) (hown : Own w B 62 6 v n xs) (hi : i ≤ n) (hn : n < 2147483648)
    (hv : w.heap[vb]? = some (.cells vals.toArray 62 (0, 0))) (hvl : vals.length = 6) (hne : ownB v ≠ some vb) (h1 : ∀ u ∈ vals, u.oneCell' = true) (h1x : ∀ u ∈ xs, u.oneCell' = true) (hB : B ≤ w.heap.size) :
    Calls Tryd.prog 89 #[v, .int .i64 i, .slice (some ⟨vb, 0, none⟩) 1 vc] w fun e w' =>
      ∃ v', e = .returned v' ∧ Own w' B 62 6 v' (n + 1) (xs.take (i * 6) ++ vals ++ xs.drop (i * 6)) ∧ w.grownBy w' (ownB v) ∧ (ownB v' = ownB v ∨ ∃ g, ownB v' = some g ∧ w.heap.size ≤ g) := by
  have hrow : RowAt w w.heap.size (some ⟨vb, 0, none⟩) vals := fun _ => ⟨vb, 0, rfl, lt_of_heap hv, fun j u hu => by
    rw [Nat.zero_add, cell_of_row w vb j _ _ (0, 0) hv]; simpa using hu⟩
  obtain ⟨A, c, rfl, hnc, hcm⟩ := hown.isSlice
  unfold maxLen at hcm
  by_cases hin : i = n
  · subst hin
    obtain ⟨v', w', hr, hO, hG, hb⟩ := run_append_Own etyM 30 hown (some ⟨vb, 0, none⟩) 1 vc vals (by simpa using hvl) hrow h1 (by simp only [maxLen]; omega) (by omega) hB
    have hfin : ∃ v'', Ending.returned v' = .returned v'' ∧ Own w' B 62 6 v'' (i + 1) (xs.take (i * 6) ++ vals ++ xs.drop (i * 6)) ∧ w.grownBy w' (ownB (.slice A i c)) ∧ (ownB v'' = ownB (.slice A i c) ∨ ∃ g, ownB v'' = some g ∧ w.heap.size ≤ g) := by
      refine ⟨v', rfl, ?_, hG, ?_⟩
      · have hx := hown.1
        rw [List.take_of_length_le (by omega), List.drop_of_length_le (by omega), List.append_nil]
        exact hO
      · rcases hb with h | h
        · exact .inl h
        · exact .inr ⟨_, h, Nat.le_refl _⟩
    clear hb hG hO
    by_cases hci : c = i
    · subst hci
      have hq : ((c : Int) == (c : Int)) = true := by simp
      go_enter Tryd.func89, Tryd.ntmps89
      go_wp2_with (at_builtin; refine wpList_append_run hr rfl (.tmp 23) (.tmp 24) rfl rfl rfl rfl ?_)
      go_ret
      exact hfin
    · have hq : ((i : Int) == (i : Int)) = true := by simp
      go_enter Tryd.func89, Tryd.ntmps89
      go_wp2_with (at_builtin; refine wpList_append_run hr rfl (.tmp 23) (.tmp 24) rfl rfl rfl rfl ?_)
      go_ret
      exact hfin
  · have hlt : i < n := by omega
    clear hin
    rcases hown.2 with ⟨rfl, _⟩ | ⟨g, cap, cur, hve, hBg, hg, hnc', hc0, hcm', hcs, htake⟩
    · omega
    injection hve with hA _ hc
    subst hA; subst hc
    have hq : ((i : Int) == (n : Int)) = false := by simp; omega
    have hgv : ownB (Value.slice (some ⟨g, 0, none⟩) n c) = some g := by simp [ownB]; omega
    have hxl := hown.1
    by_cases hroom : n + 1 ≤ c
    · -- room: in place
      have hvb : vb ≠ g := fun e => hne (by rw [hgv, e])
      have hsa : w.shape? vb = some (62, vals.length) := by simp [World.shape?, hv]
      have hsb : w.shape? g = some (62, cur.size) := by simp [World.shape?, hg]
      have hov : ∀ lb cb, (callFunc 103 #[.slice (some ⟨vb, 0, none⟩) 1 vc, .slice (some ⟨g, (i + 1) * 6, none⟩) lb cb]).run Tryd.prog w = .ok (.value (.bool false)) w := fun lb cb => by
        rw [run_callFunc_extern Tryd.func103 (by kernel_rfl) (by kernel_rfl) (by kernel_rfl) (e := Extern.SlicesOverlaps.overlaps #[30, 30] #[4]) (by kernel_rfl),
          Lib.run_overlaps_apart w 30 4 62 Tryd.underlying30 6 Tryd.sizeOf62 ⟨vb, 0, none⟩ ⟨g, (i + 1) * 6, none⟩ 1 vc lb cb hvb _ _ _ _ hsa hsb (by omega) (by simp [World.frozen?, hv]) (by simp [World.frozen?, hv])]
        rfl
      have hsz : (n + 1) * 6 ≤ cur.size := by rw [hcs]; exact Nat.mul_le_mul_right _ hroom
      have hrow1 : RowAt w.drew w.heap.size (some ⟨g, i * 6, none⟩) (xs.drop (i * 6)) := fun _ => ⟨g, i * 6, rfl, lt_of_heap hg, fun j u hu => by
        rw [cell_of_row w.drew g _ cur _ (0, 0) hg]
        rw [List.getElem?_drop, ← htake, List.getElem?_take] at hu
        split at hu
        · simpa using hu
        · cases hu⟩
      have hc1 := run_copy_in (P := Tryd.prog) (w := w.drew) etyM 3 (g := g) (o := (i + 1) * 6) (dLen := n - i) (dCap := c - (i + 1)) (sLen := n + 1 - i) (sCap := c - i) hg hrow1 (n - i) (by omega) (by rw [List.length_drop, hxl, ← Nat.sub_mul]) (by rw [List.length_drop, hxl]; omega) (fun v hv => h1x v (List.mem_of_mem_drop hv))
      obtain ⟨cur3, hcur3⟩ : ∃ c3, c3 = (cur.toList.take ((i + 1) * 6) ++ xs.drop (i * 6) ++ cur.toList.drop ((i + 1) * 6 + (xs.drop (i * 6)).length)) := ⟨_, rfl⟩
      rw [← hcur3] at hc1
      obtain ⟨w2, hw2⟩ : ∃ w2, w2 = w.drew.setRow g cur3.toArray := ⟨_, rfl⟩
      rw [← hw2] at hc1
      have hl3 : cur3.length = cur.size := by rw [hcur3]; simp; omega
      have hg2 : w2.heap[g]? = some (.cells cur3.toArray 62 (0, 0)) := by rw [hw2]; exact setRow_heap w.drew g cur _ _ _ hg
      have hC2 : Chg (fun k => k = g) w w2 := by rw [hw2]; exact ⟨rfl, rfl, rfl, by simp [World.setRow], fun k _ hn => setRow_other w.drew g k _ hn⟩
      have hrow2 : RowAt w2 w.heap.size (some ⟨vb, 0, none⟩) vals := fun _ => ⟨vb, 0, rfl, lt_of_heap hv, fun j u hu => by
        have hvv : w2.heap[vb]? = some (.cells vals.toArray 62 (0, 0)) := (hC2.block vb (lt_of_heap hv) hvb).trans hv
        rw [Nat.zero_add, cell_of_row w2 vb j _ _ (0, 0) hvv]; simpa using hu⟩
      have hc2 := run_copy_in (P := Tryd.prog) (w := w2) etyM 3 (g := g) (o := i * 6) (dLen := n + 1 - i) (dCap := c - i) (sLen := 1) (sCap := vc) hg2 hrow2 1 (by omega) (by omega) (by simp; omega) h1
      obtain ⟨w3, hw3⟩ : ∃ w3, w3 = w2.setRow g (cur3.toArray.toList.take (i * 6) ++ vals ++ cur3.toArray.toList.drop (i * 6 + vals.length)).toArray := ⟨_, rfl⟩
      rw [← hw3] at hc2
      have hfin : ∃ v'', Ending.returned (.slice (some ⟨g, 0, none⟩) (n + 1) c) = .returned v'' ∧ Own w3 B 62 6 v'' (n + 1) (xs.take (i * 6) ++ vals ++ xs.drop (i * 6)) ∧ w.grownBy w3 (ownB (.slice (some ⟨g, 0, none⟩) n c)) ∧ (ownB v'' = ownB (.slice (some ⟨g, 0, none⟩) n c) ∨ ∃ g, ownB v'' = some g ∧ w.heap.size ≤ g) := by
        refine ⟨_, rfl, ⟨?_, .inr ⟨g, c, _, rfl, hBg, by rw [hw3]; exact setRow_heap w2 g _ _ _ _ hg2, hroom, hc0, hcm', ?_, ?_⟩⟩, ?_, .inl (by simp [ownB])⟩
        · simp; omega
        · simp; omega
        · have ht3 : cur3.take (i * 6) = xs.take (i * 6) := by
            rw [hcur3, List.append_assoc, List.take_append_of_le_length (by simp; omega), List.take_take, Nat.min_eq_left (by omega), ← htake, List.take_take, Nat.min_eq_left (by omega)]
          have hd3 : cur3.drop (i * 6 + vals.length) = xs.drop (i * 6) ++ cur.toList.drop ((i + 1) * 6 + (xs.drop (i * 6)).length) := by
            rw [hcur3, List.append_assoc, List.drop_append]
            have e1 : (List.take ((i + 1) * 6) cur.toList).length = i * 6 + vals.length := by simp; omega
            rw [List.drop_of_length_le (by omega), e1]; simp
          rw [ht3, hd3, ← List.append_assoc, List.take_append_of_le_length (by simp; omega), List.take_of_length_le (by simp; omega)]
        · rw [hgv]
          have hC3 : Chg (fun k => k = g) w w3 := by rw [hw3]; exact hC2.trans (S' := fun k => k = g) ⟨rfl, rfl, rfl, by simp [World.setRow], fun k _ hn => setRow_other w2 g k _ hn⟩ fun _ _ h => h
          exact ⟨hC3.os, hC3.tape, hC3.output, hC3.size, fun k hk hn => hC3.block k hk fun e => hn (by rw [e])⟩
      clear hw3 hw2 hcur3 hg2 hg hown hne hv hrow hrow1 hrow2 hl3 htake hcs hxl hgv hsa hsb
      have HC2 := Lib.hid hC2
      clear hC2
      go_enter Tryd.func89, Tryd.ntmps89
      go_wp2_with (first | (simp only [hov]))
      have hwr : IntKind.i64.wrap ((i : Int) + 1) = (i : Int) + 1 := IntWalk.i64_in _ (by omega)
      have hw0 : (0 : Int) ≤ (i : Int) + 1 := by omega
      have hwn : (i : Int) + 1 ≤ (n : Int) + 1 := by omega
      have hwt : ((i : Int) + 1).toNat = i + 1 := by omega
      have hwc : ¬ c = i + 1 := by omega
      have hwi : ¬ c = i := by omega
      have hw1 : (i : Int) ≤ (n : Int) + 1 := by omega
      go_region_law (refine step_copy_run hc1 rfl (.tmp 73) (.tmp 76) rfl rfl (by simp [Act.eval, Act.put]) (by simp [Act.eval, Act.put]) ?_)
      go_wp2_with (with_reducible refine wpList_copy_run hc2 rfl (.tmp 80) (.tmp 81) rfl rfl rfl rfl ?_)
      go_ret
      exact hfin
    · -- no room: a new row
      have HA := run_append_zeros_Own (P := Tryd.prog) (w := w) (kq := .i64) etyM (Tryd.underlying3) 30 (A := some ⟨g, 0, none⟩) (n := i) (c := c) (xs := xs.take (i * 6)) (by rw [List.length_take]; omega) ((hown.row _ _ _ rfl).take _) (n + 1 - i) (by omega) (by omega) (by simp only [maxLen]; omega) (by omega)
      obtain ⟨_, cap2, cur2, hr, rfl, hge2, hcm2, hcs2, ht2⟩ := HA
      rw [show ((n + 1 - i : Nat) : Int) = (n : Int) + 1 - (i : Int) from by omega, show i + (n + 1 - i) = n + 1 from by omega] at hr
      have hge3 : n + 1 ≤ cap2 := by omega
      clear hge2
      obtain ⟨w1, hw1⟩ : ∃ w1, w1 = w.drew.alloc (.cells cur2 62) := ⟨_, rfl⟩
      have HW1 := Lib.hid hw1
      rw [← hw1] at hr
      clear hw1
      have hg1 : w1.heap[w.heap.size]? = some (.cells cur2 62 (0, 0)) := by rw [HW1.out]; exact heap_alloc_new w.drew _
      have hb1 : Below w.heap.size w w1 := by rw [HW1.out]; exact (Below.refl _ _).drew.alloc (by simp) _
      have hrow1 : RowAt w1 w.heap.size (some ⟨vb, 0, none⟩) vals := hrow.below hb1
      have hs1 : (n + 1) * 6 ≤ cur2.size := by rw [hcs2]; exact Nat.mul_le_mul_right _ hge3
      have hc1 := run_copy_in (P := Tryd.prog) etyM 3 (o := i * 6) (dLen := n + 1 - i) (dCap := cap2 - i) (sLen := 1) (sCap := vc) hg1 hrow1 1 (by omega) (by omega) (by omega) h1
      obtain ⟨cur3, hcur3⟩ : ∃ c3, c3 = (cur2.toList.take (i * 6) ++ vals ++ cur2.toList.drop (i * 6 + vals.length)) := ⟨_, rfl⟩
      rw [← hcur3] at hc1
      obtain ⟨w2, hw2⟩ : ∃ w2, w2 = w1.setRow w.heap.size cur3.toArray := ⟨_, rfl⟩
      rw [← hw2] at hc1
      have hl3 : cur3.length = cur2.size := by rw [hcur3]; simp; omega
      have hg2 : w2.heap[w.heap.size]? = some (.cells cur3.toArray 62 (0, 0)) := by rw [hw2]; exact setRow_heap w1 w.heap.size cur2 _ _ _ hg1
      have hb2 : Below w.heap.size w w2 := by rw [hw2]; exact below_setRow hb1 (Nat.le_refl _) _
      have hrow2 : RowAt w2.drew w.heap.size (some ⟨g, i * 6, none⟩) (xs.drop (i * 6)) := fun _ => ⟨g, i * 6, rfl, lt_of_heap hg, fun j u hu => by
        have hgg : w2.drew.heap[g]? = some (.cells cur 62 (0, 0)) := (hb2.drew.block g (lt_of_heap hg)).trans hg
        rw [cell_of_row w2.drew g _ cur _ (0, 0) hgg]
        rw [List.getElem?_drop, ← htake, List.getElem?_take] at hu
        split at hu
        · simpa using hu
        · cases hu⟩
      have hc2 := run_copy_in (P := Tryd.prog) (w := w2.drew) etyM 3 (o := (i + 1) * 6) (dLen := n - i) (dCap := cap2 - (i + 1)) (sLen := n - i) (sCap := c - i) hg2 hrow2 (n - i) (by omega) (by rw [List.length_drop, hxl, ← Nat.sub_mul]) (by rw [List.length_drop, hxl]; simp; omega) (fun v hv => h1x v (List.mem_of_mem_drop hv))
      obtain ⟨w3, hw3⟩ : ∃ w3, w3 = w2.drew.setRow w.heap.size (cur3.toArray.toList.take ((i + 1) * 6) ++ xs.drop (i * 6) ++ cur3.toArray.toList.drop ((i + 1) * 6 + (xs.drop (i * 6)).length)).toArray := ⟨_, rfl⟩
      rw [← hw3] at hc2
      have hfin : ∃ v'', Ending.returned (.slice (some ⟨w.heap.size, 0, none⟩) (n + 1) cap2) = .returned v'' ∧ Own w3 B 62 6 v'' (n + 1) (xs.take (i * 6) ++ vals ++ xs.drop (i * 6)) ∧ w.grownBy w3 (ownB (.slice (some ⟨g, 0, none⟩) n c)) ∧ (ownB v'' = ownB (.slice (some ⟨g, 0, none⟩) n c) ∨ ∃ g, ownB v'' = some g ∧ w.heap.size ≤ g) := by
        refine ⟨_, rfl, ⟨?_, .inr ⟨w.heap.size, cap2, _, rfl, hB, by rw [hw3]; exact setRow_heap w2.drew w.heap.size _ _ _ _ hg2, hge3, by omega, hcm2, ?_, ?_⟩⟩, ?_, .inr ⟨w.heap.size, by simp [ownB]; omega, Nat.le_refl _⟩⟩
        · simp; omega
        · simp; omega
        · rw [List.take_append_of_le_length (by simp; omega), List.take_of_length_le (by simp; omega)]
          congr 1
          rw [hcur3, List.append_assoc, ← List.append_assoc, List.take_append_of_le_length (by simp; omega), List.take_of_length_le (by simp; omega), ht2]
        · have hb3 : Below w.heap.size w w3 := by rw [hw3]; exact below_setRow hb2.drew (Nat.le_refl _) _
          exact ⟨hb3.os, hb3.tape, hb3.output, hb3.size, fun k hk _ => hb3.block k hk⟩
      clear hw3 hw2 hcur3 hg2 hg1 hg hown hne hv hrow hrow1 hrow2 hl3 htake hcs2 hcs ht2 hxl
      have HB1 := Lib.hid hb1
      have HB2 := Lib.hid hb2
      clear hb1 hb2
      go_enter Tryd.func89, Tryd.ntmps89
      go_wp2_with (first | (at_builtin; refine wpList_append_run hr rfl (.tmp 34) (.tmp 39) rfl rfl rfl rfl ?_) | (with_reducible refine wpList_copy_run hc1 rfl (.tmp 43) (.tmp 44) rfl rfl rfl rfl ?_))
      have hwr : IntKind.i64.wrap ((i : Int) + 1) = (i : Int) + 1 := IntWalk.i64_in _ (by omega)
      have hw0 : (0 : Int) ≤ (i : Int) + 1 := by omega
      have hwn : (i : Int) + 1 ≤ (n : Int) + 1 := by omega
      have hwt : ((i : Int) + 1).toNat = i + 1 := by omega
      have hwc : ¬ cap2 = i + 1 := by omega
      have hwi : ¬ c = i := by omega
      go_region_law (refine step_copy_run hc2 rfl (.tmp 50) (.tmp 53) rfl rfl (by simp [Act.eval, Act.put]) (by simp [Act.eval, Act.put]) ?_)
      go_wp2
      go_ret
      exact hfin
end Go.Proofs.YtkamdppnnhjajaaDoor

namespace Go.Proofs.YtkamdppnnhjajaaDoor
open Go.RowKit
set_option linter.unusedVariables false
set_option linter.unusedSimpArgs false
set_option maxHeartbeats 1000000
set_option maxRecDepth 100000

theorem cmp_c (x : Mark) (c : Int) (w : World) (hx : 0 ≤ x.client ∧ x.client ≤ 63) (hc : 0 ≤ c ∧ c ≤ 63) :
    Calls Tryd.prog 87 #[.agg #[.int .i64 x.client, .int .u64 x.req, .int .i64 x.ans.code, .int .u64 x.ans.version, .bool x.ans.has, .string x.ans.val], .int .i64 c] w fun e w' => e = .returned (.int .i64 (x.client - c)) ∧ Below w.heap.size w w' := by
  have hw : IntKind.i64.wrap (x.client - c) = x.client - c := IntWalk.i64_in _ (by omega)
  go_enter Tryd.func87, Tryd.ntmps87
  go_wp2_with fail
  go_ret
  exact ⟨by first | rfl | (simp [hw]), (Below.refl _ _).alloc (Nat.le_refl _) _⟩

def FindP (w : World) (l : List Mark) (c : Int) (e : Ending) (w' : World) : Prop :=
  ∃ (i : Nat) (b : Bool), e = .returned (.tuple #[.int .i64 i, .bool b]) ∧ AtM l c i ∧ (b = true ↔ ∃ x, l[i]? = some x ∧ x.client = c) ∧ Below w.heap.size w w'
theorem findM_c (w : World) (A : Option Addr) (k : Nat) (l : List Mark) (c : Int) (hr : ReadsL Mark.enc w w.heap.size A l) (hl : l.length < 2147483000) (hg : SrtM l) (hm : ∀ m ∈ l, 0 ≤ m.client ∧ m.client ≤ 63) (hc : 0 ≤ c ∧ c ≤ 63) :
    Calls Tryd.prog 56 #[.slice A l.length k, .int .i64 c] w (FindP w l c) := by
  have HB := bsearchM w A k l (.int .i64 c) (fun x => x.client - c) hr (by omega) (fun x hx w1 _ => cmp_c x c w1 (hm x hx) hc)
  have hsrt : l.Pairwise (fun x y => y.client - c < 0 → x.client - c < 0) := List.Pairwise.imp (fun h h' => by omega) hg
  have HP : Hid (∀ e w', BPostM l (fun x => x.client - c) w.heap.size w e w' → FindP w l c e w') := by
    rintro e w' ⟨i, b, rfl, hi, hb, hA, hbel⟩
    obtain ⟨a1, a2⟩ := hA hsrt
    refine ⟨i, b, rfl, ⟨hi, fun x hx => by have : x.client - c < 0 := a1 x hx; omega, fun x hx => ?_⟩, ?_, hbel⟩
    · obtain ⟨hlt, hq⟩ := List.getElem?_eq_some_iff.1 hx
      have : ¬ x.client - c < 0 := a2 x (by rw [List.mem_drop_iff_getElem]; exact ⟨0, by simpa using hlt, by simpa using hq⟩)
      omega
    · rw [hb]
      constructor
      · rintro ⟨x, h1, h2⟩; have h2 : x.client - c = 0 := h2; exact ⟨x, h1, by omega⟩
      · rintro ⟨x, h1, h2⟩; exact ⟨x, h1, by show x.client - c = 0; omega⟩
  clear hsrt hg hm hr
  go_enter Tryd.func56, Tryd.ntmps56
  go_wp2_with fail
  refine HB.mono ?_
  rintro e w' hq
  have hq' := HP.out _ _ hq
  clear hq HP HB
  obtain ⟨i, b, rfl, h1, h2, h3⟩ := hq'
  have HQ := Lib.hid (And.intro h1 (And.intro h2 h3))
  clear h1 h2 h3
  go_wp2_with fail
  go_ret2
  exact ⟨i, b, rfl, HQ.out⟩

theorem clone_c (w : World) (A : Option Addr) (k : Nat) (l : List Mark) (hr : ReadsL Mark.enc w w.heap.size A l) (hl : l.length < 2147483000) :
    Calls Tryd.prog 88 #[.slice A l.length k] w fun e w' => ∃ v', e = .returned v' ∧ OwnL Mark.enc 6 w' w.heap.size 62 v' l ∧ Below w.heap.size w w' := by
  have hq : ∀ (A : Option Addr) (n k : Nat) (w : World), (binOp .eql 30 (.slice A n k) (.slice none 0 0)).run Tryd.prog w = .ok (.bool A.isNone) w := fun A n k w => Go.Lib.run_eql_slice_nil w _ _ A n k 0 0 Tryd.underlying30
  cases A with
  | none =>
    obtain rfl : l = [] := by
      refine List.eq_nil_of_length_eq_zero (Nat.eq_zero_of_not_pos fun h => ?_)
      obtain ⟨b, off, he, _⟩ := hr.at_ (k := 6) Mark.enc_len (by decide) h
      cases he
    clear hr
    go_enter Tryd.func88, Tryd.ntmps88
    go_wp2_with fail
    go_ret
    exact ⟨_, rfl, Own.nil _ _ _ _ _, Below.refl _ _⟩
  | some a =>
    obtain ⟨W1, hW1⟩ : ∃ W1, W1 = w.alloc (.cells #[] 62) := ⟨_, rfl⟩
    have hb1 : Below w.heap.size w W1 := by rw [hW1]; exact (Below.refl _ _).alloc (Nat.le_refl _) _
    obtain ⟨v', w', hr', hO, hG, hv⟩ := run_append_Own (P := Tryd.prog) etyM 30 (Own.nil W1 w.heap.size 62 6 (some ⟨w.heap.size, 0, none⟩)) (some a) l.length k (l.flatMap Mark.enc) (flat_length Mark.enc_len l) (hr.below hb1) (flat_one Mark.enc_one l) (by simp only [maxLen]; omega) (by omega) hb1.size
    rw [Nat.zero_add, List.nil_append] at hO
    have HO : Hid (OwnL Mark.enc 6 w' w.heap.size 62 v' l ∧ Below w.heap.size w w') := ⟨hO, hb1.grown hG hb1.size fun g hg => by simp [ownB] at hg⟩
    rw [hW1] at hr'
    clear hO hG hv hb1 hW1
    go_enter Tryd.func88, Tryd.ntmps88
    go_wp2_with (at_builtin; refine wpList_append_run hr' rfl (.tmp 5) (.tmp 6) rfl rfl rfl rfl ?_)
    go_ret
    exact ⟨_, rfl, HO.out⟩
theorem Own.set1 {w : World} {B e k g n c : Nat} {xs : List Value} (h : Own w B e k (.slice (some ⟨g, 0, none⟩) n c) n xs) (hn : 0 < n) {j : Nat} (hj : j < n * k) (u : Value) :
    Own (w.setCell ⟨g, j, none⟩ u) B e k (.slice (some ⟨g, 0, none⟩) n c) n (xs.set j u) := by
  rcases h.2 with ⟨h0, _⟩ | ⟨g', cap, cur, hvv, hBg, hg, hnc, hc0, hcm, hcs, htake⟩
  · omega
  injection hvv with h1 _ h3
  injection h1 with h1; injection h1 with h1
  subst h1; subst h3
  refine ⟨by rw [List.length_set]; exact h.1, .inr ⟨g, c, cur.setIfInBounds j u, rfl, hBg, ?_, hnc, hc0, hcm, by simpa using hcs, ?_⟩⟩
  · rw [setCell_eq_setRow w g _ cur _ _ _ hg]; exact setRow_heap w g cur _ _ _ hg
  · rw [Array.toList_setIfInBounds, List.take_set, htake]
theorem set6 {xs : List Value} {o : Nat} (h : o + 6 ≤ xs.length) (a b c d e f : Value) :
    (((((xs.set o a).set (o + 1) b).set (o + 2) c).set (o + 3) d).set (o + 4) e).set (o + 5) f = xs.take o ++ [a, b, c, d, e, f] ++ xs.drop (o + 6) := by
  apply List.ext_getElem?
  intro i
  simp only [List.getElem?_set, List.length_set, List.append_assoc]
  by_cases h1 : i < o
  · rw [List.getElem?_append_left (by simp; omega), List.getElem?_take]
    simp [h1, show ¬ o = i from by omega, show ¬ o + 1 = i from by omega, show ¬ o + 2 = i from by omega, show ¬ o + 3 = i from by omega, show ¬ o + 4 = i from by omega, show ¬ o + 5 = i from by omega]
  · rw [List.getElem?_append_right (by simp; omega), List.length_take, Nat.min_eq_left (by omega)]
    obtain ⟨q, rfl⟩ : ∃ q, i = o + q := ⟨i - o, by omega⟩
    rw [show o + q - o = q from by omega]
    match q with
    | 0 => simp; omega
    | 1 => simp; omega
    | 2 => simp; omega
    | 3 => simp; omega
    | 4 => simp; omega
    | 5 => simp; omega
    | q + 6 =>
      rw [List.getElem?_append_right (by simp), List.getElem?_drop]
      simp [show o + 6 + q = o + (q + 6) from by omega]
theorem Below.set1 {B : Nat} {w w' : World} (h : Below B w w') {g j : Nat} (hg : B ≤ g) (u : Value) : Below B w (w'.setCell ⟨g, j, none⟩ u) := Below.setCell h hg u

theorem put17_c (w : World) (A : Option Addr) (k : Nat) (l : List Mark) (m : Mark) (hr : ReadsL Mark.enc w w.heap.size A l) (hl : l.length < 2147483000) (hs : SrtM l) (hm : ∀ m ∈ l, 0 ≤ m.client ∧ m.client ≤ 63) (hc : 0 ≤ m.client ∧ m.client ≤ 63) :
    Calls Tryd.prog 57 #[.slice A l.length k, .agg #[.int .i64 m.client, .int .u64 m.req, .int .i64 m.ans.code, .int .u64 m.ans.version, .bool m.ans.has, .string m.ans.val]] w fun e w' => ∃ v', e = .returned v' ∧ OwnL Mark.enc 6 w' w.heap.size 62 v' (putM l m) ∧ Below w.heap.size w w' := by
  obtain ⟨W1, hW1⟩ : ∃ W1, W1 = w.alloc (.cells (Mark.enc m).toArray 62) := ⟨_, rfl⟩
  have hW1' : w.alloc (.cells #[.int .i64 m.client, .int .u64 m.req, .int .i64 m.ans.code, .int .u64 m.ans.version, .bool m.ans.has, .string m.ans.val] 62) = W1 := hW1.symm
  have hb1 : Below w.heap.size w W1 := by rw [hW1]; exact (Below.refl _ _).alloc (Nat.le_refl _) _
  have hs1 : W1.heap.size = w.heap.size + 1 := by rw [hW1]; simp
  have hx1 : W1.heap[w.heap.size]? = some (.cells (Mark.enc m).toArray 62 (0, 0)) := by rw [hW1]; exact heap_alloc_new w _
  have HC := clone_c W1 A k l ((hr.below hb1).more hb1.size) hl
  clear hW1 hr
  have HS1 := Lib.hid hs1
  clear hs1
  go_enter Tryd.func57, Tryd.ntmps57
  go_wp2_with fail
  refine HC.mono ?_
  rintro e w2 ⟨v2, rfl, hO2, hb2⟩
  have hx2 := (hb2.block _ (lt_of_heap hx1)).trans hx1
  have hB2 := hb1.trans (hb2.mono hb1.size)
  have p0 : w2.cell? ⟨w.heap.size, 0, none⟩ = some (.int .i64 m.client) := cell_of_row w2 _ 0 _ _ _ hx2
  obtain ⟨A2, c2, rfl, hn2, hc2⟩ := Own.isSlice hO2
  have HF := findM_c w2 A2 c2 l m.client (OwnL.reads hO2) hl hs hm hc
  have HW1 : Hid (W1.heap.size ≤ w2.heap.size) := hb2.size
  clear HC hx1 hW1' hb1 hb2
  go_wp2_with fail
  refine HF.mono ?_
  rintro e w3 ⟨i, b, rfl, hat, hbx, hb3⟩
  have hx3 := (hb3.block _ (lt_of_heap hx2)).trans hx2
  have hO3 := Own.below hO2 hb3
  have hB3 := hB2.trans (hb3.mono hB2.size)
  have p0 : w3.cell? ⟨w.heap.size, 0, none⟩ = some (.int .i64 m.client) := cell_of_row w3 _ 0 _ _ _ hx3
  have p1 : w3.cell? ⟨w.heap.size, 1, none⟩ = some (.int .u64 m.req) := cell_of_row w3 _ 1 _ _ _ hx3
  have p2 : w3.cell? ⟨w.heap.size, 2, none⟩ = some (.int .i64 m.ans.code) := cell_of_row w3 _ 2 _ _ _ hx3
  have p3 : w3.cell? ⟨w.heap.size, 3, none⟩ = some (.int .u64 m.ans.version) := cell_of_row w3 _ 3 _ _ _ hx3
  have p4 : w3.cell? ⟨w.heap.size, 4, none⟩ = some (.bool m.ans.has) := cell_of_row w3 _ 4 _ _ _ hx3
  have p5 : w3.cell? ⟨w.heap.size, 5, none⟩ = some (.string m.ans.val) := cell_of_row w3 _ 5 _ _ _ hx3
  cases b with
  | false =>
    have hmiss : ∀ x, l[i]? = some x → x.client ≠ m.client := fun x hx he => by have := hbx.2 ⟨x, hx, he⟩; cases this
    have HP := Lib.hid (putM_miss hat hmiss)
    have hi := hat.1
    obtain ⟨W4, hW4⟩ : ∃ W4, W4 = w3.alloc (.cells (Mark.enc m).toArray 62) := ⟨_, rfl⟩
    have hb4 : Below w3.heap.size w3 W4 := by rw [hW4]; exact (Below.refl _ _).alloc (Nat.le_refl _) _
    have hx4 : W4.heap[w3.heap.size]? = some (.cells (Mark.enc m).toArray 62 (0, 0)) := by rw [hW4]; exact heap_alloc_new w3 _
    have hO4 := Own.below hO3 hb4
    have HI := insertM W4 W1.heap.size (.slice A2 l.length c2) l.length i w3.heap.size 1 (l.flatMap Mark.enc) m.enc hO4 hi (by omega) hx4 (Mark.enc_len m) (fun he => by have := (Own.lt hO3 _ he).2; omega) (Mark.enc_one m) (flat_one Mark.enc_one l) (Nat.le_trans HW1.out (Nat.le_trans hb3.size hb4.size))
    have HR : Hid (∀ w' v', Own w' W1.heap.size 62 6 v' (l.length + 1) ((l.flatMap Mark.enc).take (i * 6) ++ m.enc ++ (l.flatMap Mark.enc).drop (i * 6)) → W4.grownBy w' (ownB (.slice A2 l.length c2)) → OwnL Mark.enc 6 w' w.heap.size 62 v' (putM l m) ∧ Below w.heap.size w w') := by
      intro w' v' hO hG
      refine ⟨?_, (hB3.trans (hb4.mono hB3.size)).grown hG (Nat.le_trans hB3.size hb4.size) fun g hg => by have := (Own.lt hO4 g hg).1; have := HS1.out; omega⟩
      have hlen : (putM l m).length = l.length + 1 := by rw [HP.out]; simp; omega
      unfold OwnL
      rw [hlen, HP.out]
      simp only [List.flatMap_append, List.flatMap_cons, List.flatMap_nil, List.append_nil]
      rw [← flat_take Mark.enc_len, ← flat_drop Mark.enc_len]
      exact Own.mono hO (by have := HS1.out; omega)
    rw [hW4] at HI
    clear hat hbx hmiss hs hm hO4 hx4 hb4 hB3 hx3 hO3 hx2 hO2 hB2 HF
    go_wp2_with fail
    refine HI.mono ?_
    rw [← hW4]
    rintro e w5 ⟨v', rfl, hO5, hG5, _⟩
    have HF := Lib.hid (HR.out _ _ hO5 hG5)
    clear hO5 hG5 HR HI hW4
    go_wp2_with fail
    go_ret
    exact ⟨_, rfl, HF.out⟩
  | true =>
    have hhit := hbx.1 rfl
    have HP := Lib.hid (putM_hit hat hhit)
    have hi : i < l.length := by obtain ⟨x, hx, _⟩ := hhit; exact (List.getElem?_eq_some_iff.1 hx).1
    have hn0 : 0 < l.length := by omega
    obtain ⟨b, off, hA2, _, hx⟩ := (OwnL.reads hO3).at_ (k := 6) Mark.enc_len (by decide) hi
    obtain ⟨g, rfl⟩ : ∃ g, A2 = some ⟨g, 0, none⟩ := by
      rcases hO3.2 with ⟨h0, _⟩ | ⟨g', cap, cur, hvv, _⟩
      · omega
      · injection hvv with h1 _ h3; exact ⟨_, h1⟩
    injection hA2 with hA2
    injection hA2 with h1 h2
    subst h1; subst h2
    have g0 := hx 0 _ rfl
    have g1 := hx 1 _ rfl
    have g2 := hx 2 _ rfl
    have g3 := hx 3 _ rfl
    have g4 := hx 4 _ rfl
    have g5 := hx 5 _ rfl
    simp only [Nat.add_zero, Nat.zero_add] at g0 g1 g2 g3 g4 g5
    have hfr : ∀ j, w3.frozen? ⟨g, j, none⟩ = false := fun j => by
      obtain ⟨cur, hg⟩ := Own.elem hO3 g (by simp [ownB]; omega)
      simp [World.frozen?, hg]
    have hBg : W1.heap.size ≤ g := (Own.lt hO3 g (by simp [ownB]; omega)).1
    clear hat hbx hhit hs hm hx hx2 hO2 hB2 HF
    have hi6 : i * 6 + 6 ≤ l.length * 6 := by omega
    have hxl := hO3.1
    have HE : Hid (∀ v1 v2 v3 v4 v5 v6, v1 = Value.int .i64 m.client → v2 = Value.int .u64 m.req → v3 = Value.int .i64 m.ans.code → v4 = Value.int .u64 m.ans.version → v5 = Value.bool m.ans.has → v6 = Value.string m.ans.val →
        OwnL Mark.enc 6 ((((((w3.setCell ⟨g, i * 6, none⟩ v1).setCell ⟨g, i * 6 + 1, none⟩ v2).setCell ⟨g, i * 6 + 2, none⟩ v3).setCell ⟨g, i * 6 + 3, none⟩ v4).setCell ⟨g, i * 6 + 4, none⟩ v5).setCell ⟨g, i * 6 + 5, none⟩ v6) w.heap.size 62 (.slice (some ⟨g, 0, none⟩) l.length c2) (putM l m) ∧
        Below w.heap.size w ((((((w3.setCell ⟨g, i * 6, none⟩ v1).setCell ⟨g, i * 6 + 1, none⟩ v2).setCell ⟨g, i * 6 + 2, none⟩ v3).setCell ⟨g, i * 6 + 3, none⟩ v4).setCell ⟨g, i * 6 + 4, none⟩ v5).setCell ⟨g, i * 6 + 5, none⟩ v6)) := by
      intro v1 v2 v3 v4 v5 v6 h1 h2 h3 h4 h5 h6
      have hwg : w.heap.size ≤ g := by have := HS1.out; omega
      refine ⟨?_, (((((hB3.setCell hwg v1).setCell hwg v2).setCell hwg v3).setCell hwg v4).setCell hwg v5).setCell hwg v6⟩
      have hO := (((((hO3.set1 hn0 (j := i * 6) (by omega) v1).set1 hn0 (j := i * 6 + 1) (by omega) v2).set1 hn0 (j := i * 6 + 2) (by omega) v3).set1 hn0 (j := i * 6 + 3) (by omega) v4).set1 hn0 (j := i * 6 + 4) (by omega) v5).set1 hn0 (j := i * 6 + 5) (by omega) v6
      rw [set6 (by omega)] at hO
      subst h1; subst h2; subst h3; subst h4; subst h5; subst h6
      have hlen : (putM l m).length = l.length := by rw [HP.out]; simp; omega
      unfold OwnL
      rw [hlen, HP.out]
      simp only [List.flatMap_append, List.flatMap_cons, List.flatMap_nil, List.append_nil]
      rw [← flat_take Mark.enc_len, ← flat_drop Mark.enc_len, Nat.add_mul, Nat.one_mul]
      exact Own.mono hO (by have := HS1.out; omega)
    go_wp2_with fail
    go_ret
    exact ⟨_, rfl, HE.out _ _ _ _ _ _ rfl rfl rfl rfl rfl rfl⟩

end Go.Proofs.YtkamdppnnhjajaaDoor
namespace Go.Proofs.YtkamdppnnhjajaaDoor.Sym
open Go Go.RowKit
set_option linter.unusedVariables false
set_option linter.unusedSimpArgs false
theorem markC_den (x : Mark) : (markC x).map AV.den = x.enc := rfl
theorem rowFlat_marks (l : List Mark) : rowFlat (fun i => markC (l.getD i zeroMark)) l.length = l.flatMap Mark.enc := by
  have key : ∀ n, n ≤ l.length → rowFlat (fun i => markC (l.getD i zeroMark)) n = (l.take n).flatMap Mark.enc := by
    intro n
    induction n with
    | zero => intro _; simp [rowFlat]
    | succ n ih =>
      intro h
      rw [rowFlat_succ, ih (by omega), List.take_succ_eq_append_getElem (by omega), List.flatMap_append]
      simp [List.getD, List.getElem?_eq_getElem (show n < l.length by omega), markC_den]
  have := key l.length (Nat.le_refl _)
  rwa [List.take_length] at this
theorem marks_reads {m : Nat → Nat → Prop} {w : World} {A : Option Addr} {k : Nat} {l : List Mark} (h : Ok m w (marksAV A k l)) : ReadsL Mark.enc w w.heap.size A l := by
  have := row_of_ok h
  rw [rowFlat_marks] at this
  exact this
theorem reads_marks17 {m : Nat → Nat → Prop} {w : World} {A : Option Addr} {k : Nat} {l : List Mark} (hl : l.length ≤ k) (hk : k ≤ maxLen) (hs : ∀ x ∈ l, x.ans.val.size ≤ maxLen)
    (h : 0 < (l.flatMap Mark.enc).length → ∃ b off, A = some ⟨b, off, none⟩ ∧ ∀ j u, (l.flatMap Mark.enc)[j]? = some u → w.cell? ⟨b, off + j, none⟩ = some u ∧ ¬ m b (off + j)) : Ok m w (marksAV A k l) := by
  have hg : ∀ i (hi : i < l.length), l.getD i zeroMark = l[i] := fun i hi => by simp [List.getD, hi]
  have hpos : ∀ i, i < l.length → 0 < (l.flatMap Mark.enc).length := fun i hi => by rw [flat_length Mark.enc_len]; omega
  refine .sl _ _ _ _ _ _ hl hk (fun i _ => rfl) (fun i hi => ?_) (fun i hi j u hu => ?_) (fun i hi v hv => ?_) (fun i hi v hv => ?_)
  · obtain ⟨b, off, hA, _⟩ := h (hpos i hi); exact ⟨b, off, hA⟩
  · obtain ⟨b, off, hA, hc⟩ := h (hpos i hi)
    have hu' : (Mark.enc (l.getD i zeroMark))[j]? = some u := hu
    rw [hg i hi] at hu'
    exact ⟨b, off, hA, hc _ u (flat_get Mark.enc_len (List.getElem?_eq_getElem hi) hu')⟩
  · simp only [markC, List.mem_cons, List.not_mem_nil, or_false] at hv
    rcases hv with rfl | rfl | rfl | rfl | rfl | rfl <;> rfl
  · simp only [markC, List.mem_cons, List.not_mem_nil, or_false] at hv
    rcases hv with rfl | rfl | rfl | rfl | rfl | rfl
    · exact .int _ _
    · exact .int _ _
    · exact .int _ _
    · exact .int _ _
    · exact .bool _
    · exact .str _ (by rw [hg i hi]; exact hs _ (List.getElem_mem hi))
theorem marks_vals {m : Nat → Nat → Prop} {w : World} {A : Option Addr} {k : Nat} {l : List Mark} (h : Ok m w (marksAV A k l)) : ∀ x ∈ l, x.ans.val.size ≤ maxLen := by
  intro x hx
  obtain ⟨i, hi, rfl⟩ := List.mem_iff_getElem.1 hx
  cases h with
  | sl _ _ _ _ _ _ h1 h2 h3 h4 h5 h6 h7 =>
    have := h7 i hi (.str (l.getD i zeroMark).ans.val) (by simp [markC])
    cases this with
    | str _ h => simpa [List.getD, hi] using h
/-- a row that a call made -/
theorem own_marks {m : Nat → Nat → Prop} {w : World} {B : Nat} {e : TypeId} {A : Option Addr} {k : Nat} {l : List Mark} (h : OwnL Mark.enc 6 w B e (.slice A l.length k) l) (hm : ∀ b o, m b o → b < B) (hs : ∀ x ∈ l, x.ans.val.size ≤ maxLen) : Ok m w (marksAV A k l) := by
  obtain ⟨A', c', he, h1, h2⟩ := Own.isSlice h
  injection he with _ _ e3; subst e3
  refine reads_marks17 h1 h2 hs fun hp => ?_
  rw [flat_length Mark.enc_len] at hp
  obtain ⟨b, hA, hb⟩ := own_head h (by omega)
  refine ⟨b, 0, hA, fun j u hu => ⟨by rw [Nat.zero_add]; exact own_cells h hb j u hu, fun hmm => ?_⟩⟩
  have := (Own.lt h b hb).1
  have := hm _ _ hmm
  omega
theorem putM_mem {l : List Mark} {m x : Mark} (h : x ∈ putM l m) : x ∈ l ∨ x = m := by
  induction l with
  | nil => simp [putM] at h; exact .inr h
  | cons y l ih =>
    simp only [putM] at h
    split at h
    · rcases List.mem_cons.1 h with rfl | h
      · exact .inl (by simp)
      · rcases ih h with h | h
        · exact .inl (by simp [h])
        · exact .inr h
    · split at h
      · rcases List.mem_cons.1 h with rfl | h
        · exact .inr rfl
        · exact .inl (by simp [h])
      · rcases List.mem_cons.1 h with rfl | h
        · exact .inr rfl
        · exact .inl h
theorem ofM_cons (x : Mark) (l : List Mark) (cl : Int) : ofM (x :: l) cl = if x.client = cl then some x else ofM l cl := by
  unfold ofM
  by_cases h : x.client = cl <;> simp [h]
theorem ofM_mem {l : List Mark} (hs : SrtM l) {m : Mark} (hm : m ∈ l) : ofM l m.client = some m := by
  induction l with
  | nil => cases hm
  | cons x l ih =>
    obtain ⟨h1, h2⟩ := List.pairwise_cons.1 hs
    rw [ofM_cons]
    rcases List.mem_cons.1 hm with rfl | hm
    · simp
    · have := h1 m hm
      rw [if_neg (by omega), ih h2 hm]
theorem ofM_is {l : List Mark} {cl : Int} {m : Mark} (h : ofM l cl = some m) : m ∈ l ∧ m.client = cl :=
  ⟨List.mem_of_find?_eq_some h, by simpa using List.find?_some h⟩
/-- the place of a client's mark -/
def lowM (l : List Mark) (c : Int) : Nat := (l.takeWhile (fun x => decide (x.client < c))).length
theorem low_at : ∀ {l : List Mark} {c : Int} {i : Nat}, AtM l c i → i = lowM l c
  | [], c, i, h => by have := h.1; simp at this; simp [lowM, this]
  | x :: l, c, 0, h => by
    have := h.2.2 x (by simp)
    simp [lowM, this]
  | x :: l, c, i + 1, h => by
    obtain ⟨h1, h2⟩ := AtM.cons h
    have := low_at h2
    simp [lowM, h1] at this ⊢
    exact this
theorem low_is : ∀ {l : List Mark} {c : Int} {m : Mark}, SrtM l → ofM l c = some m → l[lowM l c]? = some m
  | [], c, m, _, h => by simp [ofM] at h
  | x :: l, c, m, hs, h => by
    obtain ⟨h1, h2⟩ := List.pairwise_cons.1 hs
    rw [ofM_cons] at h
    by_cases hc : x.client = c
    · rw [if_pos hc] at h; injection h with h; subst h
      simp [lowM, hc]
    · rw [if_neg hc] at h
      have hm := ofM_is h
      have hlt := h1 m hm.1
      have hx : x.client < c := by omega
      have := low_is h2 h
      simp [lowM, hx] at this ⊢
      exact this
theorem find_s (A : Option Addr) (k : Nat) (l : List Mark) (c : Int) (hs : l.length < 2147483000) (hg : SrtM l) (hm : ∀ m ∈ l, 0 ≤ m.client ∧ m.client ≤ 63) (hc : 0 ≤ c ∧ c ≤ 63) : Spec Tryd.prog 56 [marksAV A k l, .int .i64 c] (fun _ => .tup [.int .i64 (lowM l c : Int), .bool (.v (ofM l c).isSome)]) := by
  intro m w hmm ha
  refine (findM_c w A k l c (marks_reads (ha (marksAV A k l) (by simp))) hs hg hm hc).mono ?_
  rintro e w' ⟨i, b, rfl, hi, hb, hbel⟩
  have hlo := low_at hi
  have hbb : b = (ofM l c).isSome := by
    rw [Bool.eq_iff_iff, hb]
    constructor
    · rintro ⟨x, h1, h2⟩
      have := ofM_mem hg (List.mem_of_getElem? h1)
      rw [h2] at this
      simp [this]
    · intro h
      obtain ⟨x, hx⟩ := Option.isSome_iff_exists.1 h
      exact ⟨x, by rw [hlo]; exact low_is hg hx, (ofM_is hx).2⟩
  refine ⟨noAtom, by subst hlo hbb; rfl, .tup _ (fun v hv => ?_), hbel⟩
  simp only [List.mem_cons, List.not_mem_nil, or_false] at hv
  rcases hv with rfl | rfl
  · exact .int _ _
  · exact .bool _
theorem put17_s (A : Option Addr) (k : Nat) (l : List Mark) (x : Mark) (hs : l.length < 2147483000) (hg : SrtM l) (hl : ∀ m ∈ l, 0 ≤ m.client ∧ m.client ≤ 63) (hc : 0 ≤ x.client ∧ x.client ≤ 63) : Spec Tryd.prog 57 [marksAV A k l, .agg (markC x)] (fun y => marksAV (y.A 0) (y.c 0) (putM l x)) := by
  intro m w hm ha
  have h1 := ha (marksAV A k l) (by simp)
  have h2 := ha (.agg (markC x)) (by simp)
  refine (put17_c w A k l x (marks_reads h1) hs hg hl hc).mono ?_
  rintro e w' ⟨v', rfl, ho, hb⟩
  obtain ⟨A', c', rfl, _, _⟩ := Own.isSlice ho
  refine ⟨⟨0, fun _ => A', fun _ => c', fun _ => .empty⟩, rfl, own_marks ho hm (fun y hy => ?_), hb⟩
  rcases putM_mem hy with hy | rfl
  · exact marks_vals h1 y hy
  · have := ok_agg h2 (.str y.ans.val) (by simp [markC])
    cases this with | str _ h => exact h
end Go.Proofs.YtkamdppnnhjajaaDoor.Sym

namespace Go.Proofs.YtkamdppnnhjajaaDoor.Sym
open Go Go.RowKit
set_option maxRecDepth 100000
set_option maxHeartbeats 1600000
set_option linter.unusedVariables false
set_option linter.unusedSimpArgs false
def T55 : List (Nat × TI) := [(4, ti4), (22, ti22), (29, ti29), (32, ti32)]
theorem T55_ok : TabOK Tryd.prog T55 := .cons t4 (.cons t22 (.cons t29 (.cons t32 (.nil))))
theorem enters55 : Enters Tryd.prog 55 := fun _ _ => by kernel_rfl
theorem now_s (A : Option Addr) (k : Nat) (c : Cel) (code : Int) : Spec Tryd.prog 55 [celAV A k c, .int .i64 code] (fun _ => .agg (ansC ⟨code, c.version, c.has, ByteArray.empty⟩)) := by
  intro m w hm hargs
  obtain ⟨n1, f1, ho1, hn1, hf1⟩ := marks_open c.marks
  simp only [celAV, celC, ho1] at hargs ⊢
  refine enter hm hargs Tryd.func55 rfl (by simp [Tryd.ntmps55]) fun a0 hF => ?_
  simp only [Tryd.ntmps55, startT] at hF
  obtain ⟨B, hB⟩ : ∃ B, B = std := ⟨_, rfl⟩
  refine wp_seq ?_
  apply region_okB hB T55_ok [1, 2, 4] [2, 4] [] hF
  case hex => intro A X; conv => lhs; cbv
  case hob =>
    intro X
    subst hB
    simp [AllOb, Ob.holds, BE.den, std, stdCmp, stdArith] <;> omega
  case hQ =>
  intro X0 a0 w1 hF
  refine wp_seq ?_
  apply region_okB hB T55_ok [4] [4] [] hF
  case hex => intro A X; conv => lhs; cbv
  case hob =>
    intro X
    subst hB
    simp [AllOb, Ob.holds, BE.den, std, stdCmp, stdArith] <;> omega
  case hQ =>
  intro X1 a0 w1 hF
  refine wp_ret ?_
  refine ret_sim (fn := Tryd.f55) T55_ok hF (rs := [.cell 4 29]) rfl (by conv => lhs; cbv) ?_ noAtom ?_
  · simp [AllOb, Ob.holds]
  · subst hB
    exact Sim.refl _
theorem enters56 : Enters Tryd.prog 56 := fun _ _ => by kernel_rfl
theorem enters57 : Enters Tryd.prog 57 := fun _ _ => by kernel_rfl
theorem low_get {l : List Mark} {c : Int} (hg : SrtM l) (h : (ofM l c).isSome = true) : ofM l c = some (l.getD (lowM l c) zeroMark) := by
  obtain ⟨x, hx⟩ := Option.isSome_iff_exists.1 h
  have := low_is hg hx
  simp [List.getD, this, hx]
theorem low_lt {a : List Mark} {c : Int} {n : Nat} (hg : SrtM a) (hn : n = a.length) (h : (ofM a c).isSome = true) : lowM a c < n := by
  obtain ⟨x, hx⟩ := Option.isSome_iff_exists.1 h
  rw [hn]
  exact (List.getElem?_eq_some_iff.1 (low_is hg hx)).1
def T17 : List (Nat × TI) := [(3, ti3), (4, ti4), (9, ti9), (22, ti22), (26, ti26), (27, ti27), (29, ti29), (30, ti30), (32, ti32), (62, ti62)]
theorem T17_ok : TabOK Tryd.prog T17 := .cons t3 (.cons t4 (.cons t9 (.cons t22 (.cons t26 (.cons t27 (.cons t29 (.cons t30 (.cons t32 (.cons t62 (.nil))))))))))
theorem enters17 : Enters Tryd.prog 17 := fun _ _ => by kernel_rfl
theorem do_s (A1 : Option Addr) (k1 : Nat) (a : Cel) (o : Opr) (hsa : a.marks.length ≤ 1000000000) : Spec Tryd.prog 17 [celAV A1 k1 a, opAV o] (fun x => .tup [celAV (x.A 0) (x.c 0) (doC a o).1, .agg (ansC (doC a o).2.1), .bool (.v (doC a o).2.2.1), .int .i64 (doC a o).2.2.2]) := by
  intro m w hm hargs
  have hoa := hargs (celAV A1 k1 a) (by simp)
  have hma := ok_agg hoa (marksAV A1 k1 a.marks) (by simp [celC])
  obtain ⟨hl1, hc1⟩ := ok_len hma
  have S1 := isC_s A1 k1 a (by omega)
  have S2 := isO_s o
  have S3 := find_s A1 k1 a.marks o.client (by omega)
  have S4 := now_s A1 k1 a 0
  have S6 := fun v h s code => now_s A1 k1 ⟨v, h, s, a.marks⟩ code
  have S5 := fun code v h => put17_s A1 k1 a.marks ⟨o.client, o.req, ⟨code, v, h, ByteArray.empty⟩⟩ (by omega)
  obtain ⟨n1, f1, ho1, hn1, hf1⟩ := marks_open a.marks
  try simp only [celAV, celC, opAV, opC, ho1] at hargs
  try simp only [celAV, celC, opAV, opC, ho1] at S1
  try simp only [celAV, celC, opAV, opC, ho1] at S2
  try simp only [celAV, celC, opAV, opC, ho1] at S3
  try simp only [celAV, celC, opAV, opC, ho1] at S4
  try simp only [celAV, celC, opAV, opC, ho1] at S5
  try simp only [celAV, celC, opAV, opC, ho1] at S6
  try simp only [celAV, celC, opAV, opC, ho1] at ⊢
  generalize hia : decide (IsC a) = ia at S1
  generalize hib : decide (IsO o) = ib at S2
  refine enter hm hargs Tryd.func17 rfl (by simp [Tryd.ntmps17]) fun a0 hF => ?_
  simp only [Tryd.ntmps17, startT] at hF
  refine wp_seq ?_
  apply region_ok T17_ok [2, 3, 4, 5] [2, 3, 4, 5] [] hF
  case hex => intro A X; conv => lhs; cbv
  case hob =>
    intro X
    refine ob_split ?_
    simp [AllOb, Ob.holds, BE.den, std, stdCmp, stdArith] <;> omega
  case hQ =>
  intro X0 a0 w1 hF
  refine wp_seq ?_
  refine wp_seq ?_
  apply region_ok T17_ok [21, 2, 3, 4, 5] [2, 3, 4, 5] [(1, .r fun _ => .bool (.v ia)), (5, .r fun _ => .bool (.v ib))] hF
  case hex => intro A X; conv => lhs; cbv
  case hob =>
    intro X
    exact ⟨rfl, ⟨enters31, S1⟩, fun _ => rfl, fun _ => ⟨enters28, S2⟩, trivial⟩
  case hQ =>
  intro X1 a0 w1 hF
  refine test_ok hF rfl (fun hb hF => ?_) (fun hb hF => ?_)
  · skip
    have hr : doC a o = (zeroCel, zeroAns, false, 1) := by
      unfold doC
      rw [if_pos]
      intro h
      have h1 : ia = true := by rw [← hia]; exact decide_eq_true h.1
      have h2 : ib = true := by rw [← hib]; exact decide_eq_true h.2
      simp [std, h1, h2] at hb
    refine wp_seq ?_
    apply region_ok T17_ok [4, 5, 6, 7] [2, 3, 4, 5] [] hF
    case hex => intro A X; conv => lhs; cbv
    case hob =>
      intro X
      refine ob_split ?_
      simp [AllOb, Ob.holds, BE.den, std, stdCmp, stdArith] <;> omega
    case hQ =>
    intro X2 a0 w1 hF
    refine wp_ret ?_
    refine ret_sim (fn := Tryd.f17) T17_ok hF (rs := [.cell 4 32, .cell 5 29, .tmp 6, .tmp 7]) rfl (by conv => lhs; cbv) ?_ noAtom ?_
    · simp [AllOb, Ob.holds]
    · simp only [hr]; exact Sim.tup ⟨Sim.agg ⟨Sim.refl _, Sim.refl _, Sim.refl _, Sim.recell (fun i hi => absurd hi (Nat.not_lt_zero _)), trivial⟩, Sim.refl _, Sim.refl _, Sim.refl _, trivial⟩
  · skip
    have hab : IsC a ∧ IsO o := by
      have h1 : ia = true := by cases ia <;> simp [std] at hb ⊢
      have h2 : ib = true := by cases ib <;> simp [std, h1] at hb ⊢
      exact ⟨of_decide_eq_true (hia.trans h1), of_decide_eq_true (hib.trans h2)⟩
    have hga := hab.1.1
    have hcl : 0 ≤ o.client ∧ o.client ≤ 63 := ⟨hab.2.1, hab.2.2.1⟩
    have hms : ∀ m ∈ a.marks, 0 ≤ m.client ∧ m.client ≤ 63 := fun m hm => ⟨(hga.2 m hm).1, (hga.2 m hm).2.1⟩
    replace S3 := S3 hga.1 hms hcl
    replace S5 := fun code v h => S5 code v h hga.1 hms hcl
    have hlo : (ofM a.marks o.client).isSome = true → lowM a.marks o.client < n1 := low_lt hga.1 hn1
    have hget : (ofM a.marks o.client).isSome = true → ofM a.marks o.client = some (f1 (lowM a.marks o.client)) := fun h => by rw [hf1]; exact low_get hga.1 h
    have hno : (ofM a.marks o.client).isSome = false → ofM a.marks o.client = none := fun h => by simpa using h
    generalize lowM a.marks o.client = ia2 at S3 hlo hget
    generalize hob : (ofM a.marks o.client).isSome = ob at S3 hlo hget hno
    refine wp_skip ?_
    refine wp_seq ?_
    refine wp_seq ?_
    apply region_ok T17_ok [26, 2, 3, 4, 5] [2, 3, 4, 5] [] hF
    case hex => intro A X; conv => lhs; cbv
    case hob =>
      intro X
      refine ob_split ?_
      simp [AllOb, Ob.holds, BE.den, std, stdCmp, stdArith] <;> omega
    case hQ =>
    intro X3 a0 w1 hF
    refine test_ok hF rfl (fun hb hF => ?_) (fun hb hF => ?_)
    · skip
      have hk : o.kind = 1 := by simpa [std, stdCmp] using hb
      have hr : doC a o = (a, ⟨0, a.version, a.has, a.val⟩, false, 0) := by simp [doC, hab.1, hab.2, hk]
      refine wp_seq ?_
      apply region_ok T17_ok [2, 4, 5, 8] [2, 3, 4, 5, 8] [(1, .r fun _ => .agg [.int .i64 0, .int .u64 a.version, .bool (.v a.has), .str ByteArray.empty])] hF
      case hex => intro A X; conv => lhs; cbv
      case hob =>
        intro X
        exact ⟨rfl, ⟨enters55, S4⟩, rfl, trivial⟩
      case hQ =>
      intro X4 a0 w1 hF
      refine wp_seq ?_
      apply region_ok T17_ok [2, 4, 5, 8] [2, 3, 4, 5, 8] [] hF
      case hex => intro A X; conv => lhs; cbv
      case hob =>
        intro X
        refine ob_split ?_
        simp [AllOb, Ob.holds, BE.den, std, stdCmp, stdArith] <;> omega
      case hQ =>
      intro X5 a0 w1 hF
      refine wp_seq ?_
      apply drawn_ok (by kernel_rfl) T17_ok [4, 5, 6, 7] [2, 3, 4, 5] [] hF rfl
      case hex => intro A X; conv => lhs; cbv
      case hD => kernel_rfl
      case hlen => rfl
      case hob =>
        intro X
        refine ob_split ?_
        simp [AllOb, Ob.holds, BE.den, std, stdCmp, stdArith] <;> omega
      case hQ =>
      intro X6 a0 w1 hF
      refine wp_ret ?_
      refine ret_sim (fn := Tryd.f17) T17_ok hF (rs := [.cell 4 32, .cell 5 29, .tmp 6, .tmp 7]) rfl (by conv => lhs; cbv) ?_ (⟨0, fun _ => A1, fun _ => k1, fun _ => .empty⟩) ?_
      · simp [AllOb, Ob.holds]
      · simp only [hr, ho1]; exact Sim.refl _
    · skip
      have hk : o.kind ≠ 1 := by simpa [std, stdCmp] using hb
      refine wp_skip ?_
      refine wp_seq ?_
      refine wp_seq ?_
      apply region_ok T17_ok [2, 3, 4, 5, 9, 10] [2, 3, 4, 5] [(4, .r fun _ => .tup [.int .i64 (ia2 : Int), .bool (.v ob)])] hF
      case hex => intro A X; conv => lhs; cbv
      case hob =>
        intro X
        exact ⟨rfl, rfl, ⟨enters56, S3⟩, trivial⟩
      case hQ =>
      intro X7 a0 w1 hF
      refine wp_seq ?_
      apply drawn_ok (by kernel_rfl) T17_ok [53, 2, 3, 4, 5, 9] [2, 3, 4, 5] [] hF rfl
      case hex => intro A X; conv => lhs; cbv
      case hD => kernel_rfl
      case hlen => rfl
      case hob =>
        intro X
        have hidx : ob = true → 0 ≤ Int.ofNat ia2 ∧ Int.ofNat ia2 < (n1 : Int) := fun h => ⟨Int.natCast_nonneg _, Int.ofNat_lt.2 (hlo h)⟩
        simp only [AllOb, Ob.holds, std, BE.den, List.mem_cons, List.not_mem_nil, or_false, forall_eq_or_imp, forall_eq]
        and_intros <;> first | trivial | (intro hg; first | trivial | exact hidx hg | exact hidx hg.1)
      case hQ =>
      intro X8 a0 w1 hF
      refine test_ok hF rfl (fun hb hF => ?_) (fun hb hF => ?_)
      · skip
        have hob1 : ob = true := by cases ob <;> simp [std] at hb ⊢
        have hge : o.req ≤ (f1 ia2).req := by rw [hob1] at hb; simpa [std, stdCmp] using hb
        have hm := hget hob1
        have hin := hlo hob1
        refine wp_seq ?_
        refine wp_seq ?_
        apply drawn_ok (by kernel_rfl) T17_ok [62, 2, 4, 5, 9] [2, 3, 4, 5] [] hF rfl
        case hex => intro A X; conv => lhs; cbv
        case hD => kernel_rfl
        case hlen => rfl
        case hob =>
          intro X
          refine ob_split ?_
          simp [AllOb, Ob.holds, BE.den, std, stdCmp, stdArith] <;> omega
        case hQ =>
        intro X9 a0 w1 hF
        refine test_ok hF rfl (fun hb hF => ?_) (fun hb hF => ?_)
        · skip
          have hgt : o.req < (f1 ia2).req := by simpa [std, stdCmp] using hb
          have h1 : ¬ (f1 ia2).req = o.req := by omega
          have hr : doC a o = (a, ⟨9, 0, false, ByteArray.empty⟩, false, 0) := by simp [doC, hab.1, hab.2, hk, hm, h1, hgt]
          refine wp_seq ?_
          apply region_ok T17_ok [4, 5, 6, 7] [2, 3, 4, 5] [] hF
          case hex => intro A X; conv => lhs; cbv
          case hob =>
            intro X
            refine ob_split ?_
            simp [AllOb, Ob.holds, BE.den, std, stdCmp, stdArith] <;> omega
          case hQ =>
          intro X10 a0 w1 hF
          refine wp_ret ?_
          refine ret_sim (fn := Tryd.f17) T17_ok hF (rs := [.cell 4 32, .cell 5 29, .tmp 6, .tmp 7]) rfl (by conv => lhs; cbv) ?_ (⟨0, fun _ => A1, fun _ => k1, fun _ => .empty⟩) ?_
          · simp [AllOb, Ob.holds]
          · simp only [hr, ho1]; exact Sim.refl _
        · skip
          have hle : ¬ o.req < (f1 ia2).req := by simpa [std, stdCmp] using hb
          have h1 : (f1 ia2).req = o.req := by omega
          have hr : doC a o = (a, (f1 ia2).ans, false, 0) := by simp [doC, hab.1, hab.2, hk, hm, h1]
          refine wp_skip ?_
          refine wp_seq ?_
          apply drawn_ok (by kernel_rfl) T17_ok [4, 5, 6, 7] [2, 3, 4, 5] [] hF rfl
          case hex => intro A X; conv => lhs; cbv
          case hD => kernel_rfl
          case hlen => rfl
          case hob =>
            intro X
            refine ob_split ?_
            simp [AllOb, Ob.holds, BE.den, std, stdCmp, stdArith] <;> omega
          case hQ =>
          intro X11 a0 w1 hF
          refine wp_ret ?_
          refine ret_sim (fn := Tryd.f17) T17_ok hF (rs := [.cell 4 32, .cell 5 29, .tmp 6, .tmp 7]) rfl (by conv => lhs; cbv) ?_ (⟨0, fun _ => A1, fun _ => k1, fun _ => .empty⟩) ?_
          · simp [AllOb, Ob.holds]
          · simp only [hr, ho1]; exact Sim.refl _
      · skip
        have hwr : doC a o = writeC a o := by
          cases hob2 : ob
          · simp [doC, hab.1, hab.2, hk, hno hob2]
          · have hm := hget hob2
            have hlt : ¬ o.req ≤ (f1 ia2).req := by rw [hob2] at hb; simpa [std, stdCmp] using hb
            have h1 : ¬ (f1 ia2).req = o.req := by omega
            have h2 : ¬ o.req < (f1 ia2).req := by omega
            simp [doC, hab.1, hab.2, hk, hm, h1, h2]
        refine wp_skip ?_
        refine wp_seq ?_
        apply region_ok T17_ok [11, 12, 2, 3, 4, 5] [2, 3, 4, 5] [] hF
        case hex => intro A X; conv => lhs; cbv
        case hob =>
          intro X
          refine ob_split ?_
          simp [AllOb, Ob.holds, BE.den, std, stdCmp, stdArith] <;> omega
        case hQ =>
        intro X12 a0 w1 hF
        replace hF := hF.headS Sim.tt rfl
        refine wp_seq ?_
        refine wp_seq ?_
        apply region_ok T17_ok [73, 11, 12, 2, 3, 4, 5] [2, 3, 4, 5] [] hF
        case hex => intro A X; conv => lhs; cbv
        case hob =>
          intro X
          refine ob_split ?_
          simp [AllOb, Ob.holds, BE.den, std, stdCmp, stdArith] <;> omega
        case hQ =>
        intro X13 a0 w1 hF
        refine cut_one (ι := Bool × Int × Int × Bool × ByteArray) (S0 := [(73, _), (11, _), (12, _)]) (M0 := [(2, _)]) (G0 := []) (fun p => [(11, .bool (.v p.1)), (12, .int .i64 p.2.1)]) (fun p => [(2, ⟨(X0 0).b, 32, [.int .u64 p.2.2.1, .bool (.v p.2.2.2.1), .str p.2.2.2.2, rowM none A1 n1 k1 f1]⟩)]) (fun p => []) (fun p => p = if o.kind ≠ 2 ∧ o.version ≠ a.version then (false, 8, a.version, a.has, a.val) else (true, 0, up a.version, decide (o.kind ≠ 4), o.val)) hF ?_ ?_
        · skip
          refine wp_block ?_
          refine wp_seq ?_
          refine wp_block ?_
          refine wp_seq ?_
          refine wp_block ?_
          refine wp_seq ?_
          refine wp_seq ?_
          refine wp_seq ?_
          apply region_ok T17_ok [74, 2, 3, 4, 5, 11, 12, 73] [2, 3, 4, 5] [] hF
          case hex => intro A X; conv => lhs; cbv
          case hob =>
            intro X
            refine ob_split ?_
            simp [AllOb, Ob.holds, BE.den, std, stdCmp, stdArith] <;> omega
          case hQ =>
          intro X14 a0 w1 hF
          refine test_keep hF (fun hb hF => ?_) (fun hb hF => ?_)
          · skip
            have hk2 : o.kind ≠ 2 := by
              have : o.kind = 3 := by simpa [std, stdCmp] using hb
              omega
            refine wp_skip ?_
            refine test_tt hF rfl (fun hF => ?_)
            refine wp_exit ?_
            refine wp_seq ?_
            apply region_ok T17_ok [81, 2, 3, 4, 5, 11, 12] [2, 3, 4, 5] [] hF
            case hex => intro A X; conv => lhs; cbv
            case hob =>
              intro X
              refine ob_split ?_
              simp [AllOb, Ob.holds, BE.den, std, stdCmp, stdArith] <;> omega
            case hQ =>
            intro X16 a0 w1 hF
            refine test_ok hF rfl (fun hb hF => ?_) (fun hb hF => ?_)
            · skip
              have hne : o.version ≠ a.version := by simpa [std, stdCmp] using hb
              refine wp_seq ?_
              apply region_ok T17_ok [11, 12, 2, 3, 4, 5] [2, 3, 4, 5] [] hF
              case hex => intro A X; conv => lhs; cbv
              case hob =>
                intro X
                refine ob_split ?_
                simp [AllOb, Ob.holds, BE.den, std, stdCmp, stdArith] <;> omega
              case hQ =>
              intro X17 a0 w1 hF
              replace hF := hF.headS Sim.ff rfl
              refine wp_exit ?_
              refine ⟨(false, 8, a.version, a.has, a.val), ?_, hF⟩
              simp [hk2, hne]
            · skip
              have hn2 : o.kind ≠ 2 → o.version ≠ a.version → False := by
                have he : o.version = a.version := by simpa [std, stdCmp] using hb
                exact fun _ h => h he
              refine wp_skip ?_
              refine wp_seq ?_
              apply drawn_ok (by kernel_rfl) T17_ok [11, 12, 2, 3, 4, 5] [2, 3, 4, 5] [] hF rfl
              case hex => intro A X; conv => lhs; cbv
              case hD => kernel_rfl
              case hlen => rfl
              case hob =>
                intro X
                refine ob_split ?_
                simp [AllOb, Ob.holds, BE.den, std, stdCmp, stdArith] <;> omega
              case hQ =>
              intro X18 a0 w1 hF
              refine wp_exit ?_
              refine ⟨(true, 0, up a.version, o.kind != 4, o.val), ?_, hF⟩
              have hd4 : (o.kind != 4) = decide (o.kind ≠ 4) := by rw [Bool.eq_iff_iff]; simp
              rw [hd4]
              have : ¬ (o.kind ≠ 2 ∧ o.version ≠ a.version) := fun hx => hn2 hx.1 hx.2
              simp [this]
          · skip
            have hk3 : o.kind ≠ 3 := by simpa [std, stdCmp] using hb
            apply region_ok T17_ok [74, 2, 3, 4, 5, 11, 12] [2, 3, 4, 5] [] hF
            case hex => intro A X; conv => lhs; cbv
            case hob =>
              intro X
              refine ob_split ?_
              simp [AllOb, Ob.holds, BE.den, std, stdCmp, stdArith] <;> omega
            case hQ =>
            intro X15 a0 w1 hF
            refine test_ok hF rfl (fun hb hF => ?_) (fun hb hF => ?_)
            · skip
              have hk2 : o.kind ≠ 2 := by
                have : o.kind = 4 := by simpa [std, stdCmp] using hb
                omega
              refine wp_exit ?_
              refine wp_seq ?_
              apply region_ok T17_ok [81, 2, 3, 4, 5, 11, 12] [2, 3, 4, 5] [] hF
              case hex => intro A X; conv => lhs; cbv
              case hob =>
                intro X
                refine ob_split ?_
                simp [AllOb, Ob.holds, BE.den, std, stdCmp, stdArith] <;> omega
              case hQ =>
              intro X16 a0 w1 hF
              refine test_ok hF rfl (fun hb hF => ?_) (fun hb hF => ?_)
              · skip
                have hne : o.version ≠ a.version := by simpa [std, stdCmp] using hb
                refine wp_seq ?_
                apply region_ok T17_ok [11, 12, 2, 3, 4, 5] [2, 3, 4, 5] [] hF
                case hex => intro A X; conv => lhs; cbv
                case hob =>
                  intro X
                  refine ob_split ?_
                  simp [AllOb, Ob.holds, BE.den, std, stdCmp, stdArith] <;> omega
                case hQ =>
                intro X17 a0 w1 hF
                replace hF := hF.headS Sim.ff rfl
                refine wp_exit ?_
                refine ⟨(false, 8, a.version, a.has, a.val), ?_, hF⟩
                simp [hk2, hne]
              · skip
                have hn2 : o.kind ≠ 2 → o.version ≠ a.version → False := by
                  have he : o.version = a.version := by simpa [std, stdCmp] using hb
                  exact fun _ h => h he
                refine wp_skip ?_
                refine wp_seq ?_
                apply drawn_ok (by kernel_rfl) T17_ok [11, 12, 2, 3, 4, 5] [2, 3, 4, 5] [] hF rfl
                case hex => intro A X; conv => lhs; cbv
                case hD => kernel_rfl
                case hlen => rfl
                case hob =>
                  intro X
                  refine ob_split ?_
                  simp [AllOb, Ob.holds, BE.den, std, stdCmp, stdArith] <;> omega
                case hQ =>
                intro X18 a0 w1 hF
                refine wp_exit ?_
                refine ⟨(true, 0, up a.version, o.kind != 4, o.val), ?_, hF⟩
                have hd4 : (o.kind != 4) = decide (o.kind ≠ 4) := by rw [Bool.eq_iff_iff]; simp
                rw [hd4]
                have : ¬ (o.kind ≠ 2 ∧ o.version ≠ a.version) := fun hx => hn2 hx.1 hx.2
                simp [this]
            · skip
              have hn2 : o.kind ≠ 2 → o.version ≠ a.version → False := by
                have h4 : o.kind ≠ 4 := by simpa [std, stdCmp] using hb
                have h5 := hab.2.2.2.1
                have h6 := hab.2.2.2.2.1
                omega
              refine wp_skip ?_
              refine wp_exit ?_
              refine wp_seq ?_
              apply drawn_ok (by kernel_rfl) T17_ok [11, 12, 2, 3, 4, 5] [2, 3, 4, 5] [] hF rfl
              case hex => intro A X; conv => lhs; cbv
              case hD => kernel_rfl
              case hlen => rfl
              case hob =>
                intro X
                refine ob_split ?_
                simp [AllOb, Ob.holds, BE.den, std, stdCmp, stdArith] <;> omega
              case hQ =>
              intro X18 a0 w1 hF
              refine wp_exit ?_
              refine ⟨(true, 0, up a.version, o.kind != 4, o.val), ?_, hF⟩
              have hd4 : (o.kind != 4) = decide (o.kind ≠ 4) := by rw [Bool.eq_iff_iff]; simp
              rw [hd4]
              have : ¬ (o.kind ≠ 2 ∧ o.version ≠ a.version) := fun hx => hn2 hx.1 hx.2
              simp [this]
        · rintro ⟨does, code, v, h, s⟩ hp a0 w1 hF
          have hr : doC a o = (⟨v, h, s, putM a.marks ⟨o.client, o.req, ⟨code, v, h, ByteArray.empty⟩⟩⟩, ⟨code, v, h, ByteArray.empty⟩, does, 0) := by
            rw [hwr]; unfold writeC
            by_cases hx : o.kind ≠ 2 ∧ o.version ≠ a.version
            · rw [if_pos hx] at hp ⊢; cases hp; rfl
            · rw [if_neg hx] at hp ⊢; cases hp; rfl
          have S7 := S5 code v h
          obtain ⟨n', f', ho', hn', hf'⟩ := marks_open (putM a.marks ⟨o.client, o.req, ⟨code, v, h, ByteArray.empty⟩⟩)
          simp only [ho'] at S7
          refine wp_seq ?_
          apply region_ok T17_ok [2, 3, 4, 5, 11, 13] [2, 3, 4, 5, 13] [(2, .r fun _ => .agg [.int .i64 code, .int .u64 v, .bool (.v h), .str ByteArray.empty])] hF
          case hex => intro A X; conv => lhs; cbv
          case hob =>
            intro X
            exact ⟨rfl, ⟨enters55, S6 v h s code⟩, rfl, trivial⟩
          case hQ =>
          intro X19 a0 w1 hF
          refine wp_seq ?_
          apply region_ok T17_ok [2, 4, 5, 11, 13] [2, 3, 4, 5, 13] [(8, .r fun x => rowM none (x.A 0) n' (x.c 0) f')] hF
          case hex => intro A X; conv => lhs; cbv
          case hob =>
            intro X
            exact ⟨rfl, rfl, rfl, rfl, ⟨enters57, S7⟩, rfl, trivial⟩
          case hQ =>
          intro X20 a0 w1 hF
          refine wp_seq ?_
          apply drawn_ok (by kernel_rfl) T17_ok [4, 5, 6, 7] [2, 3, 4, 5] [] hF rfl
          case hex => intro A X; conv => lhs; cbv
          case hD => kernel_rfl
          case hlen => rfl
          case hob =>
            intro X
            refine ob_split ?_
            simp [AllOb, Ob.holds, BE.den, std, stdCmp, stdArith] <;> omega
          case hQ =>
          intro X21 a0 w1 hF
          refine wp_ret ?_
          refine ret_sim (fn := Tryd.f17) T17_ok hF (rs := [.cell 4 32, .cell 5 29, .tmp 6, .tmp 7]) rfl (by conv => lhs; cbv) ?_ (⟨0, fun _ => (X20 8).A 0, fun _ => (X20 8).c 0, fun _ => .empty⟩) ?_
          · simp [AllOb, Ob.holds]
          · simp only [hr, ho']; exact Sim.refl _
end Go.Proofs.YtkamdppnnhjajaaDoor.Sym

namespace Go.Proofs.YtkamdppnnhjajaaDoor.Sym
open Go Go.RowKit
set_option linter.unusedVariables false
set_option linter.unusedSimpArgs false

theorem putM_good {l : List Mark} {m : Mark} (h : Good l) (hm : markOk m) : Good (putM l m) := by
  have key : ∀ l : List Mark, SrtM l → SrtM (putM l m) ∧ ∀ x ∈ putM l m, x = m ∨ x ∈ l := by
    intro l
    induction l with
    | nil => intro _; exact ⟨by simp [putM, SrtM], by simp [putM]⟩
    | cons x l ih =>
      intro hs
      obtain ⟨h1, h2⟩ := List.pairwise_cons.1 hs
      obtain ⟨i1, i2⟩ := ih h2
      simp only [putM]
      split
      · rename_i hlt
        refine ⟨List.pairwise_cons.2 ⟨fun y hy => ?_, i1⟩, fun y hy => ?_⟩
        · rcases i2 y hy with rfl | hy
          · exact hlt
          · exact h1 y hy
        · rcases List.mem_cons.1 hy with rfl | hy
          · exact .inr (by simp)
          · rcases i2 y hy with h | h
            · exact .inl h
            · exact .inr (List.mem_cons_of_mem _ h)
      · split
        · rename_i he
          refine ⟨List.pairwise_cons.2 ⟨fun y hy => by have := h1 y hy; omega, h2⟩, fun y hy => ?_⟩
          rcases List.mem_cons.1 hy with rfl | hy
          · exact .inl rfl
          · exact .inr (List.mem_cons_of_mem _ hy)
        · rename_i hn hne
          refine ⟨List.pairwise_cons.2 ⟨fun y hy => ?_, hs⟩, fun y hy => ?_⟩
          · rcases List.mem_cons.1 hy with rfl | hy
            · omega
            · have := h1 y hy; omega
          · rcases List.mem_cons.1 hy with rfl | hy
            · exact .inl rfl
            · exact .inr hy
  obtain ⟨k1, k2⟩ := key l h.1
  refine ⟨k1, fun x hx => ?_⟩
  rcases k2 x hx with rfl | hx
  · exact hm
  · exact h.2 x hx
structure DoOk (o : Opr) (d : Cel) (a : Ans) : Prop where
  is : IsC d
  ver : U64 d.version
  marks : ∀ m ∈ d.marks, MarkU m
  ans : isAns a
  aver : U64 a.version
  cl : 0 ≤ o.client ∧ o.client ≤ 63
theorem up_u64 (v : Int) : U64 (up v) := by
  unfold up U64
  rw [IntKind.wrap_u64]; omega
theorem emptyOk (h : Bool) : valOk ByteArray.empty h := ⟨by decide, .inr rfl⟩
theorem do_put {c : Cel} {o : Opr} (hc : IsC c) (ho : IsO o) (hm : ∀ m ∈ c.marks, MarkU m) (hr : U64 o.req) {v : Int} {h : Bool} {s : ByteArray} {a : Ans} (hv : U64 v) (hs : valOk s h) (ha : ansOk a) (hav : U64 a.version) : DoOk o ⟨v, h, s, putM c.marks ⟨o.client, o.req, a⟩⟩ a where
  is := ⟨putM_good hc.1 ⟨ho.1, ho.2.1, ha⟩, hs⟩
  ver := hv
  marks := fun m hmm => by
    rcases putM_mem hmm with h1 | rfl
    · exact hm m h1
    · exact ⟨hr, hav⟩
  ans := ⟨by rcases ha.2 with h | h <;> omega, by rw [ha.1]; exact emptyOk _⟩
  aver := hav
  cl := ⟨ho.1, ho.2.1⟩
theorem do_write {c : Cel} {o : Opr} (hc : IsC c) (ho : IsO o) (hv : U64 c.version) (hm : ∀ m ∈ c.marks, MarkU m) (hr : U64 o.req) : DoOk o (writeC c o).1 (writeC c o).2.1 := by
  unfold writeC
  split
  · exact do_put hc ho hm hr hv hc.2 ⟨rfl, .inr rfl⟩ hv
  · refine do_put hc ho hm hr (up_u64 _) ⟨ho.2.2.2.2.1, ?_⟩ ⟨rfl, .inl rfl⟩ (up_u64 _)
    by_cases h4 : o.kind = 4
    · exact .inr (ho.2.2.2.2.2.1 (.inr h4))
    · exact .inl (by simp [h4])
theorem do_ok {c : Cel} {o : Opr} (hv : U64 c.version) (hm : ∀ m ∈ c.marks, MarkU m) (hr : U64 o.req) (he : (doC c o).2.2.2 = 0) : DoOk o (doC c o).1 (doC c o).2.1 := by
  unfold doC at he ⊢
  by_cases hco : IsC c ∧ IsO o
  · obtain ⟨hc, ho⟩ := hco
    rw [if_neg (by simp [hc, ho])] at he ⊢
    by_cases hk : o.kind = 1
    · rw [if_pos hk] at he ⊢
      exact ⟨hc, hv, hm, ⟨.inl rfl, hc.2⟩, hv, ho.1, ho.2.1⟩
    · rw [if_neg hk] at he ⊢
      cases hf : ofM c.marks o.client with
      | none => exact do_write hc ho hv hm hr
      | some m =>
        have hmem := (ofM_is hf).1
        simp only
        split
        · have h4 := (hc.1.2 m hmem).2.2
          exact ⟨hc, hv, hm, ⟨by rcases h4.2 with h | h <;> simp only <;> omega, by simp only; rw [h4.1]; exact emptyOk _⟩, (hm m hmem).2, ho.1, ho.2.1⟩
        · split
          · exact ⟨hc, hv, hm, ⟨by simp, emptyOk _⟩, u0, ho.1, ho.2.1⟩
          · exact do_write hc ho hv hm hr
  · rw [if_pos hco] at he; exact absurd (show (1 : Int) = 0 from he) (by decide)
/-- the Copy, and the Reply -/
def copyP (sr : Int) (d : Cel) : Par := ⟨3, 0, zeroKey, zeroOp, zeroAns, sr, d⟩
def replyP (o : Opr) (a : Ans) : Par := ⟨2, 0, zeroKey, ⟨o.client, o.req, 0, 0, ByteArray.empty⟩, a, 0, zeroCel⟩
theorem copy_ok {o : Opr} {d : Cel} {a : Ans} {sr : Int} (h : DoOk o d a) (hs : U64 sr) : okP (copyP sr d) :=
  ⟨(isP_iff3 rfl).2 ⟨rfl, rfl, h.is⟩, by simp [copyP, zeroKey], u0, u0, u0, u0, hs, h.ver, h.marks⟩
theorem reply_ok {o : Opr} {d : Cel} {a : Ans} (h : DoOk o d a) (hr : U64 o.req) : okP (replyP o a) :=
  ⟨(isP_iff2 rfl).2 ⟨rfl, rfl, h.cl.1, h.cl.2, h.ans, rfl, rfl⟩, by simp [replyP, zeroKey], u0, hr, u0, h.aver, u0, u0, by simp [replyP, zeroCel]⟩
def cellP (c : Cel) : Par := ⟨0, 0, zeroKey, zeroOp, zeroAns, 0, c⟩
def bothP (c : Cel) (o : Opr) : Par := ⟨0, 0, zeroKey, o, zeroAns, 0, c⟩
end Go.Proofs.YtkamdppnnhjajaaDoor.Sym

namespace Go.Proofs.YtkamdppnnhjajaaDoor.Sym
open Go Go.RowKit
set_option maxRecDepth 100000
set_option maxHeartbeats 1600000
set_option linter.unusedVariables false
set_option linter.unusedSimpArgs false
def T7 : List (Nat × TI) := [(3, ti3), (4, ti4), (9, ti9), (22, ti22), (24, ti24), (26, ti26), (27, ti27), (29, ti29), (32, ti32), (34, ti34), (62, ti62)]
theorem T7_ok : TabOK Tryd.prog T7 := .cons t3 (.cons t4 (.cons t9 (.cons t22 (.cons t24 (.cons t26 (.cons t27 (.cons t29 (.cons t32 (.cons t34 (.cons t62 (.nil)))))))))))
theorem enters7 : Enters Tryd.prog 7 := fun _ _ => by kernel_rfl
theorem lawCells_s (A : Option Addr) (k : Nat) (c : Cel) (hcv : U64 c.version) (hcm : ∀ m ∈ c.marks, MarkU m) (o : Opr) (hor : U64 o.req) (sr : Int) (hsr : U64 sr) : Spec Tryd.prog 7 [celAV A k c, opAV o, .int .u64 sr] (fun _ => .bool .tt) := by
  intro m w hm hargs
  have hm1 := ok_agg (hargs (celAV A k c) (by simp)) (marksAV A k c.marks) (by simp [celC])
  obtain ⟨hl1, hc1⟩ := ok_len hm1
  obtain ⟨n1, f1, ho1, hn1, hf1⟩ := marks_open c.marks
  have e1 : celAV A k c = .agg [.int .u64 c.version, .bool (.v c.has), .str c.val, rowM none A n1 k f1] := by simp only [celAV, celC, ho1]
  have SB := bigP_s A k (bothP c o)
  have SK := packed_s
  obtain ⟨bg, hbg⟩ : ∃ b, b = bigP (bothP c o) := ⟨_, rfl⟩
  rw [← hbg] at SB
  rw [e1] at hargs ⊢
  simp only [opAV, opC] at hargs ⊢
  refine enter hm hargs Tryd.func7 rfl (by simp [Tryd.ntmps7]) fun a0 hF => ?_
  simp only [Tryd.ntmps7, startT] at hF
  obtain ⟨B, hB⟩ : ∃ B, B = std := ⟨_, rfl⟩
  refine wp_seq ?_
  apply region_okB hB T7_ok [2, 3, 4] [3, 4] [] hF
  case hex => intro A X; conv => lhs; cbv
  case hob =>
    intro X
    subst hB
    simp [AllOb, Ob.holds, BE.den, std, stdCmp, stdArith] <;> omega
  case hQ =>
  intro X0 a0 w1 hF
  refine wp_seq ?_
  refine wp_seq ?_
  apply region_okB hB T7_ok [22, 2, 3, 4] [3, 4] [(3, .r fun _ => .bool (.v bg))] hF
  case hex => intro A X; conv => lhs; cbv
  case hob =>
    intro X
    subst hB
    simp only [AllOb, Ob.holds, BE.den, List.mem_cons, List.not_mem_nil, or_false, forall_eq_or_imp, forall_eq] <;> (and_intros <;> first | trivial | (intro h; trivial) | exact enters8 | exact SB.sim ⟨(by show Sim _ (.agg (parC (kI (List.replicate 20 0)) (marksAV A k c.marks) (bothP c o))); rw [kI_zero, ho1]; exact Sim.agg (by repeat (first | exact trivial | refine ⟨Sim.refl _, ?_⟩ | refine ⟨Sim.ff, ?_⟩ | refine ⟨Sim.tt, ?_⟩ | refine ⟨Sim.recell (fun i hi => absurd hi (Nat.not_lt_zero _)), ?_⟩))), trivial⟩ | exact ⟨enters8, SB.sim ⟨(by show Sim _ (.agg (parC (kI (List.replicate 20 0)) (marksAV A k c.marks) (bothP c o))); rw [kI_zero, ho1]; exact Sim.agg (by repeat (first | exact trivial | refine ⟨Sim.refl _, ?_⟩ | refine ⟨Sim.ff, ?_⟩ | refine ⟨Sim.tt, ?_⟩ | refine ⟨Sim.recell (fun i hi => absurd hi (Nat.not_lt_zero _)), ?_⟩))), trivial⟩⟩ | (intro h; exact ⟨enters8, SB.sim ⟨(by show Sim _ (.agg (parC (kI (List.replicate 20 0)) (marksAV A k c.marks) (bothP c o))); rw [kI_zero, ho1]; exact Sim.agg (by repeat (first | exact trivial | refine ⟨Sim.refl _, ?_⟩ | refine ⟨Sim.ff, ?_⟩ | refine ⟨Sim.tt, ?_⟩ | refine ⟨Sim.recell (fun i hi => absurd hi (Nat.not_lt_zero _)), ?_⟩))), trivial⟩⟩) | rfl | (intro h; rfl))
  case hQ =>
  intro X1 a0 w1 hF
  refine test_ok hF rfl (fun hb hF => ?_) (fun hb hF => ?_)
  · skip
    refine wp_seq ?_
    apply region_okB hB T7_ok [6] [] [] hF
    case hex => intro A X; conv => lhs; cbv
    case hob =>
      intro X
      subst hB
      simp [AllOb, Ob.holds, BE.den, std, stdCmp, stdArith] <;> omega
    case hQ =>
    intro X2 a0 w1 hF
    refine wp_ret ?_
    refine ret_spec (fn := Tryd.f7) T7_ok hF (rs := [.tmp 6]) rfl (rfl) ?_ noAtom ?_
    · subst hB; simp [AllOb, Ob.holds]
    · rfl
  · skip
    have hbf : bigP (bothP c o) = false := by rw [← hbg]; subst hB; exact hb
    have hml : c.marks.length ≤ 80 := big_le (by
      unfold bigP at hbf
      simp only [Bool.or_eq_false_iff] at hbf
      exact hbf.1.1)
    have SD := do_s A k c o (by omega)
    have F := @do_ok c o hcv hcm hor
    obtain ⟨R, hR⟩ : ∃ R, R = doC c o := ⟨_, rfl⟩
    rw [← hR] at SD F
    obtain ⟨d, a, ds, de⟩ := R
    obtain ⟨n2, f2, hm2, hn2, hf2⟩ := marks_open d.marks
    rw [e1] at SD
    simp only [celAV, celC, opAV, opC, ansC, hm2, rowM] at SD
    refine wp_skip ?_
    refine wp_seq ?_
    apply region_okB hB T7_ok [2, 4, 7, 8, 10] [4, 7, 8] [(2, .r fun x => .tup [.agg [.int .u64 d.version, .bool (.v d.has), .str d.val, .sl none (x.A 0) n2 (x.c 0) 6 (fun i => markC (f2 i))], .agg [.int .i64 a.code, .int .u64 a.version, .bool (.v a.has), .str a.val], .bool (.v ds), .int .i64 de])] hF
    case hex => intro A X; conv => lhs; cbv
    case hob =>
      intro X
      subst hB
      simp only [AllOb, Ob.holds, BE.den, List.mem_cons, List.not_mem_nil, or_false, forall_eq_or_imp, forall_eq] <;> (and_intros <;> first | trivial | (intro h; trivial) | exact enters17 | exact SD | exact ⟨enters17, SD⟩ | (intro h; exact ⟨enters17, SD⟩) | rfl | (intro h; rfl))
    case hQ =>
    intro X3 a0 w1 hF
    refine wp_seq ?_
    refine wp_seq ?_
    apply region_okB hB T7_ok [32, 2, 4, 7, 8] [4, 7, 8] [] hF
    case hex => intro A X; conv => lhs; cbv
    case hob =>
      intro X
      subst hB
      simp [AllOb, Ob.holds, BE.den, std, stdCmp, stdArith] <;> omega
    case hQ =>
    intro X4 a0 w1 hF
    refine test_ok hF rfl (fun hb hF => ?_) (fun hb hF => ?_)
    · skip
      refine wp_seq ?_
      apply region_okB hB T7_ok [6] [] [(0, .r fun _ => .bool .tt)] hF
      case hex => intro A X; conv => lhs; cbv
      case hob =>
        intro X
        subst hB
        simp only [AllOb, Ob.holds, BE.den, List.mem_cons, List.not_mem_nil, or_false, forall_eq_or_imp, forall_eq] <;> (and_intros <;> first | trivial | (intro h; trivial) | exact enters11 | exact SK | exact ⟨enters11, SK⟩ | (intro h; exact ⟨enters11, SK⟩) | rfl | (intro h; rfl))
      case hQ =>
      intro X5 a0 w1 hF
      refine wp_ret ?_
      refine ret_sim (fn := Tryd.f7) T7_ok hF (rs := [.tmp 6]) rfl (rfl) ?_ noAtom ?_
      · simp [AllOb, Ob.holds]
      · subst hB
        exact Sim.bool (by simp [BE.den, std, stdCmp, stdScmp]; try rfl)
    · skip
      have he : de = 0 := by subst hB; simpa [std, stdCmp] using hb
      replace F : DoOk o d a := F he
      have okC := copy_ok F hsr
      have okR := reply_ok F hor
      have hml2 : d.marks.length ≤ 64 := marks_le F.is
      have SP1 := fun A k => put_s A k (copyP sr d) okC.2 (show d.marks.length ≤ 1000000 by omega)
      rw [putR_yes okC.1] at SP1
      have SP2 := put_s none 0 (replyP o a) okR.2 (show (0 : Nat) ≤ 1000000 by decide)
      rw [putR_yes okR.1] at SP2
      have SG1 := getp_good (mkB (putP (copyP sr d))) (by rw [get_put okC])
      rw [get_put okC] at SG1
      have SG2 := getp_good (mkB (putP (replyP o a))) (by rw [get_put okR])
      rw [get_put okR] at SG2
      obtain ⟨s1, hs1⟩ : ∃ s, s = mkB (putP (copyP sr d)) := ⟨_, rfl⟩
      obtain ⟨s2, hs2⟩ : ∃ s, s = mkB (putP (replyP o a)) := ⟨_, rfl⟩
      simp only [← hs1] at SP1 SG1
      simp only [← hs2] at SP2 SG2
      obtain ⟨PC, hPC⟩ : ∃ p, p = copyP sr d := ⟨_, rfl⟩
      obtain ⟨PR, hPR⟩ : ∃ p, p = replyP o a := ⟨_, rfl⟩
      simp only [← hPC] at SG1
      simp only [← hPR] at SG2
      obtain ⟨n3, f3, hm3, hn3, hf3⟩ := marks_open PC.cell.marks
      obtain ⟨K3, hK3⟩ : ∃ K, K = kI PC.key := ⟨_, rfl⟩
      have eP3 : ∀ A k, parAV A k PC = .agg (parC K3 (rowM none A n3 k f3) PC) := fun A k => by simp only [parAV, hm3, hK3]
      obtain ⟨n4, f4, hm4, hn4, hf4⟩ := marks_open PR.cell.marks
      obtain ⟨K4, hK4⟩ : ∃ K, K = kI PR.key := ⟨_, rfl⟩
      have eP4 : ∀ A k, parAV A k PR = .agg (parC K4 (rowM none A n4 k f4) PR) := fun A k => by simp only [parAV, hm4, hK4]
      simp only [eP3] at SG1
      simp only [eP4] at SG2
      have hcell : PC.cell = d := by rw [hPC]; rfl
      have SS := fun A k A2 k2 => sameP_s A k (cellP PC.cell) (by simp [cellP, zeroKey]) (by rw [hcell]; show d.marks.length ≤ _; omega) A2 k2 (cellP d) (by simp [cellP, zeroKey])
      rw [show decide (cellP PC.cell = cellP d) = true from by rw [hcell]; simp] at SS
      have hser : PC.serial = sr := by rw [hPC]; rfl
      have hans : PR.ans = a := by rw [hPR]; rfl
      have hcli : PR.op.client = o.client := by rw [hPR]; rfl
      refine wp_skip ?_
      refine wp_seq ?_
      apply region_okB hB T7_ok [2, 4, 7, 8, 11, 12] [4, 7, 8] [(3, .r fun _ => .tup [.str s1, .int .i64 0])] hF
      case hex => intro A X; conv => lhs; cbv
      case hob =>
        intro X
        subst hB
        simp only [AllOb, Ob.holds, BE.den, List.mem_cons, List.not_mem_nil, or_false, forall_eq_or_imp, forall_eq] <;> (and_intros <;> first | trivial | (intro h; trivial) | exact enters9 | exact (SP1 _ _).sim ⟨(by show Sim _ (.agg (parC (kI (List.replicate 20 0)) (marksAV _ _ d.marks) (copyP sr d))); rw [kI_zero, hm2]; exact Sim.agg (by repeat (first | exact trivial | refine ⟨Sim.refl _, ?_⟩ | refine ⟨Sim.ff, ?_⟩ | refine ⟨Sim.tt, ?_⟩ | refine ⟨Sim.recell (fun i hi => absurd hi (Nat.not_lt_zero _)), ?_⟩))), trivial⟩ | exact ⟨enters9, (SP1 _ _).sim ⟨(by show Sim _ (.agg (parC (kI (List.replicate 20 0)) (marksAV _ _ d.marks) (copyP sr d))); rw [kI_zero, hm2]; exact Sim.agg (by repeat (first | exact trivial | refine ⟨Sim.refl _, ?_⟩ | refine ⟨Sim.ff, ?_⟩ | refine ⟨Sim.tt, ?_⟩ | refine ⟨Sim.recell (fun i hi => absurd hi (Nat.not_lt_zero _)), ?_⟩))), trivial⟩⟩ | (intro h; exact ⟨enters9, (SP1 _ _).sim ⟨(by show Sim _ (.agg (parC (kI (List.replicate 20 0)) (marksAV _ _ d.marks) (copyP sr d))); rw [kI_zero, hm2]; exact Sim.agg (by repeat (first | exact trivial | refine ⟨Sim.refl _, ?_⟩ | refine ⟨Sim.ff, ?_⟩ | refine ⟨Sim.tt, ?_⟩ | refine ⟨Sim.recell (fun i hi => absurd hi (Nat.not_lt_zero _)), ?_⟩))), trivial⟩⟩) | rfl | (intro h; rfl))
      case hQ =>
      intro X6 a0 w1 hF
      refine wp_seq ?_
      apply region_okB hB T7_ok [2, 4, 7, 8, 12, 13, 14] [4, 7, 8, 13] [(1, .r fun x => .tup [.agg (parC K3 (rowM none (x.A 0) n3 (x.c 0) f3) PC), .int .i64 0])] hF
      case hex => intro A X; conv => lhs; cbv
      case hob =>
        intro X
        subst hB
        simp only [AllOb, Ob.holds, BE.den, List.mem_cons, List.not_mem_nil, or_false, forall_eq_or_imp, forall_eq] <;> (and_intros <;> first | trivial | (intro h; trivial) | exact enters14 | exact SG1 | exact ⟨enters14, SG1⟩ | (intro h; exact ⟨enters14, SG1⟩) | rfl | (intro h; rfl))
      case hQ =>
      intro X7 a0 w1 hF
      refine wp_seq ?_
      apply region_okB hB T7_ok [2, 4, 7, 8, 12, 13, 14, 15, 16] [4, 7, 8, 13] [(7, .r fun _ => .tup [.str s2, .int .i64 0])] hF
      case hex => intro A X; conv => lhs; cbv
      case hob =>
        intro X
        subst hB
        simp only [AllOb, Ob.holds, BE.den, List.mem_cons, List.not_mem_nil, or_false, forall_eq_or_imp, forall_eq] <;> (and_intros <;> first | trivial | (intro h; trivial) | exact enters9 | exact SP2.sim ⟨(by show Sim _ (.agg (parC (kI (List.replicate 20 0)) (marksAV none 0 ((replyP o a)).cell.marks) (replyP o a))); rw [kI_zero]; exact Sim.agg (by repeat (first | exact trivial | refine ⟨Sim.refl _, ?_⟩ | refine ⟨Sim.ff, ?_⟩ | refine ⟨Sim.tt, ?_⟩ | refine ⟨Sim.recell (fun i hi => absurd hi (Nat.not_lt_zero _)), ?_⟩))), trivial⟩ | exact ⟨enters9, SP2.sim ⟨(by show Sim _ (.agg (parC (kI (List.replicate 20 0)) (marksAV none 0 ((replyP o a)).cell.marks) (replyP o a))); rw [kI_zero]; exact Sim.agg (by repeat (first | exact trivial | refine ⟨Sim.refl _, ?_⟩ | refine ⟨Sim.ff, ?_⟩ | refine ⟨Sim.tt, ?_⟩ | refine ⟨Sim.recell (fun i hi => absurd hi (Nat.not_lt_zero _)), ?_⟩))), trivial⟩⟩ | (intro h; exact ⟨enters9, SP2.sim ⟨(by show Sim _ (.agg (parC (kI (List.replicate 20 0)) (marksAV none 0 ((replyP o a)).cell.marks) (replyP o a))); rw [kI_zero]; exact Sim.agg (by repeat (first | exact trivial | refine ⟨Sim.refl _, ?_⟩ | refine ⟨Sim.ff, ?_⟩ | refine ⟨Sim.tt, ?_⟩ | refine ⟨Sim.recell (fun i hi => absurd hi (Nat.not_lt_zero _)), ?_⟩))), trivial⟩⟩) | rfl | (intro h; rfl))
      case hQ =>
      intro X8 a0 w1 hF
      refine wp_seq ?_
      apply region_okB hB T7_ok [2, 4, 7, 8, 12, 13, 14, 16, 17, 18] [4, 7, 8, 13, 17] [(1, .r fun x => .tup [.agg (parC K4 (rowM none (x.A 0) n4 (x.c 0) f4) PR), .int .i64 0])] hF
      case hex => intro A X; conv => lhs; cbv
      case hob =>
        intro X
        subst hB
        simp only [AllOb, Ob.holds, BE.den, List.mem_cons, List.not_mem_nil, or_false, forall_eq_or_imp, forall_eq] <;> (and_intros <;> first | trivial | (intro h; trivial) | exact enters14 | exact SG2 | exact ⟨enters14, SG2⟩ | (intro h; exact ⟨enters14, SG2⟩) | rfl | (intro h; rfl))
      case hQ =>
      intro X9 a0 w1 hF
      refine wp_seq ?_
      apply region_okB hB T7_ok [6] [] [(0, .r fun _ => .bool .tt), (21, .r fun _ => .bool (.v true))] hF
      case hex => intro A X; conv => lhs; cbv
      case hob =>
        intro X
        subst hB
        simp only [AllOb, Ob.holds, BE.den, List.mem_cons, List.not_mem_nil, or_false, forall_eq_or_imp, forall_eq] <;> (and_intros <;> first | trivial | (intro h; trivial) | exact enters11 | exact SK | exact ⟨enters11, SK⟩ | (intro h; exact ⟨enters11, SK⟩) | exact enters16 | exact (SS _ _ _ _).sim ⟨(by show Sim _ (.agg (parC (kI (List.replicate 20 0)) (marksAV _ _ PC.cell.marks) (cellP PC.cell))); rw [kI_zero, hm3]; exact Sim.agg (by repeat (first | exact trivial | refine ⟨Sim.refl _, ?_⟩ | refine ⟨Sim.ff, ?_⟩ | refine ⟨Sim.tt, ?_⟩ | refine ⟨Sim.recell (fun i hi => absurd hi (Nat.not_lt_zero _)), ?_⟩))), (by show Sim _ (.agg (parC (kI (List.replicate 20 0)) (marksAV _ _ d.marks) (cellP d))); rw [kI_zero, hm2]; exact Sim.agg (by repeat (first | exact trivial | refine ⟨Sim.refl _, ?_⟩ | refine ⟨Sim.ff, ?_⟩ | refine ⟨Sim.tt, ?_⟩ | refine ⟨Sim.recell (fun i hi => absurd hi (Nat.not_lt_zero _)), ?_⟩))), trivial⟩ | exact ⟨enters16, (SS _ _ _ _).sim ⟨(by show Sim _ (.agg (parC (kI (List.replicate 20 0)) (marksAV _ _ PC.cell.marks) (cellP PC.cell))); rw [kI_zero, hm3]; exact Sim.agg (by repeat (first | exact trivial | refine ⟨Sim.refl _, ?_⟩ | refine ⟨Sim.ff, ?_⟩ | refine ⟨Sim.tt, ?_⟩ | refine ⟨Sim.recell (fun i hi => absurd hi (Nat.not_lt_zero _)), ?_⟩))), (by show Sim _ (.agg (parC (kI (List.replicate 20 0)) (marksAV _ _ d.marks) (cellP d))); rw [kI_zero, hm2]; exact Sim.agg (by repeat (first | exact trivial | refine ⟨Sim.refl _, ?_⟩ | refine ⟨Sim.ff, ?_⟩ | refine ⟨Sim.tt, ?_⟩ | refine ⟨Sim.recell (fun i hi => absurd hi (Nat.not_lt_zero _)), ?_⟩))), trivial⟩⟩ | (intro h; exact ⟨enters16, (SS _ _ _ _).sim ⟨(by show Sim _ (.agg (parC (kI (List.replicate 20 0)) (marksAV _ _ PC.cell.marks) (cellP PC.cell))); rw [kI_zero, hm3]; exact Sim.agg (by repeat (first | exact trivial | refine ⟨Sim.refl _, ?_⟩ | refine ⟨Sim.ff, ?_⟩ | refine ⟨Sim.tt, ?_⟩ | refine ⟨Sim.recell (fun i hi => absurd hi (Nat.not_lt_zero _)), ?_⟩))), (by show Sim _ (.agg (parC (kI (List.replicate 20 0)) (marksAV _ _ d.marks) (cellP d))); rw [kI_zero, hm2]; exact Sim.agg (by repeat (first | exact trivial | refine ⟨Sim.refl _, ?_⟩ | refine ⟨Sim.ff, ?_⟩ | refine ⟨Sim.tt, ?_⟩ | refine ⟨Sim.recell (fun i hi => absurd hi (Nat.not_lt_zero _)), ?_⟩))), trivial⟩⟩) | exact ob_ans PR.ans a | (intro h; exact ob_ans PR.ans a) | rfl | (intro h; rfl))
      case hQ =>
      intro X10 a0 w1 hF
      refine wp_ret ?_
      refine ret_sim (fn := Tryd.f7) T7_ok hF (rs := [.tmp 6]) rfl (rfl) ?_ noAtom ?_
      · simp [AllOb, Ob.holds]
      · clear hF hargs hm SB SK SD SP1 SP2 SG1 SG2 SS
        subst hB
        refine Sim.bool ?_
        have h1 : eqL (ansC PR.ans) (ansC a) = true := by rw [eqL_ans, hans]; simp
        simp only [ansC] at h1
        simp [BE.den, std, stdCmp, stdScmp, canB, hser, hcli, h1]
end Go.Proofs.YtkamdppnnhjajaaDoor.Sym

namespace Go.Proofs.YtkamdppnnhjajaaDoor
open Go Go.RowKit
set_option linter.unusedVariables false

theorem walkParcelCells (W : World) (v0 v1 v2 : Value) (i0 : Sym.InCel W v0) (i1 : Sym.InOpr W v1) (i2 : Sym.InU W v2) (hg : Sym.Glob W) : Calls Tryd.prog 7 #[v0, v1, v2] W fun e w' => e = .returned (.bool true) ∧ Below W.heap.size W w' := by
  obtain ⟨A, k, c, rfl, h0, hcv, hcm⟩ := i0
  obtain ⟨o, rfl, h1, hor, hov⟩ := i1
  obtain ⟨n, rfl, hn⟩ := i2
  refine (Sym.lawCells_s A k c hcv hcm o hor n hn (fun _ _ => False) W (fun _ _ h => h.elim) (fun v hv => ?_)).mono ?_
  · simp only [List.mem_cons, List.not_mem_nil, or_false] at hv
    rcases hv with rfl | rfl | rfl
    · exact h0
    · exact h1
    · exact .int _ _
  · rintro e w' ⟨x, rfl, _, hb⟩
    exact ⟨rfl, hb⟩
end Go.Proofs.YtkamdppnnhjajaaDoor

namespace Go.Proofs.YtkamdppnnhjajaaDoor.parcelCells
open Go Go.ChangeShapes Go.WideShapes Go.ChangeAt Go.RowKit
set_option linter.unusedVariables false

theorem own : ownKnob Tryd.prog.godebug = none := by kernel_rfl
theorem laidOut : laidOutB Tryd.prog = true := by kernel_rfl

set_option maxRecDepth 100000 in
theorem lifted (os : Os) (started : os.Started) (H : Type) (enc : TypeId × Value → H) :
    ReturnsInHanded {} Tryd.checked os 7 .any (fun w args => (Rows.parcelCellsSpec.pre enc Tryd.prog Tryd.f7 [] false w args ∧ laidMetH Tryd.prog Sym.laidL w) ∧ sizedMet enc Tryd.prog Tryd.f7 (OpenSpec.ofChange Rows.parcelCellsSpec) false w args) (Rows.parcelCellsSpec.post enc Tryd.prog Tryd.f7 false true false false) := by
  refine returnsInHanded_of_change_and (C := Tryd.checked) (X := fun w _ => laidMetH Tryd.prog Sym.laidL w) (fun _ _ _ hh h => h.of_heap hh) own started (by kernel_rfl) Tryd.func7
    (ChangeSpec.witness_at (enc := enc) (C := Tryd.checked) (os := os) (X := fun w _ => laidMetH Tryd.prog Sym.laidL w) false (Sym.laidWorld os) #[.agg #[.int .u64 0, .bool false, .string ⟨#[]⟩, .slice none 0 0], .agg #[.int .i64 0, .int .u64 0, .int .i64 0, .int .u64 0, .string ⟨#[]⟩], .int .u64 0] 8 rfl (by kernel_rfl) (by kernel_rfl) (by kernel_rfl) (by kernel_rfl) (by kernel_rfl) (Sym.laidWorld_met os _)) ?_
  intro W base args ds gs before hval0 hW _ _ hL _
  have hval : ∀ (j : Nat) t v, Tryd.f7.params[j]? = some t → args[j]? = some v → Value.okWide Tryd.prog W .any base t v := hval0
  have hW' := hW
  obtain ⟨p, q, hA0, hV, rfl, hfz, hnd⟩ := hW
  have hA : DataW.TrodAll enc Tryd.prog W 0 (fun _ => true) true Tryd.f7.params.toList args.toList ds p := hA0
  rw [Tryd.params7] at hA hval
  obtain ⟨v0, vs0, d0, ds0, p0, q0, hargs, rfl, rfl, h0, r0⟩ := trodAll_cons hA
  obtain ⟨v1, vs1, d1, ds1, p1, q1, rfl, rfl, rfl, h1, r1⟩ := trodAll_cons r0
  obtain ⟨v2, vs2, d2, ds2, p2, q2, rfl, rfl, rfl, h2, r2⟩ := trodAll_cons r1
  obtain ⟨rfl, rfl, rfl⟩ := trodAll_nil r2
  obtain rfl : args = #[v0, v1, v2] := by cases args; simp_all
  obtain ⟨rfl, rfl⟩ := trodVars_none hV
  have lt0 : ∀ x ∈ p0, x.block < W.heap.size := by obtain ⟨m, hm⟩ := h0; exact DataW.trod_lt m _ _ _ hm
  have lt1 : ∀ x ∈ p1, x.block < W.heap.size := by obtain ⟨m, hm⟩ := h1; exact DataW.trod_lt m _ _ _ hm
  have lt2 : ∀ x ∈ p2, x.block < W.heap.size := by obtain ⟨m, hm⟩ := h2; exact DataW.trod_lt m _ _ _ hm
  have i0 := Sym.in_cel (hval 0 32 v0 rfl rfl) h0
  have i1 := Sym.in_opr (hval 1 26 v1 rfl rfl) h1
  have i2 := Sym.in_u (hval 2 22 v2 rfl rfl) h2
  have hg := Sym.glob_laid hL
  clear hA0 hval0
  refine (walkParcelCells W v0 v1 v2 i0 i1 i2 hg).mono fun e W' ⟨he, bel⟩ => ?_
  subst he
  exact ⟨_, rfl, _, _, _, [], _, [], hW', trodAll_mk1 (shut_bool Tryd.underlying4 _), (trodAll_cons_mk (Below.trod laidOut (by kernel_rfl) (of_decide_eq_true (by kernel_rfl)) h0 bel lt0) (trodAll_cons_mk (Below.trod laidOut (by kernel_rfl) (of_decide_eq_true (by kernel_rfl)) h1 bel lt1) (trodAll_cons_mk (Below.trod laidOut (by kernel_rfl) (of_decide_eq_true (by kernel_rfl)) h2 bel lt2) trodAll_mk0))), rfl, bel.frame _, fun h => by cases h⟩

theorem over : Rows.parcelCellsRow.holds Tryd.pinned (OpenSpec.ofChange Rows.parcelCellsSpec) :=
  OpenClaim.holds_of_wide 7 Tryd.f7 rfl rfl rfl rfl rfl rfl rfl ⟨rfl, rfl, rfl, rfl, rfl⟩ rfl rfl rfl rfl rfl (by kernel_rfl) Tryd.func7 (by kernel_rfl)
    (of_decide_eq_true (by kernel_rfl)) (by unfold Func.isWrapper; first | (rw [if_pos (by decide +kernel)]; kernel_rfl) | (rw [if_neg (by decide +kernel)]; exact ⟨rfl, rfl⟩))
    (fun os started H enc _ => lifted os started H enc)

theorem bare : Rows.ParcelCellsSaid := over
theorem proved : Rows.ParcelCellsCardSaid :=
  Claim7.holds_tied_plain_at .later [] [.handle] true (true, "215a79e1c2181f5a0fa0ecf131c11775ab0787699e8333f9d6891e50c1eb2ea0") true
    bare (fun _ h => by cases h) (by kernel_rfl) (fun _ h => by cases h) parcelCells_row_tie rfl ⟨rfl, rfl⟩ (by kernel_rfl) rfl
    (fun f fn hf hfn => by
      obtain rfl : f = 7 := Option.some.inj ((show Tryd.prog.funcNamed "espalier/espalierlaw18.ParcelCells" = some 7 by kernel_rfl).symm.trans hf) |>.symm
      obtain rfl : fn = Tryd.f7 := (Option.some.inj (Tryd.func7.symm.trans hfn)).symm
      exact ⟨by kernel_rfl, fun j t ht => by
        rw [Tryd.params7] at ht
        rcases j with _ | j
        · have h3 : t = 32 := by simpa using ht.symm
          subst h3
          exact (show Tryd.prog.wantsStandIn 32 = false by kernel_rfl)
        rcases j with _ | j
        · have h3 : t = 26 := by simpa using ht.symm
          subst h3
          exact (show Tryd.prog.wantsStandIn 26 = false by kernel_rfl)
        rcases j with _ | j
        · have h3 : t = 22 := by simpa using ht.symm
          subst h3
          exact (show Tryd.prog.wantsStandIn 22 = false by kernel_rfl)
        simp at ht⟩)
    (by kernel_rfl)
#print axioms proved
end Go.Proofs.YtkamdppnnhjajaaDoor.parcelCells
