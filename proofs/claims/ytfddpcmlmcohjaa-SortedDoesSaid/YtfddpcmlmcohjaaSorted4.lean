/-
  The program's package sorted: Range. Conditions: fewer items than 2^31.
-/
import Derived.Test.YtfddpcmlmcohjaaSorted3
namespace Go.Proofs.Ytfddpcmlmcohjaa
open Go.RowKit
set_option linter.unusedVariables false
set_option linter.unusedSimpArgs false
set_option maxHeartbeats 400000
set_option maxRecDepth 100000

theorem etyI : ElemTy Try.prog 22 31 2 24 (.agg #[.int .u64 0, .string ⟨#[]⟩]) := ⟨by kernel_rfl, by kernel_rfl, rfl, by decide⟩

def RangeP (w : World) (l : List Item) (lo hi : Int) (most : Nat) (e : Ending) (w' : World) : Prop :=
  ∃ v, e = .returned (.tuple #[v, .int .i64 0]) ∧ OwnL Item.enc 2 w' w.heap.size 31 v ((rangeL l lo hi).take most) ∧ Below w.heap.size w w'

theorem range_fin {w w1 W' : World} {l D : List Item} {lo hi : Int} {most k B1 : Nat} {v : Value} (hAt : At l lo (rank l lo)) (hD : D = l.drop (rank l lo)) (hb : Below w.heap.size w w1) (hb1 : w.heap.size ≤ B1) (hbr : Below B1 w1 W')
    (hO : Own W' B1 31 2 v k ((D.take k).flatMap Item.enc)) (hk : k ≤ D.length) (hle : ∀ x ∈ D.take k, x.key ≤ hi) (hm : k ≤ most)
    (hend : k = D.length ∨ (∃ x, D[k]? = some x ∧ hi < x.key) ∨ k = most) : RangeP w l lo hi most (.returned (.tuple #[v, .int .i64 0])) W' := by
  refine ⟨v, rfl, ?_, hb.trans (hbr.mono hb1)⟩
  have hs : Srt D := by rw [hD]; exact List.Pairwise.sublist (List.drop_sublist _ l) hAt.srt
  rw [range_drop hAt hi, ← hD, ← take_done hs hk hle hm hend]
  unfold OwnL
  have : (D.take k).length = k := by rw [List.length_take]; omega
  rw [this]
  exact Own.mono hO hb1

theorem range_c (w : World) (B p : Nat) (v : Value) (l : List Item) (lo hi : Int) (most : Nat) (h : MapP w B p v l) (hlh : lo ≤ hi) (hmost : most ≤ 9223372036854775807) :
    Calls Try.prog 14 #[.pointer (some ⟨p, 0, none⟩), .int .u64 lo, .int .u64 hi, .int .i64 most] w (RangeP w l lo hi most) := by
  have HF := find_c w B p v l lo h
  have hsm := h.small
  have hm0 : ¬ ((most : Int) < 0) := by omega
  have hlh1 : decide (hi < lo) = false := by simp; omega
  go_enter Try.func14, Try.ntmps14
  go_wp2_with fail
  refine HF.mono ?_
  rintro e w1 ⟨⟨rfl, hAt⟩, hb⟩
  clear HF
  have h1 := h.below hb
  obtain ⟨A, c, rfl, hn, hc⟩ := Own.isSlice h1.own
  unfold maxLen at hc
  have hcell := h1.cell
  have hle := hAt.le
  have hread := ReadsL.cut (k := 2) (OwnL.reads h1.own) Item.enc_len (i := rank l lo) hn
  obtain ⟨A', hA'⟩ : ∃ A', (if c = rank l lo then A else A.map (fun x => x.add (rank l lo * 2))) = A' := ⟨_, rfl⟩
  rw [hA'] at hread
  have HA := Lib.hid hAt
  obtain ⟨D, hD⟩ : ∃ D, D = l.drop (rank l lo) := ⟨_, rfl⟩
  rw [← hD] at hread
  have hDl : l.length - rank l lo = D.length := by rw [hD, List.length_drop]
  have HD := Lib.hid hD
  clear hAt hD
  have hDs : D.length ≤ l.length := by omega
  obtain ⟨B1, hB1⟩ : ∃ B1, B1 = w1.heap.size := ⟨_, rfl⟩
  rw [← hB1] at hread
  have HB1 := Lib.hid hB1
  have hb1w : w.heap.size ≤ B1 := by rw [hB1]; exact hb.size
  clear hB1
  go_wp2_with fail
  go_loopw [10, 39] (fun o i wr => ∃ k : Nat, i = .int .i64 k ∧ k ≤ D.length ∧ k ≤ most ∧ (∀ x ∈ D.take k, x.key ≤ hi) ∧ OwnL Item.enc 2 wr B1 31 o (D.take k) ∧ Below B1 w1 wr) (fun _ i _ => D.length - (intOf i).toNat)
  case atStart => exact ⟨0, rfl, Nat.zero_le _, Nat.zero_le _, by simp, Own.nil _ _ _ _ _, Below.refl _ _⟩
  case round =>
    rename_i wr _
    obtain ⟨k, rfl, hk, hkm, hle, hO, hbr⟩ := hrel
    have Hle := Lib.hid hle
    clear hle
    have hbr0 : B1 ≤ wr.heap.size := by have := hbr.size; rw [← HB1.out] at this; exact this
    have hlenT : (D.take k).length = k := by rw [List.length_take]; omega
    by_cases hlt : k < D.length
    · obtain ⟨b, off, rfl, hbk, hx⟩ := (ReadsL.below hread hbr).at_ (k := 2) Item.enc_len (by decide) hlt
      have g0 := hx 0 _ rfl
      have g1 := hx 1 _ rfl
      simp only [Nat.add_zero] at g0
      clear hx
      have hO0 := hO
      unfold OwnL at hO
      rw [hlenT] at hO
      obtain ⟨A2, c2, rfl, hn2, hc2⟩ := Own.isSlice hO
      unfold maxLen at hc2
      clear hO0
      by_cases hgt : hi < D[k].key
      · have HO := Lib.hid hO
        have Hgt := Lib.hid hgt
        clear hO
        go_wp2
        go_ret2
        exact range_fin HA.out HD.out hb hb1w (hbr.alloc hbr0 _) (HO.out.alloc _) hk Hle.out hkm (.inr (.inl ⟨_, List.getElem?_eq_getElem hlt, Hgt.out⟩))
      · by_cases hkmost : k = most
        · have HO := Lib.hid hO
          have hkm1 : ((k : Int) == (most : Int)) = true := by simp [hkmost]
          have HK := Lib.hid hkmost
          clear hO hkmost
          go_wp2
          go_ret2
          exact range_fin HA.out HD.out hb hb1w (hbr.alloc hbr0 _) (HO.out.alloc _) hk Hle.out hkm (.inr (.inr HK.out))
        · have hkm1 : ((k : Int) == (most : Int)) = false := by simp; omega
          have hlt2 : k < most := by omega
          obtain ⟨W, hW⟩ : ∃ W, W = (wr.alloc (.cells #[.int .u64 D[k].key, .string D[k].val] 81)).alloc (.cells #[.int .u64 D[k].key, .string D[k].val] 31) := ⟨_, rfl⟩
          have hOW : Own W B1 31 2 (.slice A2 k c2) k ((D.take k).flatMap Item.enc) := by rw [hW]; exact (hO.alloc _).alloc _
          have hsW : W.heap.size = wr.heap.size + 2 := by rw [hW]; simp
          have hbW : Below wr.heap.size wr W := by rw [hW]; exact ((Below.refl _ _).alloc (Nat.le_refl _) _).alloc (by simp) _
          have hrow : RowAt W W.heap.size (some ⟨wr.heap.size + 1, 0, none⟩) (D[k].enc) := fun _ => ⟨_, _, rfl, by omega, fun j u hu => by
            have hg : W.heap[wr.heap.size + 1]? = some (.cells D[k].enc.toArray 31 (0, 0)) := by
              have := heap_alloc_new (wr.alloc (.cells #[.int .u64 D[k].key, .string D[k].val] 81)) (.cells #[.int .u64 D[k].key, .string D[k].val] 31)
              rw [World.size_alloc] at this
              rw [hW]; exact this
            rw [Nat.zero_add, cell_of_row W _ j _ _ (0, 0) hg]; simpa using hu⟩
          obtain ⟨v', w', hr, hO', hG, hbv⟩ := run_append_Own (P := Try.prog) etyI 22 hOW (some ⟨wr.heap.size + 1, 0, none⟩) 1 1 D[k].enc (by simp [Item.enc_len]) hrow (Item.enc_one _) (by simp only [maxLen]; omega) (by omega) (by omega)
          have hO2 : Own w' B1 31 2 v' (k + 1) ((D.take (k + 1)).flatMap Item.enc) := by
            rw [List.take_succ_eq_append_getElem hlt, List.flatMap_append]
            simpa using hO'
          have hbr2 : Below B1 w1 w' := (hbr.trans (hbW.mono hbr0)).grown hG (by omega) fun g hg => (Own.lt hOW g hg).1
          have hle2 : ∀ x ∈ D.take (k + 1), x.key ≤ hi := by
            rw [List.take_succ_eq_append_getElem hlt]
            intro x hx
            rcases List.mem_append.1 hx with hx | hx
            · exact Hle.out x hx
            · simp at hx; subst hx; omega
          have hO3 : OwnL Item.enc 2 w' B1 31 v' (D.take (k + 1)) := by
            unfold OwnL
            have : (D.take (k + 1)).length = k + 1 := by rw [List.length_take]; omega
            rw [this]; exact hO2
          have HH := Lib.hid (And.intro hle2 (And.intro hO3 hbr2))
          rw [hW] at hr
          clear hW hOW hsW hbW hrow hO' hG hbv hO2 hbr2 hle2 hO3 hO hkmost
          go_wp2_with (at_builtin; refine wpList_append_run hr rfl (.tmp 54) (.tmp 57) rfl rfl rfl rfl ?_)
          go_roundw
          case rel => exact ⟨k + 1, by go_num, by omega, by omega, HH.out⟩
          case measure => simp [intOf]; omega
    · obtain rfl : k = D.length := by omega
      unfold OwnL at hO
      rw [hlenT] at hO
      obtain ⟨A2, c2, rfl, hn2, hc2⟩ := Own.isSlice hO
      have HO := Lib.hid hO
      clear hO
      go_wp2
      go_ret2
      exact range_fin HA.out HD.out hb hb1w hbr HO.out hk Hle.out hkm (.inl rfl)
end Go.Proofs.Ytfddpcmlmcohjaa
