/-
  espalierref07.Same, and a comparison of two items. Conditions: none.
-/
import Derived.Test.YtfddpcmlmcohjaaChecked
import Derived.Test.YtfddpcmlmcohjaaM07
namespace Go.Proofs.Ytfddpcmlmcohjaa
open Go.RowKit
set_option linter.unusedVariables false
set_option linter.unusedSimpArgs false
set_option maxHeartbeats 400000
set_option maxRecDepth 100000

theorem toList_inj (s t : ByteArray) : (s.toList == t.toList) = decide (s = t) := by
  rw [Bool.eq_iff_iff]
  simp only [beq_iff_eq, decide_eq_true_eq]
  constructor
  · intro h
    rw [ByteArray.toList_eq, ByteArray.toList_eq] at h
    cases s; cases t
    simp at h
    simp [h]
  · rintro rfl; rfl
theorem eqItemB (x y : Item) : (x.key == y.key && x.val.toList == y.val.toList) = decide (x = y) := by
  rw [toList_inj, Bool.eq_iff_iff]
  cases x; cases y
  simp
theorem equalItem (x y : Item) (w : World) : (Op.equalIn 10000 31 (.agg #[.int .u64 x.key, .string x.val]) (.agg #[.int .u64 y.key, .string y.val])).run Try.prog w = .ok (decide (x = y)) w := by
  rw [← eqItemB, run_equalIn_agg w 9999 31 _ _ (by kernel_rfl) (by kernel_rfl)]
  simp only [Program.fieldsOf, Try.underlying31]
  simp [Op.eqFields, part, go_sem]
  by_cases h1 : x.key = y.key <;> by_cases h2 : x.val.toList = y.val.toList <;> simp [h1, h2]
theorem neqItem (x y : Item) (w : World) : (binOp .neq 31 (.agg #[.int .u64 x.key, .string x.val]) (.agg #[.int .u64 y.key, .string y.val])).run Try.prog w = .ok (.bool (!decide (x = y))) w := by
  rw [run_neq_struct, equalItem]; rfl
theorem eqlItem (x y : Item) (w : World) : (binOp .eql 31 (.agg #[.int .u64 x.key, .string x.val]) (.agg #[.int .u64 y.key, .string y.val])).run Try.prog w = .ok (.bool (decide (x = y))) w := by
  rw [run_eql_struct, equalItem]; rfl
theorem guardItem : Try.prog.eqGuardType Try.prog.depth 31 = false := by kernel_rfl

theorem take_eq_of {α : Type} {l1 l2 : List α} {k : Nat} (h : l1.take k = l2.take k) (h1 : k < l1.length) (h2 : k < l2.length) (he : l1[k] = l2[k]) : l1.take (k + 1) = l2.take (k + 1) := by
  rw [List.take_succ_eq_append_getElem h1, List.take_succ_eq_append_getElem h2, h, he]

theorem same_c (A1 A2 : Option Addr) (c1 c2 B1 B2 : Nat) (l1 l2 : List Item) (w : World) (h1 : ReadsL Item.enc w B1 A1 l1) (h2 : ReadsL Item.enc w B2 A2 l2) (hl1 : l1.length < 9223372036854775807) (hl2 : l2.length < 9223372036854775807) :
   Calls Try.prog 16 #[.slice A1 l1.length c1, .slice A2 l2.length c2] w fun e w' => e = .returned (.bool (decide (l1 = l2))) ∧ ∃ n, w' = w.drewN n := by
  by_cases hne : l1.length = l2.length
  · have hne' : ((l1.length : Int) != (l2.length : Int)) = false := by simp [hne]
    have HN := Lib.hid hne; clear hne
    have hnq := fun x y w => neqItem x y w
    have hgd := guardItem
    go_enter Try.func16, Try.ntmps16
    go_wp2
    go_loopw [5] (fun i wr => ∃ k : Nat, k ≤ l1.length ∧ i = .int .i64 k ∧ l1.take k = l2.take k ∧ ∃ n, wr = w.drewN n) (fun i _ => l1.length - (intOf i).toNat)
    case atStart => exact ⟨0, by simp, rfl, rfl, 0, rfl⟩
    case round =>
      obtain ⟨k, hk, rfl, ht, n, rfl⟩ := hrel
      have HT := Lib.hid ht; clear ht
      by_cases hlt : k < l1.length
      · have hlt2 : k < l2.length := by have := HN.out; omega
        obtain ⟨b1, o1, rfl, hb1, hc1⟩ := h1.at_ (k := 2) Item.enc_len (by decide) hlt
        obtain ⟨b2, o2, rfl, hb2, hc2⟩ := h2.at_ (k := 2) Item.enc_len (by decide) hlt2
        have g10 := hc1 0 _ rfl
        have g11 := hc1 1 _ rfl
        have g20 := hc2 0 _ rfl
        have g21 := hc2 1 _ rfl
        simp only [Nat.add_zero] at g10 g20
        clear hc1 hc2
        by_cases he : l1[k] = l2[k]
        · have hd : decide (l1[k] = l2[k]) = true := by simp [he]
          have HE := Lib.hid (take_eq_of HT.out hlt hlt2 he)
          clear he
          go_wp2
          go_quiet (fail)
          go_wp2
          exact ⟨⟨k + 1, by omega, by go_num, HE.out, _, rfl⟩, by simp [intOf]; omega⟩
        · have hd : decide (l1[k] = l2[k]) = false := by simp [he]
          have HE : Hid (l1 ≠ l2) := fun e => he (by simp [e])
          clear he
          go_wp2
          go_quiet (fail)
          go_wp2
          go_ret
          exact ⟨by simp [HE.out], _, World.drewN_drewN _ _ _⟩
      · have HE : Hid (l1 = l2) := by
          have e1 : k = l1.length := by omega
          have := HT.out
          rw [List.take_of_length_le (by omega), List.take_of_length_le (by have := HN.out; omega)] at this
          exact this
        go_wp2
        go_ret
        exact ⟨by simp [HE.out], _, rfl⟩
  · have hne' : ((l1.length : Int) != (l2.length : Int)) = true := by simp; omega
    have HE : Hid (l1 ≠ l2) := fun e => hne (by rw [e])
    clear hne
    go_enter Try.func16, Try.ntmps16
    go_wp2
    go_ret
    exact ⟨by simp [HE.out], 0, rfl⟩
end Go.Proofs.Ytfddpcmlmcohjaa
