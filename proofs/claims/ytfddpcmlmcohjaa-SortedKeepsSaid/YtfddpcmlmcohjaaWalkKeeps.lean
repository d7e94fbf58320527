/-
  The walk of SortedKeeps.
-/
import Derived.Test.YtfddpcmlmcohjaaLaw07b
import Derived.Test.YtfddpcmlmcohjaaOpen07
import Derived.Test.YtfddpcmlmcohjaaM07c
namespace Go.Proofs.Ytfddpcmlmcohjaa
open Go.RowKit
set_option linter.unusedVariables false
set_option linter.unusedSimpArgs false
set_option maxHeartbeats 1000000
set_option maxRecDepth 100000
theorem walkKeepsLimit (W : World) (A : Option Addr) (c : Nat) (l : List Item) (key other : Int) (s : ByteArray) (hr : ReadsL Item.enc W W.heap.size A l) (h60 : l.length ≤ 60) (hs : s.size ≤ 200) (hs2 : 64 < s.size) :
    Calls Try.prog 10 #[.slice A l.length c, .int .u64 key, .int .u64 other, .string s] W fun e w' => e = .returned (.bool true) ∧ Below W.heap.size W w' := by
  have hfl := fillL_length l
  have HF := filled_c W A c l hr h60
  obtain ⟨L, hL⟩ : ∃ L, L = fillL l := ⟨_, rfl⟩
  have hLl : L.length ≤ 60 := by rw [hL]; omega
  rw [← hL] at HF
  clear hL hfl hr
  go_enter Try.func10, Try.ntmps10
  go_wp2_with fail
  refine HF.mono ?_
  rintro e w1 ⟨p, v, rfl, hm, hb1⟩
  clear HF
  have H2 := size_c w1 W.heap.size p v L hm
  go_wp2_with fail
  refine H2.mono ?_
  rintro e w1' ⟨rfl, rfl⟩
  have H3 := get_c w1' W.heap.size p v L other hm
  clear H2
  go_wp2_with fail
  refine H3.mono ?_
  rintro e w2 ⟨rfl, hb2⟩
  have hm2 := hm.below hb2
  have H4 := put_limit w2 W.heap.size p v L key s hm2 hs2
  clear H3
  go_wp2_with fail
  refine H4.mono ?_
  rintro e w2' ⟨rfl, rfl⟩
  clear H4
  go_wp2_with fail
  refine (ordered_c _).mono ?_
  rintro e w3 ⟨rfl, hb3⟩
  have H5 := size_c w3 W.heap.size p v L (hm2.below hb3)
  have hq : ((L.length : Int) == (L.length : Int)) = true := by simp
  have HB : Hid (Below W.heap.size W w3) := hb1.trans ((hb2.mono hb1.size).trans (hb3.mono (Nat.le_trans hb1.size hb2.size)))
  clear hb1 hb2 hb3
  go_wp2_with fail
  refine H5.mono ?_
  rintro e w4 ⟨rfl, rfl⟩
  go_wp2_with fail
  go_ret
  exact ⟨rfl, HB.out⟩

theorem Wrote.step {W w w' : World} {p : Nat} {v : Value} {l l' : List Item} (h : MapP w W.heap.size p v l) (hw : Wrote w W.heap.size p v l' w') (hb : Below W.heap.size W w) : (∃ v', MapP w' W.heap.size p v' l') ∧ Below W.heap.size W w' := by
  obtain ⟨h1, h2⟩ := Wrote.below h hw hb.size
  exact ⟨h1, hb.trans h2⟩

theorem walkKeepsMain (W : World) (A : Option Addr) (c : Nat) (l : List Item) (key other : Int) (s : ByteArray) (hr : ReadsL Item.enc W W.heap.size A l) (h60 : l.length ≤ 60) (hs2 : s.size ≤ 64) (hwf : ∀ x ∈ l, x.wf) (hk0 : 0 ≤ key) (hk1 : key < 18446744073709551616) :
    Calls Try.prog 10 #[.slice A l.length c, .int .u64 key, .int .u64 other, .string s] W fun e w' => e = .returned (.bool true) ∧ Below W.heap.size W w' := by
  have hfl := fillL_length l
  have hkeys : ∀ x ∈ fillL l, 0 ≤ x.key ∧ x.key ≤ 18446744073709551615 := fillL_mem fun x hx _ => by
    have := hwf x hx; exact ⟨this.1, by have := this.2.1; omega⟩
  have HF := filled_c W A c l hr h60
  obtain ⟨L, hL⟩ : ∃ L, L = fillL l := ⟨_, rfl⟩
  have hLl : L.length ≤ 60 := by rw [hL]; omega
  rw [← hL] at HF hkeys
  clear hL hfl hr hwf
  have hgd := guardItem
  go_enter Try.func10, Try.ntmps10
  go_wp2_with fail
  refine HF.mono ?_
  rintro e w1 ⟨p, v, rfl, hm, hb1⟩
  clear HF
  have H2 := size_c w1 W.heap.size p v L hm
  go_wp2_with fail
  refine H2.mono ?_
  rintro e w1' ⟨rfl, rfl⟩
  have H3 := get_c w1' W.heap.size p v L other hm
  clear H2
  go_wp2_with fail
  refine H3.mono ?_
  rintro e w2 ⟨rfl, hb2⟩
  have hm2 := hm.below hb2
  have hB2 := hb1.trans (hb2.mono hb1.size)
  have H4 := put_c w2 W.heap.size p v L key s hm2 hs2 hB2.size (by omega)
  clear H3 hm hb1 hb2
  go_wp2_with fail
  refine H4.mono ?_
  rintro e w3 ⟨rfl, hw3⟩
  obtain ⟨⟨v3, hm3⟩, hB3⟩ := Wrote.step hm2 hw3 hB2
  have hsz := put_size hm2.srt key s
  have hg1 : get (putL L key s) key = some s := by rw [get_put, if_pos rfl]
  have hg2 : has (putL L key s) key = true := by unfold has; rw [hg1]; rfl
  have hg3 : got (putL L key s) key = s := by unfold got; rw [hg1]; rfl
  have ho : key ≠ other → get (putL L key s) other = get L other := fun h => by rw [get_put, if_neg h]
  have hrk := rank_put L key s
  have hat := put_at L key s
  have hkeys2 : ∀ x ∈ putL L key s, 0 ≤ x.key ∧ x.key ≤ 18446744073709551615 := fun x hx => by
    rcases putL_mem hx with hx | rfl
    · exact hkeys x hx
    · exact ⟨hk0, by show key ≤ _; omega⟩
  obtain ⟨M, hM⟩ : ∃ M, M = putL L key s := ⟨_, rfl⟩
  rw [← hM] at hm3 hsz hg1 hg2 hg3 ho hrk hat hkeys2
  have hMl : M.length ≤ 61 := by rw [hsz]; split <;> omega
  have Hsz := Lib.hid hsz
  have Ho := Lib.hid ho
  have Hrk := Lib.hid hrk
  have Hat := Lib.hid hat
  have Hg2 := Lib.hid hg2
  have Hg3 := Lib.hid hg3
  clear H4 hw3 hm2 hB2 hM hkeys hsz ho hrk hat hg1
  have H5 := get_c w3 W.heap.size p v3 M key hm3
  rw [hg3, hg2] at H5
  clear hg3 hg2
  go_wp2_with fail
  refine H5.mono ?_
  rintro e w4 ⟨rfl, hb4⟩
  have hm4 := hm3.below hb4
  have hB4 := hB3.trans (hb4.mono hB3.size)
  clear H5 hm3 hb4 hB3
  have H6 := get_c w4 W.heap.size p v3 M other hm4
  have HK : Hid (((key != other) = true ∧ get M other = get L other) ∨ (key != other) = false) := by
    by_cases hko : key = other
    · exact .inr (by simp [hko])
    · exact .inl ⟨by simp [hko], Ho.out hko⟩
  obtain ⟨x, b, hkb, H6'⟩ : ∃ (x : ByteArray) (b : Bool), (((key != other) = true ∧ x = got L other ∧ b = has L other) ∨ (key != other) = false) ∧ Calls Try.prog 33 #[.pointer (some ⟨p, 0, none⟩), .int .u64 other] w4 fun e w' => e = .returned (.tuple #[.string x, .bool b]) ∧ Below w4.heap.size w4 w' := by
    refine ⟨_, _, ?_, H6⟩
    rcases HK.out with ⟨h1, h2⟩ | h1
    · exact .inl ⟨h1, by unfold got; rw [h2], by unfold has; rw [h2]⟩
    · exact .inr h1
  have Hkb := Lib.hid hkb
  clear H6 HK hkb
  go_wp2_with fail
  refine H6'.mono ?_
  rintro e w5 ⟨rfl, hb5⟩
  have hm5 := hm4.below hb5
  have hB5 := hB4.trans (hb5.mono hB4.size)
  clear H6' hm4 hb5 hB4
  have H7 := range_c w5 W.heap.size p v3 M 0 18446744073709551615 100 hm5 (by decide) (by decide)
  have hall : (rangeL M 0 18446744073709551615).take 100 = M := by rw [range_all hkeys2, List.take_of_length_le (by omega)]
  unfold RangeP at H7
  rw [hall] at H7
  go_wp2_with fail
  refine H7.mono ?_
  rintro e w6 ⟨v6, rfl, hO, hb6⟩
  have hm6 := hm5.below hb6
  have hB6 := hB5.trans (hb6.mono hB5.size)
  clear H7 hm5 hb6 hB5 hall hkeys2
  obtain ⟨A6, c6, rfl, _, hc6⟩ := Own.isSlice hO
  have H8 := rank_c w6 W.heap.size p v3 M key hm6
  rw [Hrk.out] at H8
  go_wp2_with fail
  refine H8.mono ?_
  rintro e w7 ⟨rfl, hb7⟩
  have hm7 := hm6.below hb7
  have hB7 := hB6.trans (hb7.mono hB6.size)
  have hO7 : OwnL Item.enc 2 w7 _ 31 (.slice A6 M.length c6) M := Own.below hO hb7
  clear H8 hm6 hb7 hB6 hO
  obtain ⟨r, hr⟩ : ∃ r, r = rank L key := ⟨_, rfl⟩
  have hat := Hat.out
  have hrk := Hrk.out
  rw [← hr] at hat hrk ⊢
  have hrl : r < M.length := (List.getElem?_eq_some_iff.1 hat).1
  have hMr : M[r] = ⟨key, s⟩ := (List.getElem?_eq_some_iff.1 hat).2
  have H9 := size_c w7 W.heap.size p v3 M hm7
  obtain ⟨bk, off, rfl, hbk, hx⟩ := (OwnL.reads hO7).at_ (k := 2) Item.enc_len (by decide) hrl
  have k0 := hx 0 _ rfl
  simp only [Nat.add_zero, hMr] at k0
  have H10 := drop_c w7 W.heap.size p v3 M key hm7
  rw [Hg2.out, Hg3.out] at H10
  have hq1 : (has L key == ((M.length : Int) == (L.length : Int))) = true := by
    rw [Hsz.out]
    cases has L key
    · have h1 : ¬ ((L.length : Int) + 1 = (L.length : Int)) := by omega
      simp [h1]
    · simp
  have hr0 : ¬ ((r : Int) < 0) := by omega
  have hr1 : ¬ ((M.length : Int) ≤ (r : Int)) := by omega
  have HR := Lib.hid hrk
  clear hat hMr hx hO7 hrk hr
  have H11 := H9
  rcases Hkb.out with ⟨hkn, rfl, rfl⟩ | hkn
  all_goals
    go_wp2_with fail
    refine H9.mono ?_
    rintro e w7' ⟨rfl, rfl⟩
    go_wp2_with fail
    refine H10.mono ?_
    rintro e w8 ⟨rfl, hw8⟩
    obtain ⟨⟨v8, hm8⟩, hB8⟩ := Wrote.step hm7 hw8 hB7
    have hdrop := drop_size hm7.srt Hg2.out
    have hgd1 : get (dropL M key) key = none := by rw [get_drop, if_pos rfl]
    have hgd2 : has (dropL M key) key = false := by unfold has; rw [hgd1]; rfl
    have hgd3 : got (dropL M key) key = ByteArray.empty := by unfold got; rw [hgd1]; rfl
    have hrk2 : rank (dropL M key) key = r := by rw [rank_drop, HR.out]
    obtain ⟨D, hD⟩ : ∃ D, D = dropL M key := ⟨_, rfl⟩
    rw [← hD] at hm8 hdrop hgd2 hgd3 hrk2
    clear H10 hw8 hm7 hB7 hgd1 hD
    have J1 := get_c w8 W.heap.size p v8 D key hm8
    rw [hgd2, hgd3] at J1
    have Hd := Lib.hid (And.intro hgd2 (And.intro hgd3 (And.intro hrk2 hdrop)))
    clear hgd2 hgd3 hrk2 hdrop
    go_wp2_with fail
    refine J1.mono ?_
    rintro e w9 ⟨rfl, hb9⟩
    have hm9 := hm8.below hb9
    have hB9 := hB8.trans (hb9.mono hB8.size)
    clear J1 hm8 hb9 hB8
    have J2 := drop_c w9 W.heap.size p v8 D key hm9
    rw [Hd.out.1, Hd.out.2.1, drop_none Hd.out.1] at J2
    go_wp2_with fail
    refine J2.mono ?_
    rintro e w10 ⟨rfl, hw10⟩
    obtain ⟨⟨v10, hm10⟩, hB10⟩ := Wrote.step hm9 hw10 hB9
    clear J2 hw10 hm9 hB9
    go_wp2_with fail
    refine (ordered_c _).mono ?_
    rintro e w11 ⟨rfl, hb11⟩
    have hm11 := hm10.below hb11
    have hB11 := hB10.trans (hb11.mono hB10.size)
    clear hm10 hb11 hB10
    have J3 := rank_c w11 W.heap.size p v10 D key hm11
    rw [Hd.out.2.2.1] at J3
    have hrr : ((r : Int) == (r : Int)) = true := by simp
    go_wp2_with fail
    refine J3.mono ?_
    rintro e w12 ⟨rfl, hb12⟩
    have hm12 := hm11.below hb12
    have HB := Lib.hid (hB11.trans (hb12.mono hB11.size))
    clear J3 hm11 hb12 hB11
    have J4 := size_c w12 W.heap.size p v10 D hm12
    rw [show (D.length : Int) = (M.length : Int) - 1 from by have := Hd.out.2.2.2; omega] at J4
    have hmm : ((M.length : Int) - 1 == (M.length : Int) - 1) = true := by simp
    go_wp2_with fail
    refine J4.mono ?_
    rintro e w13 ⟨rfl, rfl⟩
    go_wp2_with fail
    go_ret
    exact ⟨rfl, HB.out⟩

theorem walkSortedKeeps (W : World) (v0 v1 v2 v3 : Value) (i0 : InItems W v0) (i1 : InU64 v1) (i2 : InU64 v2) (i3 : InStr v3) : Calls Try.prog 10 #[v0, v1, v2, v3] W fun e w' => e = .returned (.bool true) ∧ Below W.heap.size W w' := by
  obtain ⟨A, c, l, rfl, hr, hlc, hcm, hwf⟩ := i0
  obtain ⟨key, rfl, hk0, hk1⟩ := i1
  obtain ⟨other, rfl, _, _⟩ := i2
  obtain ⟨s, rfl, hs⟩ := i3
  unfold maxLen at hcm
  by_cases h60 : l.length ≤ 60
  · by_cases hs2 : s.size ≤ 200
    · by_cases hs3 : s.size ≤ 64
      · exact walkKeepsMain W A c l key other s hr h60 hs3 hwf hk0 hk1
      · exact walkKeepsLimit W A c l key other s hr h60 hs2 (by omega)
    · clear hr hwf
      go_enter Try.func10, Try.ntmps10
      go_wp2_with fail
      go_ret
      exact ⟨rfl, Below.refl _ _⟩
  · clear hr hwf
    go_enter Try.func10, Try.ntmps10
    go_wp2_with fail
    go_ret
    exact ⟨rfl, Below.refl _ _⟩
end Go.Proofs.Ytfddpcmlmcohjaa
