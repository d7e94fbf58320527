/-
  The walk of SortedSplits.
-/
import Derived.Test.YtfddpcmlmcohjaaLaw07b
import Derived.Test.YtfddpcmlmcohjaaOpen07
import Derived.Test.YtfddpcmlmcohjaaM07c
namespace Go.Proofs.Ytfddpcmlmcohjaa
open Go.RowKit
set_option linter.unusedVariables false
set_option linter.unusedSimpArgs false
set_option maxHeartbeats 1000000
set_option maxRecDepth 100000

/-- Range at any number of items asked for -/
theorem range_any (w : World) (B p : Nat) (v : Value) (l : List Item) (lo hi most : Int) (h : MapP w B p v l) (hlh : lo ≤ hi) (hm : most ≤ 9223372036854775807) :
    Calls Try.prog 14 #[.pointer (some ⟨p, 0, none⟩), .int .u64 lo, .int .u64 hi, .int .i64 most] w fun e w' =>
      ∃ (A : Option Addr) (c : Nat) (f : Int) (pl : List Item), e = .returned (.tuple #[.slice A pl.length c, .int .i64 f]) ∧ ReadsL Item.enc w' w'.heap.size A pl ∧ pl.length ≤ c ∧ c ≤ maxLen ∧
        ((0 ≤ most ∧ f = 0 ∧ pl = (rangeL l lo hi).take most.toNat) ∨ (most < 0 ∧ f = 1 ∧ pl = [])) ∧ Below w.heap.size w w' := by
  by_cases h0 : 0 ≤ most
  · obtain ⟨n, rfl⟩ := Int.eq_ofNat_of_zero_le h0
    refine (range_c w B p v l lo hi n h hlh (by omega)).mono ?_
    rintro e w' ⟨v', rfl, hO, hb⟩
    obtain ⟨A, c, rfl, h1, h2⟩ := Own.isSlice hO
    exact ⟨A, c, 0, _, rfl, OwnL.reads hO, h1, h2, .inl ⟨h0, rfl, by simp⟩, hb⟩
  · refine (range_arg w B p v l lo hi most h hlh (by omega)).mono ?_
    rintro e w' ⟨rfl, rfl⟩
    exact ⟨none, 0, 1, [], rfl, ReadsL.nil, Nat.le_refl _, by simp, .inr ⟨by omega, rfl, rfl⟩, Below.refl _ _⟩

theorem walkSplitsBad (W : World) (A : Option Addr) (c : Nat) (l : List Item) (lo mid hi most : Int) (hr : ReadsL Item.enc W W.heap.size A l) (h60 : l.length ≤ 60) (hlh : hi < lo) :
    Calls Try.prog 3 #[.slice A l.length c, .int .u64 lo, .int .u64 mid, .int .u64 hi, .int .i64 most] W fun e w' => e = .returned (.bool true) ∧ Below W.heap.size W w' := by
  have HF := filled_c W A c l hr h60
  clear hr
  go_enter Try.func3, Try.ntmps3
  go_wp2_with fail
  refine HF.mono ?_
  rintro e w1 ⟨p, v, rfl, hm, hb1⟩
  clear HF
  have H2 := range_bad w1 W.heap.size p v _ lo hi 1000 hm hlh
  go_wp2_with fail
  refine H2.mono ?_
  rintro e w2 ⟨rfl, rfl⟩
  go_wp2_with fail
  refine (ordered_c _).mono ?_
  rintro e w3 ⟨rfl, hb3⟩
  have HB := Lib.hid (hb1.trans (hb3.mono hb1.size))
  clear hb1 hb3
  go_wp2_with fail
  go_ret
  exact ⟨rfl, HB.out⟩

theorem walkSplitsMain (W : World) (A : Option Addr) (c : Nat) (l : List Item) (lo mid hi most : Int) (hr : ReadsL Item.enc W W.heap.size A l) (h60 : l.length ≤ 60) (hlh : lo ≤ hi) (hm1 : -9223372036854775808 ≤ most) (hm2 : most ≤ 9223372036854775807)
    (hk0 : 0 ≤ mid) (hk1 : hi < 18446744073709551616) :
    Calls Try.prog 3 #[.slice A l.length c, .int .u64 lo, .int .u64 mid, .int .u64 hi, .int .i64 most] W fun e w' => e = .returned (.bool true) ∧ Below W.heap.size W w' := by
  have hfl := fillL_length l
  have HF := filled_c W A c l hr h60
  obtain ⟨L, hL⟩ : ∃ L, L = fillL l := ⟨_, rfl⟩
  have hLl : L.length ≤ 60 := by rw [hL]; omega
  rw [← hL] at HF
  clear hL hfl hr
  have hlh1 : decide (hi < lo) = false := by simp; omega
  go_enter Try.func3, Try.ntmps3
  go_wp2_with fail
  refine HF.mono ?_
  rintro e w1 ⟨p, v, rfl, hm, hb1⟩
  clear HF
  have H2 := range_any w1 W.heap.size p v L lo hi 1000 hm hlh (by decide)
  have hRl : (rangeL L lo hi).length ≤ 60 := Nat.le_trans (List.length_filter_le _ _) hLl
  go_wp2_with fail
  refine H2.mono ?_
  rintro e w2 ⟨A2, c2, f2, R, rfl, hR, hRc, hc2, hcase, hb2⟩
  obtain ⟨rfl, hRe⟩ : f2 = 0 ∧ R = rangeL L lo hi := by
    rcases hcase with ⟨_, h1, h2⟩ | ⟨h1, _⟩
    · exact ⟨h1, by rw [h2]; exact List.take_of_length_le (by simp; omega)⟩
    · omega
  have hRlen : R.length ≤ 60 := by rw [hRe]; exact hRl
  have hin : ∀ x ∈ R, lo ≤ x.key ∧ x.key ≤ hi := fun x hx => by
    rw [hRe] at hx; unfold rangeL at hx; simpa using (List.mem_filter.1 hx).2
  have hsr : Srt R := by rw [hRe]; exact List.Pairwise.filter _ hm.srt
  have hB2 := hb1.trans (hb2.mono hb1.size)
  have hm2' := hm.below hb2
  have HRe := Lib.hid hRe
  have HS := Lib.hid (And.intro hin hsr)
  clear H2 hcase hRe hin hsr hm hb1 hb2 hRl
  unfold maxLen at hc2
  go_wp2_with fail
  go_loopw [14] (fun i wr => ∃ k : Nat, i = .int .i64 k ∧ k ≤ R.length ∧ ∃ n, wr = w2.drewN n) (fun i _ => R.length - (intOf i).toNat)
  case atStart => exact ⟨0, rfl, Nat.zero_le _, 0, rfl⟩
  case round =>
    obtain ⟨k, rfl, hk, n, rfl⟩ := hrel
    by_cases hlt : k < R.length
    · have hR0 := hR
      obtain ⟨bk, off, rfl, hbk, hx⟩ := hR.at_ (k := 2) Item.enc_len (by decide) hlt
      have g0 := hx 0 _ rfl
      simp only [Nat.add_zero] at g0
      have hi1 := HS.out.1 R[k] (List.getElem_mem hlt)
      have d1 : decide (R[k].key < lo) = false := by simp; omega
      have d2 : decide (hi < R[k].key) = false := by simp; omega
      clear hx
      by_cases hk0' : k = 0
      · have d3 : decide (0 < k) = false := by simp; omega
        clear hk0'
        go_wp2_with fail
        go_quiet (fail)
        go_wp2_with fail
        exact ⟨⟨k + 1, by go_num, by omega, _, rfl⟩, by simp [intOf]; omega⟩
      · obtain ⟨bk', off', he', _, hy⟩ := hR0.at_ (k := 2) Item.enc_len (by decide) (show k - 1 < R.length from by omega)
        obtain ⟨rfl, rfl⟩ : bk = bk' ∧ off = off' := by injection he' with he'; injection he' with h1 h2; exact ⟨h1, h2⟩
        have g1 := hy 0 _ rfl
        simp only [Nat.add_zero] at g1
        clear hy
        have d3 : decide (0 < k) = true := by simp; omega
        have d4 : decide (R[k].key ≤ R[k - 1].key) = false := by
          have := List.pairwise_iff_getElem.1 HS.out.2 (k - 1) k (by omega) hlt (by omega)
          simp; omega
        have e1 : IntKind.i64.wrap ((k : Int) - 1) = (k : Int) - 1 := IntWalk.i64_in _ (by omega)
        have e2 : (1 : Int) ≤ (k : Int) := by omega
        have e3 : (0 : Int) ≤ (k : Int) - 1 := by omega
        have e4 : (k : Int) - 1 < (R.length : Int) := by omega
        have e5 : ((k : Int) - 1).toNat = k - 1 := by omega
        go_wp2_with fail
        go_quiet (fail)
        go_wp2_with fail
        exact ⟨⟨k + 1, by go_num, by omega, _, rfl⟩, by simp [intOf]; omega⟩
    · obtain ⟨w3, hw3⟩ : ∃ w3, w3 = w2.drewN n := ⟨_, rfl⟩
      have hm3 : MapP w3 W.heap.size p v L := by rw [hw3]; exact hm2'.below (below_drewN (Below.refl _ _) n)
      have hB3 : Below W.heap.size W w3 := by rw [hw3]; exact below_drewN hB2 n
      have hR3 : ReadsL Item.enc w3 w3.heap.size A2 R := by rw [hw3]; exact hR
      rw [← hw3]
      clear hw3 hR hB2 hm2'
      have H4 := range_any w3 W.heap.size p v L lo hi most hm3 hlh hm2
      go_wp2_with fail
      refine H4.mono ?_
      rintro e w4 ⟨A4, c4, f4, P4, rfl, hR4, hPc, hc4, hcase, hb4⟩
      have hm4 := hm3.below hb4
      have hB4 := hB3.trans (hb4.mono hB3.size)
      have hR4' : ReadsL Item.enc w4 w4.heap.size A2 R := (ReadsL.below hR3 hb4).more hb4.size
      clear H4 hm3 hB3 hR3 hb4
      unfold maxLen at hc4
      rcases hcase with ⟨h0, rfl, hP⟩ | ⟨h0, rfl, rfl⟩
      · have hPl : P4.length = min most.toNat R.length := by rw [hP, ← HRe.out, List.length_take]
        have hPt : P4 = R.take P4.length := by
          rw [hPl, hP, ← HRe.out, List.take_eq_take_iff]
          simp
        have hPR : P4.length ≤ R.length := by omega
        have hPc2 : P4.length ≤ c2 := by omega
        have e1 : decide (most < 0) = false := by simp; omega
        have hS := same_c A4 A2 c4 c2 _ _ P4 (R.take P4.length) w4 hR4 (hR4'.take Item.enc_len _) (by omega) (by rw [List.length_take]; omega)
        rw [← hPt] at hS
        simp only [decide_true] at hS
        have hdis : (most ≤ (R.length : Int) ∧ ((P4.length : Int) != most) = false) ∨ (¬ most ≤ (R.length : Int) ∧ ((P4.length : Int) != (R.length : Int)) = false) := by
          by_cases hmR : most ≤ (R.length : Int)
          · refine .inl ⟨hmR, ?_⟩
            have : (P4.length : Int) = most := by omega
            rw [this]; simp
          · refine .inr ⟨hmR, ?_⟩
            have : (P4.length : Int) = (R.length : Int) := by omega
            rw [this]; simp
        clear hP hPl hPt
        rcases hdis with ⟨d1, d2⟩ | ⟨d1, d2⟩
        all_goals
          go_wp2_with fail
          refine hS.mono ?_
          rintro e w5 ⟨rfl, n5, rfl⟩
          have hm5 : MapP (w4.drewN n5) W.heap.size p v L := hm4.below (below_drewN (Below.refl _ _) n5)
          have hB5 : Below W.heap.size W (w4.drewN n5) := below_drewN hB4 n5
          have hR5 : ReadsL Item.enc (w4.drewN n5) (w4.drewN n5).heap.size A2 R := hR4'
          obtain ⟨w5, hw5⟩ : ∃ w5, w5 = w4.drewN n5 := ⟨_, rfl⟩
          rw [← hw5] at hm5 hB5 hR5 ⊢
          clear hw5 hm4 hB4 hR4' hR4 hS
          by_cases hmid : mid < lo ∨ hi ≤ mid
          · have hdis : decide (mid < lo) = true ∨ (decide (mid < lo) = false ∧ decide (hi ≤ mid) = true) := by
              by_cases h : mid < lo
              · exact .inl (by simp [h])
              · exact .inr ⟨by simp; omega, by simp; omega⟩
            clear hmid
            rcases hdis with q1 | ⟨q1, q2⟩
            all_goals
              go_wp2_with fail
              refine (ordered_c _).mono ?_
              rintro e w6 ⟨rfl, hb6⟩
              go_wp2_with fail
              go_ret
              exact ⟨rfl, hB5.trans (hb6.mono hB5.size)⟩
          · have q1 : decide (mid < lo) = false := by simp; omega
            have q2 : decide (hi ≤ mid) = false := by simp; omega
            have qw : IntKind.u64.wrap (mid + 1) = mid + 1 := by rw [IntKind.wrap_u64]; omega
            have hm1l : lo ≤ mid := by omega
            have hm1h : mid + 1 ≤ hi := by omega
            clear hmid
            have G1 := range_any w5 W.heap.size p v L lo mid 1000 hm5 hm1l (by decide)
            go_wp2_with fail
            refine G1.mono ?_
            rintro e w6 ⟨Aa, ca, fa, La, rfl, hRa, hLac, hca, hcase, hb6⟩
            obtain ⟨rfl, hLa⟩ : fa = 0 ∧ La = rangeL L lo mid := by
              rcases hcase with ⟨_, h1, h2⟩ | ⟨h1, _⟩
              · exact ⟨h1, by rw [h2]; exact List.take_of_length_le (Nat.le_trans (List.length_filter_le _ _) (by simp; omega))⟩
              · omega
            have hm6 := hm5.below hb6
            have hB6 := hB5.trans (hb6.mono hB5.size)
            have hR6 := (ReadsL.below hR5 hb6).more hb6.size
            have HLa := Lib.hid hLa
            clear hcase hLa hb6 hm5 hB5 hR5 G1
            have G2 := range_any w6 W.heap.size p v L (mid + 1) hi 1000 hm6 hm1h (by decide)
            go_wp2_with fail
            refine G2.mono ?_
            rintro e w7 ⟨Ab, cb, fb, Lb, rfl, hRb, hLbc, hcb, hcase, hb7⟩
            obtain ⟨rfl, hLb⟩ : fb = 0 ∧ Lb = rangeL L (mid + 1) hi := by
              rcases hcase with ⟨_, h1, h2⟩ | ⟨h1, _⟩
              · exact ⟨h1, by rw [h2]; exact List.take_of_length_le (Nat.le_trans (List.length_filter_le _ _) (by simp; omega))⟩
              · omega
            have hm7 := hm6.below hb7
            have hB7 := hB6.trans (hb7.mono hB6.size)
            have hR7 := (ReadsL.below hR6 hb7).more hb7.size
            have hRa7 := (ReadsL.below hRa hb7).more hb7.size
            have hLal : La.length ≤ 60 := by rw [HLa.out]; exact Nat.le_trans (List.length_filter_le _ _) hLl
            have hLbl : Lb.length ≤ 60 := by rw [hLb]; exact Nat.le_trans (List.length_filter_le _ _) hLl
            have HLb := Lib.hid hLb
            clear hcase hLb hb7 hm6 hB6 hR6 hRa G2
            obtain ⟨v8, w8, hr8, hO8, hG8, hb8⟩ := run_append_Own (P := Try.prog) etyI 22 (Own.nil w7 w7.heap.size 31 2 none) Aa La.length ca (La.flatMap Item.enc) (flat_length Item.enc_len La) hRa7 (flat_one Item.enc_one La) (by simp only [maxLen]; omega) (by omega) (Nat.le_refl _)
            have hb78 : Below w7.heap.size w7 w8 := Chg.below (Chg.of_grown hG8) (Nat.le_refl _) (by intro k hk; simp [ownB] at hk)
            have hRb8 := (ReadsL.below hRb hb78).more hb78.size
            obtain ⟨v9, w9, hr9, hO9, hG9, hb9⟩ := run_append_Own (P := Try.prog) etyI 22 hO8 Ab Lb.length cb (Lb.flatMap Item.enc) (flat_length Item.enc_len Lb) hRb8 (flat_one Item.enc_one Lb) (by simp only [maxLen]; omega) (by omega) hb78.size
            have hb79 : Below w7.heap.size w7 w9 := hb78.grown hG9 hb78.size fun k hk => (Own.lt hO8 k hk).1
            have hm9 := hm7.below hb79
            have hB9 := hB7.trans (hb79.mono hB7.size)
            have hR9 := (ReadsL.below hR7 hb79).more hb79.size
            have hAB : La ++ Lb = R := by rw [HLa.out, HLb.out, HRe.out, ← range_split hm9.srt hm1l (by omega)]
            have hO9' : Own w9 w7.heap.size 31 2 v9 R.length (R.flatMap Item.enc) := by
              rw [← hAB, List.flatMap_append, List.length_append]
              simpa using hO9
            obtain ⟨A9, c9, hv9, _, _⟩ := Own.isSlice hO9'
            subst hv9
            have hr8' : (Builtin.append_ #[22, 22] 22 #[.slice none 0 0, .slice Aa La.length ca]).run Try.prog w7 = .ok v8 w8 := hr8
            have hRO := OwnL.reads (k := 2) (l := R) hO9'
            have hcnt := range_count L (lo := lo) hm1l
            rw [← HLa.out] at hcnt
            have Hc := Lib.hid hcnt
            clear hr8 hO8 hG8 hb8 hb78 hRb8 hO9 hG9 hb9 hb79 hm7 hB7 hR7 hRa7 hRb hO9' hAB hcnt
            go_wp2_with (first | (at_builtin; refine wpList_append_run hr8' rfl (.tmp 152) (.tmp 153) rfl rfl rfl rfl ?_) | (at_builtin; refine wpList_append_run hr9 rfl (.tmp 155) (.tmp 156) rfl rfl rfl rfl ?_))
            refine (ordered_c _).mono ?_
            rintro e w10 ⟨rfl, hb10⟩
            have hm10 := hm9.below hb10
            have hB10 := hB9.trans (hb10.mono hB9.size)
            have hR10 := (ReadsL.below hR9 hb10).more hb10.size
            have hRO10 := (ReadsL.below hRO hb10).more hb10.size
            have K1 := same_c A9 A2 c9 c2 _ _ R R w10 hRO10 hR10 (by omega) (by omega)
            simp only [decide_true] at K1
            clear hr8' hr9 hb10 hm9 hB9 hR9 hRO hR10 hRO10
            go_wp2_with fail
            refine K1.mono ?_
            rintro e w11 ⟨rfl, n11, rfl⟩
            have hm11 : MapP (w10.drewN n11) W.heap.size p v L := hm10.below (below_drewN (Below.refl _ _) n11)
            have hB11 : Below W.heap.size W (w10.drewN n11) := below_drewN hB10 n11
            obtain ⟨w11, hw11⟩ : ∃ w11, w11 = w10.drewN n11 := ⟨_, rfl⟩
            rw [← hw11] at hm11 hB11 ⊢
            clear hw11 hm10 hB10 K1
            have K2 := rank_c w11 W.heap.size p v L (mid + 1) hm11
            go_wp2_with fail
            refine K2.mono ?_
            rintro e w12 ⟨rfl, hb12⟩
            have hm12 := hm11.below hb12
            have hB12 := hB11.trans (hb12.mono hB11.size)
            have K3 := rank_c w12 W.heap.size p v L lo hm12
            clear K2 hm11 hB11 hb12
            go_wp2_with fail
            refine K3.mono ?_
            rintro e w13 ⟨rfl, hb13⟩
            have hB13 := hB12.trans (hb13.mono hB12.size)
            have hq9 : ((La.length : Int) == (rank L (mid + 1) : Int) - (rank L lo : Int)) = true := by
              have := Hc.out
              rw [beq_iff_eq]; omega
            have hrl1 : rank L (mid + 1) ≤ 60 := Nat.le_trans (List.countP_le_length) hLl
            have hrl2 : rank L lo ≤ 60 := Nat.le_trans (List.countP_le_length) hLl
            clear K3 hm12 hB12 hb13
            go_wp2_with fail
            go_ret
            exact ⟨rfl, hB13⟩
      · have e1 : decide (most < 0) = true := by simp [h0]
        have hm5 := hm4
        have hB5 := hB4
        have hR5 := hR4'
        obtain ⟨w5, hw5⟩ : ∃ w5, w5 = w4 := ⟨_, rfl⟩
        rw [← hw5] at hm5 hB5 hR5 ⊢
        clear hw5 hm4 hB4 hR4' hR4
        skip
        by_cases hmid : mid < lo ∨ hi ≤ mid
        · have hdis : decide (mid < lo) = true ∨ (decide (mid < lo) = false ∧ decide (hi ≤ mid) = true) := by
            by_cases h : mid < lo
            · exact .inl (by simp [h])
            · exact .inr ⟨by simp; omega, by simp; omega⟩
          clear hmid
          rcases hdis with q1 | ⟨q1, q2⟩
          all_goals
            go_wp2_with fail
            refine (ordered_c _).mono ?_
            rintro e w6 ⟨rfl, hb6⟩
            go_wp2_with fail
            go_ret
            exact ⟨rfl, hB5.trans (hb6.mono hB5.size)⟩
        · have q1 : decide (mid < lo) = false := by simp; omega
          have q2 : decide (hi ≤ mid) = false := by simp; omega
          have qw : IntKind.u64.wrap (mid + 1) = mid + 1 := by rw [IntKind.wrap_u64]; omega
          have hm1l : lo ≤ mid := by omega
          have hm1h : mid + 1 ≤ hi := by omega
          clear hmid
          have G1 := range_any w5 W.heap.size p v L lo mid 1000 hm5 hm1l (by decide)
          go_wp2_with fail
          refine G1.mono ?_
          rintro e w6 ⟨Aa, ca, fa, La, rfl, hRa, hLac, hca, hcase, hb6⟩
          obtain ⟨rfl, hLa⟩ : fa = 0 ∧ La = rangeL L lo mid := by
            rcases hcase with ⟨_, h1, h2⟩ | ⟨h1, _⟩
            · exact ⟨h1, by rw [h2]; exact List.take_of_length_le (Nat.le_trans (List.length_filter_le _ _) (by simp; omega))⟩
            · omega
          have hm6 := hm5.below hb6
          have hB6 := hB5.trans (hb6.mono hB5.size)
          have hR6 := (ReadsL.below hR5 hb6).more hb6.size
          have HLa := Lib.hid hLa
          clear hcase hLa hb6 hm5 hB5 hR5 G1
          have G2 := range_any w6 W.heap.size p v L (mid + 1) hi 1000 hm6 hm1h (by decide)
          go_wp2_with fail
          refine G2.mono ?_
          rintro e w7 ⟨Ab, cb, fb, Lb, rfl, hRb, hLbc, hcb, hcase, hb7⟩
          obtain ⟨rfl, hLb⟩ : fb = 0 ∧ Lb = rangeL L (mid + 1) hi := by
            rcases hcase with ⟨_, h1, h2⟩ | ⟨h1, _⟩
            · exact ⟨h1, by rw [h2]; exact List.take_of_length_le (Nat.le_trans (List.length_filter_le _ _) (by simp; omega))⟩
            · omega
          have hm7 := hm6.below hb7
          have hB7 := hB6.trans (hb7.mono hB6.size)
          have hR7 := (ReadsL.below hR6 hb7).more hb7.size
          have hRa7 := (ReadsL.below hRa hb7).more hb7.size
          have hLal : La.length ≤ 60 := by rw [HLa.out]; exact Nat.le_trans (List.length_filter_le _ _) hLl
          have hLbl : Lb.length ≤ 60 := by rw [hLb]; exact Nat.le_trans (List.length_filter_le _ _) hLl
          have HLb := Lib.hid hLb
          clear hcase hLb hb7 hm6 hB6 hR6 hRa G2
          obtain ⟨v8, w8, hr8, hO8, hG8, hb8⟩ := run_append_Own (P := Try.prog) etyI 22 (Own.nil w7 w7.heap.size 31 2 none) Aa La.length ca (La.flatMap Item.enc) (flat_length Item.enc_len La) hRa7 (flat_one Item.enc_one La) (by simp only [maxLen]; omega) (by omega) (Nat.le_refl _)
          have hb78 : Below w7.heap.size w7 w8 := Chg.below (Chg.of_grown hG8) (Nat.le_refl _) (by intro k hk; simp [ownB] at hk)
          have hRb8 := (ReadsL.below hRb hb78).more hb78.size
          obtain ⟨v9, w9, hr9, hO9, hG9, hb9⟩ := run_append_Own (P := Try.prog) etyI 22 hO8 Ab Lb.length cb (Lb.flatMap Item.enc) (flat_length Item.enc_len Lb) hRb8 (flat_one Item.enc_one Lb) (by simp only [maxLen]; omega) (by omega) hb78.size
          have hb79 : Below w7.heap.size w7 w9 := hb78.grown hG9 hb78.size fun k hk => (Own.lt hO8 k hk).1
          have hm9 := hm7.below hb79
          have hB9 := hB7.trans (hb79.mono hB7.size)
          have hR9 := (ReadsL.below hR7 hb79).more hb79.size
          have hAB : La ++ Lb = R := by rw [HLa.out, HLb.out, HRe.out, ← range_split hm9.srt hm1l (by omega)]
          have hO9' : Own w9 w7.heap.size 31 2 v9 R.length (R.flatMap Item.enc) := by
            rw [← hAB, List.flatMap_append, List.length_append]
            simpa using hO9
          obtain ⟨A9, c9, hv9, _, _⟩ := Own.isSlice hO9'
          subst hv9
          have hr8' : (Builtin.append_ #[22, 22] 22 #[.slice none 0 0, .slice Aa La.length ca]).run Try.prog w7 = .ok v8 w8 := hr8
          have hRO := OwnL.reads (k := 2) (l := R) hO9'
          have hcnt := range_count L (lo := lo) hm1l
          rw [← HLa.out] at hcnt
          have Hc := Lib.hid hcnt
          clear hr8 hO8 hG8 hb8 hb78 hRb8 hO9 hG9 hb9 hb79 hm7 hB7 hR7 hRa7 hRb hO9' hAB hcnt
          go_wp2_with (first | (at_builtin; refine wpList_append_run hr8' rfl (.tmp 152) (.tmp 153) rfl rfl rfl rfl ?_) | (at_builtin; refine wpList_append_run hr9 rfl (.tmp 155) (.tmp 156) rfl rfl rfl rfl ?_))
          refine (ordered_c _).mono ?_
          rintro e w10 ⟨rfl, hb10⟩
          have hm10 := hm9.below hb10
          have hB10 := hB9.trans (hb10.mono hB9.size)
          have hR10 := (ReadsL.below hR9 hb10).more hb10.size
          have hRO10 := (ReadsL.below hRO hb10).more hb10.size
          have K1 := same_c A9 A2 c9 c2 _ _ R R w10 hRO10 hR10 (by omega) (by omega)
          simp only [decide_true] at K1
          clear hr8' hr9 hb10 hm9 hB9 hR9 hRO hR10 hRO10
          go_wp2_with fail
          refine K1.mono ?_
          rintro e w11 ⟨rfl, n11, rfl⟩
          have hm11 : MapP (w10.drewN n11) W.heap.size p v L := hm10.below (below_drewN (Below.refl _ _) n11)
          have hB11 : Below W.heap.size W (w10.drewN n11) := below_drewN hB10 n11
          obtain ⟨w11, hw11⟩ : ∃ w11, w11 = w10.drewN n11 := ⟨_, rfl⟩
          rw [← hw11] at hm11 hB11 ⊢
          clear hw11 hm10 hB10 K1
          have K2 := rank_c w11 W.heap.size p v L (mid + 1) hm11
          go_wp2_with fail
          refine K2.mono ?_
          rintro e w12 ⟨rfl, hb12⟩
          have hm12 := hm11.below hb12
          have hB12 := hB11.trans (hb12.mono hB11.size)
          have K3 := rank_c w12 W.heap.size p v L lo hm12
          clear K2 hm11 hB11 hb12
          go_wp2_with fail
          refine K3.mono ?_
          rintro e w13 ⟨rfl, hb13⟩
          have hB13 := hB12.trans (hb13.mono hB12.size)
          have hq9 : ((La.length : Int) == (rank L (mid + 1) : Int) - (rank L lo : Int)) = true := by
            have := Hc.out
            rw [beq_iff_eq]; omega
          have hrl1 : rank L (mid + 1) ≤ 60 := Nat.le_trans (List.countP_le_length) hLl
          have hrl2 : rank L lo ≤ 60 := Nat.le_trans (List.countP_le_length) hLl
          clear K3 hm12 hB12 hb13
          go_wp2_with fail
          go_ret
          exact ⟨rfl, hB13⟩

theorem walkSortedSplits (W : World) (v0 v1 v2 v3 v4 : Value) (i0 : InItems W v0) (i1 : InU64 v1) (i2 : InU64 v2) (i3 : InU64 v3) (i4 : InI64 v4) : Calls Try.prog 3 #[v0, v1, v2, v3, v4] W fun e w' => e = .returned (.bool true) ∧ Below W.heap.size W w' := by
  obtain ⟨A, c, l, rfl, hr, hlc, hcm, hwf⟩ := i0
  obtain ⟨lo, rfl, _, _⟩ := i1
  obtain ⟨mid, rfl, hk0, _⟩ := i2
  obtain ⟨hi, rfl, _, hk1⟩ := i3
  obtain ⟨most, rfl, hm1, hm2⟩ := i4
  unfold maxLen at hcm
  by_cases h60 : l.length ≤ 60
  · by_cases hlh : lo ≤ hi
    · exact walkSplitsMain W A c l lo mid hi most hr h60 hlh hm1 hm2 hk0 hk1
    · exact walkSplitsBad W A c l lo mid hi most hr h60 (by omega)
  · clear hr hwf
    go_enter Try.func3, Try.ntmps3
    go_wp2_with fail
    go_ret
    exact ⟨rfl, Below.refl _ _⟩
end Go.Proofs.Ytfddpcmlmcohjaa
