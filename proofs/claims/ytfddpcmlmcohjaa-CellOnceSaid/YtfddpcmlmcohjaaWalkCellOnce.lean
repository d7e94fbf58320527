/-
  The statement CellOnce returns true for each input. Conditions: none.
-/
import Derived.Test.YtfddpcmlmcohjaaCelled2
import Derived.Test.YtfddpcmlmcohjaaLaw17b
namespace Go.Proofs.Ytfddpcmlmcohjaa
open Go.RowKit
set_option linter.unusedVariables false
set_option linter.unusedSimpArgs false
set_option maxHeartbeats 4000000
set_option maxRecDepth 100000

/-- what a call of Merge gives, in plain cells -/
def MerQ (w : World) (r : Cel × Int) (e : Ending) (w' : World) : Prop :=
  ∃ A k, e = .returned (.tuple #[.agg #[.int .u64 r.1.version, .bool r.1.has, .string r.1.val, .slice A r.1.marks.length k], .int .i64 r.2]) ∧ CelR w' A k r.1 ∧ Below w.heap.size w w'
theorem mer_f (w : World) (A1 A2 : Option Addr) (k1 k2 : Nat) (a b : Cel) (ha : CelR w A1 k1 a) (hb : CelR w A2 k2 b) :
    Calls Try.prog 31 #[.agg #[.int .u64 a.version, .bool a.has, .string a.val, .slice A1 a.marks.length k1], .agg #[.int .u64 b.version, .bool b.has, .string b.val, .slice A2 b.marks.length k2]] w (MerQ w (mergeC a b)) := mer_c w A1 A2 k1 k2 a b ha hb

theorem walkCellOnce (W : World) (v0 v1 : Value) (i0 : InCel W v0) (i1 : InCel W v1) : Calls Try.prog 9 #[v0, v1] W fun e w' => e = .returned (.bool true) ∧ Below W.heap.size W w' := by
  obtain ⟨A, k, a, rfl, hr, hle, hcap, hvs⟩ := i0
  obtain ⟨B, l, b, rfl, kr, kle, kcap, kvs⟩ := i1
  obtain ⟨W1, hW1, hB, _, hc, ho⟩ := two_boxes W (.int .u64 a.version) (.bool a.has) (.string a.val) (.slice A a.marks.length k) (.int .u64 b.version) (.bool b.has) (.string b.val) (.slice B b.marks.length l) 41
  have HBG := big_f W1 A k a ((hr.below hB).more hB.size) hle hcap hvs
  have HBH : ∀ w, Below W.heap.size W w → _ := fun w h => big_f w B l b ((kr.below h).more h.size) kle kcap kvs
  have HIN : Hid ((a.marks.length ≤ 80 → CelR W A k a) ∧ (b.marks.length ≤ 80 → CelR W B l b)) := ⟨fun h => ⟨hr, hle, hcap, by omega, hvs⟩, fun h => ⟨kr, kle, kcap, by omega, kvs⟩⟩
  clear hr hle hcap hvs kr kle kcap kvs
  have HR := Lib.hid (And.intro hB (And.intro hc ho))
  obtain ⟨c0, c1, c2, c3, cz⟩ := cells4 hc
  obtain ⟨o0, o1, o2, o3, oz⟩ := cells4 ho
  clear hB hc ho
  unfold CelV
  go_enter Try.func9, Try.ntmps9
  go_wp2_with fail
  refine HBG.mono ?_
  rintro e w2 ⟨hor, hb⟩
  clear hW1 HBG
  obtain ⟨hB, hc, ho⟩ := HR.out
  clear HR c0 c1 c2 c3 cz o0 o1 o2 o3 oz
  replace hc := row_keep hc hb
  replace ho := row_keep ho hb
  replace hB := Below.keepb hB hB.size hb
  clear hb
  have HR := Lib.hid (And.intro hB (And.intro hc ho))
  obtain ⟨c0, c1, c2, c3, cz⟩ := cells4 hc
  obtain ⟨o0, o1, o2, o3, oz⟩ := cells4 ho
  clear hB hc ho
  rcases hor with rfl | ⟨rfl, h80⟩
  · go_wp2_with fail
    go_ret
    exact ⟨rfl, HR.out.1⟩
  · have HCa := Lib.hid (HIN.out.1 h80)
    clear h80
    go_wp2_with fail
    refine (HBH _ HR.out.1).mono ?_
    rintro e w3 ⟨hor, hb⟩
    clear HBH
    obtain ⟨hB, hc, ho⟩ := HR.out
    clear HR c0 c1 c2 c3 cz o0 o1 o2 o3 oz
    replace hc := row_keep hc hb
    replace ho := row_keep ho hb
    replace hB := Below.keepb hB hB.size hb
    clear hb
    have HR := Lib.hid (And.intro hB (And.intro hc ho))
    obtain ⟨c0, c1, c2, c3, cz⟩ := cells4 hc
    obtain ⟨o0, o1, o2, o3, oz⟩ := cells4 ho
    clear hB hc ho
    rcases hor with rfl | ⟨rfl, h80⟩
    · go_wp2_with fail
      go_ret
      exact ⟨rfl, HR.out.1⟩
    · have HCb := Lib.hid (HIN.out.2 h80)
      clear h80
      have HM := mer_f w3 A B k l a b (HCa.out.below HR.out.1) (HCb.out.below HR.out.1)
      rcases once a b with ⟨h1, hno⟩ | ⟨c, ⟨dv, dh, ds, dl⟩, h1, h2, h3, h4, h5, h6, h7, h8⟩
      · rw [h1] at HM
        have HI := fun w h => is_f w A k a (HCa.out.below h)
        have HJ := fun w h => is_f w B l b (HCb.out.below h)
        obtain ⟨ia, hia⟩ : ∃ d, decide (IsC a) = d := ⟨_, rfl⟩
        obtain ⟨ib, hib⟩ : ∃ d, decide (IsC b) = d := ⟨_, rfl⟩
        rw [hia] at HI
        rw [hib] at HJ
        have hab : ia = false ∨ (ia = true ∧ ib = false) := by
          rw [← hia, ← hib]
          by_cases q1 : IsC a
          · by_cases q2 : IsC b
            · exact absurd ⟨q1, q2⟩ hno
            · exact .inr ⟨by simp [q1], by simp [q2]⟩
          · exact .inl (by simp [q1])
        clear h1 hno hia hib
        go_wp2_with fail
        refine HM.mono ?_
        rintro e w4 ⟨A4, k4, rfl, hR4, hb⟩
        simp only [zeroCel] at *
        clear HM hR4
        obtain ⟨hB, hc, ho⟩ := HR.out
        clear HR c0 c1 c2 c3 cz o0 o1 o2 o3 oz
        replace hc := row_keep hc hb
        replace ho := row_keep ho hb
        replace hB := Below.keepb hB hB.size hb
        clear hb
        have HR := Lib.hid (And.intro hB (And.intro hc ho))
        obtain ⟨c0, c1, c2, c3, cz⟩ := cells4 hc
        obtain ⟨o0, o1, o2, o3, oz⟩ := cells4 ho
        clear hB hc ho
        go_wp2_with fail
        refine (celled_c _).mono ?_
        rintro e w5 ⟨rfl, hb⟩
        obtain ⟨hB, hc, ho⟩ := HR.out
        clear HR c0 c1 c2 c3 cz o0 o1 o2 o3 oz
        obtain ⟨hb, ha⟩ := one_new hb
        replace hc := row_keep hc hb
        replace ho := row_keep ho hb
        replace hB := Below.keepb hB hB.size hb
        clear hb
        have HR := Lib.hid (And.intro hB (And.intro hc (And.intro ho ha)))
        obtain ⟨c0, c1, c2, c3, cz⟩ := cells4 hc
        obtain ⟨o0, o1, o2, o3, oz⟩ := cells4 ho
        obtain ⟨a0, a1, a2, a3, az⟩ := cells4 ha
        clear hB hc ho ha
        rcases hab with rfl | ⟨rfl, rfl⟩
        · go_wp2_with fail
          refine (HI _ HR.out.1).mono ?_
          rintro e w6 ⟨rfl, hb⟩
          clear HI HJ
          obtain ⟨hB, hc, ho, ha⟩ := HR.out
          clear HR c0 c1 c2 c3 cz o0 o1 o2 o3 oz a0 a1 a2 a3 az
          replace hc := row_keep hc hb
          replace ho := row_keep ho hb
          replace ha := row_keep ha hb
          replace hB := Below.keepb hB hB.size hb
          clear hb
          have HR := Lib.hid (And.intro hB (And.intro hc (And.intro ho ha)))
          obtain ⟨c0, c1, c2, c3, cz⟩ := cells4 hc
          obtain ⟨o0, o1, o2, o3, oz⟩ := cells4 ho
          obtain ⟨a0, a1, a2, a3, az⟩ := cells4 ha
          clear hB hc ho ha
          go_wp2_with fail
          go_ret
          exact ⟨rfl, HR.out.1⟩
        · go_wp2_with fail
          refine (HI _ HR.out.1).mono ?_
          rintro e w6 ⟨rfl, hb⟩
          clear HI
          obtain ⟨hB, hc, ho, ha⟩ := HR.out
          clear HR c0 c1 c2 c3 cz o0 o1 o2 o3 oz a0 a1 a2 a3 az
          replace hc := row_keep hc hb
          replace ho := row_keep ho hb
          replace ha := row_keep ha hb
          replace hB := Below.keepb hB hB.size hb
          clear hb
          have HR := Lib.hid (And.intro hB (And.intro hc (And.intro ho ha)))
          obtain ⟨c0, c1, c2, c3, cz⟩ := cells4 hc
          obtain ⟨o0, o1, o2, o3, oz⟩ := cells4 ho
          obtain ⟨a0, a1, a2, a3, az⟩ := cells4 ha
          clear hB hc ho ha
          go_wp2_with fail
          refine (HJ _ HR.out.1).mono ?_
          rintro e w7 ⟨rfl, hb⟩
          clear HJ
          obtain ⟨hB, hc, ho, ha⟩ := HR.out
          clear HR c0 c1 c2 c3 cz o0 o1 o2 o3 oz a0 a1 a2 a3 az
          replace hc := row_keep hc hb
          replace ho := row_keep ho hb
          replace ha := row_keep ha hb
          replace hB := Below.keepb hB hB.size hb
          clear hb
          have HR := Lib.hid (And.intro hB (And.intro hc (And.intro ho ha)))
          obtain ⟨c0, c1, c2, c3, cz⟩ := cells4 hc
          obtain ⟨o0, o1, o2, o3, oz⟩ := cells4 ho
          obtain ⟨a0, a1, a2, a3, az⟩ := cells4 ha
          clear hB hc ho ha
          go_wp2_with fail
          go_ret
          exact ⟨rfl, HR.out.1⟩
      · rw [h1] at HM
        have HM2 := fun w h => mer_f w B A l k b a (HCb.out.below h) (HCa.out.below h)
        have HM3 := fun w h => mer_f w A A k k a a (HCa.out.below h) (HCa.out.below h)
        rw [h2] at HM2
        rw [h3] at HM3
        have H := Lib.hid (And.intro h4 (And.intro h5 (And.intro h6 (And.intro h7 h8))))
        clear h1 h2 h3 h4 h5 h6 h7 h8
        go_wp2_with fail
        refine HM.mono ?_
        rintro e w4 ⟨A4, k4, rfl, hR4, hb⟩
        simp only at *
        clear HM
        obtain ⟨hB, hc, ho⟩ := HR.out
        clear HR c0 c1 c2 c3 cz o0 o1 o2 o3 oz
        replace hc := row_keep hc hb
        replace ho := row_keep ho hb
        replace hB := Below.keepb hB hB.size hb
        clear hb
        have HR := Lib.hid (And.intro hB (And.intro hc (And.intro ho hR4)))
        obtain ⟨c0, c1, c2, c3, cz⟩ := cells4 hc
        obtain ⟨o0, o1, o2, o3, oz⟩ := cells4 ho
        clear hB hc ho hR4
        go_wp2_with fail
        refine (HM2 _ (Below.alloc HR.out.1 HR.out.1.size _)).mono ?_
        rintro e w5 ⟨A5, k5, rfl, hR5, hb⟩
        clear HM2
        obtain ⟨hB, hc, ho, hR4⟩ := HR.out
        clear HR c0 c1 c2 c3 cz o0 o1 o2 o3 oz
        obtain ⟨hb, ha⟩ := one_new hb
        replace hc := row_keep hc hb
        replace ho := row_keep ho hb
        replace hR4 := hR4.below hb
        replace hB := Below.keepb hB hB.size hb
        clear hb
        have HR := Lib.hid (And.intro hB (And.intro hc (And.intro ho (And.intro ha (And.intro hR4 hR5)))))
        obtain ⟨c0, c1, c2, c3, cz⟩ := cells4 hc
        obtain ⟨o0, o1, o2, o3, oz⟩ := cells4 ho
        obtain ⟨a0, a1, a2, a3, az⟩ := cells4 ha
        clear hB hc ho ha hR4 hR5
        go_wp2_with fail
        refine (HM3 _ (Below.alloc HR.out.1 HR.out.1.size _)).mono ?_
        rintro e w6 ⟨A6, k6, rfl, hR6, hb⟩
        clear HM3
        obtain ⟨hB, hc, ho, ha, hR4, hR5⟩ := HR.out
        clear HR c0 c1 c2 c3 cz o0 o1 o2 o3 oz a0 a1 a2 a3 az
        obtain ⟨hb, hd⟩ := one_new hb
        replace hc := row_keep hc hb
        replace ho := row_keep ho hb
        replace ha := row_keep ha hb
        replace hR4 := hR4.below hb
        replace hR5 := hR5.below hb
        replace hB := Below.keepb hB hB.size hb
        clear hb
        have HR := Lib.hid (And.intro hB (And.intro hc (And.intro ho (And.intro ha (And.intro hd (And.intro hR4 (And.intro hR5 hR6)))))))
        obtain ⟨c0, c1, c2, c3, cz⟩ := cells4 hc
        obtain ⟨o0, o1, o2, o3, oz⟩ := cells4 ho
        obtain ⟨a0, a1, a2, a3, az⟩ := cells4 ha
        obtain ⟨dd0, dd1, dd2, dd3, ddz⟩ := cells4 hd
        clear hB hc ho ha hd hR4 hR5 hR6
        have HM4 := fun w h h' => mer_f w A4 B k4 l c b h (HCb.out.below h')
        rw [H.out.1] at HM4
        go_wp2_with fail
        refine (HM4 _ (HR.out.2.2.2.2.2.1.below ((Below.refl w6.heap.size w6).alloc (Nat.le_refl _) _)) (Below.alloc HR.out.1 HR.out.1.size _)).mono ?_
        rintro e w7 ⟨A7, k7, rfl, hR7, hb⟩
        clear HM4
        obtain ⟨hB, hc, ho, ha, hd, hR4, hR5, hR6⟩ := HR.out
        clear HR c0 c1 c2 c3 cz o0 o1 o2 o3 oz a0 a1 a2 a3 az dd0 dd1 dd2 dd3 ddz
        obtain ⟨hb, hg⟩ := one_new hb
        replace hc := row_keep hc hb
        replace ho := row_keep ho hb
        replace ha := row_keep ha hb
        replace hd := row_keep hd hb
        replace hR4 := hR4.below hb
        replace hR5 := hR5.below hb
        replace hR6 := hR6.below hb
        replace hB := Below.keepb hB hB.size hb
        clear hb
        have HR := Lib.hid (And.intro hB (And.intro hc (And.intro ho (And.intro ha (And.intro hd (And.intro hg (And.intro hR4 (And.intro hR5 (And.intro hR6 hR7)))))))))
        obtain ⟨c0, c1, c2, c3, cz⟩ := cells4 hc
        obtain ⟨o0, o1, o2, o3, oz⟩ := cells4 ho
        obtain ⟨a0, a1, a2, a3, az⟩ := cells4 ha
        obtain ⟨dd0, dd1, dd2, dd3, ddz⟩ := cells4 hd
        obtain ⟨g0, g1, g2, g3, gz⟩ := cells4 hg
        clear hB hc ho ha hd hg hR4 hR5 hR6 hR7
        have HS1 := fun w h h' => same_f w A6 A k6 k a a h (HCa.out.below h')
        have HS2 := fun w h h' => same_f w A7 A4 k7 k4 c c h h'
        have HI := fun w h => is_f w A4 k4 c h
        rw [decide_eq_true rfl] at HS1 HS2
        rw [decide_eq_true H.out.2.1] at HI
        have HLEN : Hid (c.marks.length = dl.length) := Lib.hid (by have := congrArg List.length H.out.2.2.2.1; simpa using this)
        go_upto_region 9 with fail
        go_cut [108] (fun s108 wx => s108 = .bool false ∧ Below (w7.alloc (.cells #[.int .u64 c.version, .bool c.has, .string c.val, .slice A7 c.marks.length k7] 41)).heap.size (w7.alloc (.cells #[.int .u64 c.version, .bool c.has, .string c.val, .slice A7 c.marks.length k7] 41)) wx)
        case first =>
          go_wp2_with fail
          refine (HS1 _ (HR.out.2.2.2.2.2.2.2.2.1.below ((Below.refl w7.heap.size w7).alloc (Nat.le_refl _) _)) (Below.alloc HR.out.1 HR.out.1.size _)).mono ?_
          rintro e w8 ⟨rfl, hb⟩
          have HK := Lib.hid hb
          clear HS1
          obtain ⟨hB, hc, ho, ha, hd, hg, hR4, hR5, hR6, hR7⟩ := HR.out
          clear HR c0 c1 c2 c3 cz o0 o1 o2 o3 oz a0 a1 a2 a3 az dd0 dd1 dd2 dd3 ddz g0 g1 g2 g3 gz
          obtain ⟨hb, hi⟩ := one_new hb
          replace hc := row_keep hc hb
          replace ho := row_keep ho hb
          replace ha := row_keep ha hb
          replace hd := row_keep hd hb
          replace hg := row_keep hg hb
          replace hR4 := hR4.below hb
          replace hR5 := hR5.below hb
          replace hR6 := hR6.below hb
          replace hR7 := hR7.below hb
          replace hB := Below.keepb hB hB.size hb
          clear hb
          have HR := Lib.hid (And.intro hB (And.intro hc (And.intro ho (And.intro ha (And.intro hd (And.intro hg (And.intro hi (And.intro hR4 (And.intro hR5 (And.intro hR6 hR7))))))))))
          obtain ⟨c0, c1, c2, c3, cz⟩ := cells4 hc
          obtain ⟨o0, o1, o2, o3, oz⟩ := cells4 ho
          obtain ⟨a0, a1, a2, a3, az⟩ := cells4 ha
          obtain ⟨dd0, dd1, dd2, dd3, ddz⟩ := cells4 hd
          obtain ⟨g0, g1, g2, g3, gz⟩ := cells4 hg
          obtain ⟨i0, i1, i2, i3, iz⟩ := cells4 hi
          clear hB hc ho ha hd hg hi hR4 hR5 hR6 hR7
          go_wp2_with fail
          refine (HS2 _ HR.out.2.2.2.2.2.2.2.2.2.2 HR.out.2.2.2.2.2.2.2.1).mono ?_
          rintro e w9 ⟨rfl, hb⟩
          have HK := Lib.hid (Below.keept HK.out hb)
          clear HS2
          obtain ⟨hB, hc, ho, ha, hd, hg, hi, hR4, hR5, hR6, hR7⟩ := HR.out
          clear HR c0 c1 c2 c3 cz o0 o1 o2 o3 oz a0 a1 a2 a3 az dd0 dd1 dd2 dd3 ddz g0 g1 g2 g3 gz i0 i1 i2 i3 iz
          replace hc := row_keep hc hb
          replace ho := row_keep ho hb
          replace ha := row_keep ha hb
          replace hd := row_keep hd hb
          replace hg := row_keep hg hb
          replace hi := row_keep hi hb
          replace hR4 := hR4.below hb
          replace hR5 := hR5.below hb
          replace hR6 := hR6.below hb
          replace hR7 := hR7.below hb
          replace hB := Below.keepb hB hB.size hb
          clear hb
          have HR := Lib.hid (And.intro hB (And.intro hc (And.intro ho (And.intro ha (And.intro hd (And.intro hg (And.intro hi (And.intro hR4 (And.intro hR5 (And.intro hR6 hR7))))))))))
          obtain ⟨c0, c1, c2, c3, cz⟩ := cells4 hc
          obtain ⟨o0, o1, o2, o3, oz⟩ := cells4 ho
          obtain ⟨a0, a1, a2, a3, az⟩ := cells4 ha
          obtain ⟨dd0, dd1, dd2, dd3, ddz⟩ := cells4 hd
          obtain ⟨g0, g1, g2, g3, gz⟩ := cells4 hg
          obtain ⟨i0, i1, i2, i3, iz⟩ := cells4 hi
          clear hB hc ho ha hd hg hi hR4 hR5 hR6 hR7
          go_wp2_with fail
          refine (HI _ HR.out.2.2.2.2.2.2.2.1).mono ?_
          rintro e w10 ⟨rfl, hb⟩
          have HK := Lib.hid (Below.keept HK.out hb)
          clear HI
          obtain ⟨hB, hc, ho, ha, hd, hg, hi, hR4, hR5, hR6, hR7⟩ := HR.out
          clear HR c0 c1 c2 c3 cz o0 o1 o2 o3 oz a0 a1 a2 a3 az dd0 dd1 dd2 dd3 ddz g0 g1 g2 g3 gz i0 i1 i2 i3 iz
          replace hc := row_keep hc hb
          replace ho := row_keep ho hb
          replace ha := row_keep ha hb
          replace hd := row_keep hd hb
          replace hg := row_keep hg hb
          replace hi := row_keep hi hb
          replace hR4 := hR4.below hb
          replace hR5 := hR5.below hb
          replace hR6 := hR6.below hb
          replace hR7 := hR7.below hb
          replace hB := Below.keepb hB hB.size hb
          clear hb
          have HR := Lib.hid (And.intro hB (And.intro hc (And.intro ho (And.intro ha (And.intro hd (And.intro hg (And.intro hi (And.intro hR4 (And.intro hR5 (And.intro hR6 hR7))))))))))
          obtain ⟨c0, c1, c2, c3, cz⟩ := cells4 hc
          obtain ⟨o0, o1, o2, o3, oz⟩ := cells4 ho
          obtain ⟨a0, a1, a2, a3, az⟩ := cells4 ha
          obtain ⟨dd0, dd1, dd2, dd3, ddz⟩ := cells4 hd
          obtain ⟨g0, g1, g2, g3, gz⟩ := cells4 hg
          obtain ⟨i0, i1, i2, i3, iz⟩ := cells4 hi
          clear hB hc ho ha hd hg hi hR4 hR5 hR6 hR7
          have n1 : ((c.marks.length : Int) != (dl.length : Int)) = false := by simp [HLEN.out]
          have hv := H.out.2.2.1
          have n2 : (c.version != (if a.version < b.version then b.version else a.version)) = false := by rw [hv]; simp
          go_wp2_with fail
          all_goals
            go_meet
            exact ⟨rfl, HK.out⟩
        case rest =>
        obtain ⟨rfl, hb⟩ := hcut
        clear HS1 HS2 HI
        obtain ⟨hB, hc, ho, ha, hd, hg, hR4, hR5, hR6, hR7⟩ := HR.out
        clear HR c0 c1 c2 c3 cz o0 o1 o2 o3 oz a0 a1 a2 a3 az dd0 dd1 dd2 dd3 ddz g0 g1 g2 g3 gz
        obtain ⟨hb, hi⟩ := one_new hb
        replace hc := row_keep hc hb
        replace ho := row_keep ho hb
        replace ha := row_keep ha hb
        replace hd := row_keep hd hb
        replace hg := row_keep hg hb
        replace hR4 := hR4.below hb
        replace hR5 := hR5.below hb
        replace hR6 := hR6.below hb
        replace hR7 := hR7.below hb
        replace hB := Below.keepb hB hB.size hb
        clear hb
        have HR := Lib.hid (And.intro hB (And.intro hc (And.intro ho (And.intro ha (And.intro hd (And.intro hg (And.intro hi (And.intro hR4 (And.intro hR5 (And.intro hR6 hR7))))))))))
        obtain ⟨c0, c1, c2, c3, cz⟩ := cells4 hc
        obtain ⟨o0, o1, o2, o3, oz⟩ := cells4 ho
        obtain ⟨a0, a1, a2, a3, az⟩ := cells4 ha
        obtain ⟨dd0, dd1, dd2, dd3, ddz⟩ := cells4 hd
        obtain ⟨g0, g1, g2, g3, gz⟩ := cells4 hg
        obtain ⟨i0, i1, i2, i3, iz⟩ := cells4 hi
        clear hB hc ho ha hd hg hi hR4 hR5 hR6 hR7
        go_wp2_with fail
        have hsm := (HR.out.2.2.2.2.2.2.2.1).small
        go_loopw [13] (fun i wr => ∃ j : Nat, i = .int .i64 j ∧ j ≤ c.marks.length ∧ ∃ n, wr = wc.drewN n) (fun i _ => c.marks.length - (intOf i).toNat)
        case atStart => exact ⟨0, rfl, Nat.zero_le _, 0, rfl⟩
        case round =>
          obtain ⟨j, rfl, hj, n, rfl⟩ := hrel
          by_cases hlt : j < c.marks.length
          · have hlt2 : j < dl.length := HLEN.out ▸ hlt
            have hmm : (c.marks.map (fun x => (x.client, x.req)))[j]? = (dl.map (fun x => (x.client, x.req)))[j]? := by rw [H.out.2.2.2.1]
            rw [List.getElem?_map, List.getElem?_map, List.getElem?_eq_getElem hlt, List.getElem?_eq_getElem hlt2] at hmm
            simp only [Option.map_some, Option.some.injEq, Prod.mk.injEq] at hmm
            have e1 : (c.marks[j].client != dl[j].client) = false := by rw [hmm.1]; simp
            have e2 : (c.marks[j].req != dl[j].req) = false := by rw [hmm.2]; simp
            obtain ⟨g1, o1, rfl, _, hx⟩ := (HR.out.2.2.2.2.2.2.2.1).reads.at_ (k := 6) Mark.enc_len (by decide) hlt
            obtain ⟨g2, o2, rfl, _, hy⟩ := (HR.out.2.2.2.2.2.2.2.2.1).reads.at_ (k := 6) Mark.enc_len (by decide) hlt2
            have x0 := hx 0 _ rfl
            have x1 := hx 1 _ rfl
            have y0 := hy 0 _ rfl
            have y1 := hy 1 _ rfl
            simp only [Nat.add_zero] at x0 y0
            have HJ : Hid (j + 1 ≤ c.marks.length) := hlt
            clear hx hy hmm
            go_wp2_with fail
            go_quiet (fail)
            go_wp2_with fail
            exact ⟨⟨j + 1, by go_num, HJ.out, _, rfl⟩, by have := HJ.out; simp [intOf]; omega⟩
          · have h8 := H.out.2.2.2.2
            go_wp2_with fail
            refine (celled_c _).mono ?_
            rintro e w11 ⟨rfl, hb⟩
            have hb := Below.keept (below_drewN (Below.refl wc.heap.size wc) n) hb
            obtain ⟨hB, hc, ho, ha, hd, hg, hi, hR4, hR5, hR6, hR7⟩ := HR.out
            clear HR c0 c1 c2 c3 cz o0 o1 o2 o3 oz a0 a1 a2 a3 az dd0 dd1 dd2 dd3 ddz g0 g1 g2 g3 gz i0 i1 i2 i3 iz
            replace hc := row_keep hc hb
            replace ho := row_keep ho hb
            replace ha := row_keep ha hb
            replace hd := row_keep hd hb
            replace hg := row_keep hg hb
            replace hi := row_keep hi hb
            replace hR4 := hR4.below hb
            replace hR5 := hR5.below hb
            replace hR6 := hR6.below hb
            replace hR7 := hR7.below hb
            replace hB := Below.keepb hB hB.size hb
            clear hb
            have HR := Lib.hid (And.intro hB (And.intro hc (And.intro ho (And.intro ha (And.intro hd (And.intro hg (And.intro hi (And.intro hR4 (And.intro hR5 (And.intro hR6 hR7))))))))))
            obtain ⟨c0, c1, c2, c3, cz⟩ := cells4 hc
            obtain ⟨o0, o1, o2, o3, oz⟩ := cells4 ho
            obtain ⟨a0, a1, a2, a3, az⟩ := cells4 ha
            obtain ⟨dd0, dd1, dd2, dd3, ddz⟩ := cells4 hd
            obtain ⟨g0, g1, g2, g3, gz⟩ := cells4 hg
            obtain ⟨i0, i1, i2, i3, iz⟩ := cells4 hi
            clear hB hc ho ha hd hg hi hR4 hR5 hR6 hR7
            rcases h8 with q | ⟨rfl, rfl, rfl⟩
            · have q1 : (a.version == b.version) = true := by simp [q]
              clear q
              go_wp2_with fail
              go_ret
              exact ⟨rfl, HR.out.1⟩
            · by_cases q : a.version = b.version
              · have q1 : (a.version == b.version) = true := by simp [q]
                clear q
                go_wp2_with fail
                go_ret
                exact ⟨rfl, HR.out.1⟩
              · have q1 : (a.version == b.version) = false := by simp [q]
                clear q
                go_wp2_with fail
                go_ret
                exact ⟨by simp, HR.out.1⟩
end Go.Proofs.Ytfddpcmlmcohjaa
