/-
  The statement CellTwice returns true for each input. Conditions: none.
-/
import Derived.Test.YtfddpcmlmcohjaaCelled2
namespace Go.Proofs.Ytfddpcmlmcohjaa
open Go.RowKit
set_option linter.unusedVariables false
set_option linter.unusedSimpArgs false
set_option maxHeartbeats 4000000
set_option maxRecDepth 100000

theorem walkCellTwice (W : World) (v0 v1 v2 : Value) (i0 : InCel W v0) (i1 : InOpr v1) (i2 : InU v2) : Calls Try.prog 6 #[v0, v1, v2] W fun e w' => e = .returned (.bool true) ∧ Below W.heap.size W w' := by
  obtain ⟨A, k, c, rfl, hr, hle, hcap, hvs⟩ := i0
  obtain ⟨o, rfl, hov⟩ := i1
  obtain ⟨later, rfl⟩ := i2
  obtain ⟨W1, hW1, hB, hc, ho⟩ := coStart W A k c o
  have HBG := big_f W1 A k c ((hr.below hB).more hB.size) hle hcap hvs
  have HIN : Hid (ReadsL Mark.enc W W.heap.size A c.marks ∧ c.marks.length ≤ k ∧ k ≤ maxLen ∧ c.val.size ≤ maxLen ∧ o.val.size ≤ maxLen) := ⟨hr, hle, hcap, hvs, hov⟩
  clear hr hle hcap hvs hov
  have HR := Lib.hid (And.intro hB (And.intro hc ho))
  obtain ⟨c0, c1, c2, c3, cz⟩ := cells4 hc
  obtain ⟨o0, o1, o2, o3, o4, oz⟩ := cells5 ho
  clear hB hc ho
  unfold CelV OprV
  go_enter Try.func6, Try.ntmps6
  go_wp2_with fail
  refine HBG.mono ?_
  rintro e w2 ⟨hor, hb⟩
  clear hW1 HBG
  obtain ⟨hB, hc, ho⟩ := HR.out
  clear HR c0 c1 c2 c3 cz o0 o1 o2 o3 o4 oz
  replace hc := row_keep hc hb
  replace ho := row_keep ho hb
  replace hB := Below.keepb hB hB.size hb
  clear hb
  have HR := Lib.hid (And.intro hB (And.intro hc ho))
  obtain ⟨c0, c1, c2, c3, cz⟩ := cells4 hc
  obtain ⟨o0, o1, o2, o3, o4, oz⟩ := cells5 ho
  clear hB hc ho
  rcases hor with rfl | ⟨rfl, h80⟩
  · go_wp2_with fail
    go_ret
    exact ⟨rfl, HR.out.1⟩
  · by_cases h5 : 5000 < o.val.size
    · have hd : decide (5000 < (o.val.size : Int)) = true := by simp; omega
      go_wp2_with fail
      go_ret
      exact ⟨rfl, HR.out.1⟩
    · have hd : decide (5000 < (o.val.size : Int)) = false := by simp; omega
      have HC : Hid (CelR W A k c) := ⟨HIN.out.1, HIN.out.2.1, HIN.out.2.2.1, by omega, HIN.out.2.2.2.1⟩
      have HD := do_f w2 A k c o (HC.out.below HR.out.1) HIN.out.2.2.2.2
      clear h80 h5
      rcases twice c o with h1 | ⟨da, dx, dp, h1, h2, h3⟩
      · rw [h1] at HD
        clear h1
        go_wp2_with fail
        refine HD.mono ?_
        rintro e w3 ⟨A3, k3', rfl, hR3, hb⟩
        simp only [zeroCel, zeroAns] at *
        clear hd HD hR3
        obtain ⟨hB, hc, ho⟩ := HR.out
        clear HR c0 c1 c2 c3 cz o0 o1 o2 o3 o4 oz
        replace hc := row_keep hc hb
        replace ho := row_keep ho hb
        replace hB := Below.keepb hB hB.size hb
        clear hb
        have HR := Lib.hid (And.intro hB (And.intro hc ho))
        obtain ⟨c0, c1, c2, c3, cz⟩ := cells4 hc
        obtain ⟨o0, o1, o2, o3, o4, oz⟩ := cells5 ho
        clear hB hc ho
        go_wp2_with fail
        refine (celled_c _).mono ?_
        rintro e w4 ⟨rfl, hb⟩
        obtain ⟨hB, hc, ho⟩ := HR.out
        clear HR c0 c1 c2 c3 cz o0 o1 o2 o3 o4 oz
        obtain ⟨hb, ha, hx⟩ := two_new hb
        replace hc := row_keep hc hb
        replace ho := row_keep ho hb
        replace hB := Below.keepb hB hB.size hb
        clear hb
        have HR := Lib.hid (And.intro hB (And.intro hc (And.intro ho (And.intro ha hx))))
        obtain ⟨c0, c1, c2, c3, cz⟩ := cells4 hc
        obtain ⟨o0, o1, o2, o3, o4, oz⟩ := cells5 ho
        obtain ⟨a0, a1, a2, a3, az⟩ := cells4 ha
        obtain ⟨x0, x1, x2, x3, xz⟩ := cells4 hx
        clear hB hc ho ha hx
        go_wp2_with fail
        go_ret
        exact ⟨rfl, HR.out.1⟩
      · rw [h1] at HD
        have H3 := Lib.hid h3
        clear h1 h3
        go_wp2_with fail
        refine HD.mono ?_
        rintro e w3 ⟨A3, k3', rfl, hR3, hb⟩
        clear hd HD
        obtain ⟨hB, hc, ho⟩ := HR.out
        clear HR c0 c1 c2 c3 cz o0 o1 o2 o3 o4 oz
        replace hc := row_keep hc hb
        replace ho := row_keep ho hb
        replace hB := Below.keepb hB hB.size hb
        clear hb
        have HR := Lib.hid (And.intro hB (And.intro hc (And.intro ho hR3)))
        obtain ⟨c0, c1, c2, c3, cz⟩ := cells4 hc
        obtain ⟨o0, o1, o2, o3, o4, oz⟩ := cells5 ho
        clear hB hc ho hR3
        have HD : ∀ w, CelR w A3 k3' da → _ := fun w h => do_f w A3 k3' da o h HIN.out.2.2.2.2
        rw [h2] at HD
        clear h2
        go_wp2_with fail
        refine (HD _ (HR.out.2.2.2.below (Below.alloc ((Below.refl w3.heap.size w3).alloc (Nat.le_refl _) _) (by simp) _))).mono ?_
        rintro e w4 ⟨A4, k4, rfl, hR4, hb⟩
        clear HD
        obtain ⟨hB, hc, ho, hR3⟩ := HR.out
        clear HR c0 c1 c2 c3 cz o0 o1 o2 o3 o4 oz
        obtain ⟨hb, ha, hx⟩ := two_new hb
        replace hc := row_keep hc hb
        replace ho := row_keep ho hb
        replace hR3 := hR3.below hb
        replace hB := Below.keepb hB hB.size hb
        clear hb
        have HR := Lib.hid (And.intro hB (And.intro hc (And.intro ho (And.intro ha (And.intro hx (And.intro hR3 hR4))))))
        obtain ⟨c0, c1, c2, c3, cz⟩ := cells4 hc
        obtain ⟨o0, o1, o2, o3, o4, oz⟩ := cells5 ho
        obtain ⟨a0, a1, a2, a3, az⟩ := cells4 ha
        obtain ⟨x0, x1, x2, x3, xz⟩ := cells4 hx
        clear hB hc ho ha hx hR3 hR4
        have HS : ∀ w, CelR w A3 k3' da → CelR w A4 k4 da → _ := fun w h h' => same_f w A3 A4 k3' k4 da da h h'
        rw [decide_eq_true rfl] at HS
        have e1 := fun w => (neqAns dx dx w).trans (by rw [decide_eq_true rfl])
        have hgd := guardAns
        go_wp2_with fail
        refine (HS _ (HR.out.2.2.2.2.2.1.below (Below.alloc ((Below.refl w4.heap.size w4).alloc (Nat.le_refl _) _) (by simp) _)) (HR.out.2.2.2.2.2.2.below (Below.alloc ((Below.refl w4.heap.size w4).alloc (Nat.le_refl _) _) (by simp) _))).mono ?_
        rintro e w5 ⟨rfl, hb⟩
        clear HS
        obtain ⟨hB, hc, ho, ha, hx, hR3, hR4⟩ := HR.out
        clear HR c0 c1 c2 c3 cz o0 o1 o2 o3 o4 oz a0 a1 a2 a3 az x0 x1 x2 x3 xz
        obtain ⟨hb, hb4, hy⟩ := two_new hb
        replace hc := row_keep hc hb
        replace ho := row_keep ho hb
        replace ha := row_keep ha hb
        replace hx := row_keep hx hb
        replace hR3 := hR3.below hb
        replace hR4 := hR4.below hb
        replace hB := Below.keepb hB hB.size hb
        clear hb
        have HR := Lib.hid (And.intro hB (And.intro hc (And.intro ho (And.intro ha (And.intro hx (And.intro hb4 (And.intro hy (And.intro hR3 hR4))))))))
        obtain ⟨c0, c1, c2, c3, cz⟩ := cells4 hc
        obtain ⟨o0, o1, o2, o3, o4, oz⟩ := cells5 ho
        obtain ⟨a0, a1, a2, a3, az⟩ := cells4 ha
        obtain ⟨x0, x1, x2, x3, xz⟩ := cells4 hx
        obtain ⟨b0, b1, b2, b3, bz⟩ := cells4 hb4
        obtain ⟨y0, y1, y2, y3, yz⟩ := cells4 hy
        clear hB hc ho ha hx hb4 hy hR3 hR4
        by_cases hstop : o.kind = 1 ∨ dx.code = 9 ∨ later ≤ o.req
        · have hst : (o.kind == 1) = true ∨ ((o.kind == 1) = false ∧ (dx.code == 9) = true) ∨ ((o.kind == 1) = false ∧ (dx.code == 9) = false ∧ decide (later ≤ o.req) = true) := by
            by_cases k1 : o.kind = 1
            · exact .inl (by simp [k1])
            · by_cases k2 : dx.code = 9
              · exact .inr (.inl ⟨by simp [k1], by simp [k2]⟩)
              · exact .inr (.inr ⟨by simp [k1], by simp [k2], by simp; omega⟩)
          clear hstop
          rcases hst with k1 | ⟨k1, k2⟩ | ⟨k1, k2, k3⟩
          all_goals
            go_wp2_with fail
            refine (celled_c _).mono ?_
            rintro e w6 ⟨rfl, hb⟩
            have HZ := Lib.hid (Below.keepb HR.out.1 HR.out.1.size hb)
            clear hb
            go_wp2_with fail
            go_ret
            exact ⟨rfl, HZ.out⟩
        · have k1 : (o.kind == 1) = false := by simp; omega
          have k2 : (dx.code == 9) = false := by simp; omega
          have k3 : decide (later ≤ o.req) = false := by simp; omega
          obtain ⟨dd, dz, q1, q2, q3⟩ := H3.out (by omega) (by omega) later (by omega)
          have HD : ∀ w, CelR w A3 k3' da → _ := fun w h => do_f w A3 k3' da ⟨o.client, later, 2, 0, ByteArray.empty⟩ h (by simp [maxLen])
          rw [q1] at HD
          clear hstop q1 H3
          go_wp2_with fail
          refine (HD _ (HR.out.2.2.2.2.2.2.2.1.below ((Below.refl w5.heap.size w5).alloc (Nat.le_refl _) _))).mono ?_
          rintro e w6 ⟨A6, k6, rfl, hR6, hb⟩
          clear HD
          obtain ⟨hB, hc, ho, ha, hx, hb4, hy, hR3, hR4⟩ := HR.out
          clear HR c0 c1 c2 c3 cz o0 o1 o2 o3 o4 oz a0 a1 a2 a3 az x0 x1 x2 x3 xz b0 b1 b2 b3 bz y0 y1 y2 y3 yz
          obtain ⟨hb, hnx⟩ := one_new5 hb
          replace hc := row_keep hc hb
          replace ho := row_keep ho hb
          replace ha := row_keep ha hb
          replace hx := row_keep hx hb
          replace hb4 := row_keep hb4 hb
          replace hy := row_keep hy hb
          replace hR3 := hR3.below hb
          replace hR4 := hR4.below hb
          replace hB := Below.keepb hB hB.size hb
          clear hb
          have HR := Lib.hid (And.intro hB (And.intro hc (And.intro ho (And.intro ha (And.intro hx (And.intro hb4 (And.intro hy (And.intro hnx (And.intro hR3 (And.intro hR4 hR6))))))))))
          obtain ⟨c0, c1, c2, c3, cz⟩ := cells4 hc
          obtain ⟨o0, o1, o2, o3, o4, oz⟩ := cells5 ho
          obtain ⟨a0, a1, a2, a3, az⟩ := cells4 ha
          obtain ⟨x0, x1, x2, x3, xz⟩ := cells4 hx
          obtain ⟨b0, b1, b2, b3, bz⟩ := cells4 hb4
          obtain ⟨y0, y1, y2, y3, yz⟩ := cells4 hy
          obtain ⟨n0, n1, n2, n3, n4, nz⟩ := cells5 hnx
          clear hB hc ho ha hx hb4 hy hnx hR3 hR4 hR6
          have HD : ∀ w, CelR w A6 k6 dd → _ := fun w h => do_f w A6 k6 dd o h HIN.out.2.2.2.2
          rw [q3] at HD
          clear q3
          go_wp2_with fail
          refine (HD _ (HR.out.2.2.2.2.2.2.2.2.2.2.below (Below.alloc ((Below.refl w6.heap.size w6).alloc (Nat.le_refl _) _) (by simp) _))).mono ?_
          rintro e w7 ⟨A7, k7, rfl, hR7, hb⟩
          clear HD
          obtain ⟨hB, hc, ho, ha, hx, hb4, hy, hnx, hR3, hR4, hR6⟩ := HR.out
          clear HR c0 c1 c2 c3 cz o0 o1 o2 o3 o4 oz a0 a1 a2 a3 az x0 x1 x2 x3 xz b0 b1 b2 b3 bz y0 y1 y2 y3 yz n0 n1 n2 n3 n4 nz
          obtain ⟨hb, hdd, hdz⟩ := two_new hb
          replace hc := row_keep hc hb
          replace ho := row_keep ho hb
          replace ha := row_keep ha hb
          replace hx := row_keep hx hb
          replace hb4 := row_keep hb4 hb
          replace hy := row_keep hy hb
          replace hnx := row_keep hnx hb
          replace hR3 := hR3.below hb
          replace hR4 := hR4.below hb
          replace hR6 := hR6.below hb
          replace hB := Below.keepb hB hB.size hb
          clear hb
          have HR := Lib.hid (And.intro hB (And.intro hc (And.intro ho (And.intro ha (And.intro hx (And.intro hb4 (And.intro hy (And.intro hnx (And.intro hdd (And.intro hdz (And.intro hR3 (And.intro hR4 (And.intro hR6 hR7)))))))))))))
          obtain ⟨c0, c1, c2, c3, cz⟩ := cells4 hc
          obtain ⟨o0, o1, o2, o3, o4, oz⟩ := cells5 ho
          obtain ⟨a0, a1, a2, a3, az⟩ := cells4 ha
          obtain ⟨x0, x1, x2, x3, xz⟩ := cells4 hx
          obtain ⟨b0, b1, b2, b3, bz⟩ := cells4 hb4
          obtain ⟨y0, y1, y2, y3, yz⟩ := cells4 hy
          obtain ⟨n0, n1, n2, n3, n4, nz⟩ := cells5 hnx
          obtain ⟨dr0, dr1, dr2, dr3, drz⟩ := cells4 hdd
          obtain ⟨zr0, zr1, zr2, zr3, zrz⟩ := cells4 hdz
          clear hB hc ho ha hx hb4 hy hnx hdd hdz hR3 hR4 hR6 hR7
          have q2' : (dz.code == 0) = true := by simp [q2]
          have HS : ∀ w, CelR w A6 k6 dd → CelR w A7 k7 dd → _ := fun w h h' => same_f w A6 A7 k6 k7 dd dd h h'
          rw [decide_eq_true rfl] at HS
          have e2 := fun w => (eqlAns ⟨9, 0, false, ByteArray.empty⟩ ⟨9, 0, false, ⟨#[]⟩⟩ w).trans (by rw [decide_eq_true (show (⟨9, 0, false, ByteArray.empty⟩ : Ans) = ⟨9, 0, false, ⟨#[]⟩⟩ from rfl)])
          have e3 := fun w => (eqlAns ⟨9, 0, false, ⟨#[]⟩⟩ ⟨9, 0, false, ⟨#[]⟩⟩ w).trans (by rw [decide_eq_true rfl])
          simp only at e2 e3
          clear q2
          go_wp2_with fail
          refine (celled_c _).mono ?_
          rintro e w8 ⟨rfl, hb⟩
          obtain ⟨hB, hc, ho, ha, hx, hb4, hy, hnx, hdd, hdz, hR3, hR4, hR6, hR7⟩ := HR.out
          clear HR c0 c1 c2 c3 cz o0 o1 o2 o3 o4 oz a0 a1 a2 a3 az x0 x1 x2 x3 xz b0 b1 b2 b3 bz y0 y1 y2 y3 yz n0 n1 n2 n3 n4 nz dr0 dr1 dr2 dr3 drz zr0 zr1 zr2 zr3 zrz
          obtain ⟨hb, hhd, hhz⟩ := two_new hb
          replace hc := row_keep hc hb
          replace ho := row_keep ho hb
          replace ha := row_keep ha hb
          replace hx := row_keep hx hb
          replace hb4 := row_keep hb4 hb
          replace hy := row_keep hy hb
          replace hnx := row_keep hnx hb
          replace hdd := row_keep hdd hb
          replace hdz := row_keep hdz hb
          replace hR3 := hR3.below hb
          replace hR4 := hR4.below hb
          replace hR6 := hR6.below hb
          replace hR7 := hR7.below hb
          replace hB := Below.keepb hB hB.size hb
          clear hb
          have HR := Lib.hid (And.intro hB (And.intro hc (And.intro ho (And.intro ha (And.intro hx (And.intro hb4 (And.intro hy (And.intro hnx (And.intro hdd (And.intro hdz (And.intro hhd (And.intro hhz (And.intro hR3 (And.intro hR4 (And.intro hR6 hR7)))))))))))))))
          obtain ⟨c0, c1, c2, c3, cz⟩ := cells4 hc
          obtain ⟨o0, o1, o2, o3, o4, oz⟩ := cells5 ho
          obtain ⟨a0, a1, a2, a3, az⟩ := cells4 ha
          obtain ⟨x0, x1, x2, x3, xz⟩ := cells4 hx
          obtain ⟨b0, b1, b2, b3, bz⟩ := cells4 hb4
          obtain ⟨y0, y1, y2, y3, yz⟩ := cells4 hy
          obtain ⟨n0, n1, n2, n3, n4, nz⟩ := cells5 hnx
          obtain ⟨dr0, dr1, dr2, dr3, drz⟩ := cells4 hdd
          obtain ⟨zr0, zr1, zr2, zr3, zrz⟩ := cells4 hdz
          obtain ⟨p0, p1, p2, p3, pz⟩ := cells4 hhd
          obtain ⟨q0, q1, q2, q3, qz⟩ := cells4 hhz
          clear hB hc ho ha hx hb4 hy hnx hdd hdz hhd hhz hR3 hR4 hR6 hR7
          go_wp2_with fail
          refine (HS _ (HR.out.2.2.2.2.2.2.2.2.2.2.2.2.2.2.1) (HR.out.2.2.2.2.2.2.2.2.2.2.2.2.2.2.2)).mono ?_
          rintro e w9 ⟨rfl, hb⟩
          have HZ := Lib.hid (Below.keepb HR.out.1 HR.out.1.size hb)
          clear hb HS
          go_wp2_with fail
          go_ret
          exact ⟨rfl, HZ.out⟩
end Go.Proofs.Ytfddpcmlmcohjaa
