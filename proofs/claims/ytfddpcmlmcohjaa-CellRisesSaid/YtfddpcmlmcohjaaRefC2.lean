/-
  espalierref17: mark, Big. Conditions: fewer marks than 2^31.
-/
import Derived.Test.YtfddpcmlmcohjaaRefC1
namespace Go.Proofs.Ytfddpcmlmcohjaa
open Go.RowKit
set_option linter.unusedVariables false
set_option linter.unusedSimpArgs false
set_option maxHeartbeats 1000000
set_option maxRecDepth 100000

theorem rmark_c (w : World) (A : Option Addr) (k : Nat) (l : List Mark) (m : Mark) (hr : ReadsL Mark.enc w w.heap.size A l) (hl : l.length < 2147483000) (hlk : l.length ≤ k) (hkm : k ≤ maxLen) :
    Calls Try.prog 45 #[.slice A l.length k, .agg #[.int .i64 m.client, .int .u64 m.req, .int .i64 m.ans.code, .int .u64 m.ans.version, .bool m.ans.has, .string m.ans.val]] w fun e w' => ∃ v', e = .returned v' ∧ OwnL Mark.enc 6 w' w.heap.size 55 v' (putM l m) ∧ Below w.heap.size w w' := by
  obtain ⟨W1, hW1⟩ : ∃ W1, W1 = w.alloc (.cells (Mark.enc m).toArray 55) := ⟨_, rfl⟩
  have hW1' : w.alloc (.cells #[.int .i64 m.client, .int .u64 m.req, .int .i64 m.ans.code, .int .u64 m.ans.version, .bool m.ans.has, .string m.ans.val] 55) = W1 := hW1.symm
  have hb1 : Below w.heap.size w W1 := by rw [hW1]; exact (Below.refl _ _).alloc (Nat.le_refl _) _
  have hx1 : W1.heap[w.heap.size]? = some (.cells (Mark.enc m).toArray 55 (0, 0)) := by rw [hW1]; exact heap_alloc_new w _
  have hr1 := (hr.below hb1).more hb1.size
  have HB1 := Lib.hid hb1
  unfold maxLen at hkm
  clear hW1 hr hb1
  go_enter Try.func45, Try.ntmps45
  go_wp2_with fail
  go_loopw [5, 6] (fun o i wr => ∃ j : Nat, i = .int .i64 j ∧ j ≤ l.length ∧ (∀ x ∈ l.take j, x.client < m.client) ∧ OwnL Mark.enc 6 wr W1.heap.size 55 o (l.take j) ∧ Below W1.heap.size W1 wr) (fun _ i _ => l.length - (intOf i).toNat)
  case atStart => exact ⟨0, rfl, Nat.zero_le _, by simp, Own.nil _ _ _ _ _, Below.refl _ _⟩
  case round =>
    rename_i wr _
    obtain ⟨j, rfl, hj, hlo, hO, hb⟩ := hrel
    have HL := Lib.hid hlo
    clear hlo
    have hlenT : (l.take j).length = j := by rw [List.length_take]; omega
    have hO' := hO
    unfold OwnL at hO
    rw [hlenT] at hO
    obtain ⟨Ao, co, rfl, _, hco⟩ := Own.isSlice hO
    clear hO
    have hxr := (hb.block _ (lt_of_heap hx1)).trans hx1
    have m0 : wr.cell? ⟨w.heap.size, 0, none⟩ = some (.int .i64 m.client) := cell_of_row wr _ 0 _ _ _ hxr
    have m1 : wr.cell? ⟨w.heap.size, 1, none⟩ = some (.int .u64 m.req) := cell_of_row wr _ 1 _ _ _ hxr
    have m2 : wr.cell? ⟨w.heap.size, 2, none⟩ = some (.int .i64 m.ans.code) := cell_of_row wr _ 2 _ _ _ hxr
    have m3 : wr.cell? ⟨w.heap.size, 3, none⟩ = some (.int .u64 m.ans.version) := cell_of_row wr _ 3 _ _ _ hxr
    have m4 : wr.cell? ⟨w.heap.size, 4, none⟩ = some (.bool m.ans.has) := cell_of_row wr _ 4 _ _ _ hxr
    have m5 : wr.cell? ⟨w.heap.size, 5, none⟩ = some (.string m.ans.val) := cell_of_row wr _ 5 _ _ _ hxr
    by_cases hgo : ∃ hk : j < l.length, l[j].client < m.client
    · obtain ⟨hlt, hgo⟩ := hgo
      obtain ⟨b, off, rfl, hbk, hx⟩ := (ReadsL.below hr1 hb).at_ (k := 6) Mark.enc_len (by decide) hlt
      have g0 := hx 0 _ rfl
      have g1 := hx 1 _ rfl
      have g2 := hx 2 _ rfl
      have g3 := hx 3 _ rfl
      have g4 := hx 4 _ rfl
      have g5 := hx 5 _ rfl
      simp only [Nat.add_zero] at g0
      have HA : Hid (∀ n, ∃ v' w', (Builtin.append_ #[39, 39] 39 #[.slice Ao j co, .slice (some ⟨wr.heap.size, 0, none⟩) 1 1]).run Try.prog ((wr.drewN n).alloc (.cells l[j].enc.toArray 55)) = .ok v' w' ∧ OwnL Mark.enc 6 w' W1.heap.size 55 v' (l.take (j + 1)) ∧ Below W1.heap.size W1 w') := fun n => by
        obtain ⟨v', w', hr, hO2, hb2⟩ := OwnL.app1 (P := Try.prog) etyM 39 Mark.enc_len Mark.enc_one (w := wr.drewN n) hO' (Nat.le_refl _) (below_drewN hb n) hb.size l[j] (by rw [hlenT]; simp only [maxLen]; omega) (by rw [hlenT]; omega)
        exact ⟨v', w', hr, by rw [List.take_succ_eq_append_getElem hlt]; exact hO2, hb2⟩
      have HL2 : Hid (∀ x ∈ l.take (j + 1), x.client < m.client) := by
        show ∀ x ∈ l.take (j + 1), x.client < m.client
        rw [List.take_succ_eq_append_getElem hlt]
        intro x hx
        rcases List.mem_append.1 hx with hx | hx
        · exact HL.out x hx
        · simp at hx; subst hx; exact hgo
      have hd1 : decide (l[j].client < m.client) = true := by simp [hgo]
      clear hO' hx hxr hgo
      go_wp2_with fail
      go_quiet (fail)
      obtain ⟨v', w', hr, hO2, hb2⟩ := HA.out nq
      have HO := Lib.hid (And.intro hO2 hb2)
      clear hO2 hb2
      go_wp2_with (at_builtin; refine wpList_append_run hr rfl (.tmp 21) (.tmp 26) rfl rfl rfl rfl ?_)
      exact ⟨⟨j + 1, by go_num, by omega, HL2.out, HO.out⟩, by simp [intOf]; omega⟩
    · have hat : AtM l m.client j := ⟨hj, HL.out, fun x hx h => by obtain ⟨hlt, hq⟩ := List.getElem?_eq_some_iff.1 hx; exact hgo ⟨hlt, by rw [hq]; exact h⟩⟩
      have HE : Hid (∀ n1, ∃ v2 w2, (Builtin.append_ #[39, 39] 39 #[.slice Ao j co, .slice (some ⟨wr.heap.size, 0, none⟩) 1 1]).run Try.prog ((wr.drewN n1).alloc (.cells m.enc.toArray 55)) = .ok v2 w2 ∧ w2.cell? ⟨w.heap.size, 0, none⟩ = some (.int .i64 m.client) ∧ Below W1.heap.size W1 w2 ∧
          ∀ (n2 at' : Nat), at' ≤ l.length → putM l m = (l.take j ++ [m]) ++ l.drop at' → ∀ A', (if k = at' then A else A.map (fun x => x.add (at' * 6))) = A' → ∃ v3 w3, (Builtin.append_ #[39, 39] 39 #[v2, .slice A' (l.length - at') (k - at')]).run Try.prog (w2.drewN n2) = .ok v3 w3 ∧ Hid (OwnL Mark.enc 6 w3 w.heap.size 55 v3 (putM l m) ∧ Below w.heap.size w w3)) := fun n1 => by
        obtain ⟨v2, w2, hr2, hO2, hb2⟩ := OwnL.app1 (P := Try.prog) etyM 39 Mark.enc_len Mark.enc_one (w := wr.drewN n1) hO' (Nat.le_refl _) (below_drewN hb n1) hb.size m (by rw [hlenT]; simp only [maxLen]; omega) (by rw [hlenT]; omega)
        have hx2 := (hb2.block _ (lt_of_heap hx1)).trans hx1
        refine ⟨v2, w2, hr2, cell_of_row w2 _ 0 _ _ _ hx2, hb2, ?_⟩
        have hlen2 : (l.take j ++ [m]).length = j + 1 := by simp; omega
        intro n2 at' hat' hput A' hA'
        have hb3 := below_drewN hb2 n2
        have hcut := (ReadsL.below hr1 hb3).cut (k := 6) Mark.enc_len (i := at') hlk
        rw [hA'] at hcut
        obtain ⟨v3, w3, hr3, hO3, hb3⟩ := OwnL.appL (P := Try.prog) etyM 39 Mark.enc_len Mark.enc_one (w := w2.drewN n2) hO2 (Nat.le_refl _) hb3 hb3.size (k - at') hcut (by rw [hlen2, List.length_drop]; simp only [maxLen]; omega) (by rw [hlen2, List.length_drop]; omega)
        rw [List.length_drop] at hr3
        refine ⟨v3, w3, hr3, ?_, HB1.out.trans (hb3.mono HB1.out.size)⟩
        rw [hput]; exact Own.mono hO3 HB1.out.size
      by_cases hlt : j < l.length
      · obtain ⟨b, off, rfl, hbk, hx⟩ := (ReadsL.below hr1 hb).at_ (k := 6) Mark.enc_len (by decide) hlt
        have g0 := hx 0 _ rfl
        have HG : Hid (∀ w2, Below W1.heap.size W1 w2 → w2.cell? ⟨b, off + j * 6, none⟩ = some (.int .i64 l[j].client)) := fun w2 hb2 => by
          obtain ⟨b', off', he, _, hx'⟩ := (ReadsL.below hr1 hb2).at_ (k := 6) Mark.enc_len (by decide) hlt
          injection he with he; injection he with h1 h2; subst h1; subst h2
          exact hx' 0 _ rfl
        simp only [Nat.add_zero] at g0
        have hd1 : decide (l[j].client < m.client) = false := by simp; have : ¬ l[j].client < m.client := fun h => hgo ⟨hlt, h⟩; omega
        have hk0 : ¬ k = j := by omega
        by_cases he : l[j].client = m.client
        · have hput := putM_hit hat ⟨l[j], List.getElem?_eq_getElem hlt, he⟩
          have hd2 : (l[j].client == m.client) = true := by simp [he]
          clear hO' hx hxr hgo hat he
          by_cases hkj : k = j + 1
          · have hA : (if k = j + 1 then some (⟨b, off, none⟩ : Addr) else (some (⟨b, off, none⟩ : Addr)).map (fun x => x.add ((j + 1) * 6))) = some ⟨b, off, none⟩ := if_pos hkj
            go_wp2_with fail
            go_quiet (fail)
            obtain ⟨v2, w2, hr2, n0, hb2, hend⟩ := HE.out nq
            have g0' := HG.out w2 hb2
            have HEn := Lib.hid (fun n => hend n (j + 1) hlt hput _ hA)
            clear hend hput hb2
            go_wp2_with (at_builtin; refine wpList_append_run hr2 rfl (.tmp 30) (.tmp 32) rfl rfl rfl rfl ?_)
            go_quiet (fail)
            obtain ⟨v3, w3, hr3, HO⟩ := HEn.out nq
            rw [hkj, Nat.sub_self] at hr3
            go_wp2_with (at_builtin; refine wpList_append_run hr3 rfl (.tmp 50) (.tmp 53) rfl rfl rfl rfl ?_)
            go_ret
            exact ⟨_, rfl, HO.out⟩
          · have hA : (if k = j + 1 then some (⟨b, off, none⟩ : Addr) else (some (⟨b, off, none⟩ : Addr)).map (fun x => x.add ((j + 1) * 6))) = some ⟨b, off + (j + 1) * 6, none⟩ := by rw [if_neg hkj]; simp [Addr.add_lit]
            go_wp2_with fail
            go_quiet (fail)
            obtain ⟨v2, w2, hr2, n0, hb2, hend⟩ := HE.out nq
            have g0' := HG.out w2 hb2
            have HEn := Lib.hid (fun n => hend n (j + 1) hlt hput _ hA)
            clear hend hput hb2
            go_wp2_with (at_builtin; refine wpList_append_run hr2 rfl (.tmp 30) (.tmp 32) rfl rfl rfl rfl ?_)
            go_quiet (fail)
            obtain ⟨v3, w3, hr3, HO⟩ := HEn.out nq
            go_wp2_with (at_builtin; refine wpList_append_run hr3 rfl (.tmp 50) (.tmp 53) rfl rfl rfl rfl ?_)
            go_ret
            exact ⟨_, rfl, HO.out⟩
        · have hput := putM_miss hat (fun x hx => by rw [List.getElem?_eq_getElem hlt] at hx; injection hx with hx; subst hx; exact he)
          have hA : (if k = j then some (⟨b, off, none⟩ : Addr) else (some (⟨b, off, none⟩ : Addr)).map (fun x => x.add (j * 6))) = some ⟨b, off + j * 6, none⟩ := by rw [if_neg hk0]; simp [Addr.add_lit]
          have hd2 : (l[j].client == m.client) = false := by simp [he]
          clear hO' hx hxr hgo hat he
          go_wp2_with fail
          go_quiet (fail)
          obtain ⟨v2, w2, hr2, n0, hb2, hend⟩ := HE.out nq
          have g0' := HG.out w2 hb2
          have HEn := Lib.hid (fun n => hend n j hj hput _ hA)
          clear hend hput hb2
          go_wp2_with (at_builtin; refine wpList_append_run hr2 rfl (.tmp 30) (.tmp 32) rfl rfl rfl rfl ?_)
          go_quiet (fail)
          obtain ⟨v3, w3, hr3, HO⟩ := HEn.out nq
          go_wp2_with (at_builtin; refine wpList_append_run hr3 rfl (.tmp 50) (.tmp 53) rfl rfl rfl rfl ?_)
          go_ret
          exact ⟨_, rfl, HO.out⟩
      · obtain rfl : j = l.length := by omega
        have hput := putM_miss hat (fun x hx => by simp at hx)
        obtain ⟨A', hA'⟩ : ∃ A', (if k = l.length then A else A.map (fun x => x.add (l.length * 6))) = A' := ⟨_, rfl⟩
        clear hO' hxr hgo hat
        go_wp2_with fail
        go_quiet (fail)
        obtain ⟨v2, w2, hr2, n0, hb2, hend⟩ := HE.out nq
        have HEn := Lib.hid (fun n => hend n l.length (Nat.le_refl _) hput A' hA')
        clear hend hput hb2
        go_wp2_with (at_builtin; refine wpList_append_run hr2 rfl (.tmp 30) (.tmp 32) rfl rfl rfl rfl ?_)
        go_quiet (fail)
        obtain ⟨v3, w3, hr3, HO⟩ := HEn.out nq
        rw [Nat.sub_self] at hr3
        go_wp2_with (at_builtin; refine wpList_append_run hr3 rfl (.tmp 50) (.tmp 53) rfl rfl rfl rfl ?_)
        go_ret
        exact ⟨_, rfl, HO.out⟩
end Go.Proofs.Ytfddpcmlmcohjaa
