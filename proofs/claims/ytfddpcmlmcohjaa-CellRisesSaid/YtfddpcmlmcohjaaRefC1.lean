/-
  espalierref17: of, mark, Own. Conditions: fewer marks than 2^31.
-/
import Derived.Test.YtfddpcmlmcohjaaCellDo
import Derived.Test.YtfddpcmlmcohjaaLst2
namespace Go.Proofs.Ytfddpcmlmcohjaa
open Go.RowKit
set_option linter.unusedVariables false
set_option linter.unusedSimpArgs false
set_option maxHeartbeats 1000000
set_option maxRecDepth 100000

def MarkV (m : Mark) : Value := .agg #[.int .i64 m.client, .int .u64 m.req, .int .i64 m.ans.code, .int .u64 m.ans.version, .bool m.ans.has, .string m.ans.val]
def OfV : Option Mark → Value
  | some m => .tuple #[MarkV m, .bool true]
  | none => .tuple #[MarkV zeroMark, .bool false]
theorem ofM_here {l : List Mark} {c : Int} {k : Nat} (hn : ∀ x ∈ l.take k, x.client ≠ c) (hk : k < l.length) (h : l[k].client = c) : ofM l c = some l[k] := by
  have h2 : (l.take k ++ l.drop k).find? (fun x => decide (x.client = c)) = some l[k] := by
    rw [List.find?_append, List.find?_eq_none.2 (by intro x hx; simpa using hn x hx), Option.none_or, List.drop_eq_getElem_cons hk, List.find?_cons_of_pos (by simpa using h)]
  rw [List.take_append_drop] at h2
  exact h2
theorem ofM_none {l : List Mark} {c : Int} (hn : ∀ x ∈ l, x.client ≠ c) : ofM l c = none := List.find?_eq_none.2 (by intro x hx; simpa using hn x hx)

theorem rof_c (w : World) (A : Option Addr) (k : Nat) (l : List Mark) (c : Int) (hr : ReadsL Mark.enc w w.heap.size A l) (hl : l.length < 2147483000) :
    Calls Try.prog 44 #[.slice A l.length k, .int .i64 c] w fun e w' => e = .returned (OfV (ofM l c)) ∧ Below w.heap.size w w' := by
  obtain ⟨W1, hW1⟩ : ∃ W1, W1 = w.alloc (.cells #[.int .i64 0, .int .u64 0, .int .i64 0, .int .u64 0, .bool false, .string ⟨#[]⟩] 55) := ⟨_, rfl⟩
  have hW1' := hW1.symm
  have hb1 : Below w.heap.size w W1 := by rw [hW1]; exact (Below.refl _ _).alloc (Nat.le_refl _) _
  have hx1 : W1.heap[w.heap.size]? = some (.cells #[.int .i64 0, .int .u64 0, .int .i64 0, .int .u64 0, .bool false, .string ⟨#[]⟩] 55 (0, 0)) := by rw [hW1]; exact heap_alloc_new w _
  have q0 : W1.cell? ⟨w.heap.size, 0, none⟩ = some (.int .i64 0) := cell_of_row W1 _ 0 _ _ _ hx1
  have q1 : W1.cell? ⟨w.heap.size, 1, none⟩ = some (.int .u64 0) := cell_of_row W1 _ 1 _ _ _ hx1
  have q2 : W1.cell? ⟨w.heap.size, 2, none⟩ = some (.int .i64 0) := cell_of_row W1 _ 2 _ _ _ hx1
  have q3 : W1.cell? ⟨w.heap.size, 3, none⟩ = some (.int .u64 0) := cell_of_row W1 _ 3 _ _ _ hx1
  have q4 : W1.cell? ⟨w.heap.size, 4, none⟩ = some (.bool false) := cell_of_row W1 _ 4 _ _ _ hx1
  have q5 : W1.cell? ⟨w.heap.size, 5, none⟩ = some (.string ⟨#[]⟩) := cell_of_row W1 _ 5 _ _ _ hx1
  have hfr : ∀ j, W1.frozen? ⟨w.heap.size, j, none⟩ = false := fun j => by simp [World.frozen?, hx1]
  have HB := Lib.hid hb1
  have hr1 := hr.below hb1
  clear hb1 hx1 hW1 hr
  go_enter Try.func44, Try.ntmps44
  go_wp2
  go_loop [6] (fun i => ∃ j : Nat, i = .int .i64 j ∧ j ≤ l.length ∧ ∀ x ∈ l.take j, x.client ≠ c) (fun i => l.length - (intOf i).toNat)
  case atStart => exact ⟨0, rfl, Nat.zero_le _, by simp⟩
  case round =>
    obtain ⟨j, rfl, hj, hno⟩ := hrel
    have HN := Lib.hid hno
    clear hno
    by_cases hlt : j < l.length
    · obtain ⟨b, off, rfl, hbk, hx⟩ := hr1.at_ (k := 6) Mark.enc_len (by decide) hlt
      have g0 := hx 0 _ rfl
      have g1 := hx 1 _ rfl
      have g2 := hx 2 _ rfl
      have g3 := hx 3 _ rfl
      have g4 := hx 4 _ rfl
      have g5 := hx 5 _ rfl
      simp only [Nat.add_zero] at g0
      clear hx
      by_cases he : l[j].client = c
      · have hq : (l[j].client == c) = true := by simp [he]
        have hfin := Lib.hid (ofM_here HN.out hlt he)
        clear he
        go_wp2
        refine bodyPost_ret (v := OfV (some l[j])) ?_ rfl ⟨by rw [hfin.out], ?_⟩
        · simp [results, Try.results44, go_sem, q0, q1, q2, q3, q4, q5, hfr]
          rfl
        · (repeat (first | with_reducible exact HB.out | with_reducible refine Below.drew ?_ | with_reducible refine below_drewN ?_ _ | with_reducible refine Below.setCell ?_ (by first | (show _ ≤ _; omega) | (simp; omega) | exact Nat.le_refl _ | simp) _ | with_reducible refine Below.alloc ?_ (by first | (show _ ≤ _; omega) | (simp; omega) | simp) _)); done
      · have hq : (l[j].client == c) = false := by simp [he]
        have HN2 : Hid (∀ x ∈ l.take (j + 1), x.client ≠ c) := by
          show ∀ x ∈ l.take (j + 1), x.client ≠ c
          rw [List.take_succ_eq_append_getElem hlt]
          intro x hx
          rcases List.mem_append.1 hx with hx | hx
          · exact HN.out x hx
          · simp at hx; subst hx; exact he
        clear he
        go_wp2
        exact ⟨⟨j + 1, by go_num, by omega, HN2.out⟩, by simp [intOf]; omega⟩
    · obtain rfl : j = l.length := by omega
      have hfin := Lib.hid (ofM_none (c := c) (l := l) (by have := HN.out; rwa [List.take_length] at this))
      go_wp2
      refine bodyPost_ret (v := OfV none) ?_ rfl ⟨by rw [hfin.out], ?_⟩
      · simp [results, Try.results44, go_sem, q0, q1, q2, q3, q4, q5, hfr]
        rfl
      · (repeat (first | with_reducible exact HB.out | with_reducible refine Below.drew ?_ | with_reducible refine below_drewN ?_ _ | with_reducible refine Below.setCell ?_ (by first | (show _ ≤ _; omega) | (simp; omega) | exact Nat.le_refl _ | simp) _ | with_reducible refine Below.alloc ?_ (by first | (show _ ≤ _; omega) | (simp; omega) | simp) _)); done

theorem rown_c (w : World) (A : Option Addr) (k : Nat) (c : Cel) (h : CelR w A k c) :
    Calls Try.prog 22 #[CelV c A k] w fun e w' => ∃ A' k', e = .returned (CelV c A' k') ∧ CelR w' A' k' c ∧ Below w.heap.size w w' := by
  obtain ⟨W1, hW1⟩ : ∃ W1, W1 = (w.alloc (.cells #[.int .u64 c.version, .bool c.has, .string c.val, .slice A c.marks.length k] 41)).alloc (.cells #[.int .u64 0, .bool false, .string ⟨#[]⟩, .slice none 0 0] 41) := ⟨_, rfl⟩
  have hb1 : Below w.heap.size w W1 := by rw [hW1]; exact ((Below.refl _ _).alloc (Nat.le_refl _) _).alloc (by simp) _
  have hx1 : W1.heap[w.heap.size]? = some (.cells #[.int .u64 c.version, .bool c.has, .string c.val, .slice A c.marks.length k] 41 (0, 0)) := by
    rw [hW1, Below.heap_alloc _ _ _ (by simp)]; exact heap_alloc_new w _
  have hx2 : W1.heap[w.heap.size + 1]? = some (.cells #[.int .u64 0, .bool false, .string ⟨#[]⟩, .slice none 0 0] 41 (0, 0)) := by
    have := heap_alloc_new (w.alloc (.cells #[.int .u64 c.version, .bool c.has, .string c.val, .slice A c.marks.length k] 41)) (.cells #[.int .u64 0, .bool false, .string ⟨#[]⟩, .slice none 0 0] 41)
    rw [hW1]; simpa using this
  have hsm := h.small
  obtain ⟨v', w', hr, hO, hb2⟩ := OwnL.appL (P := Try.prog) etyM 39 Mark.enc_len Mark.enc_one (w0 := W1) (OwnL.nilAt W1 W1.heap.size none) (Nat.le_refl _) (Below.refl _ _) (Nat.le_refl _) k (h.below hb1).reads (by simp only [maxLen, List.length_nil]; omega) (by simp only [List.length_nil]; omega)
  rw [List.nil_append] at hO
  obtain ⟨A', k', rfl, hn', hk'⟩ := Own.isSlice hO
  have hy1 := (hb2.block _ (lt_of_heap hx1)).trans hx1
  have hy2 := (hb2.block _ (lt_of_heap hx2)).trans hx2
  have p0 : W1.cell? ⟨w.heap.size, 3, none⟩ = some (.slice A c.marks.length k) := cell_of_row W1 _ 3 _ _ _ hx1
  have q0 : w'.cell? ⟨w.heap.size, 0, none⟩ = some (.int .u64 c.version) := cell_of_row w' _ 0 _ _ _ hy1
  have q1 : w'.cell? ⟨w.heap.size, 1, none⟩ = some (.bool c.has) := cell_of_row w' _ 1 _ _ _ hy1
  have q2 : w'.cell? ⟨w.heap.size, 2, none⟩ = some (.string c.val) := cell_of_row w' _ 2 _ _ _ hy1
  have q3 : w'.cell? ⟨w.heap.size, 3, none⟩ = some (.slice A c.marks.length k) := cell_of_row w' _ 3 _ _ _ hy1
  have r0 : w'.cell? ⟨w.heap.size + 1, 0, none⟩ = some (.int .u64 0) := cell_of_row w' _ 0 _ _ _ hy2
  have r1 : w'.cell? ⟨w.heap.size + 1, 1, none⟩ = some (.bool false) := cell_of_row w' _ 1 _ _ _ hy2
  have r2 : w'.cell? ⟨w.heap.size + 1, 2, none⟩ = some (.string ⟨#[]⟩) := cell_of_row w' _ 2 _ _ _ hy2
  have r3 : w'.cell? ⟨w.heap.size + 1, 3, none⟩ = some (.slice none 0 0) := cell_of_row w' _ 3 _ _ _ hy2
  have f0 : ∀ j, w'.frozen? ⟨w.heap.size, j, none⟩ = false := fun j => by simp [World.frozen?, hy1]
  have f1 : ∀ j, w'.frozen? ⟨w.heap.size + 1, j, none⟩ = false := fun j => by simp [World.frozen?, hy2]
  have HO := Lib.hid (And.intro hO (And.intro (hb1.trans (hb2.mono hb1.size)) (And.intro hn' (And.intro hk' (And.intro h.small h.vs)))))
  have hlt2 := lt_of_heap hx2
  have HL : Hid (w.heap.size + 1 < W1.heap.size) := hlt2
  have hs1 : W1.heap.size = w.heap.size + 2 := by rw [hW1]; simp
  clear hb1 hx1 hx2 hO hb2 hy1 hy2 h hn' hk' hlt2 hs1
  unfold CelV
  go_enter Try.func22, Try.ntmps22
  rw [hW1] at hr p0
  go_wp2_with (at_builtin; refine wpList_append_run hr rfl (.tmp 4) (.tmp 6) rfl rfl rfl rfl ?_)
  refine bodyPost_ret (v := CelV c A' k') ?_ rfl ⟨A', k', rfl, ⟨?_, HO.out.2.2.1, HO.out.2.2.2.1, HO.out.2.2.2.2.1, HO.out.2.2.2.2.2⟩, ?_⟩
  · simp [results, Try.results22, go_sem, q0, q1, q2, q3, r0, r1, r2, r3, f0, f1]
    rfl
  · refine OwnL.reads (k := 6) (e := 55) (n := c.marks.length) (c := k') (B := W1.heap.size) ?_
    have HF1 := HO.out.1
    have HL1 := HL.out
    unfold OwnL at HF1
    show Own _ _ _ _ _ c.marks.length (c.marks.flatMap Mark.enc)
    (repeat (first | with_reducible exact HF1 | with_reducible refine Own.drew ?_ | with_reducible refine Own.setlow ?_ (by omega) _))
    done
  · (repeat (first | with_reducible exact HO.out.2.1 | with_reducible refine Below.drew ?_ | with_reducible refine below_drewN ?_ _ | with_reducible refine Below.setCell ?_ (by first | (show _ ≤ _; omega) | (simp; omega) | exact Nat.le_refl _ | simp) _ | with_reducible refine Below.alloc ?_ (by first | (show _ ≤ _; omega) | (simp; omega) | simp) _)); done
end Go.Proofs.Ytfddpcmlmcohjaa
