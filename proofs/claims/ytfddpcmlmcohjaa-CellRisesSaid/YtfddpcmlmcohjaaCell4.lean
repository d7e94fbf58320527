/-
  The program's package cell: find, put (and slices.Clone). Conditions: fewer marks than 2^31.
-/
import Derived.Test.YtfddpcmlmcohjaaCell3
import Derived.Test.YtfddpcmlmcohjaaInsertM
import Derived.Lib.SliceRun
namespace Go.Proofs.Ytfddpcmlmcohjaa
open Go.RowKit
set_option linter.unusedVariables false
set_option linter.unusedSimpArgs false
set_option maxHeartbeats 1000000
set_option maxRecDepth 100000

theorem cmp_c (x : Mark) (c : Int) (w : World) (hx : 0 ≤ x.client ∧ x.client ≤ 63) (hc : 0 ≤ c ∧ c ≤ 63) :
    Calls Try.prog 62 #[.agg #[.int .i64 x.client, .int .u64 x.req, .int .i64 x.ans.code, .int .u64 x.ans.version, .bool x.ans.has, .string x.ans.val], .int .i64 c] w fun e w' => e = .returned (.int .i64 (x.client - c)) ∧ Below w.heap.size w w' := by
  have hw : IntKind.i64.wrap (x.client - c) = x.client - c := IntWalk.i64_in _ (by omega)
  go_enter Try.func62, Try.ntmps62
  go_wp2_with fail
  go_ret
  exact ⟨by first | rfl | (simp [hw]), (Below.refl _ _).alloc (Nat.le_refl _) _⟩

def FindP (w : World) (l : List Mark) (c : Int) (e : Ending) (w' : World) : Prop :=
  ∃ (i : Nat) (b : Bool), e = .returned (.tuple #[.int .i64 i, .bool b]) ∧ AtM l c i ∧ (b = true ↔ ∃ x, l[i]? = some x ∧ x.client = c) ∧ Below w.heap.size w w'
theorem findM_c (w : World) (A : Option Addr) (k : Nat) (l : List Mark) (c : Int) (hr : ReadsL Mark.enc w w.heap.size A l) (hl : l.length < 2147483000) (hg : SrtM l) (hm : ∀ m ∈ l, 0 ≤ m.client ∧ m.client ≤ 63) (hc : 0 ≤ c ∧ c ≤ 63) :
    Calls Try.prog 42 #[.slice A l.length k, .int .i64 c] w (FindP w l c) := by
  have HB := bsearchM w A k l (.int .i64 c) (fun x => x.client - c) hr (by omega) (fun x hx w1 _ => cmp_c x c w1 (hm x hx) hc)
  have hsrt : l.Pairwise (fun x y => y.client - c < 0 → x.client - c < 0) := List.Pairwise.imp (fun h h' => by omega) hg
  have HP : Hid (∀ e w', BPostM l (fun x => x.client - c) w.heap.size w e w' → FindP w l c e w') := by
    rintro e w' ⟨i, b, rfl, hi, hb, hA, hbel⟩
    obtain ⟨a1, a2⟩ := hA hsrt
    refine ⟨i, b, rfl, ⟨hi, fun x hx => by have : x.client - c < 0 := a1 x hx; omega, fun x hx => ?_⟩, ?_, hbel⟩
    · obtain ⟨hlt, hq⟩ := List.getElem?_eq_some_iff.1 hx
      have : ¬ x.client - c < 0 := a2 x (by rw [List.mem_drop_iff_getElem]; exact ⟨0, by simpa using hlt, by simpa using hq⟩)
      omega
    · rw [hb]
      constructor
      · rintro ⟨x, h1, h2⟩; have h2 : x.client - c = 0 := h2; exact ⟨x, h1, by omega⟩
      · rintro ⟨x, h1, h2⟩; exact ⟨x, h1, by show x.client - c = 0; omega⟩
  clear hsrt hg hm hr
  go_enter Try.func42, Try.ntmps42
  go_wp2_with fail
  refine HB.mono ?_
  rintro e w' hq
  have hq' := HP.out _ _ hq
  clear hq HP HB
  obtain ⟨i, b, rfl, h1, h2, h3⟩ := hq'
  have HQ := Lib.hid (And.intro h1 (And.intro h2 h3))
  clear h1 h2 h3
  go_wp2_with fail
  go_ret2
  exact ⟨i, b, rfl, HQ.out⟩

theorem clone_c (w : World) (A : Option Addr) (k : Nat) (l : List Mark) (hr : ReadsL Mark.enc w w.heap.size A l) (hl : l.length < 2147483000) :
    Calls Try.prog 49 #[.slice A l.length k] w fun e w' => ∃ v', e = .returned v' ∧ OwnL Mark.enc 6 w' w.heap.size 55 v' l ∧ Below w.heap.size w w' := by
  have hq : ∀ (A : Option Addr) (n k : Nat) (w : World), (binOp .eql 39 (.slice A n k) (.slice none 0 0)).run Try.prog w = .ok (.bool A.isNone) w := fun A n k w => Go.Lib.run_eql_slice_nil w _ _ A n k 0 0 Try.underlying39
  cases A with
  | none =>
    obtain rfl : l = [] := by
      refine List.eq_nil_of_length_eq_zero (Nat.eq_zero_of_not_pos fun h => ?_)
      obtain ⟨b, off, he, _⟩ := hr.at_ (k := 6) Mark.enc_len (by decide) h
      cases he
    clear hr
    go_enter Try.func49, Try.ntmps49
    go_wp2_with fail
    go_ret
    exact ⟨_, rfl, Own.nil _ _ _ _ _, Below.refl _ _⟩
  | some a =>
    obtain ⟨W1, hW1⟩ : ∃ W1, W1 = w.alloc (.cells #[] 55) := ⟨_, rfl⟩
    have hb1 : Below w.heap.size w W1 := by rw [hW1]; exact (Below.refl _ _).alloc (Nat.le_refl _) _
    obtain ⟨v', w', hr', hO, hG, hv⟩ := run_append_Own (P := Try.prog) etyM 39 (Own.nil W1 w.heap.size 55 6 (some ⟨w.heap.size, 0, none⟩)) (some a) l.length k (l.flatMap Mark.enc) (flat_length Mark.enc_len l) (hr.below hb1) (flat_one Mark.enc_one l) (by simp only [maxLen]; omega) (by omega) hb1.size
    rw [Nat.zero_add, List.nil_append] at hO
    have HO : Hid (OwnL Mark.enc 6 w' w.heap.size 55 v' l ∧ Below w.heap.size w w') := ⟨hO, hb1.grown hG hb1.size fun g hg => by simp [ownB] at hg⟩
    rw [hW1] at hr'
    clear hO hG hv hb1 hW1
    go_enter Try.func49, Try.ntmps49
    go_wp2_with (at_builtin; refine wpList_append_run hr' rfl (.tmp 5) (.tmp 6) rfl rfl rfl rfl ?_)
    go_ret
    exact ⟨_, rfl, HO.out⟩
end Go.Proofs.Ytfddpcmlmcohjaa
