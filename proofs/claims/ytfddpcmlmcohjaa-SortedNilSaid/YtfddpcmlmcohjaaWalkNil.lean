/-
  The walk of SortedNil.
-/
import Derived.Test.YtfddpcmlmcohjaaLaw07b
import Derived.Test.YtfddpcmlmcohjaaOpen07
namespace Go.Proofs.Ytfddpcmlmcohjaa
open Go.RowKit
set_option linter.unusedVariables false
set_option linter.unusedSimpArgs false
set_option maxHeartbeats 1000000
set_option maxRecDepth 100000
theorem nput (k : Int) (s : ByteArray) (w : World) : Calls Try.prog 34 #[.pointer none, .int .u64 k, .string s] w fun e w' => e = .returned (.tuple #[.string ⟨#[]⟩, .bool false, .int .i64 6]) ∧ w = w' := by
  go_enter Try.func34, Try.ntmps34
  go_wp2
  go_ret3
  exact ⟨rfl, rfl⟩
theorem nfind (k : Int) (w : World) : Calls Try.prog 39 #[.pointer none, .int .u64 k] w fun e w' => e = .returned (.tuple #[.int .i64 0, .bool false]) ∧ w = w' := by
  go_enter Try.func39, Try.ntmps39
  go_wp2
  go_ret2
  exact ⟨rfl, rfl⟩
theorem nget (k : Int) (w : World) : Calls Try.prog 33 #[.pointer none, .int .u64 k] w fun e w' => e = .returned (.tuple #[.string ⟨#[]⟩, .bool false]) ∧ w = w' := by
  go_enter Try.func33, Try.ntmps33
  go_wp2_with (go_at_call 39; refine (nfind _ _).mono ?_; rintro e w6 ⟨rfl, rfl⟩)
  go_ret2
  exact ⟨rfl, rfl⟩
theorem ndrop (k : Int) (w : World) : Calls Try.prog 35 #[.pointer none, .int .u64 k] w fun e w' => e = .returned (.tuple #[.string ⟨#[]⟩, .bool false]) ∧ w = w' := by
  go_enter Try.func35, Try.ntmps35
  go_wp2_with (go_at_call 33; refine (nget _ _).mono ?_; rintro e w6 ⟨rfl, rfl⟩)
  go_ret2
  exact ⟨rfl, rfl⟩
theorem nrank (k : Int) (w : World) : Calls Try.prog 17 #[.pointer none, .int .u64 k] w fun e w' => e = .returned (.int .i64 0) ∧ w' = w := by
  go_enter Try.func17, Try.ntmps17
  go_wp2_with (go_at_call 39; refine (nfind _ _).mono ?_; rintro e w6 ⟨rfl, rfl⟩)
  go_ret
  exact ⟨rfl, rfl⟩
theorem nsize (w : World) : Calls Try.prog 20 #[.pointer none] w fun e w' => e = .returned (.int .i64 0) ∧ w = w' := by
  go_enter Try.func20, Try.ntmps20
  go_wp2
  go_ret
  exact ⟨rfl, rfl⟩
theorem nrange (k a b : Int) (w : World) : Calls Try.prog 14 #[.pointer none, .int .u64 k, .int .u64 a, .int .i64 b] w fun e w' => e = .returned (.tuple #[.slice none 0 0, .int .i64 6]) ∧ w = w' := by
  go_enter Try.func14, Try.ntmps14
  go_wp2
  go_ret2
  exact ⟨rfl, rfl⟩
theorem nat_ (i : Int) (w : World) (hi : i = 0 ∨ i = -1) : Calls Try.prog 40 #[.pointer none, .int .i64 i] w fun e w' => e = .returned (.tuple #[.agg #[.int .u64 0, .string ⟨#[]⟩], .bool false]) ∧ w' = w.alloc (.cells #[.int .u64 0, .string ⟨#[]⟩] 31) := by
  have bI := buildItem0
  rcases hi with rfl | rfl
  all_goals
    go_enter Try.func40, Try.ntmps40
    go_wp2_with (go_at_call 20; refine (nsize _).mono ?_; rintro e w1 ⟨rfl, rfl⟩)
    exact bodyPost_ret (v := .tuple #[.agg #[.int .u64 0, .string ⟨#[]⟩], .bool false]) (by simp [results, Try.results40, go_sem]) rfl ⟨rfl, rfl⟩
theorem nmin (w : World) : Calls Try.prog 18 #[.pointer none] w fun e w' => e = .returned (.tuple #[.agg #[.int .u64 0, .string ⟨#[]⟩], .bool false]) ∧ Below w.heap.size w w' := by
  go_enter Try.func18, Try.ntmps18
  go_wp2_with (go_at_call 40; refine (nat_ _ _ (by decide)).mono ?_; rintro e w1 ⟨rfl, rfl⟩)
  exact bodyPost_ret (v := .tuple #[.agg #[.int .u64 0, .string ⟨#[]⟩], .bool false]) (by simp [results, Try.results18, go_sem]) rfl ⟨rfl, by repeat (first | exact Below.refl _ _ | refine Below.setCell ?_ (by simp) _ | refine Below.alloc ?_ (by simp) _)⟩
theorem nmax (w : World) : Calls Try.prog 19 #[.pointer none] w fun e w' => e = .returned (.tuple #[.agg #[.int .u64 0, .string ⟨#[]⟩], .bool false]) ∧ Below w.heap.size w w' := by
  go_enter Try.func19, Try.ntmps19
  go_wp2_with (first | (go_at_call 20; refine (nsize _).mono ?_; rintro e w1 ⟨rfl, rfl⟩) | (go_at_call 40; refine (nat_ _ _ (by decide)).mono ?_; rintro e w1 ⟨rfl, rfl⟩))
  exact bodyPost_ret (v := .tuple #[.agg #[.int .u64 0, .string ⟨#[]⟩], .bool false]) (by simp [results, Try.results19, go_sem]) rfl ⟨rfl, by repeat (first | exact Below.refl _ _ | refine Below.setCell ?_ (by simp) _ | refine Below.alloc ?_ (by simp) _)⟩
theorem walkSortedNil (W : World) (v0 v1 : Value) (i0 : InU64 v0) (i1 : InStr v1) : Calls Try.prog 12 #[v0, v1] W fun e w' => e = .returned (.bool true) ∧ Below W.heap.size W w' := by
  obtain ⟨k, rfl, hk0, hk1⟩ := i0
  obtain ⟨s, rfl, hs⟩ := i1
  have hb0 := buildItem0
  go_enter Try.func12, Try.ntmps12
  go_wp2_with (first
    | (go_at_call 34; refine (nput _ _ _).mono ?_; rintro e w6 ⟨rfl, rfl⟩)
    | (go_at_call 33; refine (nget _ _).mono ?_; rintro e w6 ⟨rfl, rfl⟩)
    | (go_at_call 35; refine (ndrop _ _).mono ?_; rintro e w6 ⟨rfl, rfl⟩)
    | (go_at_call 14; refine (nrange _ _ _ _).mono ?_; rintro e w6 ⟨rfl, rfl⟩)
    | (go_at_call 18; refine (nmin _).mono ?_; rintro e w1 ⟨rfl, hb1⟩))
  refine (nmax _).mono ?_
  rintro e w2 ⟨rfl, hb2⟩
  have h12 : Below W.heap.size W w2 := (hb1.alloc hb1.size _).trans (hb2.mono (by simp; have := hb1.size; omega))
  go_wp2_with fail
  refine (ordered_c _).mono ?_
  rintro e w3 ⟨rfl, hb3⟩
  have h13 : Below W.heap.size W w3 := (h12.alloc h12.size _).trans (hb3.mono (by simp; have := h12.size; omega))
  have H := Lib.hid h13
  clear hb3 hb2 hb1 h12 h13
  go_wp2_with (first
    | (go_at_call 17; refine (nrank _ _).mono ?_; rintro e w6 ⟨rfl, rfl⟩)
    | (go_at_call 20; refine (nsize _).mono ?_; rintro e w6 ⟨rfl, rfl⟩))
  go_ret
  exact ⟨rfl, H.out⟩
end Go.Proofs.Ytfddpcmlmcohjaa
