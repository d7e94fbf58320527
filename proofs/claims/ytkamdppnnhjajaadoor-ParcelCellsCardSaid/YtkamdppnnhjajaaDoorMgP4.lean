/-
  SymCodes, SymCl8, SymRd8, SymRd9, SymRdA, PlRel, SymRRd8, SymRRd9, SymRRdA, SymRRdB, SymRGp: put together by a program of mine (a claim may have 60 files at most). Conditions: none.
-/
import Derived.Test.YtkamdppnnhjajaaDoorMgP1
import Derived.Test.YtkamdppnnhjajaaDoorMgP2
import Derived.Test.YtkamdppnnhjajaaDoorMgP3
namespace Go.Proofs.YtkamdppnnhjajaaDoor.Sym
open Go Go.RowKit
set_option maxRecDepth 100000
set_option maxHeartbeats 1600000
set_option linter.unusedVariables false
set_option linter.unusedSimpArgs false
/-- a row of codes -/
def rowE (A : Option Addr) (k : Nat) (l : List Int) : AV := .sl none A l.length k 1 (fun i => [.int .i64 (l.getD i 0)])
def idxE (l : List Int) (v : Int) : Int := if v ∈ l then (l.findIdx (fun x => decide (x = v)) : Int) else -1
theorem idxE_at {l : List Int} {n : Nat} {f : Nat → Int} {v : Int} {i : Nat} (hn : n = l.length) (hf : f = fun i => l.getD i 0) (hi : i < n) (h : f i = v) (hno : ∀ j, j < i → f j ≠ v) : idxE l v = (i : Int) := by
  have hl : i < l.length := by omega
  have e : ∀ j (hj : j < l.length), f j = l[j] := fun j hj => by rw [hf]; simp [List.getD, hj]
  have hin : v ∈ l := by rw [← h, e i hl]; exact List.getElem_mem hl
  unfold idxE
  rw [if_pos hin]
  congr 1
  rw [List.findIdx_eq hl]
  refine ⟨by rw [← e i hl, h]; simp, fun j hj => ?_⟩
  have := hno j hj
  rw [e j (by omega)] at this
  simpa using this
theorem idxE_no {l : List Int} {n : Nat} {f : Nat → Int} {v : Int} (hn : n = l.length) (hf : f = fun i => l.getD i 0) (hno : ∀ j, j < n → f j ≠ v) : idxE l v = -1 := by
  unfold idxE
  rw [if_neg]
  intro hin
  obtain ⟨i, hi, rfl⟩ := List.mem_iff_getElem.1 hin
  exact hno i (by omega) (by rw [hf]; simp [List.getD, hi])
theorem idxE_ge (l : List Int) (v : Int) : idxE l v ≥ 0 ↔ v ∈ l := by
  unfold idxE
  split
  · rename_i h; exact ⟨fun _ => h, fun _ => Int.natCast_nonneg _⟩
  · rename_i h; exact ⟨fun h' => absurd h' (by decide), fun h' => absurd h' h⟩
theorem Spec.re {P : Program} {f : FuncId} {args args' : List AV} {res : Atom → AV} (h : Spec P f args res) (ha : SimL args' args) : Spec P f args' res := by
  intro m w h1 h2
  rw [ha.map]
  exact h m w h1 (ha.ok h2)
theorem sim_nil {f : Nat → List AV} : Sim (.sl none none 0 0 0 f) (rowE none 0 []) := ⟨rfl, fun _ => rfl, fun m w _ => .sl _ _ _ _ _ _ (Nat.le_refl _) (Nat.zero_le _) (fun i hi => absurd hi (Nat.not_lt_zero _)) (fun i hi => absurd hi (Nat.not_lt_zero _)) (fun i hi => absurd hi (Nat.not_lt_zero _)) (fun i hi => absurd hi (Nat.not_lt_zero _)) (fun i hi => absurd hi (Nat.not_lt_zero _))⟩
def T43 : List (Nat × TI) := [(27, ti27), (77, ti77)]
theorem T43_ok : TabOK Tryd.prog T43 := .cons t27 (.cons t77 (.nil))
theorem enters43 : Enters Tryd.prog 43 := fun _ _ => by kernel_rfl
theorem codes_s (A : Option Addr) (k : Nat) (l : List Int) (hl : l.length ≤ 1000) : Spec Tryd.prog 43 [rowE A k l] (fun x => rowE (x.A 0) (x.c 0) ([0, 8] ++ l)) := by
  intro m w hm hargs
  obtain ⟨n, hn⟩ : ∃ n, n = l.length := ⟨_, rfl⟩
  obtain ⟨f, hf⟩ : ∃ f : Nat → Int, f = fun i => l.getD i 0 := ⟨_, rfl⟩
  have e1 : rowE A k l = .sl none A n k 1 (fun i => [.int .i64 (f i)]) := by rw [hn, hf]; rfl
  have hlen := ok_len (hargs (rowE A k l) (by simp))
  rw [← hn] at hlen
  rw [e1] at hargs ⊢
  refine enter hm hargs Tryd.func43 rfl (by simp [Tryd.ntmps43]) fun a0 hF => ?_
  simp only [Tryd.ntmps43, startT] at hF
  obtain ⟨B, hB⟩ : ∃ B, B = std := ⟨_, rfl⟩
  refine wp_seq ?_
  apply region_okB hB T43_ok [0] [] [] hF
  case hex => intro A X; conv => lhs; cbv
  case hob =>
    intro X
    subst hB
    simp [AllOb, Ob.holds, BE.den, std, stdCmp, stdArith] <;> omega
  case hQ =>
  intro X0 a0 w1 hF
  refine wp_seq ?_
  apply region_okB hB T43_ok [2] [2, 3, 5] [] hF
  case hex => intro A X; conv => lhs; cbv
  case hob =>
    intro X
    subst hB
    refine ⟨⟨rfl, rfl, rfl⟩, ?_, trivial⟩
    show 2 + n ≤ maxLen ∧ (2 + n) * 8 ≤ _
    simp only [maxLen]; omega
  case hQ =>
  intro X1 a0 w1 hF
  refine wp_ret ?_
  refine ret_sim (fn := Tryd.f43) T43_ok hF (rs := [.tmp 2]) rfl (rfl) ?_ (⟨0, fun _ => (X1 2).A 0, fun _ => (X1 2).c 0, fun _ => .empty⟩) ?_
  · simp [AllOb, Ob.holds]
  · subst hB
    refine Sim.resl (by show 2 + n = ([0, 8] ++ l).length; simp [hn]; omega) fun i hi => ?_
    match i with
    | 0 => rfl
    | 1 => rfl
    | i + 2 =>
      show (if i + 2 < 2 then _ else [AV.int .i64 (f (i + 2 - 2))]) = _
      rw [if_neg (by omega), hf]; rfl
def T91 : List (Nat × TI) := [(3, ti3), (27, ti27), (77, ti77)]
theorem T91_ok : TabOK Tryd.prog T91 := .cons t3 (.cons t27 (.cons t77 (.nil)))
theorem enters91 : Enters Tryd.prog 91 := fun _ _ => by kernel_rfl
theorem index_s (A : Option Addr) (k : Nat) (l : List Int) (hl : l.length ≤ 1000) (v : Int) : Spec Tryd.prog 91 [rowE A k l, .int .i64 v] (fun _ => .int .i64 (idxE l v)) := by
  intro m w hm hargs
  obtain ⟨n, hn⟩ : ∃ n, n = l.length := ⟨_, rfl⟩
  obtain ⟨f, hf⟩ : ∃ f : Nat → Int, f = fun i => l.getD i 0 := ⟨_, rfl⟩
  have e1 : rowE A k l = .sl none A n k 1 (fun i => [.int .i64 (f i)]) := by rw [hn, hf]; rfl
  have hlen := ok_len (hargs (rowE A k l) (by simp))
  rw [← hn] at hlen
  rw [e1] at hargs ⊢
  refine enter hm hargs Tryd.func91 rfl (by simp [Tryd.ntmps91]) fun a0 hF => ?_
  simp only [Tryd.ntmps91, startT] at hF
  obtain ⟨B, hB⟩ : ∃ B, B = std := ⟨_, rfl⟩
  refine wp_seq ?_
  apply region_okB hB T91_ok [0, 1] [] [] hF
  case hex => intro A X; conv => lhs; cbv
  case hob =>
    intro X
    subst hB
    simp [AllOb, Ob.holds, BE.den, std, stdCmp, stdArith] <;> omega
  case hQ =>
  intro X0 a0 w1 hF
  refine wp_seq ?_
  refine wp_seq ?_
  apply region_okB hB T91_ok [8, 0, 1, 7] [] [] hF
  case hex => intro A X; conv => lhs; cbv
  case hob =>
    intro X
    subst hB
    simp [AllOb, Ob.holds, BE.den, std, stdCmp, stdArith] <;> omega
  case hQ =>
  intro X1 a0 w1 hF
  refine wp_block ?_
  refine loop_pre (ι := Nat) (fun p => [(8, .int .i64 (p : Int))]) (fun p => []) (fun p => []) (fun p => p ≤ n ∧ ∀ j, j < p → f j ≠ v) (fun p => n - p) 0 ⟨Nat.zero_le _, fun i hi => absurd hi (Nat.not_lt_zero _)⟩ hF ?_
  rintro i ⟨hi, hall⟩ a0 w1 hF
  try dsimp only at hi
  try dsimp only at hall
  refine wp_seq ?_
  apply region_okB hB T91_ok [9, 0, 1, 7, 8] [] [] hF
  case hex => intro A X; conv => lhs; cbv
  case hob =>
    intro X
    subst hB
    simp [AllOb, Ob.holds, BE.den, std, stdCmp, stdArith] <;> omega
  case hQ =>
  intro X2 a0 w1 hF
  refine wp_seq ?_
  refine test_ok hF rfl (fun hb hF => ?_) (fun hb hF => ?_)
  · skip
    have hin : i < n := by
      have : (i : Int) < (n : Int) := by subst hB; simpa [std, stdCmp] using hb
      omega
    refine wp_skip ?_
    refine wp_seq ?_
    refine wp_block ?_
    refine wp_seq ?_
    apply region_okB hB T91_ok [0, 1, 5, 7, 8] [] [] hF
    case hex => intro A X; conv => lhs; cbv
    case hob =>
      intro X
      subst hB
      simp [AllOb, Ob.holds, BE.den, std, stdCmp, stdArith] <;> omega
    case hQ =>
    intro X3 a0 w1 hF
    refine wp_seq ?_
    apply region_okB hB T91_ok [16, 0, 1, 5, 7, 8] [] [] hF
    case hex => intro A X; conv => lhs; cbv
    case hob =>
      intro X
      subst hB; exact ⟨⟨show (0 : Int) ≤ (i : Int) by omega, show (i : Int) < (n : Int) by omega⟩, trivial⟩
    case hQ =>
    intro X4 a0 w1 hF
    refine test_ok hF rfl (fun hb hF => ?_) (fun hb hF => ?_)
    · skip
      have heq : f i = v := by
        have : (v == f i) = true := by subst hB; exact hb
        simpa using (beq_iff_eq.1 this).symm
      refine wp_seq ?_
      apply region_okB hB T91_ok [4] [] [] hF
      case hex => intro A X; conv => lhs; cbv
      case hob =>
        intro X
        subst hB
        simp [AllOb, Ob.holds, BE.den, std, stdCmp, stdArith] <;> omega
      case hQ =>
      intro X5 a0 w1 hF
      refine wp_ret ?_
      refine ret_spec (fn := Tryd.f91) T91_ok hF (rs := [.tmp 4]) rfl (rfl) ?_ noAtom ?_
      · subst hB; simp [AllOb, Ob.holds]
      · subst hB
        rw [idxE_at hn hf hin heq hall]; rfl
    · skip
      have hne : f i ≠ v := by
        have : (v == f i) = false := by subst hB; exact hb
        intro h; rw [h] at this; simp at this
      refine wp_skip ?_
      apply region_okB hB T91_ok [8, 0, 1, 7] [] [] hF
      case hex => intro A X; conv => lhs; cbv
      case hob =>
        intro X
        subst hB
        simp [AllOb, Ob.holds, BE.den, std, stdCmp, stdArith] <;> omega
      case hQ =>
      intro X6 a0 w1 hF
      have e : B.arith .add .i64 (i : Int) 1 = ((i + 1 : Nat) : Int) := by subst hB; exact wrap_succ (n := n) hin (by simp only [maxLen]; omega)
      refine ⟨i + 1, ⟨by omega, fun j hj => ?_⟩, by omega, by rw [← e]; exact hF⟩
      by_cases hij : j = i
      · rw [hij]; exact hne
      · exact hall j (by omega)
  · skip
    have hout : i = n := by
      have : ¬ (i : Int) < (n : Int) := by subst hB; simpa [std, stdCmp] using hb
      omega
    refine wp_exit ?_
    refine wp_seq ?_
    apply region_okB hB T91_ok [4] [] [] hF
    case hex => intro A X; conv => lhs; cbv
    case hob =>
      intro X
      subst hB
      simp [AllOb, Ob.holds, BE.den, std, stdCmp, stdArith] <;> omega
    case hQ =>
    intro X7 a0 w1 hF
    refine wp_ret ?_
    refine ret_spec (fn := Tryd.f91) T91_ok hF (rs := [.tmp 4]) rfl (rfl) ?_ noAtom ?_
    · subst hB; simp [AllOb, Ob.holds]
    · subst hB
      rw [hout] at hall
      rw [idxE_no hn hf hall]; rfl
def T63 : List (Nat × TI) := [(3, ti3), (4, ti4), (27, ti27), (77, ti77)]
theorem T63_ok : TabOK Tryd.prog T63 := .cons t3 (.cons t4 (.cons t27 (.cons t77 (.nil))))
theorem enters63 : Enters Tryd.prog 63 := fun _ _ => by kernel_rfl
theorem contains_s (A : Option Addr) (k : Nat) (l : List Int) (hl : l.length ≤ 1000) (v : Int) : Spec Tryd.prog 63 [rowE A k l, .int .i64 v] (fun _ => .bool (.v (decide (v ∈ l)))) := by
  intro m w hm hargs
  have S := index_s A k l hl v
  have hz := idxE_ge l v
  generalize idxE l v = z at S hz
  obtain ⟨n, hn⟩ : ∃ n, n = l.length := ⟨_, rfl⟩
  obtain ⟨f, hf⟩ : ∃ f : Nat → Int, f = fun i => l.getD i 0 := ⟨_, rfl⟩
  have e1 : rowE A k l = .sl none A n k 1 (fun i => [.int .i64 (f i)]) := by rw [hn, hf]; rfl
  have hlen := ok_len (hargs (rowE A k l) (by simp))
  rw [← hn] at hlen
  rw [e1] at hargs ⊢
  rw [e1] at S
  refine enter hm hargs Tryd.func63 rfl (by simp [Tryd.ntmps63]) fun a0 hF => ?_
  simp only [Tryd.ntmps63, startT] at hF
  obtain ⟨B, hB⟩ : ∃ B, B = std := ⟨_, rfl⟩
  refine wp_seq ?_
  apply region_okB hB T63_ok [0, 1] [] [] hF
  case hex => intro A X; conv => lhs; cbv
  case hob =>
    intro X
    subst hB
    simp [AllOb, Ob.holds, BE.den, std, stdCmp, stdArith] <;> omega
  case hQ =>
  intro X0 a0 w1 hF
  refine wp_seq ?_
  apply region_okB hB T63_ok [4] [] [(2, .r fun _ => .int .i64 z)] hF
  case hex => intro A X; conv => lhs; cbv
  case hob =>
    intro X
    subst hB; exact ⟨⟨enters91, S⟩, trivial⟩
  case hQ =>
  intro X1 a0 w1 hF
  refine wp_ret ?_
  refine ret_spec (fn := Tryd.f63) T63_ok hF (rs := [.tmp 4]) rfl (rfl) ?_ noAtom ?_
  · subst hB; simp [AllOb, Ob.holds]
  · subst hB
    refine congrArg (fun b => AV.bool (.v b)) ?_
    show decide (z ≥ 0) = _
    rw [Bool.eq_iff_iff, decide_eq_true_eq, decide_eq_true_eq]
    exact hz
end Go.Proofs.YtkamdppnnhjajaaDoor.Sym

namespace Go.Proofs.YtkamdppnnhjajaaDoor.Sym
open Go Go.RowKit
set_option maxRecDepth 100000
set_option maxHeartbeats 1600000
set_option linter.unusedVariables false
set_option linter.unusedSimpArgs false
theorem can_v {x y : Bool} (h : x = y) : can (.bool (.v x)) = can (.bool (.v y)) := by rw [h]
def T69 : List (Nat × TI) := [(4, ti4), (22, ti22)]
theorem T69_ok : TabOK Tryd.prog T69 := .cons t4 (.cons t22 (.nil))
theorem enters69 : Enters Tryd.prog 69 := fun _ _ => by kernel_rfl
theorem num1_s (A4 A5 : Option Addr) (lo hi v : Int) : Spec Tryd.prog 69 [.int .u64 v, .ep A4 0 1 0 [.int .u64 lo], .ep A5 0 1 0 [.int .u64 hi]] (fun _ => .bool (.v (decide (lo ≤ v) && decide (v ≤ hi)))) := by
  intro m w hm hargs
  refine enter hm hargs Tryd.func69 rfl (by simp [Tryd.ntmps69]) fun a0 hF => ?_
  simp only [Tryd.ntmps69, startT] at hF
  obtain ⟨B, hB⟩ : ∃ B, B = std := ⟨_, rfl⟩
  refine wp_seq ?_
  apply region_okB hB T69_ok [0, 1, 2] [] [] hF
  case hex => intro A X; conv => lhs; cbv
  case hob =>
    intro X
    subst hB
    simp [AllOb, Ob.holds, BE.den, std, stdCmp, stdArith] <;> omega
  case hQ =>
  intro X0 a0 w1 hF
  refine wp_seq ?_
  apply region_okB hB T69_ok [4] [] [] hF
  case hex => intro A X; conv => lhs; cbv
  case hob =>
    intro X
    subst hB
    simp [AllOb, Ob.holds, BE.den, std, stdCmp, stdArith] <;> omega
  case hQ =>
  intro X1 a0 w1 hF
  refine wp_ret ?_
  refine ret_spec (fn := Tryd.f69) T69_ok hF (rs := [.tmp 4]) rfl (rfl) ?_ noAtom ?_
  · subst hB; simp [AllOb, Ob.holds]
  · subst hB; refine can_v ?_
    simp only [AV.den, BE.den, std, stdCmp, stdScmp]
    by_cases h1 : lo ≤ v <;> by_cases h2 : v ≤ hi <;> simp [h1, h2]
def T77 : List (Nat × TI) := [(3, ti3), (4, ti4), (9, ti9)]
theorem T77_ok : TabOK Tryd.prog T77 := .cons t3 (.cons t4 (.cons t9 (.nil)))
theorem enters77 : Enters Tryd.prog 77 := fun _ _ => by kernel_rfl
theorem val1_s (A3 : Option Addr) (h : Bool) (x : ByteArray) : Spec Tryd.prog 77 [.str x, .ep A3 0 1 0 [.bool (.v h)]] (fun _ => .bool (.v (okV h x))) := by
  intro m w hm hargs
  refine enter hm hargs Tryd.func77 rfl (by simp [Tryd.ntmps77]) fun a0 hF => ?_
  simp only [Tryd.ntmps77, startT] at hF
  obtain ⟨B, hB⟩ : ∃ B, B = std := ⟨_, rfl⟩
  refine wp_seq ?_
  apply region_okB hB T77_ok [0, 1] [] [] hF
  case hex => intro A X; conv => lhs; cbv
  case hob =>
    intro X
    subst hB
    simp [AllOb, Ob.holds, BE.den, std, stdCmp, stdArith] <;> omega
  case hQ =>
  intro X0 a0 w1 hF
  refine wp_seq ?_
  apply region_okB hB T77_ok [3] [] [] hF
  case hex => intro A X; conv => lhs; cbv
  case hob =>
    intro X
    subst hB
    simp [AllOb, Ob.holds, BE.den, std, stdCmp, stdArith] <;> omega
  case hQ =>
  intro X1 a0 w1 hF
  refine wp_ret ?_
  refine ret_spec (fn := Tryd.f77) T77_ok hF (rs := [.tmp 3]) rfl (rfl) ?_ noAtom ?_
  · subst hB; simp [AllOb, Ob.holds]
  · subst hB; refine can_v ?_
    simp only [AV.den, BE.den, std, stdCmp, stdScmp, okV]
    have hx : (x.toList == (⟨⟨[]⟩⟩ : ByteArray).toList) = decide (x.size = 0) := by
      rw [eqB, decide_eq_decide]
      refine Iff.trans ⟨un_inj, fun h => by rw [h]⟩ ?_
      exact ⟨fun h => by rw [h]; rfl, fun h => un_inj (List.eq_nil_of_length_eq_zero (by rw [un_size]; exact h))⟩
    rw [hx]
    cases h <;> by_cases h1 : x.size = 0 <;> simp [h1] <;> omega
def T72 : List (Nat × TI) := [(4, ti4), (24, ti24)]
theorem T72_ok : TabOK Tryd.prog T72 := .cons t4 (.cons t24 (.nil))
theorem enters72 : Enters Tryd.prog 72 := fun _ _ => by kernel_rfl
theorem place1_s (K : Nat → Int) : Spec Tryd.prog 72 [.agg (keyC K)] (fun _ => .bool (.v true)) := by
  intro m w hm hargs
  refine enter hm hargs Tryd.func72 rfl (by simp [Tryd.ntmps72]) fun a0 hF => ?_
  simp only [Tryd.ntmps72, startT] at hF
  obtain ⟨B, hB⟩ : ∃ B, B = std := ⟨_, rfl⟩
  refine wp_seq ?_
  apply region_okB hB T72_ok [] [] [] hF
  case hex => intro A X; conv => lhs; cbv
  case hob =>
    intro X
    subst hB
    simp [AllOb, Ob.holds, BE.den, std, stdCmp, stdArith] <;> omega
  case hQ =>
  intro X0 a0 w1 hF
  refine wp_seq ?_
  apply region_okB hB T72_ok [2] [] [] hF
  case hex => intro A X; conv => lhs; cbv
  case hob =>
    intro X
    subst hB
    simp [AllOb, Ob.holds, BE.den, std, stdCmp, stdArith] <;> omega
  case hQ =>
  intro X1 a0 w1 hF
  refine wp_ret ?_
  refine ret_spec (fn := Tryd.f72) T72_ok hF (rs := [.tmp 2]) rfl (rfl) ?_ noAtom ?_
  · subst hB; simp [AllOb, Ob.holds]
  · subst hB; rfl
def T73 : List (Nat × TI) := [(4, ti4), (22, ti22), (27, ti27), (77, ti77)]
theorem T73_ok : TabOK Tryd.prog T73 := .cons t4 (.cons t22 (.cons t27 (.cons t77 (.nil))))
theorem enters73 : Enters Tryd.prog 73 := fun _ _ => by kernel_rfl
theorem told1_s (A3 A : Option Addr) (k : Nat) (l : List Int) (hl : l.length ≤ 1000) (v : Int) (hv : U64 v) : Spec Tryd.prog 73 [.int .u64 v, .ep A3 0 1 0 [rowE A k l]] (fun _ => .bool (.v (decide (v < 1073741824) && decide (v ∈ l)))) := by
  intro m w hm hargs
  have S := contains_s A k l hl (IntKind.i64.wrap v)
  obtain ⟨q, hq⟩ : ∃ q, q = decide (IntKind.i64.wrap v ∈ l) := ⟨_, rfl⟩
  rw [← hq] at S
  obtain ⟨n, hn⟩ : ∃ n, n = l.length := ⟨_, rfl⟩
  obtain ⟨f, hf⟩ : ∃ f : Nat → Int, f = fun i => l.getD i 0 := ⟨_, rfl⟩
  have e1 : rowE A k l = .sl none A n k 1 (fun i => [.int .i64 (f i)]) := by rw [hn, hf]; rfl
  rw [e1] at hargs S ⊢
  refine enter hm hargs Tryd.func73 rfl (by simp [Tryd.ntmps73]) fun a0 hF => ?_
  simp only [Tryd.ntmps73, startT] at hF
  obtain ⟨B, hB⟩ : ∃ B, B = std := ⟨_, rfl⟩
  refine wp_seq ?_
  apply region_okB hB T73_ok [0, 1] [] [] hF
  case hex => intro A X; conv => lhs; cbv
  case hob =>
    intro X
    subst hB
    simp [AllOb, Ob.holds, BE.den, std, stdCmp, stdArith] <;> omega
  case hQ =>
  intro X0 a0 w1 hF
  refine wp_seq ?_
  apply region_okB hB T73_ok [3] [] [(6, .r fun _ => .bool (.v q))] hF
  case hex => intro A X; conv => lhs; cbv
  case hob =>
    intro X
    subst hB
    simp only [AllOb, Ob.holds, BE.den, List.mem_cons, List.not_mem_nil, or_false, forall_eq_or_imp, forall_eq] <;> (and_intros <;> first | trivial | (intro h; trivial) | exact enters63 | exact S | exact ⟨enters63, S⟩ | (intro h; exact ⟨enters63, S⟩) | (intro h; exact ⟨enters63, S⟩) | (intro h; (intro h; exact ⟨enters63, S⟩)))
  case hQ =>
  intro X1 a0 w1 hF
  refine wp_ret ?_
  refine ret_spec (fn := Tryd.f73) T73_ok hF (rs := [.tmp 3]) rfl (rfl) ?_ noAtom ?_
  · subst hB; simp [AllOb, Ob.holds]
  · subst hB; refine can_v ?_
    simp only [AV.den, BE.den, std, stdCmp, stdScmp]
    rw [hq]
    by_cases h1 : v < 1073741824
    · rw [wrap_in (by have := hv.1; omega) (by omega)]; simp [h1]
    · simp [h1]
end Go.Proofs.YtkamdppnnhjajaaDoor.Sym

namespace Go.Proofs.YtkamdppnnhjajaaDoor.Sym
open Go Go.RowKit
set_option maxRecDepth 100000
set_option maxHeartbeats 1600000
set_option linter.unusedVariables false
set_option linter.unusedSimpArgs false
def T37 : List (Nat × TI) := [(22, ti22), (65, ti65), (66, ti66), (69, ti69), (71, ti71), (81, ti81), (83, ti83), (105, ti105), (107, ti107), (108, ti108)]
theorem T37_ok : TabOK Tryd.prog T37 := .cons t22 (.cons t65 (.cons t66 (.cons t69 (.cons t71 (.cons t81 (.cons t83 (.cons t105 (.cons t107 (.cons t108 (.nil))))))))))
theorem enters37 : Enters Tryd.prog 37 := fun _ _ => by kernel_rfl
theorem rnumber_m0 (b bw : Nat) (s : ByteArray) (e : Int) (A : Option Addr) (lo hi : Int) : SpecX Tryd.prog 37 [.ptr 0 b 0, .int .u64 lo, .int .u64 hi] [(0, ⟨b, 71, [.ptr 1000 bw 0, errC A e]⟩), (1000, ⟨bw, 105, [.str s]⟩)] (fun x => ⟨.int .u64 (numD 0 lo hi (⟨e, s⟩ : RS)).1, [(0, [.ptr 1000 bw 0, errC (x.A 0) (numD 0 lo hi (⟨e, s⟩ : RS)).2.e]), (1000, [.str (numD 0 lo hi (⟨e, s⟩ : RS)).2.s])], []⟩) := by
  intro m w hm hargs hpre
  obtain ⟨z0, hz0⟩ : ∃ z, z = decide (e ≠ 0) := ⟨_, rfl⟩
  have heC0 : ∀ A, errC A e = .opt z0 81 (.ep A 0 1 0 [.int .i64 e]) := fun A => by rw [hz0]; rfl
  have S1 := fun A4 A5 => get_num 0 b bw s e A 69 [.ep A4 0 1 0 [.int .u64 lo], .ep A5 0 1 0 [.int .u64 hi]] (decide (lo ≤ numV s) && decide (numV s ≤ hi)) enters69 (num1_s A4 A5 lo hi (numV s))
  obtain ⟨o, ho1⟩ : ∃ o, o = numD 0 lo hi (⟨e, s⟩ : RS) := ⟨_, rfl⟩
  have ho1b : getG 0 (numV s) (numE s) (numR s) (decide (lo ≤ numV s) && decide (numV s ≤ hi)) ⟨e, s⟩ = o := ho1.symm
  rw [← ho1]
  simp only [ho1b] at S1
  obtain ⟨v1, e1, s1⟩ := o
  dsimp only at S1 ⊢
  obtain ⟨z1, hz1⟩ : ∃ z, z = decide (e1 ≠ 0) := ⟨_, rfl⟩
  have heC1 : ∀ A, errC A e1 = .opt z1 81 (.ep A 0 1 0 [.int .i64 e1]) := fun A => by rw [hz1]; rfl
  simp only [heC0, heC1] at S1 hpre ⊢
  refine enterX hm hpre hargs Tryd.func37 rfl (by simp [Tryd.ntmps37]) fun a0 hF => ?_
  simp only [Tryd.ntmps37, startT] at hF
  obtain ⟨B, hB⟩ : ∃ B, B = std := ⟨_, rfl⟩
  refine wp_seq ?_
  apply region_okB hB T37_ok [0, 4, 5] [0, 1000, 4, 5] [] hF
  case hex => intro A X; conv => lhs; cbv
  case hob =>
    intro X
    subst hB
    simp [AllOb, Ob.holds, BE.den, std, stdCmp, stdArith] <;> omega
  case hQ =>
  intro X0 a0 w1 hF
  have hfz4 := frozen hF (key := 4) rfl [0, 4, 5] [0, 1000, 5] rfl (fun k1 bk1 hk1 => hF.nodup k1 4 _ _ (keepM_look _ _ hk1) rfl (by rintro rfl; cases hk1)) (fresh_of hF (key := 4) rfl (fun e1 he1 => by
    simp only [List.mem_cons, List.not_mem_nil, or_false] at he1
    rcases he1 with rfl | rfl
    · have hnd := hF.nodup 0 4 _ _ rfl rfl (by decide); exact hnd
    · have hnd := hF.nodup 1000 4 _ _ rfl rfl (by decide); exact hnd)) 1
  replace hF := (hF.keep [0, 4, 5] [0, 1000, 5]).reslot 4 (.ep (some ⟨_, 0, none⟩) 0 1 0 [.int .u64 lo]) rfl rfl hfz4
  have hfz5 := frozen hF (key := 5) rfl [0, 4, 5] [0, 1000] rfl (fun k1 bk1 hk1 => hF.nodup k1 5 _ _ (keepM_look _ _ hk1) rfl (by rintro rfl; cases hk1)) (fresh_of hF (key := 5) rfl (fun e1 he1 => by
    simp only [List.mem_cons, List.not_mem_nil, or_false] at he1
    rcases he1 with rfl | rfl
    · have hnd := hF.nodup 0 5 _ _ rfl rfl (by decide); exact hnd
    · have hnd := hF.nodup 1000 5 _ _ rfl rfl (by decide); exact hnd)) 1
  replace hF := (hF.keep [0, 4, 5] [0, 1000]).reslot 5 (.ep (some ⟨_, 0, none⟩) 0 1 0 [.int .u64 hi]) rfl rfl hfz5
  refine wp_seq ?_
  apply region_okB hB T37_ok [6] [0, 1000] [(7, .x fun x => ⟨.int .u64 v1, [(0, [.ptr 1000 bw 0, .opt z1 81 (.ep (x.A 0) 0 1 0 [.int .i64 e1])]), (1000, [.str s1])], []⟩)] hF
  case hex => intro A X; conv => lhs; cbv
  case hob =>
    intro X
    subst hB
    simp only [AllOb, Ob.holds, BE.den, List.mem_cons, List.not_mem_nil, or_false, forall_eq_or_imp, forall_eq] <;> (and_intros <;> first | trivial | (intro h; trivial) | exact enters67 | exact S1 _ _ | exact ⟨enters67, S1 _ _⟩ | (intro h; exact ⟨enters67, S1 _ _⟩) | rfl | (intro h; rfl))
  case hQ =>
  intro X1 a0 w1 hF
  refine wp_ret ?_
  refine (ret_x (fn := Tryd.f37) T37_ok hF (rs := [.tmp 6]) rfl (rfl) ?_ (⟨0, fun _ => (X1 7).A 0, fun _ => 0, fun _ => .empty⟩) [] ?_ ?_ ?_).1
  · subst hB; simp [AllOb, Ob.holds]
  · subst hB; exact Sim.refl _
  · subst hB; exact ⟨rfl, ⟨_, rfl, SimL.refl _⟩, rfl, ⟨_, rfl, SimL.refl _⟩, trivial⟩
  · exact trivial
theorem rnumber_m (k0 : Nat) (b bw : Nat) (s : ByteArray) (e : Int) (A : Option Addr) (lo hi : Int) : SpecX Tryd.prog 37 [.ptr k0 b 0, .int .u64 lo, .int .u64 hi] [(k0, ⟨b, 71, [.ptr 1000 bw 0, errC A e]⟩), (1000, ⟨bw, 105, [.str s]⟩)] (fun x => ⟨.int .u64 (numD 0 lo hi (⟨e, s⟩ : RS)).1, [(k0, [.ptr 1000 bw 0, errC (x.A 0) (numD 0 lo hi (⟨e, s⟩ : RS)).2.e]), (1000, [.str (numD 0 lo hi (⟨e, s⟩ : RS)).2.s])], []⟩) :=
  (rnumber_m0 b bw s e A lo hi).re (by repeat (first | exact trivial | refine ⟨Sim.ptr, ?_⟩ | refine ⟨Sim.fn ⟨Sim.ptr, trivial⟩ trivial, ?_⟩ | refine ⟨Sim.fn trivial ⟨Sim.ptr, trivial⟩, ?_⟩ | refine ⟨Sim.refl _, ?_⟩)) rfl (fun x => ⟨rfl, rfl, Sim.refl _, rfl⟩)
def T38 : List (Nat × TI) := [(22, ti22), (65, ti65), (69, ti69), (71, ti71), (81, ti81), (83, ti83), (105, ti105)]
theorem T38_ok : TabOK Tryd.prog T38 := .cons t22 (.cons t65 (.cons t69 (.cons t71 (.cons t81 (.cons t83 (.cons t105 (.nil)))))))
theorem enters38 : Enters Tryd.prog 38 := fun _ _ => by kernel_rfl
theorem rwhole_m0 (b bw : Nat) (s : ByteArray) (e : Int) (A : Option Addr) : SpecX Tryd.prog 38 [.ptr 0 b 0] [(0, ⟨b, 71, [.ptr 1000 bw 0, errC A e]⟩), (1000, ⟨bw, 105, [.str s]⟩)] (fun x => ⟨.int .u64 (wholeD (⟨e, s⟩ : RS)).1, [(0, [.ptr 1000 bw 0, errC (x.A 0) (wholeD (⟨e, s⟩ : RS)).2.e]), (1000, [.str (wholeD (⟨e, s⟩ : RS)).2.s])], []⟩) := by
  intro m w hm hargs hpre
  obtain ⟨z0, hz0⟩ : ∃ z, z = decide (e ≠ 0) := ⟨_, rfl⟩
  have heC0 : ∀ A, errC A e = .opt z0 81 (.ep A 0 1 0 [.int .i64 e]) := fun A => by rw [hz0]; rfl
  obtain ⟨o, ho1⟩ : ∃ o, o = numD 0 0 18446744073709551615 (⟨e, s⟩ : RS) := ⟨_, rfl⟩
  have S1 := fun A => rnumber_m 0 b bw s e A 0 18446744073709551615
  simp only [← ho1] at S1
  obtain ⟨v1, e1, s1⟩ := o
  dsimp only at S1
  obtain ⟨z1, hz1⟩ : ∃ z, z = decide (e1 ≠ 0) := ⟨_, rfl⟩
  have heC1 : ∀ A, errC A e1 = .opt z1 81 (.ep A 0 1 0 [.int .i64 e1]) := fun A => by rw [hz1]; rfl
  simp only [heC0, heC1] at S1
  have hD : wholeD (⟨e, s⟩ : RS) = (v1, ⟨e1, s1⟩) := by simp only [wholeD, ← ho1]
  rw [hD]
  dsimp only
  simp only [heC0, heC1] at hpre ⊢
  refine enterX hm hpre hargs Tryd.func38 rfl (by simp [Tryd.ntmps38]) fun a0 hF => ?_
  simp only [Tryd.ntmps38, startT] at hF
  obtain ⟨B, hB⟩ : ∃ B, B = std := ⟨_, rfl⟩
  refine wp_seq ?_
  apply region_okB hB T38_ok [0] [0, 1000] [] hF
  case hex => intro A X; conv => lhs; cbv
  case hob =>
    intro X
    subst hB
    simp [AllOb, Ob.holds, BE.den, std, stdCmp, stdArith] <;> omega
  case hQ =>
  intro X0 a0 w1 hF
  refine wp_seq ?_
  apply region_okB hB T38_ok [2] [0, 1000] [(1, .x fun x => ⟨.int .u64 v1, [(0, [.ptr 1000 bw 0, .opt z1 81 (.ep (x.A 0) 0 1 0 [.int .i64 e1])]), (1000, [.str s1])], []⟩)] hF
  case hex => intro A X; conv => lhs; cbv
  case hob =>
    intro X
    subst hB
    simp only [AllOb, Ob.holds, BE.den, List.mem_cons, List.not_mem_nil, or_false, forall_eq_or_imp, forall_eq] <;> (and_intros <;> first | trivial | (intro h; trivial) | exact enters37 | exact S1 _ | exact ⟨enters37, S1 _⟩ | (intro h; exact ⟨enters37, S1 _⟩) | rfl | (intro h; rfl))
  case hQ =>
  intro X1 a0 w1 hF
  refine wp_ret ?_
  refine (ret_x (fn := Tryd.f38) T38_ok hF (rs := [.tmp 2]) rfl (rfl) ?_ (⟨0, fun _ => (X1 1).A 0, fun _ => 0, fun _ => .empty⟩) [] ?_ ?_ ?_).1
  · subst hB; simp [AllOb, Ob.holds]
  · subst hB; exact Sim.refl _
  · subst hB; exact ⟨rfl, ⟨_, rfl, SimL.refl _⟩, rfl, ⟨_, rfl, SimL.refl _⟩, trivial⟩
  · exact trivial
theorem rwhole_m (k0 : Nat) (b bw : Nat) (s : ByteArray) (e : Int) (A : Option Addr) : SpecX Tryd.prog 38 [.ptr k0 b 0] [(k0, ⟨b, 71, [.ptr 1000 bw 0, errC A e]⟩), (1000, ⟨bw, 105, [.str s]⟩)] (fun x => ⟨.int .u64 (wholeD (⟨e, s⟩ : RS)).1, [(k0, [.ptr 1000 bw 0, errC (x.A 0) (wholeD (⟨e, s⟩ : RS)).2.e]), (1000, [.str (wholeD (⟨e, s⟩ : RS)).2.s])], []⟩) :=
  (rwhole_m0 b bw s e A).re (by repeat (first | exact trivial | refine ⟨Sim.ptr, ?_⟩ | refine ⟨Sim.fn ⟨Sim.ptr, trivial⟩ trivial, ?_⟩ | refine ⟨Sim.fn trivial ⟨Sim.ptr, trivial⟩, ?_⟩ | refine ⟨Sim.refl _, ?_⟩)) rfl (fun x => ⟨rfl, rfl, Sim.refl _, rfl⟩)
def T74 : List (Nat × TI) := [(4, ti4), (22, ti22), (65, ti65), (69, ti69), (71, ti71), (81, ti81), (83, ti83), (105, ti105)]
theorem T74_ok : TabOK Tryd.prog T74 := .cons t4 (.cons t22 (.cons t65 (.cons t69 (.cons t71 (.cons t81 (.cons t83 (.cons t105 (.nil))))))))
theorem enters74 : Enters Tryd.prog 74 := fun _ _ => by kernel_rfl
theorem rflag_m0 (b bw : Nat) (s : ByteArray) (e : Int) (A : Option Addr) : SpecX Tryd.prog 74 [.ptr 0 b 0] [(0, ⟨b, 71, [.ptr 1000 bw 0, errC A e]⟩), (1000, ⟨bw, 105, [.str s]⟩)] (fun x => ⟨.bool (.v (flagD (⟨e, s⟩ : RS)).1), [(0, [.ptr 1000 bw 0, errC (x.A 0) (flagD (⟨e, s⟩ : RS)).2.e]), (1000, [.str (flagD (⟨e, s⟩ : RS)).2.s])], []⟩) := by
  intro m w hm hargs hpre
  obtain ⟨z0, hz0⟩ : ∃ z, z = decide (e ≠ 0) := ⟨_, rfl⟩
  have heC0 : ∀ A, errC A e = .opt z0 81 (.ep A 0 1 0 [.int .i64 e]) := fun A => by rw [hz0]; rfl
  obtain ⟨o, ho1⟩ : ∃ o, o = numD 0 0 1 (⟨e, s⟩ : RS) := ⟨_, rfl⟩
  have S1 := fun A => rnumber_m 0 b bw s e A 0 1
  simp only [← ho1] at S1
  obtain ⟨v1, e1, s1⟩ := o
  dsimp only at S1
  obtain ⟨z1, hz1⟩ : ∃ z, z = decide (e1 ≠ 0) := ⟨_, rfl⟩
  have heC1 : ∀ A, errC A e1 = .opt z1 81 (.ep A 0 1 0 [.int .i64 e1]) := fun A => by rw [hz1]; rfl
  simp only [heC0, heC1] at S1
  have hD : flagD (⟨e, s⟩ : RS) = (decide (v1 = 1), ⟨e1, s1⟩) := by simp only [flagD, ← ho1]
  rw [hD]
  dsimp only
  simp only [heC0, heC1] at hpre ⊢
  refine enterX hm hpre hargs Tryd.func74 rfl (by simp [Tryd.ntmps74]) fun a0 hF => ?_
  simp only [Tryd.ntmps74, startT] at hF
  obtain ⟨B, hB⟩ : ∃ B, B = std := ⟨_, rfl⟩
  refine wp_seq ?_
  apply region_okB hB T74_ok [0] [0, 1000] [] hF
  case hex => intro A X; conv => lhs; cbv
  case hob =>
    intro X
    subst hB
    simp [AllOb, Ob.holds, BE.den, std, stdCmp, stdArith] <;> omega
  case hQ =>
  intro X0 a0 w1 hF
  refine wp_seq ?_
  apply region_okB hB T74_ok [2] [0, 1000] [(1, .x fun x => ⟨.int .u64 v1, [(0, [.ptr 1000 bw 0, .opt z1 81 (.ep (x.A 0) 0 1 0 [.int .i64 e1])]), (1000, [.str s1])], []⟩)] hF
  case hex => intro A X; conv => lhs; cbv
  case hob =>
    intro X
    subst hB
    simp only [AllOb, Ob.holds, BE.den, List.mem_cons, List.not_mem_nil, or_false, forall_eq_or_imp, forall_eq] <;> (and_intros <;> first | trivial | (intro h; trivial) | exact enters37 | exact S1 _ | exact ⟨enters37, S1 _⟩ | (intro h; exact ⟨enters37, S1 _⟩) | rfl | (intro h; rfl))
  case hQ =>
  intro X1 a0 w1 hF
  refine wp_ret ?_
  refine (ret_x (fn := Tryd.f74) T74_ok hF (rs := [.tmp 2]) rfl (rfl) ?_ (⟨0, fun _ => (X1 1).A 0, fun _ => 0, fun _ => .empty⟩) [] ?_ ?_ ?_).1
  · subst hB; simp [AllOb, Ob.holds]
  · subst hB; exact Sim.refl _
  · subst hB; exact ⟨rfl, ⟨_, rfl, SimL.refl _⟩, rfl, ⟨_, rfl, SimL.refl _⟩, trivial⟩
  · exact trivial
theorem rflag_m (k0 : Nat) (b bw : Nat) (s : ByteArray) (e : Int) (A : Option Addr) : SpecX Tryd.prog 74 [.ptr k0 b 0] [(k0, ⟨b, 71, [.ptr 1000 bw 0, errC A e]⟩), (1000, ⟨bw, 105, [.str s]⟩)] (fun x => ⟨.bool (.v (flagD (⟨e, s⟩ : RS)).1), [(k0, [.ptr 1000 bw 0, errC (x.A 0) (flagD (⟨e, s⟩ : RS)).2.e]), (1000, [.str (flagD (⟨e, s⟩ : RS)).2.s])], []⟩) :=
  (rflag_m0 b bw s e A).re (by repeat (first | exact trivial | refine ⟨Sim.ptr, ?_⟩ | refine ⟨Sim.fn ⟨Sim.ptr, trivial⟩ trivial, ?_⟩ | refine ⟨Sim.fn trivial ⟨Sim.ptr, trivial⟩, ?_⟩ | refine ⟨Sim.refl _, ?_⟩)) rfl (fun x => ⟨rfl, rfl, Sim.refl _, rfl⟩)
def T44 : List (Nat × TI) := [(4, ti4), (9, ti9), (42, ti42), (65, ti65), (66, ti66), (69, ti69), (71, ti71), (81, ti81), (83, ti83), (105, ti105), (113, ti113)]
theorem T44_ok : TabOK Tryd.prog T44 := .cons t4 (.cons t9 (.cons t42 (.cons t65 (.cons t66 (.cons t69 (.cons t71 (.cons t81 (.cons t83 (.cons t105 (.cons t113 (.nil)))))))))))
theorem enters44 : Enters Tryd.prog 44 := fun _ _ => by kernel_rfl
theorem rval_m0 (b bw : Nat) (s : ByteArray) (e : Int) (A : Option Addr) (h : Bool) : SpecX Tryd.prog 44 [.ptr 0 b 0, .bool (.v h)] [(0, ⟨b, 71, [.ptr 1000 bw 0, errC A e]⟩), (1000, ⟨bw, 105, [.str s]⟩)] (fun x => ⟨.str (valD h (⟨e, s⟩ : RS)).1, [(0, [.ptr 1000 bw 0, errC (x.A 0) (valD h (⟨e, s⟩ : RS)).2.e]), (1000, [.str (valD h (⟨e, s⟩ : RS)).2.s])], []⟩) := by
  intro m w hm hargs hpre
  obtain ⟨z0, hz0⟩ : ∃ z, z = decide (e ≠ 0) := ⟨_, rfl⟩
  have heC0 : ∀ A, errC A e = .opt z0 81 (.ep A 0 1 0 [.int .i64 e]) := fun A => by rw [hz0]; rfl
  have S1 := fun A3 => get_txt 0 b bw s e A 77 [.ep A3 0 1 0 [.bool (.v h)]] (okV h (txtV s)) enters77 (val1_s A3 h (txtV s))
  obtain ⟨o, ho1⟩ : ∃ o, o = valD h (⟨e, s⟩ : RS) := ⟨_, rfl⟩
  have ho1b : getG ByteArray.empty (txtV s) (txtE s) (txtR s) (okV h (txtV s)) ⟨e, s⟩ = o := ho1.symm
  rw [← ho1]
  simp only [ho1b] at S1
  obtain ⟨v1, e1, s1⟩ := o
  dsimp only at S1 ⊢
  obtain ⟨z1, hz1⟩ : ∃ z, z = decide (e1 ≠ 0) := ⟨_, rfl⟩
  have heC1 : ∀ A, errC A e1 = .opt z1 81 (.ep A 0 1 0 [.int .i64 e1]) := fun A => by rw [hz1]; rfl
  simp only [heC0, heC1] at S1 hpre ⊢
  refine enterX hm hpre hargs Tryd.func44 rfl (by simp [Tryd.ntmps44]) fun a0 hF => ?_
  simp only [Tryd.ntmps44, startT] at hF
  obtain ⟨B, hB⟩ : ∃ B, B = std := ⟨_, rfl⟩
  refine wp_seq ?_
  apply region_okB hB T44_ok [0, 3] [0, 1000, 3] [] hF
  case hex => intro A X; conv => lhs; cbv
  case hob =>
    intro X
    subst hB
    simp [AllOb, Ob.holds, BE.den, std, stdCmp, stdArith] <;> omega
  case hQ =>
  intro X0 a0 w1 hF
  have hfz3 := frozen hF (key := 3) rfl [0, 3] [0, 1000] rfl (fun k1 bk1 hk1 => hF.nodup k1 3 _ _ (keepM_look _ _ hk1) rfl (by rintro rfl; cases hk1)) (fresh_of hF (key := 3) rfl (fun e1 he1 => by
    simp only [List.mem_cons, List.not_mem_nil, or_false] at he1
    rcases he1 with rfl | rfl
    · have hnd := hF.nodup 0 3 _ _ rfl rfl (by decide); exact hnd
    · have hnd := hF.nodup 1000 3 _ _ rfl rfl (by decide); exact hnd)) 1
  replace hF := (hF.keep [0, 3] [0, 1000]).reslot 3 (.ep (some ⟨_, 0, none⟩) 0 1 0 [.bool (.v h)]) rfl rfl hfz3
  refine wp_seq ?_
  apply region_okB hB T44_ok [4] [0, 1000] [(7, .x fun x => ⟨.str v1, [(0, [.ptr 1000 bw 0, .opt z1 81 (.ep (x.A 0) 0 1 0 [.int .i64 e1])]), (1000, [.str s1])], []⟩)] hF
  case hex => intro A X; conv => lhs; cbv
  case hob =>
    intro X
    subst hB
    simp only [AllOb, Ob.holds, BE.den, List.mem_cons, List.not_mem_nil, or_false, forall_eq_or_imp, forall_eq] <;> (and_intros <;> first | trivial | (intro h; trivial) | exact enters75 | exact S1 _ | exact ⟨enters75, S1 _⟩ | (intro h; exact ⟨enters75, S1 _⟩) | rfl | (intro h; rfl))
  case hQ =>
  intro X1 a0 w1 hF
  refine wp_ret ?_
  refine (ret_x (fn := Tryd.f44) T44_ok hF (rs := [.tmp 4]) rfl (rfl) ?_ (⟨0, fun _ => (X1 7).A 0, fun _ => 0, fun _ => .empty⟩) [] ?_ ?_ ?_).1
  · subst hB; simp [AllOb, Ob.holds]
  · subst hB; exact Sim.refl _
  · subst hB; exact ⟨rfl, ⟨_, rfl, SimL.refl _⟩, rfl, ⟨_, rfl, SimL.refl _⟩, trivial⟩
  · exact trivial
theorem rval_m (k0 : Nat) (b bw : Nat) (s : ByteArray) (e : Int) (A : Option Addr) (h : Bool) : SpecX Tryd.prog 44 [.ptr k0 b 0, .bool (.v h)] [(k0, ⟨b, 71, [.ptr 1000 bw 0, errC A e]⟩), (1000, ⟨bw, 105, [.str s]⟩)] (fun x => ⟨.str (valD h (⟨e, s⟩ : RS)).1, [(k0, [.ptr 1000 bw 0, errC (x.A 0) (valD h (⟨e, s⟩ : RS)).2.e]), (1000, [.str (valD h (⟨e, s⟩ : RS)).2.s])], []⟩) :=
  (rval_m0 b bw s e A h).re (by repeat (first | exact trivial | refine ⟨Sim.ptr, ?_⟩ | refine ⟨Sim.fn ⟨Sim.ptr, trivial⟩ trivial, ?_⟩ | refine ⟨Sim.fn trivial ⟨Sim.ptr, trivial⟩, ?_⟩ | refine ⟨Sim.refl _, ?_⟩)) rfl (fun x => ⟨rfl, rfl, Sim.refl _, rfl⟩)
def T39 : List (Nat × TI) := [(24, ti24), (65, ti65), (66, ti66), (69, ti69), (71, ti71), (81, ti81), (83, ti83), (105, ti105), (110, ti110), (111, ti111)]
theorem T39_ok : TabOK Tryd.prog T39 := .cons t24 (.cons t65 (.cons t66 (.cons t69 (.cons t71 (.cons t81 (.cons t83 (.cons t105 (.cons t110 (.cons t111 (.nil))))))))))
theorem enters39 : Enters Tryd.prog 39 := fun _ _ => by kernel_rfl
theorem rplace_m0 (b bw : Nat) (s : ByteArray) (e : Int) (A : Option Addr) : SpecX Tryd.prog 39 [.ptr 0 b 0] [(0, ⟨b, 71, [.ptr 1000 bw 0, errC A e]⟩), (1000, ⟨bw, 105, [.str s]⟩)] (fun x => ⟨.agg (keyC (kI (plcD (⟨e, s⟩ : RS)).1)), [(0, [.ptr 1000 bw 0, errC (x.A 0) (plcD (⟨e, s⟩ : RS)).2.e]), (1000, [.str (plcD (⟨e, s⟩ : RS)).2.s])], []⟩) := by
  intro m w hm hargs hpre
  obtain ⟨z0, hz0⟩ : ∃ z, z = decide (e ≠ 0) := ⟨_, rfl⟩
  have heC0 : ∀ A, errC A e = .opt z0 81 (.ep A 0 1 0 [.int .i64 e]) := fun A => by rw [hz0]; rfl
  have S1 := get_plc 0 b bw s e A 72 [] true enters72 (place1_s (kI (plcV s)))
  obtain ⟨o, ho1⟩ : ∃ o, o = plcD (⟨e, s⟩ : RS) := ⟨_, rfl⟩
  have ho1b : getG zeroKey (plcV s) (plcE s) (plcR s) true ⟨e, s⟩ = o := ho1.symm
  rw [← ho1]
  simp only [ho1b] at S1
  obtain ⟨v1, e1, s1⟩ := o
  dsimp only at S1 ⊢
  obtain ⟨K, hK⟩ : ∃ K, K = kI v1 := ⟨_, rfl⟩
  simp only [← hK] at S1 ⊢
  obtain ⟨z1, hz1⟩ : ∃ z, z = decide (e1 ≠ 0) := ⟨_, rfl⟩
  have heC1 : ∀ A, errC A e1 = .opt z1 81 (.ep A 0 1 0 [.int .i64 e1]) := fun A => by rw [hz1]; rfl
  simp only [heC0, heC1] at S1 hpre ⊢
  refine enterX hm hpre hargs Tryd.func39 rfl (by simp [Tryd.ntmps39]) fun a0 hF => ?_
  simp only [Tryd.ntmps39, startT] at hF
  obtain ⟨B, hB⟩ : ∃ B, B = std := ⟨_, rfl⟩
  refine wp_seq ?_
  apply region_okB hB T39_ok [0, 2] [0, 1000, 2] [] hF
  case hex => intro A X; conv => lhs; cbv
  case hob =>
    intro X
    subst hB
    simp [AllOb, Ob.holds, BE.den, std, stdCmp, stdArith] <;> omega
  case hQ =>
  intro X0 a0 w1 hF
  refine wp_seq ?_
  apply region_okB hB T39_ok [2] [0, 1000, 2] [(6, .x fun x => ⟨.agg (keyC K), [(0, [.ptr 1000 bw 0, .opt z1 81 (.ep (x.A 0) 0 1 0 [.int .i64 e1])]), (1000, [.str s1])], []⟩)] hF
  case hex => intro A X; conv => lhs; cbv
  case hob =>
    intro X
    subst hB
    simp only [AllOb, Ob.holds, BE.den, List.mem_cons, List.not_mem_nil, or_false, forall_eq_or_imp, forall_eq] <;> (and_intros <;> first | trivial | (intro h; trivial) | exact enters70 | exact S1 | exact ⟨enters70, S1⟩ | (intro h; exact ⟨enters70, S1⟩) | rfl | (intro h; rfl))
  case hQ =>
  intro X1 a0 w1 hF
  refine wp_ret ?_
  refine (ret_x (fn := Tryd.f39) T39_ok hF (rs := [.cell 2 24]) rfl (by conv => lhs; cbv) ?_ (⟨0, fun _ => (X1 6).A 0, fun _ => 0, fun _ => .empty⟩) [] ?_ ?_ ?_).1
  · subst hB; simp [AllOb, Ob.holds]
  · subst hB; exact Sim.refl _
  · subst hB; exact ⟨rfl, ⟨_, rfl, SimL.refl _⟩, rfl, ⟨_, rfl, SimL.refl _⟩, trivial⟩
  · exact trivial
theorem rplace_m (k0 : Nat) (b bw : Nat) (s : ByteArray) (e : Int) (A : Option Addr) : SpecX Tryd.prog 39 [.ptr k0 b 0] [(k0, ⟨b, 71, [.ptr 1000 bw 0, errC A e]⟩), (1000, ⟨bw, 105, [.str s]⟩)] (fun x => ⟨.agg (keyC (kI (plcD (⟨e, s⟩ : RS)).1)), [(k0, [.ptr 1000 bw 0, errC (x.A 0) (plcD (⟨e, s⟩ : RS)).2.e]), (1000, [.str (plcD (⟨e, s⟩ : RS)).2.s])], []⟩) :=
  (rplace_m0 b bw s e A).re (by repeat (first | exact trivial | refine ⟨Sim.ptr, ?_⟩ | refine ⟨Sim.fn ⟨Sim.ptr, trivial⟩ trivial, ?_⟩ | refine ⟨Sim.fn trivial ⟨Sim.ptr, trivial⟩, ?_⟩ | refine ⟨Sim.refl _, ?_⟩)) rfl (fun x => ⟨rfl, rfl, Sim.refl _, rfl⟩)
end Go.Proofs.YtkamdppnnhjajaaDoor.Sym

namespace Go.Proofs.YtkamdppnnhjajaaDoor.Sym
open Go Go.RowKit
set_option maxRecDepth 100000
set_option maxHeartbeats 1600000
set_option linter.unusedVariables false
set_option linter.unusedSimpArgs false
theorem num_rng {d lo hi : Int} (r : RS) (h1 : d ≤ lo) (h2 : d ≤ hi) : d ≤ (numD d lo hi r).1 ∧ (numD d lo hi r).1 ≤ hi := by
  unfold numD getG
  split
  · simp only; omega
  · split
    · simp only; omega
    · split
      · rename_i h; simp at h; simp only; omega
      · simp only; omega
theorem code_rng {l : List Int} (hl : ∀ v ∈ l, 0 ≤ v ∧ v < 1073741824) (r : RS) : 0 ≤ (codeD l r).1 ∧ (codeD l r).1 < 1073741824 := by
  unfold codeD getG
  split
  · simp
  · split
    · simp
    · split
      · rename_i h; simp at h; exact hl _ h.2
      · simp
def T42 : List (Nat × TI) := [(22, ti22), (27, ti27), (29, ti29), (65, ti65), (66, ti66), (69, ti69), (71, ti71), (77, ti77), (81, ti81), (83, ti83), (105, ti105), (107, ti107), (108, ti108)]
theorem T42_ok : TabOK Tryd.prog T42 := .cons t22 (.cons t27 (.cons t29 (.cons t65 (.cons t66 (.cons t69 (.cons t71 (.cons t77 (.cons t81 (.cons t83 (.cons t105 (.cons t107 (.cons t108 (.nil)))))))))))))
theorem enters42 : Enters Tryd.prog 42 := fun _ _ => by kernel_rfl
theorem rtold_m0 (b bw : Nat) (s : ByteArray) (e : Int) (A : Option Addr) (A2 : Option Addr) (k : Nat) (l : List Int) (hl : l.length ≤ 1000) (hl2 : ∀ v ∈ l, 0 ≤ v ∧ v < 1073741824) : SpecX Tryd.prog 42 [.ptr 0 b 0, rowE A2 k l] [(0, ⟨b, 71, [.ptr 1000 bw 0, errC A e]⟩), (1000, ⟨bw, 105, [.str s]⟩)] (fun x => ⟨ansAV (toldD l (⟨e, s⟩ : RS)).1, [(0, [.ptr 1000 bw 0, errC (x.A 0) (toldD l (⟨e, s⟩ : RS)).2.e]), (1000, [.str (toldD l (⟨e, s⟩ : RS)).2.s])], []⟩) := by
  intro m w hm hargs hpre
  have S0 := fun A3 => get_num 0 b bw s e A 73 [.ep A3 0 1 0 [rowE A2 k l]] (decide (numV s < 1073741824) && decide (numV s ∈ l)) enters73 (told1_s A3 A2 k l hl (numV s) (numV_u64 s))
  obtain ⟨z0, hz0⟩ : ∃ z, z = decide (e ≠ 0) := ⟨_, rfl⟩
  have heC0 : ∀ A, errC A e = .opt z0 81 (.ep A 0 1 0 [.int .i64 e]) := fun A => by rw [hz0]; rfl
  have hr := code_rng hl2 (⟨e, s⟩ : RS)
  obtain ⟨o, ho1⟩ : ∃ o, o = codeD l (⟨e, s⟩ : RS) := ⟨_, rfl⟩
  rw [← ho1] at hr
  have ho1b : getG 0 (numV s) (numE s) (numR s) (decide (numV s < 1073741824) && decide (numV s ∈ l)) ⟨e, s⟩ = o := ho1.symm
  simp only [ho1b] at S0
  obtain ⟨v1, e1, s1⟩ := o
  dsimp only at S0 hr
  obtain ⟨z1, hz1⟩ : ∃ z, z = decide (e1 ≠ 0) := ⟨_, rfl⟩
  have heC1 : ∀ A, errC A e1 = .opt z1 81 (.ep A 0 1 0 [.int .i64 e1]) := fun A => by rw [hz1]; rfl
  have ew := wrap_in (x := v1) (by omega) (by omega)
  have S1 := S0
  simp only [heC0, heC1] at S1
  obtain ⟨o, ho2⟩ : ∃ o, o = wholeD (⟨e1, s1⟩ : RS) := ⟨_, rfl⟩
  have S2 := fun A => rwhole_m 0 b bw s1 e1 A
  simp only [← ho2] at S2
  obtain ⟨v2, e2, s2⟩ := o
  dsimp only at S2
  obtain ⟨z2, hz2⟩ : ∃ z, z = decide (e2 ≠ 0) := ⟨_, rfl⟩
  have heC2 : ∀ A, errC A e2 = .opt z2 81 (.ep A 0 1 0 [.int .i64 e2]) := fun A => by rw [hz2]; rfl
  simp only [heC1, heC2] at S2
  obtain ⟨o, ho3⟩ : ∃ o, o = flagD (⟨e2, s2⟩ : RS) := ⟨_, rfl⟩
  have S3 := fun A => rflag_m 0 b bw s2 e2 A
  simp only [← ho3] at S3
  obtain ⟨v3, e3, s3⟩ := o
  dsimp only at S3
  obtain ⟨z3, hz3⟩ : ∃ z, z = decide (e3 ≠ 0) := ⟨_, rfl⟩
  have heC3 : ∀ A, errC A e3 = .opt z3 81 (.ep A 0 1 0 [.int .i64 e3]) := fun A => by rw [hz3]; rfl
  simp only [heC2, heC3] at S3
  have hD : toldD l (⟨e, s⟩ : RS) = ((⟨v1, v2, v3, ByteArray.empty⟩ : Ans), ⟨e3, s3⟩) := by simp only [toldD, ← ho1, ← ho2, ← ho3]
  rw [hD]
  dsimp only
  simp only [heC0, heC3] at hpre ⊢
  simp only [ansAV, ansC]
  obtain ⟨n, hn⟩ : ∃ n, n = l.length := ⟨_, rfl⟩
  obtain ⟨f, hf⟩ : ∃ f : Nat → Int, f = fun i => l.getD i 0 := ⟨_, rfl⟩
  have eR : rowE A2 k l = .sl none A2 n k 1 (fun i => [.int .i64 (f i)]) := by rw [hn, hf]; rfl
  have hlen := ok_len (hargs (rowE A2 k l) (by simp))
  rw [← hn] at hlen
  simp only [eR] at S1
  rw [eR] at hargs ⊢
  refine enterX hm hpre hargs Tryd.func42 rfl (by simp [Tryd.ntmps42]) fun a0 hF => ?_
  simp only [Tryd.ntmps42, startT] at hF
  obtain ⟨B, hB⟩ : ∃ B, B = std := ⟨_, rfl⟩
  refine wp_seq ?_
  apply region_okB hB T42_ok [0, 3, 4] [0, 1000, 3, 4] [] hF
  case hex => intro A X; conv => lhs; cbv
  case hob =>
    intro X
    subst hB
    simp [AllOb, Ob.holds, BE.den, std, stdCmp, stdArith] <;> omega
  case hQ =>
  intro X0 a0 w1 hF
  have hfz3 := frozen hF (key := 3) rfl [0, 3, 4] [0, 1000, 4] rfl (fun k1 bk1 hk1 => hF.nodup k1 3 _ _ (keepM_look _ _ hk1) rfl (by rintro rfl; cases hk1)) (fresh_of hF (key := 3) rfl (fun e1 he1 => by
    simp only [List.mem_cons, List.not_mem_nil, or_false] at he1
    rcases he1 with rfl | rfl
    · have hnd := hF.nodup 0 3 _ _ rfl rfl (by decide); exact hnd
    · have hnd := hF.nodup 1000 3 _ _ rfl rfl (by decide); exact hnd)) 1
  replace hF := (hF.keep [0, 3, 4] [0, 1000, 4]).reslot 3 (.ep (some ⟨_, 0, none⟩) 0 1 0 [.sl none A2 n k 1 (fun i => [.int .i64 (f i)])]) rfl rfl hfz3
  refine wp_seq ?_
  apply region_okB hB T42_ok [0, 4, 5] [0, 1000, 4] [(7, .x fun x => ⟨.int .u64 v1, [(0, [.ptr 1000 bw 0, .opt z1 81 (.ep (x.A 0) 0 1 0 [.int .i64 e1])]), (1000, [.str s1])], []⟩)] hF
  case hex => intro A X; conv => lhs; cbv
  case hob =>
    intro X
    subst hB
    simp only [AllOb, Ob.holds, BE.den, List.mem_cons, List.not_mem_nil, or_false, forall_eq_or_imp, forall_eq] <;> (and_intros <;> first | trivial | (intro h; trivial) | exact enters67 | exact S1 _ | exact ⟨enters67, S1 _⟩ | (intro h; exact ⟨enters67, S1 _⟩) | rfl | (intro h; rfl))
  case hQ =>
  intro X1 a0 w1 hF
  refine wp_seq ?_
  apply region_okB hB T42_ok [0, 4, 5, 6] [0, 1000, 4] [(1, .x fun x => ⟨.int .u64 v2, [(0, [.ptr 1000 bw 0, .opt z2 81 (.ep (x.A 0) 0 1 0 [.int .i64 e2])]), (1000, [.str s2])], []⟩)] hF
  case hex => intro A X; conv => lhs; cbv
  case hob =>
    intro X
    subst hB
    simp only [AllOb, Ob.holds, BE.den, List.mem_cons, List.not_mem_nil, or_false, forall_eq_or_imp, forall_eq] <;> (and_intros <;> first | trivial | (intro h; trivial) | exact enters38 | exact S2 _ | exact ⟨enters38, S2 _⟩ | (intro h; exact ⟨enters38, S2 _⟩) | rfl | (intro h; rfl))
  case hQ =>
  intro X2 a0 w1 hF
  refine wp_seq ?_
  apply region_okB hB T42_ok [4] [0, 1000, 4] [(4, .x fun x => ⟨.bool (.v v3), [(0, [.ptr 1000 bw 0, .opt z3 81 (.ep (x.A 0) 0 1 0 [.int .i64 e3])]), (1000, [.str s3])], []⟩)] hF
  case hex => intro A X; conv => lhs; cbv
  case hob =>
    intro X
    subst hB
    simp only [AllOb, Ob.holds, BE.den, List.mem_cons, List.not_mem_nil, or_false, forall_eq_or_imp, forall_eq] <;> (and_intros <;> first | trivial | (intro h; trivial) | exact enters74 | exact S3 _ | exact ⟨enters74, S3 _⟩ | (intro h; exact ⟨enters74, S3 _⟩) | rfl | (intro h; rfl))
  case hQ =>
  intro X3 a0 w1 hF
  refine wp_ret ?_
  refine (ret_x (fn := Tryd.f42) T42_ok hF (rs := [.cell 4 29]) rfl (by conv => lhs; cbv) ?_ (⟨0, fun _ => (X3 4).A 0, fun _ => 0, fun _ => .empty⟩) [] ?_ ?_ ?_).1
  · subst hB; simp [AllOb, Ob.holds]
  · subst hB
    show Sim (.agg [.int .i64 (IntKind.i64.wrap v1), .int .u64 v2, .bool (.v v3), .str ⟨#[]⟩]) _
    rw [ew]; exact Sim.refl _
  · subst hB; exact ⟨rfl, ⟨_, rfl, SimL.refl _⟩, rfl, ⟨_, rfl, SimL.refl _⟩, trivial⟩
  · exact trivial
theorem rtold_m (k0 : Nat) (b bw : Nat) (s : ByteArray) (e : Int) (A : Option Addr) (A2 : Option Addr) (k : Nat) (l : List Int) (hl : l.length ≤ 1000) (hl2 : ∀ v ∈ l, 0 ≤ v ∧ v < 1073741824) : SpecX Tryd.prog 42 [.ptr k0 b 0, rowE A2 k l] [(k0, ⟨b, 71, [.ptr 1000 bw 0, errC A e]⟩), (1000, ⟨bw, 105, [.str s]⟩)] (fun x => ⟨ansAV (toldD l (⟨e, s⟩ : RS)).1, [(k0, [.ptr 1000 bw 0, errC (x.A 0) (toldD l (⟨e, s⟩ : RS)).2.e]), (1000, [.str (toldD l (⟨e, s⟩ : RS)).2.s])], []⟩) :=
  (rtold_m0 b bw s e A A2 k l hl hl2).re (by repeat (first | exact trivial | refine ⟨Sim.ptr, ?_⟩ | refine ⟨Sim.fn ⟨Sim.ptr, trivial⟩ trivial, ?_⟩ | refine ⟨Sim.fn trivial ⟨Sim.ptr, trivial⟩, ?_⟩ | refine ⟨Sim.refl _, ?_⟩)) rfl (fun x => ⟨rfl, rfl, Sim.refl _, rfl⟩)
def T41 : List (Nat × TI) := [(3, ti3), (22, ti22), (26, ti26), (65, ti65), (69, ti69), (71, ti71), (81, ti81), (83, ti83), (105, ti105)]
theorem T41_ok : TabOK Tryd.prog T41 := .cons t3 (.cons t22 (.cons t26 (.cons t65 (.cons t69 (.cons t71 (.cons t81 (.cons t83 (.cons t105 (.nil)))))))))
theorem enters41 : Enters Tryd.prog 41 := fun _ _ => by kernel_rfl
theorem rwho_m0 (b bw : Nat) (s : ByteArray) (e : Int) (A : Option Addr) : SpecX Tryd.prog 41 [.ptr 0 b 0] [(0, ⟨b, 71, [.ptr 1000 bw 0, errC A e]⟩), (1000, ⟨bw, 105, [.str s]⟩)] (fun x => ⟨opAV (whoD (⟨e, s⟩ : RS)).1, [(0, [.ptr 1000 bw 0, errC (x.A 0) (whoD (⟨e, s⟩ : RS)).2.e]), (1000, [.str (whoD (⟨e, s⟩ : RS)).2.s])], []⟩) := by
  intro m w hm hargs hpre
  have hr := num_rng (d := 0) (lo := 0) (hi := 63) (⟨e, s⟩ : RS) (by decide) (by decide)
  obtain ⟨z0, hz0⟩ : ∃ z, z = decide (e ≠ 0) := ⟨_, rfl⟩
  have heC0 : ∀ A, errC A e = .opt z0 81 (.ep A 0 1 0 [.int .i64 e]) := fun A => by rw [hz0]; rfl
  obtain ⟨o, ho1⟩ : ∃ o, o = numD 0 0 63 (⟨e, s⟩ : RS) := ⟨_, rfl⟩
  have S1 := fun A => rnumber_m 0 b bw s e A 0 63
  simp only [← ho1] at S1
  obtain ⟨v1, e1, s1⟩ := o
  dsimp only at S1
  obtain ⟨z1, hz1⟩ : ∃ z, z = decide (e1 ≠ 0) := ⟨_, rfl⟩
  have heC1 : ∀ A, errC A e1 = .opt z1 81 (.ep A 0 1 0 [.int .i64 e1]) := fun A => by rw [hz1]; rfl
  simp only [heC0, heC1] at S1
  obtain ⟨o, ho2⟩ : ∃ o, o = wholeD (⟨e1, s1⟩ : RS) := ⟨_, rfl⟩
  have S2 := fun A => rwhole_m 0 b bw s1 e1 A
  simp only [← ho2] at S2
  obtain ⟨v2, e2, s2⟩ := o
  dsimp only at S2
  obtain ⟨z2, hz2⟩ : ∃ z, z = decide (e2 ≠ 0) := ⟨_, rfl⟩
  have heC2 : ∀ A, errC A e2 = .opt z2 81 (.ep A 0 1 0 [.int .i64 e2]) := fun A => by rw [hz2]; rfl
  simp only [heC1, heC2] at S2
  rw [← ho1] at hr
  dsimp only at hr
  have ew := wrap_in (x := v1) (by omega) (by omega)
  have hD : whoD (⟨e, s⟩ : RS) = ((⟨v1, v2, 0, 0, ByteArray.empty⟩ : Opr), ⟨e2, s2⟩) := by simp only [whoD, ← ho1, ← ho2]
  rw [hD]
  dsimp only
  simp only [heC0, heC2] at hpre ⊢
  simp only [opAV, opC]
  refine enterX hm hpre hargs Tryd.func41 rfl (by simp [Tryd.ntmps41]) fun a0 hF => ?_
  simp only [Tryd.ntmps41, startT] at hF
  obtain ⟨B, hB⟩ : ∃ B, B = std := ⟨_, rfl⟩
  refine wp_seq ?_
  apply region_okB hB T41_ok [0, 2] [0, 1000, 2] [] hF
  case hex => intro A X; conv => lhs; cbv
  case hob =>
    intro X
    subst hB
    simp [AllOb, Ob.holds, BE.den, std, stdCmp, stdArith] <;> omega
  case hQ =>
  intro X0 a0 w1 hF
  refine wp_seq ?_
  apply region_okB hB T41_ok [0, 2, 3] [0, 1000, 2] [(1, .x fun x => ⟨.int .u64 v1, [(0, [.ptr 1000 bw 0, .opt z1 81 (.ep (x.A 0) 0 1 0 [.int .i64 e1])]), (1000, [.str s1])], []⟩)] hF
  case hex => intro A X; conv => lhs; cbv
  case hob =>
    intro X
    subst hB
    simp only [AllOb, Ob.holds, BE.den, List.mem_cons, List.not_mem_nil, or_false, forall_eq_or_imp, forall_eq] <;> (and_intros <;> first | trivial | (intro h; trivial) | exact enters37 | exact S1 _ | exact ⟨enters37, S1 _⟩ | (intro h; exact ⟨enters37, S1 _⟩) | rfl | (intro h; rfl))
  case hQ =>
  intro X1 a0 w1 hF
  refine wp_seq ?_
  apply region_okB hB T41_ok [2] [0, 1000, 2] [(3, .x fun x => ⟨.int .u64 v2, [(0, [.ptr 1000 bw 0, .opt z2 81 (.ep (x.A 0) 0 1 0 [.int .i64 e2])]), (1000, [.str s2])], []⟩)] hF
  case hex => intro A X; conv => lhs; cbv
  case hob =>
    intro X
    subst hB
    simp only [AllOb, Ob.holds, BE.den, List.mem_cons, List.not_mem_nil, or_false, forall_eq_or_imp, forall_eq] <;> (and_intros <;> first | trivial | (intro h; trivial) | exact enters38 | exact S2 _ | exact ⟨enters38, S2 _⟩ | (intro h; exact ⟨enters38, S2 _⟩) | rfl | (intro h; rfl))
  case hQ =>
  intro X2 a0 w1 hF
  refine wp_ret ?_
  refine (ret_x (fn := Tryd.f41) T41_ok hF (rs := [.cell 2 26]) rfl (by conv => lhs; cbv) ?_ (⟨0, fun _ => (X2 3).A 0, fun _ => 0, fun _ => .empty⟩) [] ?_ ?_ ?_).1
  · subst hB; simp [AllOb, Ob.holds]
  · subst hB
    show Sim (.agg [.int .i64 (IntKind.i64.wrap v1), .int .u64 v2, .int .i64 0, .int .u64 0, .str ⟨#[]⟩]) _
    rw [ew]; exact Sim.refl _
  · subst hB; exact ⟨rfl, ⟨_, rfl, SimL.refl _⟩, rfl, ⟨_, rfl, SimL.refl _⟩, trivial⟩
  · exact trivial
theorem rwho_m (k0 : Nat) (b bw : Nat) (s : ByteArray) (e : Int) (A : Option Addr) : SpecX Tryd.prog 41 [.ptr k0 b 0] [(k0, ⟨b, 71, [.ptr 1000 bw 0, errC A e]⟩), (1000, ⟨bw, 105, [.str s]⟩)] (fun x => ⟨opAV (whoD (⟨e, s⟩ : RS)).1, [(k0, [.ptr 1000 bw 0, errC (x.A 0) (whoD (⟨e, s⟩ : RS)).2.e]), (1000, [.str (whoD (⟨e, s⟩ : RS)).2.s])], []⟩) :=
  (rwho_m0 b bw s e A).re (by repeat (first | exact trivial | refine ⟨Sim.ptr, ?_⟩ | refine ⟨Sim.fn ⟨Sim.ptr, trivial⟩ trivial, ?_⟩ | refine ⟨Sim.fn trivial ⟨Sim.ptr, trivial⟩, ?_⟩ | refine ⟨Sim.refl _, ?_⟩)) rfl (fun x => ⟨rfl, rfl, Sim.refl _, rfl⟩)
def T40 : List (Nat × TI) := [(3, ti3), (4, ti4), (9, ti9), (22, ti22), (26, ti26), (65, ti65), (69, ti69), (71, ti71), (81, ti81), (83, ti83), (105, ti105)]
theorem T40_ok : TabOK Tryd.prog T40 := .cons t3 (.cons t4 (.cons t9 (.cons t22 (.cons t26 (.cons t65 (.cons t69 (.cons t71 (.cons t81 (.cons t83 (.cons t105 (.nil)))))))))))
theorem enters40 : Enters Tryd.prog 40 := fun _ _ => by kernel_rfl
theorem rop_m0 (b bw : Nat) (s : ByteArray) (e : Int) (A : Option Addr) : SpecX Tryd.prog 40 [.ptr 0 b 0] [(0, ⟨b, 71, [.ptr 1000 bw 0, errC A e]⟩), (1000, ⟨bw, 105, [.str s]⟩)] (fun x => ⟨opAV (opD (⟨e, s⟩ : RS)).1, [(0, [.ptr 1000 bw 0, errC (x.A 0) (opD (⟨e, s⟩ : RS)).2.e]), (1000, [.str (opD (⟨e, s⟩ : RS)).2.s])], []⟩) := by
  intro m w hm hargs hpre
  have hr := num_rng (d := 0) (lo := 1) (hi := 4) (whoD (⟨e, s⟩ : RS)).2 (by decide) (by decide)
  obtain ⟨z0, hz0⟩ : ∃ z, z = decide (e ≠ 0) := ⟨_, rfl⟩
  have heC0 : ∀ A, errC A e = .opt z0 81 (.ep A 0 1 0 [.int .i64 e]) := fun A => by rw [hz0]; rfl
  obtain ⟨o, ho1⟩ : ∃ o, o = whoD (⟨e, s⟩ : RS) := ⟨_, rfl⟩
  have S1 := fun A => rwho_m 0 b bw s e A
  simp only [← ho1] at S1
  obtain ⟨⟨c, q, k0, u0, t0⟩, e1, s1⟩ := o
  dsimp only at S1
  obtain ⟨z1, hz1⟩ : ∃ z, z = decide (e1 ≠ 0) := ⟨_, rfl⟩
  have heC1 : ∀ A, errC A e1 = .opt z1 81 (.ep A 0 1 0 [.int .i64 e1]) := fun A => by rw [hz1]; rfl
  simp only [heC0, heC1] at S1
  obtain ⟨o, ho2⟩ : ∃ o, o = numD 0 1 4 (⟨e1, s1⟩ : RS) := ⟨_, rfl⟩
  have S2 := fun A => rnumber_m 0 b bw s1 e1 A 1 4
  simp only [← ho2] at S2
  obtain ⟨v2, e2, s2⟩ := o
  dsimp only at S2
  obtain ⟨z2, hz2⟩ : ∃ z, z = decide (e2 ≠ 0) := ⟨_, rfl⟩
  have heC2 : ∀ A, errC A e2 = .opt z2 81 (.ep A 0 1 0 [.int .i64 e2]) := fun A => by rw [hz2]; rfl
  simp only [heC1, heC2] at S2
  obtain ⟨o, ho3⟩ : ∃ o, o = numD 0 0 (mostD v2) (⟨e2, s2⟩ : RS) := ⟨_, rfl⟩
  have S3 := fun A => rnumber_m 0 b bw s2 e2 A 0 (mostD v2)
  simp only [← ho3] at S3
  obtain ⟨v3, e3, s3⟩ := o
  dsimp only at S3
  obtain ⟨z3, hz3⟩ : ∃ z, z = decide (e3 ≠ 0) := ⟨_, rfl⟩
  have heC3 : ∀ A, errC A e3 = .opt z3 81 (.ep A 0 1 0 [.int .i64 e3]) := fun A => by rw [hz3]; rfl
  simp only [heC2, heC3] at S3
  obtain ⟨o, ho4⟩ : ∃ o, o = valD (decide (v2 = 2) || decide (v2 = 3)) (⟨e3, s3⟩ : RS) := ⟨_, rfl⟩
  have S4 := fun A => rval_m 0 b bw s3 e3 A (decide (v2 = 2) || decide (v2 = 3))
  simp only [← ho4] at S4
  obtain ⟨v4, e4, s4⟩ := o
  dsimp only at S4
  obtain ⟨z4, hz4⟩ : ∃ z, z = decide (e4 ≠ 0) := ⟨_, rfl⟩
  have heC4 : ∀ A, errC A e4 = .opt z4 81 (.ep A 0 1 0 [.int .i64 e4]) := fun A => by rw [hz4]; rfl
  simp only [heC3, heC4] at S4
  rw [← ho1] at hr
  dsimp only at hr
  rw [← ho2] at hr
  dsimp only at hr
  have ew := wrap_in (x := v2) (by omega) (by omega)
  have hD : opD (⟨e, s⟩ : RS) = ((⟨c, q, v2, v3, v4⟩ : Opr), ⟨e4, s4⟩) := by simp only [opD, ← ho1, ← ho2, ← ho3, ← ho4]
  rw [hD]
  dsimp only
  simp only [heC0, heC4] at hpre ⊢
  simp only [opAV, opC] at S1 ⊢
  obtain ⟨mo, hmo⟩ : ∃ m, m = mostD v2 := ⟨_, rfl⟩
  rw [← hmo] at S3
  obtain ⟨hh, hhh⟩ : ∃ m, m = (decide (v2 = 2) || decide (v2 = 3)) := ⟨_, rfl⟩
  rw [← hhh] at S4
  have hh2 : (if (IntKind.i64.wrap v2 == 2) = true then true else (IntKind.i64.wrap v2 == 3)) = hh := by rw [ew, hhh, Bool.eq_iff_iff]; by_cases h : v2 = 2 <;> simp [h]
  refine enterX hm hpre hargs Tryd.func40 rfl (by simp [Tryd.ntmps40]) fun a0 hF => ?_
  simp only [Tryd.ntmps40, startT] at hF
  obtain ⟨B, hB⟩ : ∃ B, B = std := ⟨_, rfl⟩
  refine wp_seq ?_
  apply region_okB hB T40_ok [0, 2] [0, 1000, 2] [] hF
  case hex => intro A X; conv => lhs; cbv
  case hob =>
    intro X
    subst hB
    simp [AllOb, Ob.holds, BE.den, std, stdCmp, stdArith] <;> omega
  case hQ =>
  intro X0 a0 w1 hF
  refine wp_seq ?_
  apply region_okB hB T40_ok [0, 2, 3] [0, 1000, 2, 3] [(1, .x fun x => ⟨.agg [.int .i64 c, .int .u64 q, .int .i64 k0, .int .u64 u0, .str t0], [(0, [.ptr 1000 bw 0, .opt z1 81 (.ep (x.A 0) 0 1 0 [.int .i64 e1])]), (1000, [.str s1])], []⟩)] hF
  case hex => intro A X; conv => lhs; cbv
  case hob =>
    intro X
    subst hB
    simp only [AllOb, Ob.holds, BE.den, List.mem_cons, List.not_mem_nil, or_false, forall_eq_or_imp, forall_eq] <;> (and_intros <;> first | trivial | (intro h; trivial) | exact enters41 | exact S1 _ | exact ⟨enters41, S1 _⟩ | (intro h; exact ⟨enters41, S1 _⟩) | rfl | (intro h; rfl))
  case hQ =>
  intro X1 a0 w1 hF
  refine wp_seq ?_
  apply region_okB hB T40_ok [0, 2, 3] [0, 1000, 2, 3] [(1, .x fun x => ⟨.int .u64 v2, [(0, [.ptr 1000 bw 0, .opt z2 81 (.ep (x.A 0) 0 1 0 [.int .i64 e2])]), (1000, [.str s2])], []⟩)] hF
  case hex => intro A X; conv => lhs; cbv
  case hob =>
    intro X
    subst hB
    simp only [AllOb, Ob.holds, BE.den, List.mem_cons, List.not_mem_nil, or_false, forall_eq_or_imp, forall_eq] <;> (and_intros <;> first | trivial | (intro h; trivial) | exact enters37 | exact S2 _ | exact ⟨enters37, S2 _⟩ | (intro h; exact ⟨enters37, S2 _⟩) | rfl | (intro h; rfl))
  case hQ =>
  intro X2 a0 w1 hF
  refine wp_seq ?_
  apply region_okB hB T40_ok [0, 2, 3, 4] [0, 1000, 2, 3] [] hF
  case hex => intro A X; conv => lhs; cbv
  case hob =>
    intro X
    subst hB
    simp [AllOb, Ob.holds, BE.den, std, stdCmp, stdArith] <;> omega
  case hQ =>
  intro X3 a0 w1 hF
  refine wp_seq ?_
  refine wp_seq ?_
  apply region_okB hB T40_ok [18, 0, 2, 3, 4] [0, 1000, 2, 3] [] hF
  case hex => intro A X; conv => lhs; cbv
  case hob =>
    intro X
    subst hB
    simp [AllOb, Ob.holds, BE.den, std, stdCmp, stdArith] <;> omega
  case hQ =>
  intro X4 a0 w1 hF
  refine test_ok hF rfl (fun hb hF => ?_) (fun hb hF => ?_)
  · skip
    have hmv : mo = 18446744073709551615 := by
      rw [hmo]; unfold mostD; apply if_pos
      subst hB
      simp only [std, stdCmp, BE.den] at hb
      rw [ew] at hb
      by_cases h3 : v2 = 3
      · exact .inl h3
      · simp [h3] at hb; exact .inr hb
    apply region_okB hB T40_ok [0, 2, 3, 4] [0, 1000, 2, 3] [] hF
    case hex => intro A X; conv => lhs; cbv
    case hob =>
      intro X
      subst hB
      simp [AllOb, Ob.holds, BE.den, std, stdCmp, stdArith] <;> omega
    case hQ =>
    intro X5 a0 w1 hF
    refine wp_seq ?_
    apply region_okB hB T40_ok [0, 2, 3] [0, 1000, 2, 3] [(2, .x fun x => ⟨.int .u64 v3, [(0, [.ptr 1000 bw 0, .opt z3 81 (.ep (x.A 0) 0 1 0 [.int .i64 e3])]), (1000, [.str s3])], []⟩)] hF
    case hex => intro A X; conv => lhs; cbv
    case hob =>
      intro X
      subst hB
      simp only [AllOb, Ob.holds, BE.den, List.mem_cons, List.not_mem_nil, or_false, forall_eq_or_imp, forall_eq] <;> (and_intros <;> first | trivial | (intro h; trivial) | exact enters37 | exact by have := S3 (X2 1).A 0; rw [hmv] at this; exact this | exact ⟨enters37, by have := S3 (X2 1).A 0; rw [hmv] at this; exact this⟩ | (intro h; exact ⟨enters37, by have := S3 (X2 1).A 0; rw [hmv] at this; exact this⟩) | (have := S3 ((X2 1).A 0); rw [hmv] at this; exact this) | (intro h; (have := S3 ((X2 1).A 0); rw [hmv] at this; exact this)) | exact enters37 | (intro h; exact enters37) | rfl | (intro h; rfl))
    case hQ =>
    intro X6 a0 w1 hF
    refine wp_seq ?_
    apply region_okB hB T40_ok [2, 3] [0, 1000, 2, 3] [(9, .x fun x => ⟨.str v4, [(0, [.ptr 1000 bw 0, .opt z4 81 (.ep (x.A 0) 0 1 0 [.int .i64 e4])]), (1000, [.str s4])], []⟩)] hF
    case hex => intro A X; conv => lhs; cbv
    case hob =>
      intro X
      subst hB
      simp only [AllOb, Ob.holds, BE.den, List.mem_cons, List.not_mem_nil, or_false, forall_eq_or_imp, forall_eq] <;> (and_intros <;> first | trivial | (intro h; trivial) | exact enters44 | (intro h; exact enters44) | (refine (S4 _).re ⟨Sim.ptr, ?_, trivial⟩ rfl (fun x => ⟨rfl, rfl, Sim.refl _, rfl⟩); rw [← hh2]; exact Sim.refl _) | (intro h; (refine (S4 _).re ⟨Sim.ptr, ?_, trivial⟩ rfl (fun x => ⟨rfl, rfl, Sim.refl _, rfl⟩); rw [← hh2]; exact Sim.refl _)) | rfl | (intro h; rfl))
    case hQ =>
    intro X7 a0 w1 hF
    refine wp_seq ?_
    apply region_okB hB T40_ok [2] [0, 1000, 2] [] hF
    case hex => intro A X; conv => lhs; cbv
    case hob =>
      intro X
      subst hB
      simp [AllOb, Ob.holds, BE.den, std, stdCmp, stdArith] <;> omega
    case hQ =>
    intro X8 a0 w1 hF
    refine wp_ret ?_
    refine (ret_x (fn := Tryd.f40) T40_ok hF (rs := [.cell 2 26]) rfl (by conv => lhs; cbv) ?_ (⟨0, fun _ => (X7 9).A 0, fun _ => 0, fun _ => .empty⟩) [] ?_ ?_ ?_).1
    · subst hB; simp [AllOb, Ob.holds]
    · subst hB
      show Sim (.agg [.int .i64 c, .int .u64 q, .int .i64 (IntKind.i64.wrap v2), .int .u64 v3, .str v4]) _
      rw [ew]; exact Sim.refl _
    · subst hB; exact ⟨rfl, ⟨_, rfl, SimL.refl _⟩, rfl, ⟨_, rfl, SimL.refl _⟩, trivial⟩
    · exact trivial
  · skip
    have hmv : mo = 0 := by
      rw [hmo]; unfold mostD; apply if_neg
      subst hB
      simp only [std, stdCmp, BE.den] at hb
      rw [ew] at hb
      rintro (h3 | h3) <;> simp [h3] at hb
    refine wp_skip ?_
    refine wp_seq ?_
    apply region_okB hB T40_ok [0, 2, 3] [0, 1000, 2, 3] [(2, .x fun x => ⟨.int .u64 v3, [(0, [.ptr 1000 bw 0, .opt z3 81 (.ep (x.A 0) 0 1 0 [.int .i64 e3])]), (1000, [.str s3])], []⟩)] hF
    case hex => intro A X; conv => lhs; cbv
    case hob =>
      intro X
      subst hB
      simp only [AllOb, Ob.holds, BE.den, List.mem_cons, List.not_mem_nil, or_false, forall_eq_or_imp, forall_eq] <;> (and_intros <;> first | trivial | (intro h; trivial) | exact enters37 | exact by have := S3 (X2 1).A 0; rw [hmv] at this; exact this | exact ⟨enters37, by have := S3 (X2 1).A 0; rw [hmv] at this; exact this⟩ | (intro h; exact ⟨enters37, by have := S3 (X2 1).A 0; rw [hmv] at this; exact this⟩) | (have := S3 ((X2 1).A 0); rw [hmv] at this; exact this) | (intro h; (have := S3 ((X2 1).A 0); rw [hmv] at this; exact this)) | exact enters37 | (intro h; exact enters37) | rfl | (intro h; rfl))
    case hQ =>
    intro X6 a0 w1 hF
    refine wp_seq ?_
    apply region_okB hB T40_ok [2, 3] [0, 1000, 2, 3] [(9, .x fun x => ⟨.str v4, [(0, [.ptr 1000 bw 0, .opt z4 81 (.ep (x.A 0) 0 1 0 [.int .i64 e4])]), (1000, [.str s4])], []⟩)] hF
    case hex => intro A X; conv => lhs; cbv
    case hob =>
      intro X
      subst hB
      simp only [AllOb, Ob.holds, BE.den, List.mem_cons, List.not_mem_nil, or_false, forall_eq_or_imp, forall_eq] <;> (and_intros <;> first | trivial | (intro h; trivial) | exact enters44 | (intro h; exact enters44) | (refine (S4 _).re ⟨Sim.ptr, ?_, trivial⟩ rfl (fun x => ⟨rfl, rfl, Sim.refl _, rfl⟩); rw [← hh2]; exact Sim.refl _) | (intro h; (refine (S4 _).re ⟨Sim.ptr, ?_, trivial⟩ rfl (fun x => ⟨rfl, rfl, Sim.refl _, rfl⟩); rw [← hh2]; exact Sim.refl _)) | rfl | (intro h; rfl))
    case hQ =>
    intro X7 a0 w1 hF
    refine wp_seq ?_
    apply region_okB hB T40_ok [2] [0, 1000, 2] [] hF
    case hex => intro A X; conv => lhs; cbv
    case hob =>
      intro X
      subst hB
      simp [AllOb, Ob.holds, BE.den, std, stdCmp, stdArith] <;> omega
    case hQ =>
    intro X8 a0 w1 hF
    refine wp_ret ?_
    refine (ret_x (fn := Tryd.f40) T40_ok hF (rs := [.cell 2 26]) rfl (by conv => lhs; cbv) ?_ (⟨0, fun _ => (X7 9).A 0, fun _ => 0, fun _ => .empty⟩) [] ?_ ?_ ?_).1
    · subst hB; simp [AllOb, Ob.holds]
    · subst hB
      show Sim (.agg [.int .i64 c, .int .u64 q, .int .i64 (IntKind.i64.wrap v2), .int .u64 v3, .str v4]) _
      rw [ew]; exact Sim.refl _
    · subst hB; exact ⟨rfl, ⟨_, rfl, SimL.refl _⟩, rfl, ⟨_, rfl, SimL.refl _⟩, trivial⟩
    · exact trivial
theorem rop_m (k0 : Nat) (b bw : Nat) (s : ByteArray) (e : Int) (A : Option Addr) : SpecX Tryd.prog 40 [.ptr k0 b 0] [(k0, ⟨b, 71, [.ptr 1000 bw 0, errC A e]⟩), (1000, ⟨bw, 105, [.str s]⟩)] (fun x => ⟨opAV (opD (⟨e, s⟩ : RS)).1, [(k0, [.ptr 1000 bw 0, errC (x.A 0) (opD (⟨e, s⟩ : RS)).2.e]), (1000, [.str (opD (⟨e, s⟩ : RS)).2.s])], []⟩) :=
  (rop_m0 b bw s e A).re (by repeat (first | exact trivial | refine ⟨Sim.ptr, ?_⟩ | refine ⟨Sim.fn ⟨Sim.ptr, trivial⟩ trivial, ?_⟩ | refine ⟨Sim.fn trivial ⟨Sim.ptr, trivial⟩, ?_⟩ | refine ⟨Sim.refl _, ?_⟩)) rfl (fun x => ⟨rfl, rfl, Sim.refl _, rfl⟩)
end Go.Proofs.YtkamdppnnhjajaaDoor.Sym

namespace Go.Proofs.YtkamdppnnhjajaaDoor.Sym
open Go Go.RowKit
set_option maxRecDepth 100000
set_option maxHeartbeats 1600000
set_option linter.unusedVariables false
set_option linter.unusedSimpArgs false
def firstM (f : Nat → Mark) (n : Nat) : List Mark := (List.range n).map f
def setM (f : Nat → Mark) (i : Nat) (m : Mark) : Nat → Mark := fun t => if t = i then m else f t
theorem firstM_len (f : Nat → Mark) (n : Nat) : (firstM f n).length = n := by simp [firstM]
theorem firstM_get (f : Nat → Mark) (n t : Nat) (h : t < n) : (firstM f n).getD t zeroMark = f t := by simp [firstM, List.getD, h]
theorem firstM_set (f : Nat → Mark) (i : Nat) (m : Mark) : firstM (setM f i m) (i + 1) = firstM f i ++ [m] := by
  unfold firstM
  rw [List.range_succ, List.map_append]
  congr 1
  · apply List.map_congr_left
    intro t ht
    have := List.mem_range.1 ht
    unfold setM
    rw [if_neg (by omega)]
  · simp [setM]
theorem mem08_lt : ∀ v ∈ ([0, 8] : List Int), 0 ≤ v ∧ v < 1073741824 := by intro v h; simp at h; omega
def T45 : List (Nat × TI) := [(3, ti3), (4, ti4), (9, ti9), (22, ti22), (27, ti27), (29, ti29), (30, ti30), (32, ti32), (62, ti62), (65, ti65), (69, ti69), (71, ti71), (77, ti77), (81, ti81), (83, ti83), (105, ti105)]
theorem T45_ok : TabOK Tryd.prog T45 := .cons t3 (.cons t4 (.cons t9 (.cons t22 (.cons t27 (.cons t29 (.cons t30 (.cons t32 (.cons t62 (.cons t65 (.cons t69 (.cons t71 (.cons t77 (.cons t81 (.cons t83 (.cons t105 (.nil))))))))))))))))
theorem enters45 : Enters Tryd.prog 45 := fun _ _ => by kernel_rfl
theorem rcell_m0 (b bw : Nat) (s : ByteArray) (e : Int) (A : Option Addr) : SpecX Tryd.prog 45 [.ptr 0 b 0] [(0, ⟨b, 71, [.ptr 1000 bw 0, errC A e]⟩), (1000, ⟨bw, 105, [.str s]⟩)] (fun x => ⟨celAV (x.A 1) (x.c 0) (cellD (⟨e, s⟩ : RS)).1, [(0, [.ptr 1000 bw 0, errC (x.A 0) (cellD (⟨e, s⟩ : RS)).2.e]), (1000, [.str (cellD (⟨e, s⟩ : RS)).2.s])], []⟩) := by
  intro m w hm hargs hpre
  have hr := num_rng (d := 0) (lo := 0) (hi := 64) (valD (flagD (wholeD (⟨e, s⟩ : RS)).2).1 (flagD (wholeD (⟨e, s⟩ : RS)).2).2).2 (by decide) (by decide)
  obtain ⟨z0, hz0⟩ : ∃ z, z = decide (e ≠ 0) := ⟨_, rfl⟩
  have heC0 : ∀ A, errC A e = .opt z0 81 (.ep A 0 1 0 [.int .i64 e]) := fun A => by rw [hz0]; rfl
  obtain ⟨o, ho1⟩ : ∃ o, o = wholeD (⟨e, s⟩ : RS) := ⟨_, rfl⟩
  have S1 := fun A => rwhole_m 0 b bw s e A
  simp only [← ho1] at S1
  obtain ⟨v1, e1, s1⟩ := o
  dsimp only at S1
  obtain ⟨z1, hz1⟩ : ∃ z, z = decide (e1 ≠ 0) := ⟨_, rfl⟩
  have heC1 : ∀ A, errC A e1 = .opt z1 81 (.ep A 0 1 0 [.int .i64 e1]) := fun A => by rw [hz1]; rfl
  simp only [heC0, heC1] at S1
  obtain ⟨o, ho2⟩ : ∃ o, o = flagD (⟨e1, s1⟩ : RS) := ⟨_, rfl⟩
  have S2 := fun A => rflag_m 0 b bw s1 e1 A
  simp only [← ho2] at S2
  obtain ⟨v2, e2, s2⟩ := o
  dsimp only at S2
  obtain ⟨z2, hz2⟩ : ∃ z, z = decide (e2 ≠ 0) := ⟨_, rfl⟩
  have heC2 : ∀ A, errC A e2 = .opt z2 81 (.ep A 0 1 0 [.int .i64 e2]) := fun A => by rw [hz2]; rfl
  simp only [heC1, heC2] at S2
  obtain ⟨o, ho3⟩ : ∃ o, o = valD v2 (⟨e2, s2⟩ : RS) := ⟨_, rfl⟩
  have S3 := fun A => rval_m 0 b bw s2 e2 A v2
  simp only [← ho3] at S3
  obtain ⟨v3, e3, s3⟩ := o
  dsimp only at S3
  obtain ⟨z3, hz3⟩ : ∃ z, z = decide (e3 ≠ 0) := ⟨_, rfl⟩
  have heC3 : ∀ A, errC A e3 = .opt z3 81 (.ep A 0 1 0 [.int .i64 e3]) := fun A => by rw [hz3]; rfl
  simp only [heC2, heC3] at S3
  obtain ⟨o, ho4⟩ : ∃ o, o = numD 0 0 64 (⟨e3, s3⟩ : RS) := ⟨_, rfl⟩
  have S4 := fun A => rnumber_m 0 b bw s3 e3 A 0 64
  simp only [← ho4] at S4
  obtain ⟨v4, e4, s4⟩ := o
  dsimp only at S4
  obtain ⟨z4, hz4⟩ : ∃ z, z = decide (e4 ≠ 0) := ⟨_, rfl⟩
  have heC4 : ∀ A, errC A e4 = .opt z4 81 (.ep A 0 1 0 [.int .i64 e4]) := fun A => by rw [hz4]; rfl
  simp only [heC3, heC4] at S4
  simp only [← ho1, ← ho2, ← ho3, ← ho4] at hr
  obtain ⟨N, hN⟩ : ∃ N : Nat, v4 = (N : Int) := ⟨v4.toNat, by omega⟩
  subst hN
  have hcD : cellD (⟨e, s⟩ : RS) = (⟨v1, v2, v3, (marksD N 0 ⟨e4, s4⟩).1⟩, (marksD N 0 ⟨e4, s4⟩).2) := by simp only [cellD, ← ho1, ← ho2, ← ho3, ← ho4, Int.toNat_natCast]
  simp only [heC0] at hpre ⊢
  have SC := codes_s none 0 [] (by decide)
  obtain ⟨ge, hge⟩ : ∃ ge : Nat → Int, ge = fun i => ([0, 8] ++ [] : List Int).getD i 0 := ⟨_, rfl⟩
  have er : ∀ A k, rowE A k ([0, 8] ++ []) = .sl none A 2 k 1 (fun i => [.int .i64 (ge i)]) := fun A k => by rw [hge]; rfl
  simp only [er] at SC
  have er2 : ∀ A k, rowE A k [0, 8] = .sl none A 2 k 1 (fun i => [.int .i64 (ge i)]) := er
  refine enterX hm hpre hargs Tryd.func45 rfl (by simp [Tryd.ntmps45]) fun a0 hF => ?_
  simp only [Tryd.ntmps45, startT] at hF
  obtain ⟨B, hB⟩ : ∃ B, B = std := ⟨_, rfl⟩
  refine wp_seq ?_
  apply region_okB hB T45_ok [0, 2] [0, 1000, 2] [] hF
  case hex => intro A X; conv => lhs; cbv
  case hob =>
    intro X
    subst hB
    simp [AllOb, Ob.holds, BE.den, std, stdCmp, stdArith] <;> omega
  case hQ =>
  intro X0 a0 w1 hF
  refine wp_seq ?_
  apply region_okB hB T45_ok [0, 2, 3] [0, 1000, 3, 2] [(1, .x fun x => ⟨.int .u64 v1, [(0, [.ptr 1000 bw 0, .opt z1 81 (.ep (x.A 0) 0 1 0 [.int .i64 e1])]), (1000, [.str s1])], []⟩)] hF
  case hex => intro A X; conv => lhs; cbv
  case hob =>
    intro X
    subst hB
    simp only [AllOb, Ob.holds, BE.den, List.mem_cons, List.not_mem_nil, or_false, forall_eq_or_imp, forall_eq] <;> (and_intros <;> first | trivial | (intro h; trivial) | exact enters38 | exact S1 _ | exact ⟨enters38, S1 _⟩ | (intro h; exact ⟨enters38, S1 _⟩) | rfl | (intro h; rfl))
  case hQ =>
  intro X1 a0 w1 hF
  refine wp_seq ?_
  apply region_okB hB T45_ok [0, 2, 3] [0, 1000, 3, 2] [(1, .x fun x => ⟨.bool (.v v2), [(0, [.ptr 1000 bw 0, .opt z2 81 (.ep (x.A 0) 0 1 0 [.int .i64 e2])]), (1000, [.str s2])], []⟩)] hF
  case hex => intro A X; conv => lhs; cbv
  case hob =>
    intro X
    subst hB
    simp only [AllOb, Ob.holds, BE.den, List.mem_cons, List.not_mem_nil, or_false, forall_eq_or_imp, forall_eq] <;> (and_intros <;> first | trivial | (intro h; trivial) | exact enters74 | exact S2 _ | exact ⟨enters74, S2 _⟩ | (intro h; exact ⟨enters74, S2 _⟩) | rfl | (intro h; rfl))
  case hQ =>
  intro X2 a0 w1 hF
  refine wp_seq ?_
  apply region_okB hB T45_ok [0, 2, 3] [0, 1000, 3, 2] [(3, .x fun x => ⟨.str v3, [(0, [.ptr 1000 bw 0, .opt z3 81 (.ep (x.A 0) 0 1 0 [.int .i64 e3])]), (1000, [.str s3])], []⟩)] hF
  case hex => intro A X; conv => lhs; cbv
  case hob =>
    intro X
    subst hB
    simp only [AllOb, Ob.holds, BE.den, List.mem_cons, List.not_mem_nil, or_false, forall_eq_or_imp, forall_eq] <;> (and_intros <;> first | trivial | (intro h; trivial) | exact enters44 | exact S3 _ | exact ⟨enters44, S3 _⟩ | (intro h; exact ⟨enters44, S3 _⟩) | rfl | (intro h; rfl))
  case hQ =>
  intro X3 a0 w1 hF
  refine wp_seq ?_
  apply region_okB hB T45_ok [0, 2, 3, 4, 5] [0, 1000, 3, 2] [(1, .x fun x => ⟨.int .u64 (N : Int), [(0, [.ptr 1000 bw 0, .opt z4 81 (.ep (x.A 0) 0 1 0 [.int .i64 e4])]), (1000, [.str s4])], []⟩)] hF
  case hex => intro A X; conv => lhs; cbv
  case hob =>
    intro X
    subst hB
    simp only [AllOb, Ob.holds, BE.den, List.mem_cons, List.not_mem_nil, or_false, forall_eq_or_imp, forall_eq] <;> (and_intros <;> first | trivial | (intro h; trivial) | exact enters37 | exact S4 _ | exact ⟨enters37, S4 _⟩ | (intro h; exact ⟨enters37, S4 _⟩) | rfl | (intro h; rfl))
  case hQ =>
  intro X4 a0 w1 hF
  refine wp_seq ?_
  refine wp_seq ?_
  apply region_okB hB T45_ok [5, 6, 0, 2, 3, 4] [0, 1000, 3, 2] [] hF
  case hex => intro A X; conv => lhs; cbv
  case hob =>
    intro X
    subst hB
    simp [AllOb, Ob.holds, BE.den, std, stdCmp, stdArith] <;> omega
  case hQ =>
  intro X5 a0 w1 hF
  refine wp_block ?_
  replace hF := hF.fresh (Below.refl _ _) 50 (t := ⟨none, 0, 0, 6, 62⟩) (by decide) (Own.nil _ _ _ _ _)
  have hrow : Ok _ _ (.sl (some 50) none 0 0 6 (fun t => markC ((fun _ => zeroMark) t))) := ok_recell ((hF.mem 3 _ rfl).2.1 _ (.tail _ (.tail _ (.tail _ (.head _))))).2 (fun i hi => absurd hi (Nat.not_lt_zero _))
  replace hF := hF.recells 3 rfl [.int .u64 v1, .bool (.v v2), .str v3, .sl (some 50) none 0 0 6 (fun t => markC ((fun _ => zeroMark) t))] rfl (fun v hv => by
    simp only [List.mem_cons, List.not_mem_nil, or_false] at hv
    rcases hv with rfl | rfl | rfl | rfl
    · exact ((hF.mem 3 _ rfl).2.1 _ (.head _))
    · exact ((hF.mem 3 _ rfl).2.1 _ (.tail _ (.head _)))
    · exact ((hF.mem 3 _ rfl).2.1 _ (.tail _ (.tail _ (.head _))))
    · exact ⟨rfl, hrow⟩)
  replace hF : Fits _ ⟨55, [(5, .int .u64 0), (6, .int .u64 0), (0, .ptr 0 b 0), (2, .ptr 2 (X0 0).b 0), (3, .ptr 3 (X1 3).b 0), (4, .int .u64 (N : Int))], [], [(0, ⟨b, 71, [.ptr 1000 bw 0, .opt z4 81 (.ep ((X4 1).A 0) 0 1 0 [.int .i64 e4])]⟩), (1000, ⟨bw, 105, [.str s4]⟩), (3, ⟨(X1 3).b, 32, [.int .u64 v1, .bool (.v v2), .str v3, .sl (some 50) none 0 0 6 (fun t => markC ((fun _ => zeroMark) t))]⟩), (2, ⟨(X0 0).b, 32, [.int .u64 0, .bool .ff, .str ⟨⟨[]⟩⟩, .sl none none 0 0 6 fun _ => []]⟩)], [(50, ⟨none, 0, 0, 6, 62⟩)]⟩ _ _ := hF.keep [5, 6, 0, 2, 3, 4] [0, 1000, 3, 2, 50]
  refine loop_pre (ι := Nat × (Nat → Mark) × Option Addr × Nat × Int × Int × ByteArray × Bool × Option Addr) (fun p => [(5, .int .u64 p.2.2.2.2.1), (6, .int .u64 (p.1 : Int))]) (fun p => [(0, ⟨b, 71, [.ptr 1000 bw 0, .opt p.2.2.2.2.2.2.2.1 81 (.ep p.2.2.2.2.2.2.2.2 0 1 0 [.int .i64 p.2.2.2.2.2.1])]⟩), (1000, ⟨bw, 105, [.str p.2.2.2.2.2.2.1]⟩), (3, ⟨(X1 3).b, 32, [.int .u64 v1, .bool (.v v2), .str v3, .sl (some 50) p.2.2.1 p.1 p.2.2.2.1 6 (fun t => markC (p.2.1 t))]⟩)]) (fun p => [(50, ⟨p.2.2.1, p.1, p.2.2.2.1, 6, 62⟩)]) (fun p => p.1 ≤ N ∧ marksD N 0 ⟨e4, s4⟩ = (firstM p.2.1 p.1 ++ (marksD (N - p.1) p.2.2.2.2.1 ⟨p.2.2.2.2.2.1, p.2.2.2.2.2.2.1⟩).1, (marksD (N - p.1) p.2.2.2.2.1 ⟨p.2.2.2.2.2.1, p.2.2.2.2.2.2.1⟩).2) ∧ 0 ≤ p.2.2.2.2.1 ∧ p.2.2.2.2.1 ≤ 64 ∧ p.2.2.2.2.2.2.2.1 = decide (p.2.2.2.2.2.1 ≠ 0)) (fun p => N - p.1) (0, fun _ => zeroMark, none, 0, 0, e4, s4, z4, (X4 1).A 0) ⟨Nat.zero_le _, rfl, show (0 : Int) ≤ 0 by decide, show (0 : Int) ≤ 64 by decide, hz4⟩ hF ?_
  rintro ⟨i, f, A1, c1, least, er, sr, zr, AR⟩ ⟨hi, hJ, hl0, hl1, hzr⟩ a0 w1 hF
  try dsimp only at hi
  try dsimp only at hJ
  try dsimp only at hl0
  try dsimp only at hl1
  try dsimp only at hzr
  refine wp_seq ?_
  refine wp_seq ?_
  apply region_okB hB T45_ok [31, 0, 2, 3, 4, 5, 6] [0, 1000, 3, 2, 50] [] hF
  case hex => intro A X; conv => lhs; cbv
  case hob =>
    intro X
    subst hB
    simp [AllOb, Ob.holds, BE.den, std, stdCmp, stdArith] <;> omega
  case hQ =>
  intro X6 a0 w1 hF
  refine test_ok hF rfl (fun hb hF => ?_) (fun hb hF => ?_)
  · skip
    have hin : i < N ∧ er = 0 := by
      subst hB
      simp only [std, stdCmp, BE.den] at hb
      rw [hzr] at hb
      clear hF hargs hm hpre
      by_cases h1 : (i : Int) < (N : Int)
      · by_cases h2 : er = 0
        · exact ⟨by omega, h2⟩
        · simp [h2] at hb
      · simp [h1] at hb
    obtain ⟨hin, her⟩ := hin
    subst her
    have hr5 := num_rng (d := 0) (lo := least) (hi := 63) ⟨0, sr⟩ hl0 (by decide)
    have hzz : ∀ A, errC A 0 = .opt zr 81 (.ep A 0 1 0 [.int .i64 0]) := fun A => by rw [hzr]; rfl
    obtain ⟨o, ho5⟩ : ∃ o, o = numD 0 least 63 (⟨0, sr⟩ : RS) := ⟨_, rfl⟩
    have S5 := fun A => rnumber_m 0 b bw sr 0 A least 63
    simp only [← ho5] at S5
    rw [← ho5] at hr5
    obtain ⟨v5, e5, s5⟩ := o
    dsimp only at S5 hr5
    obtain ⟨z5, hz5⟩ : ∃ z, z = decide (e5 ≠ 0) := ⟨_, rfl⟩
    have heC5 : ∀ A, errC A e5 = .opt z5 81 (.ep A 0 1 0 [.int .i64 e5]) := fun A => by rw [hz5]; rfl
    simp only [hzz, heC5] at S5
    obtain ⟨o, ho6⟩ : ∃ o, o = wholeD (⟨e5, s5⟩ : RS) := ⟨_, rfl⟩
    have S6 := fun A => rwhole_m 0 b bw s5 e5 A
    simp only [← ho6] at S6
    obtain ⟨v6, e6, s6⟩ := o
    dsimp only at S6
    obtain ⟨z6, hz6⟩ : ∃ z, z = decide (e6 ≠ 0) := ⟨_, rfl⟩
    have heC6 : ∀ A, errC A e6 = .opt z6 81 (.ep A 0 1 0 [.int .i64 e6]) := fun A => by rw [hz6]; rfl
    simp only [heC5, heC6] at S6
    obtain ⟨o, ho7⟩ : ∃ o, o = toldD [0, 8] (⟨e6, s6⟩ : RS) := ⟨_, rfl⟩
    have S7 := fun A => fun A2 k => rtold_m 0 b bw s6 e6 A A2 k [0, 8] (by decide) mem08_lt
    simp only [← ho7] at S7
    obtain ⟨⟨c7, u7, h7, t7⟩, e7, s7⟩ := o
    dsimp only at S7
    obtain ⟨z7, hz7⟩ : ∃ z, z = decide (e7 ≠ 0) := ⟨_, rfl⟩
    have heC7 : ∀ A, errC A e7 = .opt z7 81 (.ep A 0 1 0 [.int .i64 e7]) := fun A => by rw [hz7]; rfl
    simp only [heC6, heC7] at S7
    simp only [ansAV, ansC, er2] at S7
    have ew := wrap_in (x := v5) (by omega) (by omega)
    have hm : marksD (N - i) least ⟨0, sr⟩ = ((⟨v5, v6, ⟨c7, u7, h7, t7⟩⟩ : Mark) :: (marksD (N - i - 1) (v5 + 1) ⟨e7, s7⟩).1, (marksD (N - i - 1) (v5 + 1) ⟨e7, s7⟩).2) := by
      obtain ⟨k1, hk1⟩ : ∃ k, N - i = k + 1 := ⟨N - i - 1, by omega⟩
      rw [show N - i - 1 = k1 by omega, hk1, marksD]
      simp only [ne_eq, not_true, if_false, markD, ← ho5, ← ho6, ← ho7]
    refine wp_skip ?_
    refine wp_seq ?_
    refine wp_block ?_
    refine wp_seq ?_
    apply region_okB hB T45_ok [0, 2, 3, 4, 6, 7] [0, 1000, 3, 2, 50] [(2, .x fun x => ⟨.int .u64 v5, [(0, [.ptr 1000 bw 0, .opt z5 81 (.ep (x.A 0) 0 1 0 [.int .i64 e5])]), (1000, [.str s5])], []⟩)] hF
    case hex => intro A X; conv => lhs; cbv
    case hob =>
      intro X
      subst hB
      simp only [AllOb, Ob.holds, BE.den, List.mem_cons, List.not_mem_nil, or_false, forall_eq_or_imp, forall_eq] <;> (and_intros <;> first | trivial | (intro h; trivial) | exact enters37 | exact S5 _ | exact ⟨enters37, S5 _⟩ | (intro h; exact ⟨enters37, S5 _⟩) | rfl | (intro h; rfl))
    case hQ =>
    intro X8 a0 w1 hF
    refine wp_seq ?_
    apply region_okB hB T45_ok [0, 2, 3, 4, 6, 7, 8] [0, 1000, 3, 2, 50, 8] [(3, .x fun x => ⟨.int .u64 v6, [(0, [.ptr 1000 bw 0, .opt z6 81 (.ep (x.A 0) 0 1 0 [.int .i64 e6])]), (1000, [.str s6])], []⟩)] hF
    case hex => intro A X; conv => lhs; cbv
    case hob =>
      intro X
      subst hB
      simp only [AllOb, Ob.holds, BE.den, List.mem_cons, List.not_mem_nil, or_false, forall_eq_or_imp, forall_eq] <;> (and_intros <;> first | trivial | (intro h; trivial) | exact enters38 | exact S6 _ | exact ⟨enters38, S6 _⟩ | (intro h; exact ⟨enters38, S6 _⟩) | rfl | (intro h; rfl))
    case hQ =>
    intro X9 a0 w1 hF
    refine wp_seq ?_
    apply region_okB hB T45_ok [0, 2, 3, 4, 6, 7, 8] [0, 1000, 3, 2, 50, 8] [(1, .r fun x => .sl none (x.A 0) 2 (x.c 0) 1 (fun i => [.int .i64 (ge i)])), (2, .x fun x => ⟨.agg [.int .i64 c7, .int .u64 u7, .bool (.v h7), .str t7], [(0, [.ptr 1000 bw 0, .opt z7 81 (.ep (x.A 0) 0 1 0 [.int .i64 e7])]), (1000, [.str s7])], []⟩)] hF
    case hex => intro A X; conv => lhs; cbv
    case hob =>
      intro X
      subst hB
      simp only [AllOb, Ob.holds, BE.den, List.mem_cons, List.not_mem_nil, or_false, forall_eq_or_imp, forall_eq] <;> (and_intros <;> first | trivial | (intro h; trivial) | exact enters43 | exact SC.re ⟨sim_nil, trivial⟩ | exact ⟨enters43, SC.re ⟨sim_nil, trivial⟩⟩ | (intro h; exact ⟨enters43, SC.re ⟨sim_nil, trivial⟩⟩) | exact enters42 | exact S7 _ _ _ | exact ⟨enters42, S7 _ _ _⟩ | (intro h; exact ⟨enters42, S7 _ _ _⟩) | rfl | (intro h; rfl))
    case hQ =>
    intro X10 a0 w1 hF
    apply region_okB hB T45_ok [0, 2, 3, 4, 5, 6] [0, 1000, 3, 2, 50] [] hF
    case hex => intro A X; conv => lhs; cbv
    case hob =>
      intro X
      subst hB
      refine ⟨rfl, rfl, ⟨rfl, rfl, rfl⟩, ⟨?_, ?_⟩, ?_⟩
      · show i + 1 ≤ maxLen; simp only [maxLen]; omega
      · show (i + 1) * _ ≤ _; omega
      · repeat (first | exact trivial | refine ⟨rfl, ?_⟩)
    case hQ =>
    intro X11 a0 w1 hF
    have hrow : Ok _ _ (.sl (some 50) ((X11 4).A 0) (B.nadd i 1) ((X11 4).c 0) 6 (fun t => markC ((setM f i ⟨v5, v6, ⟨c7, u7, h7, t7⟩⟩) t))) := ok_recell ((hF.mem 3 _ rfl).2.1 _ (.tail _ (.tail _ (.tail _ (.head _))))).2 (fun t ht => by
      subst hB
      have ht2 : t < i + 1 := ht
      show appC i (fun t => markC (f t)) (chunk 6 [.int .i64 (IntKind.i64.wrap v5), .int .u64 v6, .int .i64 c7, .int .u64 u7, .bool (.v h7), .str t7]) t = _
      unfold appC setM
      split
      · simp only; rw [if_neg (by omega)]
      · have : t = i := by omega
        subst this
        rw [ew]; simp [chunk, markC])
    replace hF := hF.recells 3 rfl [.int .u64 v1, .bool (.v v2), .str v3, .sl (some 50) ((X11 4).A 0) (B.nadd i 1) ((X11 4).c 0) 6 (fun t => markC ((setM f i ⟨v5, v6, ⟨c7, u7, h7, t7⟩⟩) t))] rfl (fun v hv => by
      simp only [List.mem_cons, List.not_mem_nil, or_false] at hv
      rcases hv with rfl | rfl | rfl | rfl
      · exact ((hF.mem 3 _ rfl).2.1 _ (.head _))
      · exact ((hF.mem 3 _ rfl).2.1 _ (.tail _ (.head _)))
      · exact ((hF.mem 3 _ rfl).2.1 _ (.tail _ (.tail _ (.head _))))
      · exact ⟨rfl, hrow⟩)
    apply region_okB hB T45_ok [5, 6, 0, 2, 3, 4] [0, 1000, 3, 2, 50] [] hF
    case hex => intro A X; conv => lhs; cbv
    case hob =>
      intro X
      subst hB
      simp [AllOb, Ob.holds, BE.den, std, stdCmp, stdArith] <;> omega
    case hQ =>
    intro X7 a0 w1 hF
    have e1 : B.arith .add .u64 (i : Int) 1 = ((i + 1 : Nat) : Int) := by subst hB; exact wrap_u64 ((i : Int) + 1) ⟨by omega, by omega⟩
    have e2 : B.arith .add .u64 v5 1 = v5 + 1 := by subst hB; exact wrap_u64 (v5 + 1) ⟨by omega, by omega⟩
    refine ⟨(i + 1, setM f i ⟨v5, v6, ⟨c7, u7, h7, t7⟩⟩, (X11 4).A 0, (X11 4).c 0, v5 + 1, e7, s7, z7, (X10 2).A 0), ⟨by simp only; omega, ?_, by simp only; omega, by simp only; omega, hz7⟩, by simp only; omega, by rw [← e1, ← e2, show i + 1 = B.nadd i 1 by subst hB; rfl]; exact hF⟩
    simp only
    rw [hJ, hm, firstM_set, show N - (i + 1) = N - i - 1 by omega, List.append_assoc]
    rfl
  · skip
    have hout : marksD (N - i) least ⟨er, sr⟩ = ([], ⟨er, sr⟩) := by
      by_cases h2 : er = 0
      · have h1 : i = N := by
          subst hB
          simp only [std, stdCmp, BE.den] at hb
          rw [hzr, h2] at hb
          by_cases h1 : (i : Int) < (N : Int)
          · simp [h1] at hb
          · omega
        rw [h1, Nat.sub_self]; rfl
      · cases N - i with
        | zero => rfl
        | succ k => simp [marksD, h2]
    rw [hout, List.append_nil] at hJ
    have hD : cellD (⟨e, s⟩ : RS) = (⟨v1, v2, v3, firstM f i⟩, ⟨er, sr⟩) := by rw [hcD, hJ]
    refine wp_exit ?_
    refine wp_seq ?_
    apply region_okB hB T45_ok [2] [0, 1000, 2] [] hF
    case hex => intro A X; conv => lhs; cbv
    case hob =>
      intro X
      subst hB
      simp [AllOb, Ob.holds, BE.den, std, stdCmp, stdArith] <;> omega
    case hQ =>
    intro X12 a0 w1 hF
    refine wp_ret ?_
    refine (ret_x (fn := Tryd.f45) T45_ok hF (rs := [.cell 2 32]) rfl (by conv => lhs; cbv) ?_ (⟨0, fun k => if k = 0 then AR else A1, fun _ => c1, fun _ => .empty⟩) [] ?_ ?_ ?_).1
    · subst hB; simp [AllOb, Ob.holds]
    · subst hB; rw [hD]
      exact Sim.agg ⟨Sim.refl _, Sim.refl _, Sim.refl _, Sim.resl (firstM_len f i).symm (fun t ht => by rw [firstM_len] at ht; exact congrArg markC (firstM_get f i t ht).symm), trivial⟩
    · subst hB; rw [hD]
      exact ⟨rfl, ⟨_, rfl, by unfold errC; rw [← hzr]; exact SimL.refl _⟩, rfl, ⟨_, rfl, SimL.refl _⟩, trivial⟩
    · exact trivial
theorem rcell_m (k0 : Nat) (b bw : Nat) (s : ByteArray) (e : Int) (A : Option Addr) : SpecX Tryd.prog 45 [.ptr k0 b 0] [(k0, ⟨b, 71, [.ptr 1000 bw 0, errC A e]⟩), (1000, ⟨bw, 105, [.str s]⟩)] (fun x => ⟨celAV (x.A 1) (x.c 0) (cellD (⟨e, s⟩ : RS)).1, [(k0, [.ptr 1000 bw 0, errC (x.A 0) (cellD (⟨e, s⟩ : RS)).2.e]), (1000, [.str (cellD (⟨e, s⟩ : RS)).2.s])], []⟩) :=
  (rcell_m0 b bw s e A).re (by repeat (first | exact trivial | refine ⟨Sim.ptr, ?_⟩ | refine ⟨Sim.fn ⟨Sim.ptr, trivial⟩ trivial, ?_⟩ | refine ⟨Sim.fn trivial ⟨Sim.ptr, trivial⟩, ?_⟩ | refine ⟨Sim.refl _, ?_⟩)) rfl (fun x => ⟨rfl, rfl, Sim.refl _, rfl⟩)
end Go.Proofs.YtkamdppnnhjajaaDoor.Sym

namespace Go.Proofs.YtkamdppnnhjajaaDoor.Sym
open Go Go.RowKit
set_option linter.unusedVariables false
set_option linter.unusedSimpArgs false

def rnumD (lo hi : Int) (r : RS) : Int × RS := numD lo lo hi r
def codeOk (late none : Bool) (c : Int) : Bool := decide (c = 0) || decide (c = 8) || (none && decide (c = 7)) || (late && decide (c = 9))
def rcodeD (late none : Bool) (r : RS) : Int × RS :=
  let c := rnumD 0 13 r
  if c.2.e = 0 ∧ codeOk late none c.1 = false then (c.1, ⟨3, c.2.s⟩) else c
def rtoldD (late none : Bool) (r : RS) : Ans × RS :=
  let c := rcodeD late none r
  let v := wholeD c.2
  let h := flagD v.2
  (⟨c.1, v.1, h.1, ByteArray.empty⟩, h.2)
def ransD (r : RS) : Ans × RS :=
  let a := rtoldD true true r
  let t := valD a.1.has a.2
  (⟨a.1.code, a.1.version, a.1.has, t.1⟩, t.2)
def ropD (r : RS) : Opr × RS :=
  let o := whoD r
  let k := rnumD 1 4 o.2
  let v := numD 0 0 (mostD k.1) k.2
  let t := valD (decide (k.1 = 2) || decide (k.1 = 3)) v.2
  (⟨o.1.client, o.1.req, k.1, v.1, t.1⟩, t.2)
def rmarkD (least : Int) (r : RS) : Mark × RS :=
  let c := rnumD least 63 r
  let q := wholeD c.2
  let a := rtoldD false false q.2
  (⟨c.1, q.1, a.1⟩, a.2)
def rmarksD : Nat → Int → RS → List Mark × RS
  | 0, _, r => ([], r)
  | n + 1, least, r => if r.e ≠ 0 then ([], r) else
    let m := rmarkD least r
    let l := rmarksD n (m.1.client + 1) m.2
    (m.1 :: l.1, l.2)
def rcellD (r : RS) : Cel × RS :=
  let v := wholeD r
  let h := flagD v.2
  let t := valD h.1 h.2
  let n := numD 0 0 64 t.2
  let l := rmarksD n.1.toNat 0 n.2
  (⟨v.1, h.1, t.1, l.1⟩, l.2)
def rbodyD (k ep : Int) (r : RS) : Par × RS :=
  if k = 1 then let y := plcD r; let o := ropD y.2; (⟨k, ep, y.1, o.1, zeroAns, 0, zeroCel⟩, o.2)
  else if k = 2 then let o := whoD r; let a := ransD o.2; (⟨k, ep, zeroKey, o.1, a.1, 0, zeroCel⟩, a.2)
  else if k = 3 then let y := plcD r; let u := wholeD y.2; let c := rcellD u.2; (⟨k, ep, y.1, zeroOp, zeroAns, u.1, c.1⟩, c.2)
  else if k = 4 then let u := wholeD r; (⟨k, ep, zeroKey, zeroOp, zeroAns, u.1, zeroCel⟩, u.2)
  else (⟨k, ep, zeroKey, zeroOp, zeroAns, 0, zeroCel⟩, r)
def rallD (s : ByteArray) : Par × RS :=
  let k := rnumD 1 4 ⟨0, s⟩
  let ep := wholeD k.2
  rbodyD k.1 ep.1 ep.2
def rgetP (s : ByteArray) : Par × Int :=
  let x := rallD s
  if x.2.e ≠ 0 then (zeroPar, x.2.e) else if x.2.s.size = 0 then (x.1, 0) else (zeroPar, 3)
/-! ### once there is an error, nothing is read -/
def Dead {α : Type} (D : RS → α × RS) : Prop := ∀ r, r.e ≠ 0 → (D r).2 = r
theorem numD_dead {r : RS} (h : r.e ≠ 0) (d lo hi : Int) : numD d lo hi r = (d, r) := getG_dead h
theorem dead_num (d lo hi : Int) : Dead (numD d lo hi) := fun r h => by rw [numD_dead h]
theorem dead_whole : Dead wholeD := fun r h => by unfold wholeD; rw [numD_dead h]
theorem dead_flag : Dead flagD := fun r h => by simp only [flagD, numD_dead h]
theorem dead_val (x : Bool) : Dead (valD x) := fun r h => by unfold valD; rw [getG_dead h]
theorem dead_plc : Dead plcD := fun r h => by unfold plcD; rw [getG_dead h]
theorem dead_code (l : List Int) : Dead (codeD l) := fun r h => by unfold codeD; rw [getG_dead h]
theorem dead_rcode (a b : Bool) : Dead (rcodeD a b) := fun r h => by simp [rcodeD, rnumD, numD_dead h, h]
theorem dead_told (l : List Int) : Dead (toldD l) := fun r h => by simp only [toldD, dead_code l r h, dead_whole r h, dead_flag r h]
theorem dead_rtold (a b : Bool) : Dead (rtoldD a b) := fun r h => by simp only [rtoldD, dead_rcode a b r h, dead_whole r h, dead_flag r h]
theorem dead_rans : Dead ransD := fun r h => by simp only [ransD, dead_rtold true true r h, dead_val _ r h]
theorem dead_who : Dead whoD := fun r h => by simp only [whoD, dead_num _ _ _ r h, dead_whole r h]
theorem dead_op : Dead opD := fun r h => by simp only [opD, dead_num _ _ _ r h, dead_who r h, dead_val _ r h]
theorem dead_rop : Dead ropD := fun r h => by simp only [ropD, rnumD, dead_num _ _ _ r h, dead_who r h, dead_val _ r h]
theorem dead_mark (x : Int) : Dead (markD x) := fun r h => by simp only [markD, dead_num _ _ _ r h, dead_whole r h, dead_told _ r h]
theorem dead_rmark (x : Int) : Dead (rmarkD x) := fun r h => by simp only [rmarkD, rnumD, dead_num _ _ _ r h, dead_whole r h, dead_rtold _ _ r h]
theorem dead_marks (n : Nat) (x : Int) : Dead (marksD n x) := fun r h => by cases n with
  | zero => rfl
  | succ n => simp [marksD, h]
theorem dead_rmarks (n : Nat) (x : Int) : Dead (rmarksD n x) := fun r h => by cases n with
  | zero => rfl
  | succ n => simp [rmarksD, h]
theorem dead_cell : Dead cellD := fun r h => by simp only [cellD, dead_num _ _ _ r h, dead_whole r h, dead_flag r h, dead_val _ r h, dead_marks _ _ r h]
theorem dead_rcell : Dead rcellD := fun r h => by simp only [rcellD, dead_num _ _ _ r h, dead_whole r h, dead_flag r h, dead_val _ r h, dead_rmarks _ _ r h]
theorem dead_body (k ep : Int) : Dead (bodyD k ep) := fun r h => by
  unfold bodyD
  by_cases h1 : k = 1
  · simp only [h1, if_true, dead_plc r h, dead_op r h]
  by_cases h2 : k = 2
  · subst h2; simp [dead_who r h, dead_told _ r h, dead_val _ r h]
  by_cases h3 : k = 3
  · subst h3; simp [dead_plc r h, dead_whole r h, dead_cell r h]
  by_cases h4 : k = 4
  · subst h4; simp [dead_whole r h]
  simp [h1, h2, h3, h4]
theorem dead_rbody (k ep : Int) : Dead (rbodyD k ep) := fun r h => by
  unfold rbodyD
  by_cases h1 : k = 1
  · simp only [h1, if_true, dead_plc r h, dead_rop r h]
  by_cases h2 : k = 2
  · subst h2; simp [dead_who r h, dead_rans r h]
  by_cases h3 : k = 3
  · subst h3; simp [dead_plc r h, dead_whole r h, dead_rcell r h]
  by_cases h4 : k = 4
  · subst h4; simp [dead_whole r h]
  simp [h1, h2, h3, h4]
/-! ### both give the same -/
def Rl {α : Type} (x y : α × RS) : Prop := x.2 = y.2 ∧ (x.2.e = 0 → x.1 = y.1)
theorem Rl.rfl' {α : Type} (x : α × RS) : Rl x x := ⟨rfl, fun _ => rfl⟩
theorem Rl.bind {α β : Type} {x y : α × RS} {K K' : α → RS → β × RS} (h : Rl x y) (hk : ∀ a r, Rl (K a r) (K' a r)) (hd : ∀ a, Dead (K a)) (hd' : ∀ a, Dead (K' a)) : Rl (K x.1 x.2) (K' y.1 y.2) := by
  obtain ⟨a, r⟩ := x
  obtain ⟨a', r'⟩ := y
  obtain ⟨h1, h2⟩ := h
  simp only at h1 h2
  subst h1
  by_cases he : r.e = 0
  · rw [← h2 he]; exact hk a r
  · refine ⟨by rw [hd a r he, hd' a' r he], fun h3 => ?_⟩
    rw [hd a r he] at h3; exact absurd h3 he
theorem Rl.map {α β : Type} {x y : α × RS} (f : α → β) (h : Rl x y) : Rl (f x.1, x.2) (f y.1, y.2) := ⟨h.1, fun he => by rw [h.2 he]⟩
theorem rl_num {d d' lo hi : Int} {r : RS} (h : r.e = 0) : Rl (numD d lo hi r) (numD d' lo hi r) := by
  unfold numD getG
  simp only [h, ne_eq, not_true, if_false]
  split
  · rename_i h1; exact ⟨rfl, fun h => absurd h h1⟩
  · split
    · exact ⟨rfl, fun _ => rfl⟩
    · exact ⟨rfl, fun h => absurd (show (3 : Int) = 0 from h) (by decide)⟩
theorem rl_num' (d d' lo hi : Int) (r : RS) : Rl (numD d lo hi r) (numD d' lo hi r) := by
  by_cases h : r.e = 0
  · exact rl_num h
  · rw [numD_dead h, numD_dead h]; exact ⟨rfl, fun h2 => absurd h2 h⟩
theorem rl_code {l : List Int} {a b : Bool} (hl : ∀ v : Int, 0 ≤ v → (v ∈ l ↔ codeOk a b v = true)) (hb : ∀ v ∈ l, v ≤ 13) (r : RS) : Rl (codeD l r) (rcodeD a b r) := by
  unfold codeD rcodeD rnumD numD getG
  by_cases h : r.e = 0
  · simp only [h, ne_eq, not_true, if_false]
    by_cases hE : numE r.s = 0
    · simp only [hE, not_true, if_false]
      have h0 := (numV_u64 r.s).1
      generalize hv : numV r.s = v at h0
      by_cases h13 : v ≤ 13
      · have e1 : (decide (0 ≤ v) && decide (v ≤ 13)) = true := by simp [h0, h13]
        simp only [e1, if_true]
        by_cases hm : v ∈ l
        · have e2 : (decide (v < 1073741824) && decide (v ∈ l)) = true := by simp [hm]; omega
          simp only [e2, if_true]
          rw [if_neg (by rw [(hl v h0).1 hm]; simp)]
          exact Rl.rfl' _
        · have e2 : (decide (v < 1073741824) && decide (v ∈ l)) = false := by simp [hm]
          have e3 : codeOk a b v = false := by
            rw [← Bool.not_eq_true]; exact fun h => hm ((hl v h0).2 h)
          simp only [e2, e3, Bool.false_eq_true, if_false, and_self, if_true]
          exact ⟨rfl, fun h => absurd (show (3 : Int) = 0 from h) (by decide)⟩
      · have e1 : (decide (0 ≤ v) && decide (v ≤ 13)) = false := by simp [h13]
        have e2 : (decide (v < 1073741824) && decide (v ∈ l)) = false := by
          have : v ∉ l := fun h => h13 (hb v h)
          simp [this]
        simp only [e1, e2, Bool.false_eq_true, if_false]
        rw [if_neg (fun h => absurd (show (3 : Int) = 0 from h.1) (by decide))]
        exact ⟨rfl, fun h => absurd (show (3 : Int) = 0 from h) (by decide)⟩
    · simp only [hE, not_false_eq_true, if_true]
      rw [if_neg (fun h => by first | exact h.1 | exact hE h.1)]
      exact Rl.rfl' _
  · simp only [h, ne_eq, not_false_eq_true, if_true]
    rw [if_neg (fun h2 => by first | exact h2.1 | exact h h2.1)]
    exact Rl.rfl' _
theorem rl_told {l : List Int} {a b : Bool} (hl : ∀ v : Int, 0 ≤ v → (v ∈ l ↔ codeOk a b v = true)) (hb : ∀ v ∈ l, v ≤ 13) (r : RS) : Rl (toldD l r) (rtoldD a b r) :=
  Rl.bind (K := fun c r => let v := wholeD r; let h := flagD v.2; ((⟨c, v.1, h.1, ByteArray.empty⟩ : Ans), h.2)) (K' := fun c r => let v := wholeD r; let h := flagD v.2; ((⟨c, v.1, h.1, ByteArray.empty⟩ : Ans), h.2)) (rl_code hl hb r) (fun c r => Rl.rfl' _)
    (fun c r h => by simp only [dead_whole r h, dead_flag r h]) (fun c r h => by simp only [dead_whole r h, dead_flag r h])
theorem mem08 (v : Int) : v ∈ ([0, 8] : List Int) ↔ codeOk false false v = true := by simp [codeOk]
theorem mem0879 (v : Int) : v ∈ ([0, 8, 7, 9] : List Int) ↔ codeOk true true v = true := by
  simp [codeOk]; omega
theorem rl_op (r : RS) : Rl (opD r) (ropD r) :=
  Rl.bind (K := fun o r => let k := numD 0 1 4 r; let v := numD 0 0 (mostD k.1) k.2; let t := valD (decide (k.1 = 2) || decide (k.1 = 3)) v.2; ((⟨o.client, o.req, k.1, v.1, t.1⟩ : Opr), t.2))
    (K' := fun o r => let k := rnumD 1 4 r; let v := numD 0 0 (mostD k.1) k.2; let t := valD (decide (k.1 = 2) || decide (k.1 = 3)) v.2; ((⟨o.client, o.req, k.1, v.1, t.1⟩ : Opr), t.2)) (Rl.rfl' (whoD r))
    (fun o r => Rl.bind (K := fun k r => let v := numD 0 0 (mostD k) r; let t := valD (decide (k = 2) || decide (k = 3)) v.2; ((⟨o.client, o.req, k, v.1, t.1⟩ : Opr), t.2))
      (K' := fun k r => let v := numD 0 0 (mostD k) r; let t := valD (decide (k = 2) || decide (k = 3)) v.2; ((⟨o.client, o.req, k, v.1, t.1⟩ : Opr), t.2)) (rl_num' 0 1 1 4 r) (fun _ _ => Rl.rfl' _) (fun k r h => by simp only [dead_num _ _ _ r h, dead_val _ r h]) (fun k r h => by simp only [dead_num _ _ _ r h, dead_val _ r h]))
    (fun o r h => by simp only [dead_num _ _ _ r h, dead_val _ r h]) (fun o r h => by simp only [rnumD, dead_num _ _ _ r h, dead_val _ r h])
theorem rl_mark (x : Int) (r : RS) : Rl (markD x r) (rmarkD x r) :=
  Rl.bind (K := fun c r => let q := wholeD r; let a := toldD [0, 8] q.2; ((⟨c, q.1, a.1⟩ : Mark), a.2)) (K' := fun c r => let q := wholeD r; let a := rtoldD false false q.2; ((⟨c, q.1, a.1⟩ : Mark), a.2)) (rl_num' 0 x x 63 r)
    (fun c r => (rl_told (fun v _ => mem08 v) (by simp) (wholeD r).2).map fun a => (⟨c, (wholeD r).1, a⟩ : Mark))
    (fun c r h => by simp only [dead_whole r h, dead_told _ r h]) (fun c r h => by simp only [dead_whole r h, dead_rtold _ _ r h])
theorem rl_marks : ∀ (n : Nat) (x : Int) (r : RS), Rl (marksD n x r) (rmarksD n x r)
  | 0, x, r => Rl.rfl' _
  | n + 1, x, r => by
    unfold marksD rmarksD
    by_cases h : r.e ≠ 0
    · rw [if_pos h, if_pos h]; exact Rl.rfl' _
    · rw [if_neg h, if_neg h]
      exact Rl.bind (K := fun m r => let l := marksD n (m.client + 1) r; (m :: l.1, l.2)) (K' := fun m r => let l := rmarksD n (m.client + 1) r; (m :: l.1, l.2)) (rl_mark x r)
        (fun m r => (rl_marks n (m.client + 1) r).map fun l => m :: l) (fun m r h => by simp only [dead_marks _ _ r h]) (fun m r h => by simp only [dead_rmarks _ _ r h])
theorem rl_cell (r : RS) : Rl (cellD r) (rcellD r) :=
  (rl_marks (numD 0 0 64 (valD (flagD (wholeD r).2).1 (flagD (wholeD r).2).2).2).1.toNat 0 (numD 0 0 64 (valD (flagD (wholeD r).2).1 (flagD (wholeD r).2).2).2).2).map
    fun l => (⟨(wholeD r).1, (flagD (wholeD r).2).1, (valD (flagD (wholeD r).2).1 (flagD (wholeD r).2).2).1, l⟩ : Cel)
theorem rl_body (k ep : Int) (r : RS) : Rl (bodyD k ep r) (rbodyD k ep r) := by
  unfold bodyD rbodyD
  by_cases h1 : k = 1
  · rw [if_pos h1, if_pos h1]
    exact (rl_op (plcD r).2).map fun o => (⟨k, ep, (plcD r).1, o, zeroAns, 0, zeroCel⟩ : Par)
  rw [if_neg h1, if_neg h1]
  by_cases h2 : k = 2
  · rw [if_pos h2, if_pos h2]
    exact Rl.bind (K := fun a r1 => let t := valD a.has r1; ((⟨k, ep, zeroKey, (whoD r).1, ⟨a.code, a.version, a.has, t.1⟩, 0, zeroCel⟩ : Par), t.2)) (K' := fun a r1 => let t := valD a.has r1; ((⟨k, ep, zeroKey, (whoD r).1, ⟨a.code, a.version, a.has, t.1⟩, 0, zeroCel⟩ : Par), t.2))
      (rl_told (fun v _ => mem0879 v) (by simp) (whoD r).2) (fun _ _ => Rl.rfl' _) (fun a r h => by simp only [dead_val _ r h]) (fun a r h => by simp only [dead_val _ r h])
  rw [if_neg h2, if_neg h2]
  by_cases h3 : k = 3
  · rw [if_pos h3, if_pos h3]
    exact (rl_cell (wholeD (plcD r).2).2).map fun c => (⟨k, ep, (plcD r).1, zeroOp, zeroAns, (wholeD (plcD r).2).1, c⟩ : Par)
  rw [if_neg h3, if_neg h3]
  exact Rl.rfl' _
theorem rl_all (s : ByteArray) : Rl (allD s) (rallD s) :=
  Rl.bind (K := fun k r => let ep := wholeD r; bodyD k ep.1 ep.2) (K' := fun k r => let ep := wholeD r; rbodyD k ep.1 ep.2) (rl_num' 0 1 1 4 ⟨0, s⟩) (fun k r => rl_body k _ _)
    (fun k r h => by simp only [dead_whole r h, dead_body _ _ r h]) (fun k r h => by simp only [dead_whole r h, dead_rbody _ _ r h])
theorem get_eq (s : ByteArray) : getP s = rgetP s := by
  obtain ⟨h1, h2⟩ := rl_all s
  unfold getP rgetP
  simp only
  rw [← h1]
  by_cases he : (allD s).2.e = 0
  · rw [h2 he]
  · rw [if_pos he, if_pos he]
end Go.Proofs.YtkamdppnnhjajaaDoor.Sym

namespace Go.Proofs.YtkamdppnnhjajaaDoor.Sym
open Go Go.RowKit
set_option maxRecDepth 100000
set_option maxHeartbeats 1600000
set_option linter.unusedVariables false
set_option linter.unusedSimpArgs false
theorem WNum_m0 (b : Nat) (s : ByteArray) (eX : Int) (hs : s.size ≤ 1000000000) : SpecX Tryd.prog 82 [.ptr 0 b 0] [(0, ⟨b, 90, [.str s, .int .i64 eX]⟩)] (fun _ => ⟨.tup [.int .u64 (numV s), .int .i64 (numE s)], [(0, [.str (numR s), .int .i64 eX])], []⟩) := by
  intro m w hm hargs hpre
  have S1 := getNum_s s hs
  obtain ⟨hn0, hn1, hnr⟩ := numN_ok s
  have C0 := num_rest s
  obtain ⟨hnv0, hnv1⟩ := numV_u64 s
  replace C0 := C0.2
  generalize numV s = v at S1 C0 hnv0 hnv1 ⊢
  generalize numE s = e at S1 C0 ⊢
  generalize numN s = n at S1 hn0 hn1 hnr
  generalize numR s = r at C0 hnr ⊢
  refine enterX hm hpre hargs Tryd.func82 rfl (by simp [Tryd.ntmps82]) fun a0 hF => ?_
  simp only [Tryd.ntmps82, startT] at hF
  obtain ⟨B, hB⟩ : ∃ B, B = std := ⟨_, rfl⟩
  refine wp_seq ?_
  apply region_okB hB T82_ok [0] [0] [] hF
  case hex => intro A X; conv => lhs; cbv
  case hob =>
    intro X
    subst hB
    simp [AllOb, Ob.holds, BE.den, std, stdCmp, stdArith] <;> omega
  case hQ =>
  intro X0 a0 w1 hF
  refine wp_seq ?_
  apply region_okB hB T82_ok [0, 4, 5, 6] [0] [(4, .r fun _ => .tup [.int .u64 v, .int .i64 n, .int .i64 e])] hF
  case hex => intro A X; conv => lhs; cbv
  case hob =>
    intro X
    subst hB; exact ⟨rfl, ⟨enters101, S1⟩, trivial⟩
  case hQ =>
  intro X1 a0 w1 hF
  refine wp_seq ?_
  refine wp_seq ?_
  apply region_okB hB T82_ok [17, 0, 4, 5, 6] [0] [] hF
  case hex => intro A X; conv => lhs; cbv
  case hob =>
    intro X
    subst hB
    simp [AllOb, Ob.holds, BE.den, std, stdCmp, stdArith] <;> omega
  case hQ =>
  intro X2 a0 w1 hF
  refine test_ok hF rfl (fun hb hF => ?_) (fun hb hF => ?_)
  · skip
    have he : e ≠ 0 := by subst hB; simpa [std, stdCmp] using hb
    obtain ⟨hv, hr⟩ := C0 he
    subst hv; subst hr
    refine wp_seq ?_
    apply region_okB hB T82_ok [2, 3] [0] [] hF
    case hex => intro A X; conv => lhs; cbv
    case hob =>
      intro X
      subst hB
      simp [AllOb, Ob.holds, BE.den, std, stdCmp, stdArith] <;> omega
    case hQ =>
    intro X3 a0 w1 hF
    refine wp_ret ?_
    refine (ret_x (fn := Tryd.f82) T82_ok hF (rs := [.tmp 2, .tmp 3]) rfl (rfl) ?_ noAtom [] ?_ ?_ ?_).1
    · subst hB; simp [AllOb, Ob.holds]
    · subst hB; exact Sim.refl _
    · subst hB; first | exact trivial | exact ⟨rfl, ⟨_, rfl, SimL.refl _⟩, trivial⟩
    · exact trivial
  · skip
    have he : e = 0 := by subst hB; simpa [std, stdCmp] using hb
    subst he
    refine wp_skip ?_
    refine wp_seq ?_
    apply region_okB hB T82_ok [4] [0] [] hF
    case hex => intro A X; conv => lhs; cbv
    case hob =>
      intro X
      subst hB; exact ⟨rfl, ⟨hn0, hn1, Int.le_refl _⟩, rfl, trivial⟩
    case hQ =>
    intro X4 a0 w1 hF
    refine wp_seq ?_
    apply region_okB hB T82_ok [2, 3] [0] [] hF
    case hex => intro A X; conv => lhs; cbv
    case hob =>
      intro X
      subst hB
      simp [AllOb, Ob.holds, BE.den, std, stdCmp, stdArith] <;> omega
    case hQ =>
    intro X5 a0 w1 hF
    refine wp_ret ?_
    refine (ret_x (fn := Tryd.f82) T82_ok hF (rs := [.tmp 2, .tmp 3]) rfl (rfl) ?_ noAtom [] ?_ ?_ ?_).1
    · subst hB; simp [AllOb, Ob.holds]
    · subst hB; exact Sim.refl _
    · subst hB; rw [← hnr]; exact ⟨rfl, ⟨_, rfl, SimL.refl _⟩, trivial⟩
    · exact trivial
theorem WNum_m (k0 : Nat) (b : Nat) (s : ByteArray) (eX : Int) (hs : s.size ≤ 1000000000) : SpecX Tryd.prog 82 [.ptr k0 b 0] [(k0, ⟨b, 90, [.str s, .int .i64 eX]⟩)] (fun _ => ⟨.tup [.int .u64 (numV s), .int .i64 (numE s)], [(k0, [.str (numR s), .int .i64 eX])], []⟩) :=
  (WNum_m0 b s eX hs).re (by repeat (first | exact trivial | refine ⟨Sim.ptr, ?_⟩ | refine ⟨Sim.fn ⟨Sim.ptr, trivial⟩ trivial, ?_⟩ | refine ⟨Sim.fn trivial ⟨Sim.ptr, trivial⟩, ?_⟩ | refine ⟨Sim.refl _, ?_⟩)) rfl (fun x => ⟨rfl, rfl, Sim.refl _, rfl⟩)
theorem WTxt_m0 (b : Nat) (s : ByteArray) (eX : Int) (hs : s.size ≤ 1000000000) : SpecX Tryd.prog 107 [.ptr 0 b 0] [(0, ⟨b, 90, [.str s, .int .i64 eX]⟩)] (fun _ => ⟨.tup [.str (txtV s), .int .i64 (txtE s)], [(0, [.str (txtR s), .int .i64 eX])], []⟩) := by
  intro m w hm hargs hpre
  have S1 := getNum_s s hs
  obtain ⟨hn0, hn1, hnr⟩ := numN_ok s
  have C1 := num_cases s
  have C2 := num_rest s
  obtain ⟨hnv0, hnv1⟩ := numV_u64 s
  replace C2 := C2.1
  generalize numV s = v at S1 C1 hnv0 hnv1
  generalize numE s = e at S1 C1 C2
  generalize numN s = n at S1 hn0 hn1 hnr
  generalize numQ s = q at C1 C2
  generalize numR s = r at C2 hnr
  refine enterX hm hpre hargs Tryd.func107 rfl (by simp [Tryd.ntmps107]) fun a0 hF => ?_
  simp only [Tryd.ntmps107, startT] at hF
  obtain ⟨B, hB⟩ : ∃ B, B = std := ⟨_, rfl⟩
  refine wp_seq ?_
  apply region_okB hB T107_ok [0] [0] [] hF
  case hex => intro A X; conv => lhs; cbv
  case hob =>
    intro X
    subst hB
    simp [AllOb, Ob.holds, BE.den, std, stdCmp, stdArith] <;> omega
  case hQ =>
  intro X0 a0 w1 hF
  refine wp_seq ?_
  apply region_okB hB T107_ok [0, 4, 5, 6] [0] [(4, .r fun _ => .tup [.int .u64 v, .int .i64 n, .int .i64 e])] hF
  case hex => intro A X; conv => lhs; cbv
  case hob =>
    intro X
    subst hB; exact ⟨rfl, ⟨enters101, S1⟩, trivial⟩
  case hQ =>
  intro X1 a0 w1 hF
  refine wp_seq ?_
  refine wp_seq ?_
  apply region_okB hB T107_ok [18, 0, 4, 5, 6] [0] [] hF
  case hex => intro A X; conv => lhs; cbv
  case hob =>
    intro X
    subst hB
    simp [AllOb, Ob.holds, BE.den, std, stdCmp, stdArith] <;> omega
  case hQ =>
  intro X2 a0 w1 hF
  refine test_ok hF rfl (fun hb hF => ?_) (fun hb hF => ?_)
  · skip
    have hd : decN (unB s) = .error e := by
      rcases C1 with ⟨h1, h2, h3⟩ | ⟨h1, n, r, h2, h3, h4⟩
      · exact h2
      · subst hB; rw [h1] at hb; cases hb
    have hV : txtV s = ⟨#[]⟩ := by simp only [txtV, decT, hd]; rfl
    have hE : txtE s = e := by simp only [txtE, decT, hd]; rfl
    have hR : txtR s = s := by simp only [txtR, decT, hd]; exact mk_un s
    refine wp_seq ?_
    apply region_okB hB T107_ok [2, 3] [0] [] hF
    case hex => intro A X; conv => lhs; cbv
    case hob =>
      intro X
      subst hB
      simp [AllOb, Ob.holds, BE.den, std, stdCmp, stdArith] <;> omega
    case hQ =>
    intro X3 a0 w1 hF
    refine wp_ret ?_
    refine (ret_x (fn := Tryd.f107) T107_ok hF (rs := [.tmp 2, .tmp 3]) rfl (rfl) ?_ noAtom [] ?_ ?_ ?_).1
    · subst hB; simp [AllOb, Ob.holds]
    · subst hB; rw [hV, hE]; exact Sim.refl _
    · subst hB; rw [hR]; exact ⟨rfl, ⟨_, rfl, SimL.refl _⟩, trivial⟩
    · exact trivial
  · skip
    have hd : e = 0 ∧ ∃ n r, decN (unB s) = .ok (n, r) ∧ v = (n : Int) ∧ q = mkB r := by
      rcases C1 with ⟨h1, h2, h3⟩ | ⟨h1, h2⟩
      · subst hB; exact absurd (show e = 0 by simpa [std, stdCmp] using hb) h1
      · exact ⟨h1, h2⟩
    obtain ⟨he, m1, r1, hd, hvn, hqr⟩ := hd
    rw [C2 he] at hqr
    rw [hqr] at hnr
    have hr1 : unB s = (unB s).take n.toNat ++ r1 := by
      have h1 := congrArg unB hnr
      rw [un_mk, un_extract, List.take_of_length_le (by rw [un_size]; exact Nat.le_refl _)] at h1
      rw [← h1, List.take_append_drop]
    have hlen : r1.length = s.size - n.toNat := by
      have h1 := congrArg unB hnr
      rw [un_mk, un_extract, List.take_of_length_le (by rw [un_size]; exact Nat.le_refl _)] at h1
      rw [← h1, List.length_drop, un_size]
    refine wp_skip ?_
    refine wp_seq ?_
    refine wp_seq ?_
    apply region_okB hB T107_ok [21, 0, 4, 5] [0] [] hF
    case hex => intro A X; conv => lhs; cbv
    case hob =>
      intro X
      subst hB
      simp [AllOb, Ob.holds, BE.den, std, stdCmp, stdArith] <;> omega
    case hQ =>
    intro X4 a0 w1 hF
    refine test_ok hF rfl (fun hb hF => ?_) (fun hb hF => ?_)
    · skip
      have hn : 4096 < m1 := by
        have : (4096 : Int) < v := by subst hB; simpa [std, stdCmp] using hb
        omega
      have hV : txtV s = ⟨#[]⟩ := by simp only [txtV, decT, hd, hn, if_true]; rfl
      have hE : txtE s = 3 := by simp only [txtE, decT, hd, hn, if_true]; rfl
      have hR : txtR s = s := by simp only [txtR, decT, hd, hn, if_true]; exact mk_un s
      refine wp_seq ?_
      apply region_okB hB T107_ok [2, 3] [0] [] hF
      case hex => intro A X; conv => lhs; cbv
      case hob =>
        intro X
        subst hB
        simp [AllOb, Ob.holds, BE.den, std, stdCmp, stdArith] <;> omega
      case hQ =>
      intro X5 a0 w1 hF
      refine wp_ret ?_
      refine (ret_x (fn := Tryd.f107) T107_ok hF (rs := [.tmp 2, .tmp 3]) rfl (rfl) ?_ noAtom [] ?_ ?_ ?_).1
      · subst hB; simp [AllOb, Ob.holds]
      · subst hB; rw [hV, hE]; exact Sim.refl _
      · subst hB; rw [hR]; exact ⟨rfl, ⟨_, rfl, SimL.refl _⟩, trivial⟩
      · exact trivial
    · skip
      have hn : ¬ 4096 < m1 := by
        have : ¬ (4096 : Int) < v := by subst hB; simpa [std, stdCmp] using hb
        omega
      have ev : IntKind.i64.wrap v = v := wrap_in (by omega) (by omega)
      have esub : IntKind.i64.wrap ((s.size : Int) - n) = (s.size : Int) - n := wrap_in (by omega) (by omega)
      refine wp_skip ?_
      refine wp_seq ?_
      refine wp_seq ?_
      apply region_okB hB T107_ok [31, 0, 4, 5] [0] [] hF
      case hex => intro A X; conv => lhs; cbv
      case hob =>
        intro X
        subst hB; exact ⟨rfl, trivial⟩
      case hQ =>
      intro X6 a0 w1 hF
      refine test_ok hF rfl (fun hb hF => ?_) (fun hb hF => ?_)
      · skip
        have hr : r1.length < m1 := by
          have : IntKind.i64.wrap ((s.size : Int) - n) < IntKind.i64.wrap v := by subst hB; simpa [std, stdCmp, stdArith] using hb
          rw [esub, ev] at this
          omega
        have hV : txtV s = ⟨#[]⟩ := by simp only [txtV, decT, hd, hn, hr, if_true, if_false]; rfl
        have hE : txtE s = 4 := by simp only [txtE, decT, hd, hn, hr, if_true, if_false]; rfl
        have hR : txtR s = s := by simp only [txtR, decT, hd, hn, hr, if_true, if_false]; exact mk_un s
        refine wp_seq ?_
        apply region_okB hB T107_ok [2, 3] [0] [] hF
        case hex => intro A X; conv => lhs; cbv
        case hob =>
          intro X
          subst hB
          simp [AllOb, Ob.holds, BE.den, std, stdCmp, stdArith] <;> omega
        case hQ =>
        intro X7 a0 w1 hF
        refine wp_ret ?_
        refine (ret_x (fn := Tryd.f107) T107_ok hF (rs := [.tmp 2, .tmp 3]) rfl (rfl) ?_ noAtom [] ?_ ?_ ?_).1
        · subst hB; simp [AllOb, Ob.holds]
        · subst hB; rw [hV, hE]; exact Sim.refl _
        · subst hB; rw [hR]; exact ⟨rfl, ⟨_, rfl, SimL.refl _⟩, trivial⟩
        · exact trivial
      · skip
        have hr : ¬ r1.length < m1 := by
          have : ¬ IntKind.i64.wrap ((s.size : Int) - n) < IntKind.i64.wrap v := by subst hB; simpa [std, stdCmp, stdArith] using hb
          rw [esub, ev] at this
          omega
        have eadd : IntKind.i64.wrap (n + IntKind.i64.wrap v) = n + v := by rw [ev]; exact wrap_in (by omega) (by omega)
        have hV : txtV s = s.extract n.toNat (n + v).toNat := by
          simp only [txtV, decT, hd, hn, hr, if_false]
          apply un_inj
          rw [un_extract, hr1]
          show unB (mkB (r1.take m1)) = _
          rw [un_mk, show (n + v).toNat = n.toNat + m1 by omega]
          exact cut_mid ((unB s).take n.toNat) r1 n.toNat m1 (by rw [List.length_take, un_size]; omega)
        have hE : txtE s = 0 := by simp only [txtE, decT, hd, hn, hr, if_false]; rfl
        have hR : txtR s = s.extract (n + v).toNat s.size := by
          simp only [txtR, decT, hd, hn, hr, if_false]
          apply un_inj
          rw [un_extract, show (unB s).take s.size = unB s from List.take_of_length_le (by rw [un_size]; exact Nat.le_refl _), hr1]
          show unB (mkB (r1.drop m1)) = _
          rw [un_mk, show (n + v).toNat = n.toNat + m1 by omega]
          exact cut_end ((unB s).take n.toNat) r1 n.toNat m1 (by rw [List.length_take, un_size]; omega)
        refine wp_skip ?_
        refine wp_seq ?_
        apply region_okB hB T107_ok [0, 4, 5, 7] [0] [] hF
        case hex => intro A X; conv => lhs; cbv
        case hob =>
          intro X
          subst hB
          refine ⟨rfl, ⟨hn0, ?_, ?_⟩, trivial⟩
          · show n ≤ IntKind.i64.wrap (n + IntKind.i64.wrap v); rw [eadd]; omega
          · show IntKind.i64.wrap (n + IntKind.i64.wrap v) ≤ (s.size : Int); rw [eadd]; omega
        case hQ =>
        intro X8 a0 w1 hF
        refine wp_seq ?_
        apply region_okB hB T107_ok [7] [0] [] hF
        case hex => intro A X; conv => lhs; cbv
        case hob =>
          intro X
          subst hB
          refine ⟨rfl, ⟨?_, ?_, Int.le_refl _⟩, rfl, trivial⟩
          · show 0 ≤ IntKind.i64.wrap (n + IntKind.i64.wrap v); rw [eadd]; omega
          · show IntKind.i64.wrap (n + IntKind.i64.wrap v) ≤ (s.size : Int); rw [eadd]; omega
        case hQ =>
        intro X9 a0 w1 hF
        refine wp_seq ?_
        apply region_okB hB T107_ok [2, 3] [0] [] hF
        case hex => intro A X; conv => lhs; cbv
        case hob =>
          intro X
          subst hB
          simp [AllOb, Ob.holds, BE.den, std, stdCmp, stdArith] <;> omega
        case hQ =>
        intro X10 a0 w1 hF
        refine wp_ret ?_
        refine (ret_x (fn := Tryd.f107) T107_ok hF (rs := [.tmp 2, .tmp 3]) rfl (rfl) ?_ noAtom [] ?_ ?_ ?_).1
        · subst hB; simp [AllOb, Ob.holds]
        · subst hB; rw [hV, hE, ← eadd]; exact Sim.refl _
        · subst hB; rw [hR, ← eadd]; exact ⟨rfl, ⟨_, rfl, SimL.refl _⟩, trivial⟩
        · exact trivial
theorem WTxt_m (k0 : Nat) (b : Nat) (s : ByteArray) (eX : Int) (hs : s.size ≤ 1000000000) : SpecX Tryd.prog 107 [.ptr k0 b 0] [(k0, ⟨b, 90, [.str s, .int .i64 eX]⟩)] (fun _ => ⟨.tup [.str (txtV s), .int .i64 (txtE s)], [(k0, [.str (txtR s), .int .i64 eX])], []⟩) :=
  (WTxt_m0 b s eX hs).re (by repeat (first | exact trivial | refine ⟨Sim.ptr, ?_⟩ | refine ⟨Sim.fn ⟨Sim.ptr, trivial⟩ trivial, ?_⟩ | refine ⟨Sim.fn trivial ⟨Sim.ptr, trivial⟩, ?_⟩ | refine ⟨Sim.refl _, ?_⟩)) rfl (fun x => ⟨rfl, rfl, Sim.refl _, rfl⟩)
theorem WPlc_m0 (b : Nat) (s : ByteArray) (eX : Int) : SpecX Tryd.prog 83 [.ptr 0 b 0] [(0, ⟨b, 90, [.str s, .int .i64 eX]⟩)] (fun _ => ⟨.tup [.agg (keyC (kI (plcV s))), .int .i64 (plcE s)], [(0, [.str (plcR s), .int .i64 eX])], []⟩) := by
  intro m w hm hargs hpre
  have C1 : ∀ K : Nat → Int, (∀ j, j < 20 → K j = if 20 ≤ s.size then kI (unB s) j else 0) → keyC K = keyC (kI (plcV s)) := by
    intro K h
    rw [keyC_eq, keyC_eq]
    apply List.map_congr_left
    intro j hj
    have hj : j < 20 := List.mem_range.1 hj
    rw [h j hj]
    by_cases hn : 20 ≤ s.size
    · simp only [hn, if_true, plcV, kI, List.getElem?_take, hj]
    · simp only [hn, if_false, plcV, kI_zero]
  have C2 : (20 ≤ s.size → plcE s = 0 ∧ plcR s = mkB ((unB s).drop 20)) ∧ (¬ 20 ≤ s.size → plcE s = 4 ∧ plcR s = s) := ⟨fun h => by simp [plcE, plcR, h], fun h => by simp [plcE, plcR, h]⟩
  generalize plcE s = e at C2 ⊢
  generalize plcR s = r at C2 ⊢
  generalize kI (plcV s) = V at C1 ⊢
  refine enterX hm hpre hargs Tryd.func83 rfl (by simp [Tryd.ntmps83]) fun a0 hF => ?_
  simp only [Tryd.ntmps83, startT] at hF
  obtain ⟨B, hB⟩ : ∃ B, B = std := ⟨_, rfl⟩
  refine wp_seq ?_
  apply region_okB hB T83_ok [0, 2] [0, 2] [] hF
  case hex => intro A X; conv => lhs; cbv
  case hob =>
    intro X
    subst hB
    simp [AllOb, Ob.holds, BE.den, std, stdCmp, stdArith] <;> omega
  case hQ =>
  intro X0 a0 w1 hF
  refine wp_seq ?_
  apply region_okB hB T83_ok [0, 2, 4] [0, 2, 4] [] hF
  case hex => intro A X; conv => lhs; cbv
  case hob =>
    intro X
    subst hB
    simp [AllOb, Ob.holds, BE.den, std, stdCmp, stdArith] <;> omega
  case hQ =>
  intro X1 a0 w1 hF
  refine wp_seq ?_
  refine wp_seq ?_
  apply region_okB hB T83_ok [11, 0, 2, 4] [0, 2, 4] [] hF
  case hex => intro A X; conv => lhs; cbv
  case hob =>
    intro X
    subst hB; exact ⟨rfl, trivial⟩
  case hQ =>
  intro X2 a0 w1 hF
  refine test_ok hF rfl (fun hb hF => ?_) (fun hb hF => ?_)
  · skip
    have hn : ¬ 20 ≤ s.size := by
      have : (s.size : Int) < 20 := by subst hB; simpa [std, stdCmp] using hb
      omega
    obtain ⟨he, hr⟩ := C2.2 hn
    have hV := C1 (fun _ => 0) (fun j hj => by simp [hn])
    subst he; subst hr
    refine wp_seq ?_
    apply region_okB hB T83_ok [2, 3] [0, 2] [] hF
    case hex => intro A X; conv => lhs; cbv
    case hob =>
      intro X
      subst hB; exact ⟨rfl, rfl, trivial⟩
    case hQ =>
    intro X3 a0 w1 hF
    refine wp_ret ?_
    refine (ret_x (fn := Tryd.f83) T83_ok hF (rs := [.cell 2 24, .tmp 3]) rfl (by conv => lhs; cbv) ?_ noAtom [] ?_ ?_ ?_).1
    · subst hB; simp [AllOb, Ob.holds]
    · subst hB; rw [← hV]; exact Sim.refl _
    · subst hB; first | exact trivial | exact ⟨rfl, ⟨_, rfl, SimL.refl _⟩, trivial⟩
    · exact trivial
  · skip
    have hn : 20 ≤ s.size := by
      have : ¬ (s.size : Int) < 20 := by subst hB; simpa [std, stdCmp] using hb
      omega
    obtain ⟨he, hr⟩ := C2.1 hn
    simp only [hn, if_true] at C1
    refine wp_skip ?_
    refine wp_seq ?_
    refine wp_seq ?_
    apply region_okB hB T83_ok [5, 0, 2, 4] [4, 0, 2] [] hF
    case hex => intro A X; conv => lhs; cbv
    case hob =>
      intro X
      subst hB
      simp [AllOb, Ob.holds, BE.den, std, stdCmp, stdArith] <;> omega
    case hQ =>
    intro X4 a0 w1 hF
    refine wp_block ?_
    refine loop_pre (ι := Nat × (Nat → Int)) (fun p => [(5, .int .i64 (p.1 : Int))]) (fun p => [(4, ⟨(X1 0).b, 24, keyC p.2⟩)]) (fun p => []) (fun p => p.1 ≤ 20 ∧ p.2 = fun j => if j < p.1 then kI (unB s) j else 0) (fun p => 20 - p.1) (0, fun _ => 0) ⟨Nat.zero_le _, by funext j; simp⟩ hF ?_
    rintro ⟨i, K⟩ ⟨hi, hK⟩ a0 w1 hF
    try dsimp only at hi
    try dsimp only at hK
    refine wp_seq ?_
    refine wp_seq ?_
    apply region_okB hB T83_ok [14, 0, 2, 4, 5] [0, 2, 4] [] hF
    case hex => intro A X; conv => lhs; cbv
    case hob =>
      intro X
      subst hB
      simp [AllOb, Ob.holds, BE.den, std, stdCmp, stdArith] <;> omega
    case hQ =>
    intro X5 a0 w1 hF
    refine test_ok hF rfl (fun hb hF => ?_) (fun hb hF => ?_)
    · skip
      have hin : i < 20 := by
        have : (i : Int) < 20 := by subst hB; simpa [std, stdCmp] using hb
        omega
      refine wp_skip ?_
      refine wp_seq ?_
      refine wp_block ?_
      refine wp_region_lit ?_
      apply list_preB 0 7 hB T83_ok [17, 23, 0, 2, 4, 5] [4, 0, 2] [] hF
      case hex => intro A X; conv => lhs; cbv
      case hob =>
        intro X
        subst hB
        refine ⟨rfl, ⟨?_, ?_⟩, trivial⟩
        · show (0 : Int) ≤ (i : Int); omega
        · show (i : Int) < (s.size : Int); omega
      case hQ =>
      intro X7_0 a0 w1 hF
      refine man_iaddr (j := (i : Int)) rfl rfl rfl rfl hF (Nat.le_of_ble_eq_true rfl) rfl rfl arr24 bsz ⟨by omega, by omega⟩ fun a0 hF => ?_
      refine man_astore (T := T83) (ti := ti5) (blk := ⟨_, 24, keyC K⟩) (cells' := keyC (fun j => if j = i then B.sat s (B.toNat (i : Int)) else K j)) rfl rfl rfl rfl hF rfl rfl t5 rfl rfl rfl (by rw [Int.toNat_natCast, Nat.zero_add]; exact hin) rfl rfl (by rw [Int.toNat_natCast, Nat.zero_add]; exact keyC_set K i _) fun a0 w1 hF => ?_
      refine wpList_nil ?_
      apply region_okB hB T83_ok [5, 0, 2, 4] [4, 0, 2] [] hF
      case hex => intro A X; conv => lhs; cbv
      case hob =>
        intro X
        subst hB
        simp [AllOb, Ob.holds, BE.den, std, stdCmp, stdArith] <;> omega
      case hQ =>
      intro X6 a0 w1 hF
      have e1 : B.arith .add .i64 (i : Int) 1 = ((i + 1 : Nat) : Int) := by subst hB; exact wrap_succ (n := 20) hin (by decide)
      refine ⟨(i + 1, fun j => if j = i then B.sat s (B.toNat (i : Int)) else K j), ⟨by simp only; omega, ?_⟩, by simp only; omega, by rw [← e1]; exact hF⟩
      subst hB
      funext j
      show (if j = i then ((s[((i : Int)).toNat]?.getD 0).toNat : Int) else K j) = _
      rw [Int.toNat_natCast, hK, un_get]
      by_cases hj : j = i
      · subst hj; simp [kI]
      · by_cases h2 : j < i
        · have h3 : j < i + 1 := by omega
          simp [hj, h2, h3]
        · have h3 : ¬ j < i + 1 := by omega
          simp [hj, h2, h3]
    · skip
      have hout : i = 20 := by
        have : ¬ (i : Int) < 20 := by subst hB; simpa [std, stdCmp] using hb
        omega
      have hV := C1 K (fun j hj => by rw [hK]; exact if_pos (by omega))
      subst he; subst hr
      refine wp_exit ?_
      refine wp_seq ?_
      apply region_okB hB T83_ok [2, 4] [0, 2, 4] [] hF
      case hex => intro A X; conv => lhs; cbv
      case hob =>
        intro X
        subst hB
        exact ⟨rfl, ⟨by decide, by show (20 : Int) ≤ (s.size : Int); omega, Int.le_refl _⟩, rfl, trivial⟩
      case hQ =>
      intro X8 a0 w1 hF
      refine wp_seq ?_
      apply region_okB hB T83_ok [2, 3] [0, 2] [] hF
      case hex => intro A X; conv => lhs; cbv
      case hob =>
        intro X
        subst hB; exact ⟨rfl, rfl, trivial⟩
      case hQ =>
      intro X9 a0 w1 hF
      refine wp_ret ?_
      refine (ret_x (fn := Tryd.f83) T83_ok hF (rs := [.cell 2 24, .tmp 3]) rfl (by conv => lhs; cbv) ?_ noAtom [] ?_ ?_ ?_).1
      · subst hB; simp [AllOb, Ob.holds]
      · subst hB; rw [← hV]; exact Sim.refl _
      · subst hB
        refine ⟨rfl, ⟨_, rfl, ?_⟩, trivial⟩
        show SimL [.str (s.extract 20 s.size), .int .i64 eX] _
        rw [show s.extract 20 s.size = mkB ((unB s).drop 20) from un_inj (by rw [un_extract, un_mk, List.take_of_length_le (by rw [un_size]; exact Nat.le_refl _)])]
        exact SimL.refl _
      · exact trivial
theorem WPlc_m (k0 : Nat) (b : Nat) (s : ByteArray) (eX : Int) : SpecX Tryd.prog 83 [.ptr k0 b 0] [(k0, ⟨b, 90, [.str s, .int .i64 eX]⟩)] (fun _ => ⟨.tup [.agg (keyC (kI (plcV s))), .int .i64 (plcE s)], [(k0, [.str (plcR s), .int .i64 eX])], []⟩) :=
  (WPlc_m0 b s eX).re (by repeat (first | exact trivial | refine ⟨Sim.ptr, ?_⟩ | refine ⟨Sim.fn ⟨Sim.ptr, trivial⟩ trivial, ?_⟩ | refine ⟨Sim.fn trivial ⟨Sim.ptr, trivial⟩, ?_⟩ | refine ⟨Sim.refl _, ?_⟩)) rfl (fun x => ⟨rfl, rfl, Sim.refl _, rfl⟩)
end Go.Proofs.YtkamdppnnhjajaaDoor.Sym

namespace Go.Proofs.YtkamdppnnhjajaaDoor.Sym
open Go Go.RowKit
set_option maxRecDepth 100000
set_option maxHeartbeats 1600000
set_option linter.unusedVariables false
set_option linter.unusedSimpArgs false
/-- what is left is no more than there was -/
def Shr {α : Type} (D : RS → α × RS) : Prop := ∀ r, (D r).2.s.size ≤ r.s.size
theorem shr_get {α : Type} {d V : α} {E : Int} {R : ByteArray} {ok : Bool} {r : RS} (h : R.size ≤ r.s.size) : (getG d V E R ok r).2.s.size ≤ r.s.size := by
  unfold getG
  split
  · exact Nat.le_refl _
  · split
    · exact h
    · split <;> exact h
theorem numR_le (s : ByteArray) : (numR s).size ≤ s.size := by
  rcases num_cases s with ⟨h1, h2, h3⟩ | ⟨h1, n, r, h2, h3, h4⟩
  · rw [((num_rest s).2 h1).2]; exact Nat.le_refl _
  · have := (decN_ok h2).1
    rw [← (num_rest s).1 h1, h4, mk_size, ← un_size s, this, List.length_append]; omega
theorem txtR_le (s : ByteArray) : (txtR s).size ≤ s.size := by
  cases h : decT (unB s) with
  | error e => simp only [txtR, h, mk_size, Dec.rest, un_size]; omega
  | ok x =>
    obtain ⟨t, r⟩ := x
    have := (decT_ok h).1
    simp only [txtR, h, mk_size, Dec.rest]
    rw [← un_size s, this, List.length_append]; omega
theorem shr_num (d lo hi : Int) : Shr (numD d lo hi) := fun r => shr_get (numR_le _)
theorem shr_whole : Shr wholeD := shr_num _ _ _
theorem shr_flag : Shr flagD := fun r => shr_num 0 0 1 r
theorem shr_val (h : Bool) : Shr (valD h) := fun r => shr_get (txtR_le _)
theorem shr_plc : Shr plcD := fun r => shr_get (by
  unfold plcR
  split
  · rw [mk_size, List.length_drop, un_size]; omega
  · exact Nat.le_refl _)
theorem shr_rcode (a b : Bool) : Shr (rcodeD a b) := fun r => by
  have := shr_num 0 0 13 r
  unfold rcodeD rnumD
  simp only
  split <;> exact this
def T48 : List (Nat × TI) := [(22, ti22), (27, ti27), (88, ti88), (90, ti90)]
theorem T48_ok : TabOK Tryd.prog T48 := .cons t22 (.cons t27 (.cons t88 (.cons t90 (.nil))))
theorem enters48 : Enters Tryd.prog 48 := fun _ _ => by kernel_rfl
theorem qnum_m0 (b : Nat) (s : ByteArray) (e : Int) (hs : s.size ≤ 1000000000) (lo hi : Int) : SpecX Tryd.prog 48 [.ptr 0 b 0, .int .u64 lo, .int .u64 hi] [(0, ⟨b, 90, [.str s, .int .i64 e]⟩)] (fun _ => ⟨.int .u64 (rnumD lo hi (⟨e, s⟩ : RS)).1, [(0, [.str (rnumD lo hi (⟨e, s⟩ : RS)).2.s, .int .i64 (rnumD lo hi (⟨e, s⟩ : RS)).2.e])], []⟩) := by
  intro m w hm hargs hpre
  have S1 := WNum_m 0 b s e hs
  have hER : numE s ≠ 0 → numR s = s := fun h => ((num_rest s).2 h).2
  obtain ⟨v, hv⟩ : ∃ v, v = numV s := ⟨_, rfl⟩
  obtain ⟨ee, hee⟩ : ∃ v, v = numE s := ⟨_, rfl⟩
  obtain ⟨q, hq⟩ : ∃ v, v = numR s := ⟨_, rfl⟩
  obtain ⟨ok, hok⟩ : ∃ ok, ok = (decide (lo ≤ numV s) && decide (numV s ≤ hi)) := ⟨_, rfl⟩
  have hO : rnumD lo hi (⟨e, s⟩ : RS) = getG lo v ee q ok (⟨e, s⟩ : RS) := by rw [hok, hv, hee, hq]; rfl
  rw [← hv] at S1
  rw [← hee] at S1 hER
  rw [← hq] at S1 hER
  rw [← hv] at hok
  rw [hO]
  refine enterX hm hpre hargs Tryd.func48 rfl (by simp [Tryd.ntmps48]) fun a0 hF => ?_
  simp only [Tryd.ntmps48, startT] at hF
  obtain ⟨B, hB⟩ : ∃ B, B = std := ⟨_, rfl⟩
  refine wp_seq ?_
  apply region_okB hB T48_ok [0, 1, 2] [0] [] hF
  case hex => intro A X; conv => lhs; cbv
  case hob =>
    intro X
    subst hB
    simp [AllOb, Ob.holds, BE.den, std, stdCmp, stdArith] <;> omega
  case hQ =>
  intro X0 a0 w1 hF
  refine wp_seq ?_
  refine wp_seq ?_
  apply region_okB hB T48_ok [13, 0, 1, 2] [0] [] hF
  case hex => intro A X; conv => lhs; cbv
  case hob =>
    intro X
    subst hB
    simp only [AllOb, Ob.holds, BE.den, List.mem_cons, List.not_mem_nil, or_false, forall_eq_or_imp, forall_eq] <;> (and_intros <;> first | trivial | (intro h; trivial) | rfl | (intro h; rfl))
  case hQ =>
  intro X1 a0 w1 hF
  refine test_ok hF rfl (fun hb hF => ?_) (fun hb hF => ?_)
  · skip
    have he : e ≠ 0 := by subst hB; simpa [std, stdCmp] using hb
    have hg : getG lo v ee q ok (⟨e, s⟩ : RS) = (lo, (⟨e, s⟩ : RS)) := by
      simp only [getG]; rw [if_pos he]
    refine wp_seq ?_
    apply region_okB hB T48_ok [6] [0] [] hF
    case hex => intro A X; conv => lhs; cbv
    case hob =>
      intro X
      subst hB
      simp [AllOb, Ob.holds, BE.den, std, stdCmp, stdArith] <;> omega
    case hQ =>
    intro X2 a0 w1 hF
    refine wp_ret ?_
    refine (ret_x (fn := Tryd.f48) T48_ok hF (rs := [.tmp 6]) rfl (rfl) ?_ noAtom [] ?_ ?_ ?_).1
    · subst hB; simp [AllOb, Ob.holds]
    · subst hB; rw [hg]; exact Sim.refl _
    · subst hB; rw [hg]; exact ⟨rfl, ⟨_, rfl, SimL.refl _⟩, trivial⟩
    · exact trivial
  · skip
    have he : e = 0 := by subst hB; simpa [std, stdCmp] using hb
    refine wp_skip ?_
    refine wp_seq ?_
    apply region_okB hB T48_ok [0, 1, 2, 7, 8] [0] [(3, .x fun _ => ⟨.tup [.int .u64 v, .int .i64 ee], [(0, [.str q, .int .i64 e])], []⟩)] hF
    case hex => intro A X; conv => lhs; cbv
    case hob =>
      intro X
      subst hB
      simp only [AllOb, Ob.holds, BE.den, List.mem_cons, List.not_mem_nil, or_false, forall_eq_or_imp, forall_eq] <;> (and_intros <;> first | trivial | (intro h; trivial) | exact enters82 | exact S1 | exact ⟨enters82, S1⟩ | (intro h; exact ⟨enters82, S1⟩) | rfl | (intro h; rfl))
    case hQ =>
    intro X3 a0 w1 hF
    refine wp_seq ?_
    refine wp_seq ?_
    apply region_okB hB T48_ok [33, 8, 0, 1, 7] [0] [] hF
    case hex => intro A X; conv => lhs; cbv
    case hob =>
      intro X
      subst hB
      simp only [AllOb, Ob.holds, BE.den, List.mem_cons, List.not_mem_nil, or_false, forall_eq_or_imp, forall_eq] <;> (and_intros <;> first | trivial | (intro h; trivial) | rfl | (intro h; rfl))
    case hQ =>
    intro X4 a0 w1 hF
    refine cut_one (ι := Int) (S0 := [(33, _), (8, _)]) (M0 := []) (G0 := []) (fun p => [(8, .int .i64 p)]) (fun p => []) (fun p => []) (fun p => p = if ee = 0 ∧ ok = false then 3 else ee) hF ?_ ?_
    · skip
      refine test_ok hF rfl (fun hb hF => ?_) (fun hb hF => ?_)
      · skip
        have hp : ee = 0 ∧ ok = false := by
          subst hB
          simp only [std, stdCmp, BE.den, decide_eq_true_eq] at hb
          rw [hok]
          clear hF hargs hm hpre S1
          by_cases h0 : ee = 0 <;> by_cases h1 : lo ≤ v <;> by_cases h2 : v ≤ hi <;> simp_all <;> omega
        apply region_okB hB T48_ok [8, 0, 1, 7] [0] [] hF
        case hex => intro A X; conv => lhs; cbv
        case hob =>
          intro X
          subst hB
          simp [AllOb, Ob.holds, BE.den, std, stdCmp, stdArith] <;> omega
        case hQ =>
        intro X5 a0 w1 hF
        refine ⟨3, ?_, hF⟩
        rw [if_pos hp]
      · skip
        have hp : ¬ (ee = 0 ∧ ok = false) := by
          subst hB
          simp only [std, stdCmp, BE.den, decide_eq_true_eq] at hb
          rw [hok]
          clear hF hargs hm hpre S1
          by_cases h0 : ee = 0 <;> by_cases h1 : lo ≤ v <;> by_cases h2 : v ≤ hi <;> simp_all <;> omega
        refine wp_skip ?_
        refine ⟨ee, ?_, hF⟩
        rw [if_neg hp]
    · rintro ec hec a0 w1 hF
      try dsimp only at hec
      refine wp_seq ?_
      refine wp_seq ?_
      apply region_okB hB T48_ok [35, 0, 1, 7, 8] [0] [] hF
      case hex => intro A X; conv => lhs; cbv
      case hob =>
        intro X
        subst hB
        simp [AllOb, Ob.holds, BE.den, std, stdCmp, stdArith] <;> omega
      case hQ =>
      intro X6 a0 w1 hF
      refine test_ok hF rfl (fun hb hF => ?_) (fun hb hF => ?_)
      · skip
        have hne : ec ≠ 0 := by subst hB; simpa [std, stdCmp] using hb
        have hg : getG lo v ee q ok (⟨e, s⟩ : RS) = (lo, (⟨ec, q⟩ : RS)) := by
          simp only [getG]; rw [if_neg (by simpa using he)]
          by_cases hp : ee = 0 ∧ ok = false
          · rw [if_pos hp] at hec
            rw [if_neg (by simpa using hp.1), if_neg (by simp [hp.2]), hec]
          · rw [if_neg hp] at hec
            subst hec
            rw [if_pos hne]
        refine wp_seq ?_
        apply region_okB hB T48_ok [1] [0] [] hF
        case hex => intro A X; conv => lhs; cbv
        case hob =>
          intro X
          subst hB
          simp only [AllOb, Ob.holds, BE.den, List.mem_cons, List.not_mem_nil, or_false, forall_eq_or_imp, forall_eq] <;> (and_intros <;> first | trivial | (intro h; trivial) | rfl | (intro h; rfl))
        case hQ =>
        intro X7 a0 w1 hF
        refine wp_seq ?_
        apply region_okB hB T48_ok [6] [0] [] hF
        case hex => intro A X; conv => lhs; cbv
        case hob =>
          intro X
          subst hB
          simp [AllOb, Ob.holds, BE.den, std, stdCmp, stdArith] <;> omega
        case hQ =>
        intro X8 a0 w1 hF
        refine wp_ret ?_
        refine (ret_x (fn := Tryd.f48) T48_ok hF (rs := [.tmp 6]) rfl (rfl) ?_ noAtom [] ?_ ?_ ?_).1
        · subst hB; simp [AllOb, Ob.holds]
        · subst hB; rw [hg]; exact Sim.refl _
        · subst hB; rw [hg]; exact ⟨rfl, ⟨_, rfl, SimL.refl _⟩, trivial⟩
        · exact trivial
      · skip
        have hze : ec = 0 := by subst hB; simpa [std, stdCmp] using hb
        have hg : getG lo v ee q ok (⟨e, s⟩ : RS) = (v, (⟨0, q⟩ : RS)) := by
          simp only [getG]; rw [if_neg (by simpa using he)]
          by_cases hp : ee = 0 ∧ ok = false
          · rw [if_pos hp] at hec; omega
          · rw [if_neg hp] at hec
            have h0 : ee = 0 := by omega
            have h1 : ok = true := by
              cases ok with
              | true => rfl
              | false => exact absurd ⟨h0, rfl⟩ hp
            rw [if_neg (by simpa using h0), if_pos h1]
        refine wp_skip ?_
        refine wp_seq ?_
        apply region_okB hB T48_ok [6] [0] [] hF
        case hex => intro A X; conv => lhs; cbv
        case hob =>
          intro X
          subst hB
          simp [AllOb, Ob.holds, BE.den, std, stdCmp, stdArith] <;> omega
        case hQ =>
        intro X9 a0 w1 hF
        refine wp_ret ?_
        refine (ret_x (fn := Tryd.f48) T48_ok hF (rs := [.tmp 6]) rfl (rfl) ?_ noAtom [] ?_ ?_ ?_).1
        · subst hB; simp [AllOb, Ob.holds]
        · subst hB; rw [hg]; exact Sim.refl _
        · subst hB; rw [hg, show (0 : Int) = e from he.symm]; exact ⟨rfl, ⟨_, rfl, SimL.refl _⟩, trivial⟩
        · exact trivial
theorem qnum_m (k0 : Nat) (b : Nat) (s : ByteArray) (e : Int) (hs : s.size ≤ 1000000000) (lo hi : Int) : SpecX Tryd.prog 48 [.ptr k0 b 0, .int .u64 lo, .int .u64 hi] [(k0, ⟨b, 90, [.str s, .int .i64 e]⟩)] (fun _ => ⟨.int .u64 (rnumD lo hi (⟨e, s⟩ : RS)).1, [(k0, [.str (rnumD lo hi (⟨e, s⟩ : RS)).2.s, .int .i64 (rnumD lo hi (⟨e, s⟩ : RS)).2.e])], []⟩) :=
  (qnum_m0 b s e hs lo hi).re (by repeat (first | exact trivial | refine ⟨Sim.ptr, ?_⟩ | refine ⟨Sim.fn ⟨Sim.ptr, trivial⟩ trivial, ?_⟩ | refine ⟨Sim.fn trivial ⟨Sim.ptr, trivial⟩, ?_⟩ | refine ⟨Sim.refl _, ?_⟩)) rfl (fun x => ⟨rfl, rfl, Sim.refl _, rfl⟩)
def T49 : List (Nat × TI) := [(22, ti22), (86, ti86), (88, ti88), (90, ti90)]
theorem T49_ok : TabOK Tryd.prog T49 := .cons t22 (.cons t86 (.cons t88 (.cons t90 (.nil))))
theorem enters49 : Enters Tryd.prog 49 := fun _ _ => by kernel_rfl
theorem qany_m0 (b : Nat) (s : ByteArray) (e : Int) (hs : s.size ≤ 1000000000) : SpecX Tryd.prog 49 [.ptr 0 b 0] [(0, ⟨b, 90, [.str s, .int .i64 e]⟩)] (fun _ => ⟨.int .u64 (wholeD (⟨e, s⟩ : RS)).1, [(0, [.str (wholeD (⟨e, s⟩ : RS)).2.s, .int .i64 (wholeD (⟨e, s⟩ : RS)).2.e])], []⟩) := by
  intro m w hm hargs hpre
  have S1 := qnum_m 0 b s e hs 0 18446744073709551615
  have ho : rnumD 0 18446744073709551615 (⟨e, s⟩ : RS) = wholeD (⟨e, s⟩ : RS) := rfl
  simp only [ho] at S1
  obtain ⟨o, ho1⟩ : ∃ o, o = wholeD (⟨e, s⟩ : RS) := ⟨_, rfl⟩
  simp only [← ho1] at S1 ⊢
  obtain ⟨v1, e1, s1⟩ := o
  dsimp only at S1 ⊢
  refine enterX hm hpre hargs Tryd.func49 rfl (by simp [Tryd.ntmps49]) fun a0 hF => ?_
  simp only [Tryd.ntmps49, startT] at hF
  obtain ⟨B, hB⟩ : ∃ B, B = std := ⟨_, rfl⟩
  refine wp_seq ?_
  apply region_okB hB T49_ok [0] [0] [] hF
  case hex => intro A X; conv => lhs; cbv
  case hob =>
    intro X
    subst hB
    simp [AllOb, Ob.holds, BE.den, std, stdCmp, stdArith] <;> omega
  case hQ =>
  intro X0 a0 w1 hF
  refine wp_seq ?_
  apply region_okB hB T49_ok [2] [0] [(1, .x fun _ => ⟨.int .u64 v1, [(0, [.str s1, .int .i64 e1])], []⟩)] hF
  case hex => intro A X; conv => lhs; cbv
  case hob =>
    intro X
    subst hB
    simp only [AllOb, Ob.holds, BE.den, List.mem_cons, List.not_mem_nil, or_false, forall_eq_or_imp, forall_eq] <;> (and_intros <;> first | trivial | (intro h; trivial) | exact enters48 | exact S1 | exact ⟨enters48, S1⟩ | (intro h; exact ⟨enters48, S1⟩) | rfl | (intro h; rfl))
  case hQ =>
  intro X1 a0 w1 hF
  refine wp_ret ?_
  refine (ret_x (fn := Tryd.f49) T49_ok hF (rs := [.tmp 2]) rfl (rfl) ?_ noAtom [] ?_ ?_ ?_).1
  · subst hB; simp [AllOb, Ob.holds]
  · subst hB; exact Sim.refl _
  · subst hB; exact ⟨rfl, ⟨_, rfl, SimL.refl _⟩, trivial⟩
  · exact trivial
theorem qany_m (k0 : Nat) (b : Nat) (s : ByteArray) (e : Int) (hs : s.size ≤ 1000000000) : SpecX Tryd.prog 49 [.ptr k0 b 0] [(k0, ⟨b, 90, [.str s, .int .i64 e]⟩)] (fun _ => ⟨.int .u64 (wholeD (⟨e, s⟩ : RS)).1, [(k0, [.str (wholeD (⟨e, s⟩ : RS)).2.s, .int .i64 (wholeD (⟨e, s⟩ : RS)).2.e])], []⟩) :=
  (qany_m0 b s e hs).re (by repeat (first | exact trivial | refine ⟨Sim.ptr, ?_⟩ | refine ⟨Sim.fn ⟨Sim.ptr, trivial⟩ trivial, ?_⟩ | refine ⟨Sim.fn trivial ⟨Sim.ptr, trivial⟩, ?_⟩ | refine ⟨Sim.refl _, ?_⟩)) rfl (fun x => ⟨rfl, rfl, Sim.refl _, rfl⟩)
def T102 : List (Nat × TI) := [(3, ti3), (9, ti9), (27, ti27), (88, ti88), (90, ti90)]
theorem T102_ok : TabOK Tryd.prog T102 := .cons t3 (.cons t9 (.cons t27 (.cons t88 (.cons t90 (.nil)))))
theorem enters102 : Enters Tryd.prog 102 := fun _ _ => by kernel_rfl
theorem qtext_m0 (b : Nat) (s : ByteArray) (e : Int) (hs : s.size ≤ 1000000000) (h : Bool) (most : Int) (hmo : most = if h then 2048 else 0) : SpecX Tryd.prog 102 [.ptr 0 b 0, .int .i64 most] [(0, ⟨b, 90, [.str s, .int .i64 e]⟩)] (fun _ => ⟨.str (valD h (⟨e, s⟩ : RS)).1, [(0, [.str (valD h (⟨e, s⟩ : RS)).2.s, .int .i64 (valD h (⟨e, s⟩ : RS)).2.e])], []⟩) := by
  intro m w hm hargs hpre
  have S1 := WTxt_m 0 b s e hs
  have hER : txtE s ≠ 0 → txtR s = s := fun h => ((txt_rest s).2 h).2
  obtain ⟨v, hv⟩ : ∃ v, v = txtV s := ⟨_, rfl⟩
  obtain ⟨ee, hee⟩ : ∃ v, v = txtE s := ⟨_, rfl⟩
  obtain ⟨q, hq⟩ : ∃ v, v = txtR s := ⟨_, rfl⟩
  obtain ⟨ok, hok⟩ : ∃ ok, ok = (okV h (txtV s)) := ⟨_, rfl⟩
  have hO : valD h (⟨e, s⟩ : RS) = getG ByteArray.empty v ee q ok (⟨e, s⟩ : RS) := by rw [hok, hv, hee, hq]; rfl
  rw [← hv] at S1
  rw [← hee] at S1 hER
  rw [← hq] at S1 hER
  rw [← hv] at hok
  rw [hO]
  have hok2 : ok = !decide (most < (v.size : Int)) := by
    rw [hok, hmo, Bool.eq_iff_iff]
    unfold okV
    cases h
    · show decide (v.size ≤ 0) = true ↔ (!decide ((0 : Int) < (v.size : Int))) = true
      rw [decide_eq_true_eq, Bool.not_eq_true', decide_eq_false_iff_not]; omega
    · show decide (v.size ≤ 2048) = true ↔ (!decide ((2048 : Int) < (v.size : Int))) = true
      rw [decide_eq_true_eq, Bool.not_eq_true', decide_eq_false_iff_not]; omega
  refine enterX hm hpre hargs Tryd.func102 rfl (by simp [Tryd.ntmps102]) fun a0 hF => ?_
  simp only [Tryd.ntmps102, startT] at hF
  obtain ⟨B, hB⟩ : ∃ B, B = std := ⟨_, rfl⟩
  refine wp_seq ?_
  apply region_okB hB T102_ok [0, 1] [0] [] hF
  case hex => intro A X; conv => lhs; cbv
  case hob =>
    intro X
    subst hB
    simp [AllOb, Ob.holds, BE.den, std, stdCmp, stdArith] <;> omega
  case hQ =>
  intro X0 a0 w1 hF
  refine wp_seq ?_
  refine wp_seq ?_
  apply region_okB hB T102_ok [11, 0, 1] [0] [] hF
  case hex => intro A X; conv => lhs; cbv
  case hob =>
    intro X
    subst hB
    simp only [AllOb, Ob.holds, BE.den, List.mem_cons, List.not_mem_nil, or_false, forall_eq_or_imp, forall_eq] <;> (and_intros <;> first | trivial | (intro h; trivial) | rfl | (intro h; rfl))
  case hQ =>
  intro X1 a0 w1 hF
  refine test_ok hF rfl (fun hb hF => ?_) (fun hb hF => ?_)
  · skip
    have he : e ≠ 0 := by subst hB; simpa [std, stdCmp] using hb
    have hg : getG ByteArray.empty v ee q ok (⟨e, s⟩ : RS) = (ByteArray.empty, (⟨e, s⟩ : RS)) := by
      simp only [getG]; rw [if_pos he]
    refine wp_seq ?_
    apply region_okB hB T102_ok [4] [0] [] hF
    case hex => intro A X; conv => lhs; cbv
    case hob =>
      intro X
      subst hB
      simp [AllOb, Ob.holds, BE.den, std, stdCmp, stdArith] <;> omega
    case hQ =>
    intro X2 a0 w1 hF
    refine wp_ret ?_
    refine (ret_x (fn := Tryd.f102) T102_ok hF (rs := [.tmp 4]) rfl (rfl) ?_ noAtom [] ?_ ?_ ?_).1
    · subst hB; simp [AllOb, Ob.holds]
    · subst hB; rw [hg]; exact Sim.refl _
    · subst hB; rw [hg]; exact ⟨rfl, ⟨_, rfl, SimL.refl _⟩, trivial⟩
    · exact trivial
  · skip
    have he : e = 0 := by subst hB; simpa [std, stdCmp] using hb
    refine wp_skip ?_
    refine wp_seq ?_
    apply region_okB hB T102_ok [0, 1, 5, 6] [0] [(3, .x fun _ => ⟨.tup [.str v, .int .i64 ee], [(0, [.str q, .int .i64 e])], []⟩)] hF
    case hex => intro A X; conv => lhs; cbv
    case hob =>
      intro X
      subst hB
      simp only [AllOb, Ob.holds, BE.den, List.mem_cons, List.not_mem_nil, or_false, forall_eq_or_imp, forall_eq] <;> (and_intros <;> first | trivial | (intro h; trivial) | exact enters107 | exact S1 | exact ⟨enters107, S1⟩ | (intro h; exact ⟨enters107, S1⟩) | rfl | (intro h; rfl))
    case hQ =>
    intro X3 a0 w1 hF
    refine wp_seq ?_
    refine wp_seq ?_
    apply region_okB hB T102_ok [26, 6, 0, 5] [0] [] hF
    case hex => intro A X; conv => lhs; cbv
    case hob =>
      intro X
      subst hB
      simp only [AllOb, Ob.holds, BE.den, List.mem_cons, List.not_mem_nil, or_false, forall_eq_or_imp, forall_eq] <;> (and_intros <;> first | trivial | (intro h; trivial) | rfl | (intro h; rfl))
    case hQ =>
    intro X4 a0 w1 hF
    refine cut_one (ι := Int) (S0 := [(26, _), (6, _)]) (M0 := []) (G0 := []) (fun p => [(6, .int .i64 p)]) (fun p => []) (fun p => []) (fun p => p = if ee = 0 ∧ ok = false then 3 else ee) hF ?_ ?_
    · skip
      refine test_ok hF rfl (fun hb hF => ?_) (fun hb hF => ?_)
      · skip
        have hp : ee = 0 ∧ ok = false := by
          subst hB
          simp only [std, stdCmp, BE.den, decide_eq_true_eq] at hb
          rw [hok2]
          clear hF hargs hm hpre S1
          by_cases h0 : ee = 0 <;> by_cases h1 : most < (v.size : Int) <;> simp_all <;> omega
        apply region_okB hB T102_ok [6, 0, 5] [0] [] hF
        case hex => intro A X; conv => lhs; cbv
        case hob =>
          intro X
          subst hB
          simp [AllOb, Ob.holds, BE.den, std, stdCmp, stdArith] <;> omega
        case hQ =>
        intro X5 a0 w1 hF
        refine ⟨3, ?_, hF⟩
        rw [if_pos hp]
      · skip
        have hp : ¬ (ee = 0 ∧ ok = false) := by
          subst hB
          simp only [std, stdCmp, BE.den, decide_eq_true_eq] at hb
          rw [hok2]
          clear hF hargs hm hpre S1
          by_cases h0 : ee = 0 <;> by_cases h1 : most < (v.size : Int) <;> simp_all <;> omega
        refine wp_skip ?_
        refine ⟨ee, ?_, hF⟩
        rw [if_neg hp]
    · rintro ec hec a0 w1 hF
      try dsimp only at hec
      refine wp_seq ?_
      refine wp_seq ?_
      apply region_okB hB T102_ok [28, 0, 5, 6] [0] [] hF
      case hex => intro A X; conv => lhs; cbv
      case hob =>
        intro X
        subst hB
        simp [AllOb, Ob.holds, BE.den, std, stdCmp, stdArith] <;> omega
      case hQ =>
      intro X6 a0 w1 hF
      refine test_ok hF rfl (fun hb hF => ?_) (fun hb hF => ?_)
      · skip
        have hne : ec ≠ 0 := by subst hB; simpa [std, stdCmp] using hb
        have hg : getG ByteArray.empty v ee q ok (⟨e, s⟩ : RS) = (ByteArray.empty, (⟨ec, q⟩ : RS)) := by
          simp only [getG]; rw [if_neg (by simpa using he)]
          by_cases hp : ee = 0 ∧ ok = false
          · rw [if_pos hp] at hec
            rw [if_neg (by simpa using hp.1), if_neg (by simp [hp.2]), hec]
          · rw [if_neg hp] at hec
            subst hec
            rw [if_pos hne]
        refine wp_seq ?_
        apply region_okB hB T102_ok [] [0] [] hF
        case hex => intro A X; conv => lhs; cbv
        case hob =>
          intro X
          subst hB
          simp only [AllOb, Ob.holds, BE.den, List.mem_cons, List.not_mem_nil, or_false, forall_eq_or_imp, forall_eq] <;> (and_intros <;> first | trivial | (intro h; trivial) | rfl | (intro h; rfl))
        case hQ =>
        intro X7 a0 w1 hF
        refine wp_seq ?_
        apply region_okB hB T102_ok [4] [0] [] hF
        case hex => intro A X; conv => lhs; cbv
        case hob =>
          intro X
          subst hB
          simp [AllOb, Ob.holds, BE.den, std, stdCmp, stdArith] <;> omega
        case hQ =>
        intro X8 a0 w1 hF
        refine wp_ret ?_
        refine (ret_x (fn := Tryd.f102) T102_ok hF (rs := [.tmp 4]) rfl (rfl) ?_ noAtom [] ?_ ?_ ?_).1
        · subst hB; simp [AllOb, Ob.holds]
        · subst hB; rw [hg]; exact Sim.refl _
        · subst hB; rw [hg]; exact ⟨rfl, ⟨_, rfl, SimL.refl _⟩, trivial⟩
        · exact trivial
      · skip
        have hze : ec = 0 := by subst hB; simpa [std, stdCmp] using hb
        have hg : getG ByteArray.empty v ee q ok (⟨e, s⟩ : RS) = (v, (⟨0, q⟩ : RS)) := by
          simp only [getG]; rw [if_neg (by simpa using he)]
          by_cases hp : ee = 0 ∧ ok = false
          · rw [if_pos hp] at hec; omega
          · rw [if_neg hp] at hec
            have h0 : ee = 0 := by omega
            have h1 : ok = true := by
              cases ok with
              | true => rfl
              | false => exact absurd ⟨h0, rfl⟩ hp
            rw [if_neg (by simpa using h0), if_pos h1]
        refine wp_skip ?_
        refine wp_seq ?_
        apply region_okB hB T102_ok [4] [0] [] hF
        case hex => intro A X; conv => lhs; cbv
        case hob =>
          intro X
          subst hB
          simp [AllOb, Ob.holds, BE.den, std, stdCmp, stdArith] <;> omega
        case hQ =>
        intro X9 a0 w1 hF
        refine wp_ret ?_
        refine (ret_x (fn := Tryd.f102) T102_ok hF (rs := [.tmp 4]) rfl (rfl) ?_ noAtom [] ?_ ?_ ?_).1
        · subst hB; simp [AllOb, Ob.holds]
        · subst hB; rw [hg]; exact Sim.refl _
        · subst hB; rw [hg, show (0 : Int) = e from he.symm]; exact ⟨rfl, ⟨_, rfl, SimL.refl _⟩, trivial⟩
        · exact trivial
theorem qtext_m (k0 : Nat) (b : Nat) (s : ByteArray) (e : Int) (hs : s.size ≤ 1000000000) (h : Bool) (most : Int) (hmo : most = if h then 2048 else 0) : SpecX Tryd.prog 102 [.ptr k0 b 0, .int .i64 most] [(k0, ⟨b, 90, [.str s, .int .i64 e]⟩)] (fun _ => ⟨.str (valD h (⟨e, s⟩ : RS)).1, [(k0, [.str (valD h (⟨e, s⟩ : RS)).2.s, .int .i64 (valD h (⟨e, s⟩ : RS)).2.e])], []⟩) :=
  (qtext_m0 b s e hs h most hmo).re (by repeat (first | exact trivial | refine ⟨Sim.ptr, ?_⟩ | refine ⟨Sim.fn ⟨Sim.ptr, trivial⟩ trivial, ?_⟩ | refine ⟨Sim.fn trivial ⟨Sim.ptr, trivial⟩, ?_⟩ | refine ⟨Sim.refl _, ?_⟩)) rfl (fun x => ⟨rfl, rfl, Sim.refl _, rfl⟩)
def T84 : List (Nat × TI) := [(3, ti3), (9, ti9), (86, ti86), (88, ti88), (90, ti90)]
theorem T84_ok : TabOK Tryd.prog T84 := .cons t3 (.cons t9 (.cons t86 (.cons t88 (.cons t90 (.nil)))))
theorem enters84 : Enters Tryd.prog 84 := fun _ _ => by kernel_rfl
theorem qval_m0 (b : Nat) (s : ByteArray) (e : Int) (hs : s.size ≤ 1000000000) (h : Bool) : SpecX Tryd.prog 84 [.ptr 0 b 0, .bool (.v h)] [(0, ⟨b, 90, [.str s, .int .i64 e]⟩)] (fun _ => ⟨.str (valD h (⟨e, s⟩ : RS)).1, [(0, [.str (valD h (⟨e, s⟩ : RS)).2.s, .int .i64 (valD h (⟨e, s⟩ : RS)).2.e])], []⟩) := by
  intro m w hm hargs hpre
  obtain ⟨o, ho1⟩ : ∃ o, o = valD h (⟨e, s⟩ : RS) := ⟨_, rfl⟩
  have S1 := fun most hmo => qtext_m 0 b s e hs h most hmo
  simp only [← ho1] at S1 ⊢
  obtain ⟨v1, e1, s1⟩ := o
  dsimp only at S1 ⊢
  refine enterX hm hpre hargs Tryd.func84 rfl (by simp [Tryd.ntmps84]) fun a0 hF => ?_
  simp only [Tryd.ntmps84, startT] at hF
  obtain ⟨B, hB⟩ : ∃ B, B = std := ⟨_, rfl⟩
  refine wp_seq ?_
  apply region_okB hB T84_ok [0, 1] [0] [] hF
  case hex => intro A X; conv => lhs; cbv
  case hob =>
    intro X
    subst hB
    simp [AllOb, Ob.holds, BE.den, std, stdCmp, stdArith] <;> omega
  case hQ =>
  intro X0 a0 w1 hF
  refine wp_seq ?_
  refine wp_seq ?_
  apply region_okB hB T84_ok [5, 0] [0] [] hF
  case hex => intro A X; conv => lhs; cbv
  case hob =>
    intro X
    subst hB
    simp [AllOb, Ob.holds, BE.den, std, stdCmp, stdArith] <;> omega
  case hQ =>
  intro X1 a0 w1 hF
  refine test_ok hF rfl (fun hb hF => ?_) (fun hb hF => ?_)
  · skip
    have h1 : h = true := by subst hB; exact hb
    have S2 := S1 2048 (by rw [h1]; rfl)
    refine wp_seq ?_
    apply region_okB hB T84_ok [4] [0] [(1, .x fun _ => ⟨.str v1, [(0, [.str s1, .int .i64 e1])], []⟩)] hF
    case hex => intro A X; conv => lhs; cbv
    case hob =>
      intro X
      subst hB
      simp only [AllOb, Ob.holds, BE.den, List.mem_cons, List.not_mem_nil, or_false, forall_eq_or_imp, forall_eq] <;> (and_intros <;> first | trivial | (intro h; trivial) | exact enters102 | exact S2 | exact ⟨enters102, S2⟩ | (intro h; exact ⟨enters102, S2⟩) | rfl | (intro h; rfl))
    case hQ =>
    intro X2 a0 w1 hF
    refine wp_ret ?_
    refine (ret_x (fn := Tryd.f84) T84_ok hF (rs := [.tmp 4]) rfl (rfl) ?_ noAtom [] ?_ ?_ ?_).1
    · subst hB; simp [AllOb, Ob.holds]
    · subst hB; exact Sim.refl _
    · subst hB; exact ⟨rfl, ⟨_, rfl, SimL.refl _⟩, trivial⟩
    · exact trivial
  · skip
    have h1 : h = false := by subst hB; exact hb
    have S2 := S1 0 (by rw [h1]; rfl)
    refine wp_skip ?_
    refine wp_seq ?_
    apply region_okB hB T84_ok [4] [0] [(1, .x fun _ => ⟨.str v1, [(0, [.str s1, .int .i64 e1])], []⟩)] hF
    case hex => intro A X; conv => lhs; cbv
    case hob =>
      intro X
      subst hB
      simp only [AllOb, Ob.holds, BE.den, List.mem_cons, List.not_mem_nil, or_false, forall_eq_or_imp, forall_eq] <;> (and_intros <;> first | trivial | (intro h; trivial) | exact enters102 | exact S2 | exact ⟨enters102, S2⟩ | (intro h; exact ⟨enters102, S2⟩) | rfl | (intro h; rfl))
    case hQ =>
    intro X3 a0 w1 hF
    refine wp_ret ?_
    refine (ret_x (fn := Tryd.f84) T84_ok hF (rs := [.tmp 4]) rfl (rfl) ?_ noAtom [] ?_ ?_ ?_).1
    · subst hB; simp [AllOb, Ob.holds]
    · subst hB; exact Sim.refl _
    · subst hB; exact ⟨rfl, ⟨_, rfl, SimL.refl _⟩, trivial⟩
    · exact trivial
theorem qval_m (k0 : Nat) (b : Nat) (s : ByteArray) (e : Int) (hs : s.size ≤ 1000000000) (h : Bool) : SpecX Tryd.prog 84 [.ptr k0 b 0, .bool (.v h)] [(k0, ⟨b, 90, [.str s, .int .i64 e]⟩)] (fun _ => ⟨.str (valD h (⟨e, s⟩ : RS)).1, [(k0, [.str (valD h (⟨e, s⟩ : RS)).2.s, .int .i64 (valD h (⟨e, s⟩ : RS)).2.e])], []⟩) :=
  (qval_m0 b s e hs h).re (by repeat (first | exact trivial | refine ⟨Sim.ptr, ?_⟩ | refine ⟨Sim.fn ⟨Sim.ptr, trivial⟩ trivial, ?_⟩ | refine ⟨Sim.fn trivial ⟨Sim.ptr, trivial⟩, ?_⟩ | refine ⟨Sim.refl _, ?_⟩)) rfl (fun x => ⟨rfl, rfl, Sim.refl _, rfl⟩)
def T50 : List (Nat × TI) := [(24, ti24), (27, ti27), (88, ti88), (90, ti90)]
theorem T50_ok : TabOK Tryd.prog T50 := .cons t24 (.cons t27 (.cons t88 (.cons t90 (.nil))))
theorem enters50 : Enters Tryd.prog 50 := fun _ _ => by kernel_rfl
theorem qplc_m0 (b : Nat) (s : ByteArray) (e : Int) (hs : s.size ≤ 1000000000) : SpecX Tryd.prog 50 [.ptr 0 b 0] [(0, ⟨b, 90, [.str s, .int .i64 e]⟩)] (fun _ => ⟨.agg (keyC (kI (plcD (⟨e, s⟩ : RS)).1)), [(0, [.str (plcD (⟨e, s⟩ : RS)).2.s, .int .i64 (plcD (⟨e, s⟩ : RS)).2.e])], []⟩) := by
  intro m w hm hargs hpre
  have S1 := WPlc_m 0 b s e
  have hz : plcE s ≠ 0 → plcV s = zeroKey := by
    intro h
    by_cases hn : 20 ≤ s.size
    · exact absurd (by simp [plcE, hn]) h
    · simp only [plcV, hn, if_false]; rfl
  obtain ⟨v, hv⟩ : ∃ v, v = plcV s := ⟨_, rfl⟩
  obtain ⟨ee, hee⟩ : ∃ v, v = plcE s := ⟨_, rfl⟩
  obtain ⟨q, hq⟩ : ∃ v, v = plcR s := ⟨_, rfl⟩
  have hO : plcD (⟨e, s⟩ : RS) = getG zeroKey v ee q true (⟨e, s⟩ : RS) := by rw [hv, hee, hq]; rfl
  rw [← hv] at S1 hz
  rw [← hee] at S1 hz
  rw [← hq] at S1
  rw [hO]
  obtain ⟨K, hK⟩ : ∃ K, K = kI v := ⟨_, rfl⟩
  rw [← hK] at S1
  refine enterX hm hpre hargs Tryd.func50 rfl (by simp [Tryd.ntmps50]) fun a0 hF => ?_
  simp only [Tryd.ntmps50, startT] at hF
  obtain ⟨B, hB⟩ : ∃ B, B = std := ⟨_, rfl⟩
  refine wp_seq ?_
  apply region_okB hB T50_ok [0, 2] [0, 2] [] hF
  case hex => intro A X; conv => lhs; cbv
  case hob =>
    intro X
    subst hB
    simp [AllOb, Ob.holds, BE.den, std, stdCmp, stdArith] <;> omega
  case hQ =>
  intro X0 a0 w1 hF
  refine wp_seq ?_
  refine wp_seq ?_
  apply region_okB hB T50_ok [9, 0, 2] [0, 2] [] hF
  case hex => intro A X; conv => lhs; cbv
  case hob =>
    intro X
    subst hB
    simp only [AllOb, Ob.holds, BE.den, List.mem_cons, List.not_mem_nil, or_false, forall_eq_or_imp, forall_eq] <;> (and_intros <;> first | trivial | (intro h; trivial) | rfl | (intro h; rfl))
  case hQ =>
  intro X1 a0 w1 hF
  refine test_ok hF rfl (fun hb hF => ?_) (fun hb hF => ?_)
  · skip
    have he : e ≠ 0 := by subst hB; simpa [std, stdCmp] using hb
    have hg : getG zeroKey v ee q true (⟨e, s⟩ : RS) = (zeroKey, ⟨e, s⟩) := by simp only [getG]; rw [if_pos he]
    refine wp_seq ?_
    apply region_okB hB T50_ok [2] [0, 2] [] hF
    case hex => intro A X; conv => lhs; cbv
    case hob =>
      intro X
      subst hB
      simp [AllOb, Ob.holds, BE.den, std, stdCmp, stdArith] <;> omega
    case hQ =>
    intro X2 a0 w1 hF
    refine wp_ret ?_
    refine (ret_x (fn := Tryd.f50) T50_ok hF (rs := [.cell 2 24]) rfl (by conv => lhs; cbv) ?_ noAtom [] ?_ ?_ ?_).1
    · subst hB; simp [AllOb, Ob.holds]
    · subst hB; rw [hg]
      show Sim _ (.agg (keyC (kI zeroKey)))
      rw [show kI zeroKey = _ from kI_zero]; exact Sim.refl _
    · subst hB; rw [hg]; exact ⟨rfl, ⟨_, rfl, SimL.refl _⟩, trivial⟩
    · exact trivial
  · skip
    have he : e = 0 := by subst hB; simpa [std, stdCmp] using hb
    have hg : getG zeroKey v ee q true (⟨e, s⟩ : RS) = (v, ⟨ee, q⟩) := by
      simp only [getG]; rw [if_neg (by simpa using he)]
      by_cases h0 : ee = 0
      · rw [if_neg (by simpa using h0), h0]; rfl
      · rw [if_pos h0, hz h0]
    refine wp_skip ?_
    refine wp_seq ?_
    apply region_okB hB T50_ok [0, 2, 3, 4] [0, 2, 3] [(3, .x fun _ => ⟨.tup [.agg (keyC K), .int .i64 ee], [(0, [.str q, .int .i64 e])], []⟩)] hF
    case hex => intro A X; conv => lhs; cbv
    case hob =>
      intro X
      subst hB
      simp only [AllOb, Ob.holds, BE.den, List.mem_cons, List.not_mem_nil, or_false, forall_eq_or_imp, forall_eq] <;> (and_intros <;> first | trivial | (intro h; trivial) | exact enters83 | exact S1 | exact ⟨enters83, S1⟩ | (intro h; exact ⟨enters83, S1⟩) | rfl | (intro h; rfl))
    case hQ =>
    intro X3 a0 w1 hF
    refine wp_seq ?_
    apply region_okB hB T50_ok [2, 3] [0, 2, 3] [] hF
    case hex => intro A X; conv => lhs; cbv
    case hob =>
      intro X
      subst hB
      simp only [AllOb, Ob.holds, BE.den, List.mem_cons, List.not_mem_nil, or_false, forall_eq_or_imp, forall_eq] <;> (and_intros <;> first | trivial | (intro h; trivial) | rfl | (intro h; rfl))
    case hQ =>
    intro X4 a0 w1 hF
    refine wp_seq ?_
    apply region_okB hB T50_ok [2] [0, 2] [] hF
    case hex => intro A X; conv => lhs; cbv
    case hob =>
      intro X
      subst hB
      simp [AllOb, Ob.holds, BE.den, std, stdCmp, stdArith] <;> omega
    case hQ =>
    intro X5 a0 w1 hF
    refine wp_ret ?_
    refine (ret_x (fn := Tryd.f50) T50_ok hF (rs := [.cell 2 24]) rfl (by conv => lhs; cbv) ?_ noAtom [] ?_ ?_ ?_).1
    · subst hB; simp [AllOb, Ob.holds]
    · subst hB; rw [hg]
      show Sim _ (.agg (keyC (kI v)))
      rw [← hK]; exact Sim.refl _
    · subst hB; rw [hg]; exact ⟨rfl, ⟨_, rfl, SimL.refl _⟩, trivial⟩
    · exact trivial
theorem qplc_m (k0 : Nat) (b : Nat) (s : ByteArray) (e : Int) (hs : s.size ≤ 1000000000) : SpecX Tryd.prog 50 [.ptr k0 b 0] [(k0, ⟨b, 90, [.str s, .int .i64 e]⟩)] (fun _ => ⟨.agg (keyC (kI (plcD (⟨e, s⟩ : RS)).1)), [(k0, [.str (plcD (⟨e, s⟩ : RS)).2.s, .int .i64 (plcD (⟨e, s⟩ : RS)).2.e])], []⟩) :=
  (qplc_m0 b s e hs).re (by repeat (first | exact trivial | refine ⟨Sim.ptr, ?_⟩ | refine ⟨Sim.fn ⟨Sim.ptr, trivial⟩ trivial, ?_⟩ | refine ⟨Sim.fn trivial ⟨Sim.ptr, trivial⟩, ?_⟩ | refine ⟨Sim.refl _, ?_⟩)) rfl (fun x => ⟨rfl, rfl, Sim.refl _, rfl⟩)
def T85 : List (Nat × TI) := [(3, ti3), (4, ti4), (22, ti22), (27, ti27), (86, ti86), (88, ti88), (90, ti90)]
theorem T85_ok : TabOK Tryd.prog T85 := .cons t3 (.cons t4 (.cons t22 (.cons t27 (.cons t86 (.cons t88 (.cons t90 (.nil)))))))
theorem enters85 : Enters Tryd.prog 85 := fun _ _ => by kernel_rfl
theorem qcode_m0 (b : Nat) (s : ByteArray) (e : Int) (hs : s.size ≤ 1000000000) (late none : Bool) : SpecX Tryd.prog 85 [.ptr 0 b 0, .bool (.v late), .bool (.v none)] [(0, ⟨b, 90, [.str s, .int .i64 e]⟩)] (fun _ => ⟨.int .i64 (rcodeD late none (⟨e, s⟩ : RS)).1, [(0, [.str (rcodeD late none (⟨e, s⟩ : RS)).2.s, .int .i64 (rcodeD late none (⟨e, s⟩ : RS)).2.e])], []⟩) := by
  intro m w hm hargs hpre
  have S1 := qnum_m 0 b s e hs 0 13
  have hr := num_rng (d := 0) (lo := 0) (hi := 13) (⟨e, s⟩ : RS) (by decide) (by decide)
  obtain ⟨o, ho1⟩ : ∃ o, o = rnumD 0 13 (⟨e, s⟩ : RS) := ⟨_, rfl⟩
  rw [show numD 0 0 13 (⟨e, s⟩ : RS) = o from ho1.symm] at hr
  simp only [← ho1] at S1
  obtain ⟨v1, e1, s1⟩ := o
  dsimp only at S1 hr
  have ew := wrap_in (x := v1) (by omega) (by omega)
  have hD : rcodeD late none (⟨e, s⟩ : RS) = if e1 = 0 ∧ codeOk late none v1 = false then (v1, ⟨3, s1⟩) else (v1, ⟨e1, s1⟩) := by simp only [rcodeD, ← ho1]
  rw [hD]
  obtain ⟨ck, hck⟩ : ∃ c, c = codeOk late none v1 := ⟨_, rfl⟩
  rw [← hck]
  refine enterX hm hpre hargs Tryd.func85 rfl (by simp [Tryd.ntmps85]) fun a0 hF => ?_
  simp only [Tryd.ntmps85, startT] at hF
  obtain ⟨B, hB⟩ : ∃ B, B = std := ⟨_, rfl⟩
  refine wp_seq ?_
  apply region_okB hB T85_ok [0, 1, 2] [0] [] hF
  case hex => intro A X; conv => lhs; cbv
  case hob =>
    intro X
    subst hB
    simp [AllOb, Ob.holds, BE.den, std, stdCmp, stdArith] <;> omega
  case hQ =>
  intro X0 a0 w1 hF
  refine wp_seq ?_
  apply region_okB hB T85_ok [7, 0, 1, 2] [0] [(1, .x fun _ => ⟨.int .u64 v1, [(0, [.str s1, .int .i64 e1])], []⟩)] hF
  case hex => intro A X; conv => lhs; cbv
  case hob =>
    intro X
    subst hB
    simp only [AllOb, Ob.holds, BE.den, List.mem_cons, List.not_mem_nil, or_false, forall_eq_or_imp, forall_eq] <;> (and_intros <;> first | trivial | (intro h; trivial) | exact enters48 | exact S1 | exact ⟨enters48, S1⟩ | (intro h; exact ⟨enters48, S1⟩) | rfl | (intro h; rfl))
  case hQ =>
  intro X1 a0 w1 hF
  replace hF := hF.head (v' := .int .i64 v1) (by subst hB; show AV.int .i64 (IntKind.i64.wrap v1) = _; rw [ew])
  refine wp_seq ?_
  apply region_okB hB T85_ok [8, 0, 7] [0] [] hF
  case hex => intro A X; conv => lhs; cbv
  case hob =>
    intro X
    subst hB
    simp [AllOb, Ob.holds, BE.den, std, stdCmp, stdArith] <;> omega
  case hQ =>
  intro X2 a0 w1 hF
  replace hF := hF.head (v' := .bool (.v ck)) (by subst hB; rw [hck]; refine congrArg (fun b => AV.bool (.v b)) ?_; simp only [std, stdCmp, BE.den, codeOk]; by_cases h1 : v1 = 0 <;> by_cases h2 : v1 = 8 <;> by_cases h3 : v1 = 7 <;> by_cases h4 : v1 = 9 <;> cases late <;> cases none <;> simp [h1, h2, h3, h4] <;> omega)
  refine wp_seq ?_
  refine wp_seq ?_
  apply region_okB hB T85_ok [40, 0, 7] [0] [] hF
  case hex => intro A X; conv => lhs; cbv
  case hob =>
    intro X
    subst hB
    simp only [AllOb, Ob.holds, BE.den, List.mem_cons, List.not_mem_nil, or_false, forall_eq_or_imp, forall_eq] <;> (and_intros <;> first | trivial | (intro h; trivial) | rfl | (intro h; rfl))
  case hQ =>
  intro X3 a0 w1 hF
  refine test_ok hF rfl (fun hb hF => ?_) (fun hb hF => ?_)
  · skip
    have hp : e1 = 0 ∧ ck = false := by
      subst hB
      simp only [std, stdCmp, BE.den] at hb
      clear hF hargs hm hpre S1
      by_cases h1 : e1 = 0 <;> cases ck <;> simp_all
    apply region_okB hB T85_ok [7] [0] [] hF
    case hex => intro A X; conv => lhs; cbv
    case hob =>
      intro X
      subst hB
      simp only [AllOb, Ob.holds, BE.den, List.mem_cons, List.not_mem_nil, or_false, forall_eq_or_imp, forall_eq] <;> (and_intros <;> first | trivial | (intro h; trivial) | rfl | (intro h; rfl))
    case hQ =>
    intro X4 a0 w1 hF
    refine wp_seq ?_
    apply region_okB hB T85_ok [6] [0] [] hF
    case hex => intro A X; conv => lhs; cbv
    case hob =>
      intro X
      subst hB
      simp [AllOb, Ob.holds, BE.den, std, stdCmp, stdArith] <;> omega
    case hQ =>
    intro X5 a0 w1 hF
    refine wp_ret ?_
    refine (ret_x (fn := Tryd.f85) T85_ok hF (rs := [.tmp 6]) rfl (rfl) ?_ noAtom [] ?_ ?_ ?_).1
    · subst hB; simp [AllOb, Ob.holds]
    · subst hB; rw [if_pos hp]; exact Sim.refl _
    · subst hB; rw [if_pos hp]; exact ⟨rfl, ⟨_, rfl, SimL.refl _⟩, trivial⟩
    · exact trivial
  · skip
    have hp : ¬ (e1 = 0 ∧ ck = false) := by
      subst hB
      simp only [std, stdCmp, BE.den] at hb
      clear hF hargs hm hpre S1
      by_cases h1 : e1 = 0 <;> cases ck <;> simp_all
    refine wp_skip ?_
    refine wp_seq ?_
    apply region_okB hB T85_ok [6] [0] [] hF
    case hex => intro A X; conv => lhs; cbv
    case hob =>
      intro X
      subst hB
      simp [AllOb, Ob.holds, BE.den, std, stdCmp, stdArith] <;> omega
    case hQ =>
    intro X5 a0 w1 hF
    refine wp_ret ?_
    refine (ret_x (fn := Tryd.f85) T85_ok hF (rs := [.tmp 6]) rfl (rfl) ?_ noAtom [] ?_ ?_ ?_).1
    · subst hB; simp [AllOb, Ob.holds]
    · subst hB; rw [if_neg hp]; exact Sim.refl _
    · subst hB; rw [if_neg hp]; exact ⟨rfl, ⟨_, rfl, SimL.refl _⟩, trivial⟩
    · exact trivial
theorem qcode_m (k0 : Nat) (b : Nat) (s : ByteArray) (e : Int) (hs : s.size ≤ 1000000000) (late none : Bool) : SpecX Tryd.prog 85 [.ptr k0 b 0, .bool (.v late), .bool (.v none)] [(k0, ⟨b, 90, [.str s, .int .i64 e]⟩)] (fun _ => ⟨.int .i64 (rcodeD late none (⟨e, s⟩ : RS)).1, [(k0, [.str (rcodeD late none (⟨e, s⟩ : RS)).2.s, .int .i64 (rcodeD late none (⟨e, s⟩ : RS)).2.e])], []⟩) :=
  (qcode_m0 b s e hs late none).re (by repeat (first | exact trivial | refine ⟨Sim.ptr, ?_⟩ | refine ⟨Sim.fn ⟨Sim.ptr, trivial⟩ trivial, ?_⟩ | refine ⟨Sim.fn trivial ⟨Sim.ptr, trivial⟩, ?_⟩ | refine ⟨Sim.refl _, ?_⟩)) rfl (fun x => ⟨rfl, rfl, Sim.refl _, rfl⟩)
end Go.Proofs.YtkamdppnnhjajaaDoor.Sym

namespace Go.Proofs.YtkamdppnnhjajaaDoor.Sym
open Go Go.RowKit
set_option maxRecDepth 100000
set_option maxHeartbeats 1600000
set_option linter.unusedVariables false
set_option linter.unusedSimpArgs false
theorem rnum_rng {lo hi : Int} (r : RS) : lo ≤ (numD lo lo hi r).1 ∧ ((numD lo lo hi r).1 ≤ hi ∨ (numD lo lo hi r).1 = lo) := by
  unfold numD getG
  split
  · exact ⟨Int.le_refl _, .inr rfl⟩
  · split
    · exact ⟨Int.le_refl _, .inr rfl⟩
    · split
      · rename_i h; simp at h; exact ⟨h.1, .inl h.2⟩
      · exact ⟨Int.le_refl _, .inr rfl⟩
def T51 : List (Nat × TI) := [(3, ti3), (4, ti4), (9, ti9), (22, ti22), (26, ti26), (86, ti86), (88, ti88), (90, ti90)]
theorem T51_ok : TabOK Tryd.prog T51 := .cons t3 (.cons t4 (.cons t9 (.cons t22 (.cons t26 (.cons t86 (.cons t88 (.cons t90 (.nil))))))))
theorem enters51 : Enters Tryd.prog 51 := fun _ _ => by kernel_rfl
theorem qop_m0 (b : Nat) (s : ByteArray) (e : Int) (hs : s.size ≤ 1000000000) : SpecX Tryd.prog 51 [.ptr 0 b 0] [(0, ⟨b, 90, [.str s, .int .i64 e]⟩)] (fun _ => ⟨opAV (ropD (⟨e, s⟩ : RS)).1, [(0, [.str (ropD (⟨e, s⟩ : RS)).2.s, .int .i64 (ropD (⟨e, s⟩ : RS)).2.e])], []⟩) := by
  intro m w hm hargs hpre
  have hr1 := num_rng (d := 0) (lo := 0) (hi := 63) (⟨e, s⟩ : RS) (by decide) (by decide)
  have hr2 := num_rng (d := 1) (lo := 1) (hi := 4) (wholeD (numD 0 0 63 (⟨e, s⟩ : RS)).2).2 (by decide) (by decide)
  have hs1 := shr_num 0 0 63 (⟨e, s⟩ : RS)
  obtain ⟨o, ho1⟩ : ∃ o, o = numD 0 0 63 (⟨e, s⟩ : RS) := ⟨_, rfl⟩
  have S1 := (by have S := qnum_m 0 b s e hs 0 63; unfold rnumD at S; exact S)
  rw [← ho1] at hs1
  simp only [← ho1] at S1
  obtain ⟨v1, e1, s1⟩ := o
  dsimp only at S1 hs1
  replace hs1 : s1.size ≤ 1000000000 := Nat.le_trans hs1 hs
  have hs2 := shr_whole (⟨e1, s1⟩ : RS)
  obtain ⟨o, ho2⟩ : ∃ o, o = wholeD (⟨e1, s1⟩ : RS) := ⟨_, rfl⟩
  have S2 := qany_m 0 b s1 e1 hs1
  rw [← ho2] at hs2
  simp only [← ho2] at S2
  obtain ⟨v2, e2, s2⟩ := o
  dsimp only at S2 hs2
  replace hs2 : s2.size ≤ 1000000000 := Nat.le_trans hs2 hs1
  have hs3 := shr_num 1 1 4 (⟨e2, s2⟩ : RS)
  obtain ⟨o, ho3⟩ : ∃ o, o = numD 1 1 4 (⟨e2, s2⟩ : RS) := ⟨_, rfl⟩
  have S3 := (by have S := qnum_m 0 b s2 e2 hs2 1 4; unfold rnumD at S; exact S)
  rw [← ho3] at hs3
  simp only [← ho3] at S3
  obtain ⟨v3, e3, s3⟩ := o
  dsimp only at S3 hs3
  replace hs3 : s3.size ≤ 1000000000 := Nat.le_trans hs3 hs2
  rw [← ho1] at hr1 hr2
  dsimp only at hr1 hr2
  rw [← ho2] at hr2
  dsimp only at hr2
  rw [← ho3] at hr2
  dsimp only at hr2
  have ew1 := wrap_in (x := v1) (by omega) (by omega)
  have ew := wrap_in (x := v3) (by omega) (by omega)
  have hs4 := shr_num 0 0 (mostD v3) (⟨e3, s3⟩ : RS)
  obtain ⟨o, ho4⟩ : ∃ o, o = numD 0 0 (mostD v3) (⟨e3, s3⟩ : RS) := ⟨_, rfl⟩
  rw [← ho4] at hs4
  have S4a := qany_m 0 b s3 e3 hs3
  have S4b := qnum_m 0 b s3 e3 hs3 0 0
  have h4a : mostD v3 = 18446744073709551615 → wholeD (⟨e3, s3⟩ : RS) = o := fun h => by rw [ho4, h]; rfl
  have h4b : mostD v3 = 0 → rnumD 0 0 (⟨e3, s3⟩ : RS) = o := fun h => by rw [ho4, h]; rfl
  obtain ⟨v4, e4, s4⟩ := o
  dsimp only at hs4
  replace hs4 : s4.size ≤ 1000000000 := Nat.le_trans hs4 hs3
  have hs5 := shr_val (decide (v3 = 2) || decide (v3 = 3)) (⟨e4, s4⟩ : RS)
  obtain ⟨o, ho5⟩ : ∃ o, o = valD (decide (v3 = 2) || decide (v3 = 3)) (⟨e4, s4⟩ : RS) := ⟨_, rfl⟩
  have S5 := qval_m 0 b s4 e4 hs4 (decide (v3 = 2) || decide (v3 = 3))
  rw [← ho5] at hs5
  simp only [← ho5] at S5
  obtain ⟨v5, e5, s5⟩ := o
  dsimp only at S5 hs5
  replace hs5 : s5.size ≤ 1000000000 := Nat.le_trans hs5 hs4
  have hD : ropD (⟨e, s⟩ : RS) = ((⟨v1, v2, v3, v4, v5⟩ : Opr), ⟨e5, s5⟩) := by simp only [ropD, whoD, rnumD, ← ho1, ← ho2, ← ho3, ← ho4, ← ho5]
  rw [hD]
  dsimp only
  simp only [opAV, opC]
  obtain ⟨hh, hhh⟩ : ∃ m, m = (decide (v3 = 2) || decide (v3 = 3)) := ⟨_, rfl⟩
  rw [← hhh] at S5
  have hh2 : (if (IntKind.i64.wrap v3 == 3) = true then true else (IntKind.i64.wrap v3 == 2)) = hh := by rw [ew, hhh, Bool.eq_iff_iff]; by_cases h : v3 = 3 <;> simp [h]
  refine enterX hm hpre hargs Tryd.func51 rfl (by simp [Tryd.ntmps51]) fun a0 hF => ?_
  simp only [Tryd.ntmps51, startT] at hF
  obtain ⟨B, hB⟩ : ∃ B, B = std := ⟨_, rfl⟩
  refine wp_seq ?_
  apply region_okB hB T51_ok [0, 2] [0, 2] [] hF
  case hex => intro A X; conv => lhs; cbv
  case hob =>
    intro X
    subst hB
    simp [AllOb, Ob.holds, BE.den, std, stdCmp, stdArith] <;> omega
  case hQ =>
  intro X0 a0 w1 hF
  refine wp_seq ?_
  apply region_okB hB T51_ok [0, 2, 3] [0, 2, 3] [(1, .x fun _ => ⟨.int .u64 v1, [(0, [.str s1, .int .i64 e1])], []⟩)] hF
  case hex => intro A X; conv => lhs; cbv
  case hob =>
    intro X
    subst hB
    simp only [AllOb, Ob.holds, BE.den, List.mem_cons, List.not_mem_nil, or_false, forall_eq_or_imp, forall_eq] <;> (and_intros <;> first | trivial | (intro h; trivial) | exact enters48 | exact S1 | exact ⟨enters48, S1⟩ | (intro h; exact ⟨enters48, S1⟩) | rfl | (intro h; rfl))
  case hQ =>
  intro X1 a0 w1 hF
  refine wp_seq ?_
  apply region_okB hB T51_ok [0, 2, 3] [0, 2, 3] [(1, .x fun _ => ⟨.int .u64 v2, [(0, [.str s2, .int .i64 e2])], []⟩)] hF
  case hex => intro A X; conv => lhs; cbv
  case hob =>
    intro X
    subst hB
    simp only [AllOb, Ob.holds, BE.den, List.mem_cons, List.not_mem_nil, or_false, forall_eq_or_imp, forall_eq] <;> (and_intros <;> first | trivial | (intro h; trivial) | exact enters49 | exact S2 | exact ⟨enters49, S2⟩ | (intro h; exact ⟨enters49, S2⟩) | rfl | (intro h; rfl))
  case hQ =>
  intro X2 a0 w1 hF
  refine wp_seq ?_
  apply region_okB hB T51_ok [0, 2, 3] [0, 2, 3] [(1, .x fun _ => ⟨.int .u64 v3, [(0, [.str s3, .int .i64 e3])], []⟩)] hF
  case hex => intro A X; conv => lhs; cbv
  case hob =>
    intro X
    subst hB
    simp only [AllOb, Ob.holds, BE.den, List.mem_cons, List.not_mem_nil, or_false, forall_eq_or_imp, forall_eq] <;> (and_intros <;> first | trivial | (intro h; trivial) | exact enters48 | exact S3 | exact ⟨enters48, S3⟩ | (intro h; exact ⟨enters48, S3⟩) | rfl | (intro h; rfl))
  case hQ =>
  intro X3 a0 w1 hF
  refine wp_seq ?_
  refine wp_seq ?_
  apply region_okB hB T51_ok [22, 0, 2, 3] [0, 2, 3] [] hF
  case hex => intro A X; conv => lhs; cbv
  case hob =>
    intro X
    subst hB
    simp [AllOb, Ob.holds, BE.den, std, stdCmp, stdArith] <;> omega
  case hQ =>
  intro X4 a0 w1 hF
  refine test_ok hF rfl (fun hb hF => ?_) (fun hb hF => ?_)
  · skip
    have hmv : mostD v3 = 18446744073709551615 := by
      unfold mostD; apply if_pos
      subst hB
      simp only [std, stdCmp, BE.den] at hb
      rw [ew] at hb
      by_cases h3 : v3 = 3
      · exact .inl h3
      · simp [h3] at hb; exact .inr hb
    have S4 := S4a
    rw [h4a hmv] at S4
    dsimp only at S4
    apply region_okB hB T51_ok [0, 2, 3] [0, 2, 3] [(1, .x fun _ => ⟨.int .u64 v4, [(0, [.str s4, .int .i64 e4])], []⟩)] hF
    case hex => intro A X; conv => lhs; cbv
    case hob =>
      intro X
      subst hB
      simp only [AllOb, Ob.holds, BE.den, List.mem_cons, List.not_mem_nil, or_false, forall_eq_or_imp, forall_eq] <;> (and_intros <;> first | trivial | (intro h; trivial) | exact enters49 | exact S4 | exact ⟨enters49, S4⟩ | (intro h; exact ⟨enters49, S4⟩) | rfl | (intro h; rfl))
    case hQ =>
    intro X5 a0 w1 hF
    refine wp_seq ?_
    apply region_okB hB T51_ok [2, 3] [0, 2, 3] [(9, .x fun _ => ⟨.str v5, [(0, [.str s5, .int .i64 e5])], []⟩)] hF
    case hex => intro A X; conv => lhs; cbv
    case hob =>
      intro X
      subst hB
      simp only [AllOb, Ob.holds, BE.den, List.mem_cons, List.not_mem_nil, or_false, forall_eq_or_imp, forall_eq] <;> (and_intros <;> first | trivial | (intro h; trivial) | exact enters84 | (intro h; exact enters84) | (refine S5.re ⟨Sim.ptr, ?_, trivial⟩ rfl (fun x => ⟨rfl, rfl, Sim.refl _, rfl⟩); rw [← hh2]; exact Sim.refl _) | (intro h; (refine S5.re ⟨Sim.ptr, ?_, trivial⟩ rfl (fun x => ⟨rfl, rfl, Sim.refl _, rfl⟩); rw [← hh2]; exact Sim.refl _)) | rfl | (intro h; rfl))
    case hQ =>
    intro X7 a0 w1 hF
    refine wp_seq ?_
    apply region_okB hB T51_ok [2] [0, 2] [] hF
    case hex => intro A X; conv => lhs; cbv
    case hob =>
      intro X
      subst hB
      simp [AllOb, Ob.holds, BE.den, std, stdCmp, stdArith] <;> omega
    case hQ =>
    intro X8 a0 w1 hF
    refine wp_ret ?_
    refine (ret_x (fn := Tryd.f51) T51_ok hF (rs := [.cell 2 26]) rfl (by conv => lhs; cbv) ?_ noAtom [] ?_ ?_ ?_).1
    · subst hB; simp [AllOb, Ob.holds]
    · subst hB
      show Sim (.agg [.int .i64 (IntKind.i64.wrap v1), .int .u64 v2, .int .i64 (IntKind.i64.wrap v3), .int .u64 v4, .str v5]) _
      rw [ew, ew1]; exact Sim.refl _
    · subst hB; exact ⟨rfl, ⟨_, rfl, SimL.refl _⟩, trivial⟩
    · exact trivial
  · skip
    have hmv : mostD v3 = 0 := by
      unfold mostD; apply if_neg
      subst hB
      simp only [std, stdCmp, BE.den] at hb
      rw [ew] at hb
      rintro (h3 | h3) <;> simp [h3] at hb
    have S4 := S4b
    rw [h4b hmv] at S4
    dsimp only at S4
    apply region_okB hB T51_ok [0, 2, 3] [0, 2, 3] [(1, .x fun _ => ⟨.int .u64 v4, [(0, [.str s4, .int .i64 e4])], []⟩)] hF
    case hex => intro A X; conv => lhs; cbv
    case hob =>
      intro X
      subst hB
      simp only [AllOb, Ob.holds, BE.den, List.mem_cons, List.not_mem_nil, or_false, forall_eq_or_imp, forall_eq] <;> (and_intros <;> first | trivial | (intro h; trivial) | exact enters48 | exact S4 | exact ⟨enters48, S4⟩ | (intro h; exact ⟨enters48, S4⟩) | rfl | (intro h; rfl))
    case hQ =>
    intro X6 a0 w1 hF
    refine wp_seq ?_
    apply region_okB hB T51_ok [2, 3] [0, 2, 3] [(9, .x fun _ => ⟨.str v5, [(0, [.str s5, .int .i64 e5])], []⟩)] hF
    case hex => intro A X; conv => lhs; cbv
    case hob =>
      intro X
      subst hB
      simp only [AllOb, Ob.holds, BE.den, List.mem_cons, List.not_mem_nil, or_false, forall_eq_or_imp, forall_eq] <;> (and_intros <;> first | trivial | (intro h; trivial) | exact enters84 | (intro h; exact enters84) | (refine S5.re ⟨Sim.ptr, ?_, trivial⟩ rfl (fun x => ⟨rfl, rfl, Sim.refl _, rfl⟩); rw [← hh2]; exact Sim.refl _) | (intro h; (refine S5.re ⟨Sim.ptr, ?_, trivial⟩ rfl (fun x => ⟨rfl, rfl, Sim.refl _, rfl⟩); rw [← hh2]; exact Sim.refl _)) | rfl | (intro h; rfl))
    case hQ =>
    intro X7 a0 w1 hF
    refine wp_seq ?_
    apply region_okB hB T51_ok [2] [0, 2] [] hF
    case hex => intro A X; conv => lhs; cbv
    case hob =>
      intro X
      subst hB
      simp [AllOb, Ob.holds, BE.den, std, stdCmp, stdArith] <;> omega
    case hQ =>
    intro X8 a0 w1 hF
    refine wp_ret ?_
    refine (ret_x (fn := Tryd.f51) T51_ok hF (rs := [.cell 2 26]) rfl (by conv => lhs; cbv) ?_ noAtom [] ?_ ?_ ?_).1
    · subst hB; simp [AllOb, Ob.holds]
    · subst hB
      show Sim (.agg [.int .i64 (IntKind.i64.wrap v1), .int .u64 v2, .int .i64 (IntKind.i64.wrap v3), .int .u64 v4, .str v5]) _
      rw [ew, ew1]; exact Sim.refl _
    · subst hB; exact ⟨rfl, ⟨_, rfl, SimL.refl _⟩, trivial⟩
    · exact trivial
theorem qop_m (k0 : Nat) (b : Nat) (s : ByteArray) (e : Int) (hs : s.size ≤ 1000000000) : SpecX Tryd.prog 51 [.ptr k0 b 0] [(k0, ⟨b, 90, [.str s, .int .i64 e]⟩)] (fun _ => ⟨opAV (ropD (⟨e, s⟩ : RS)).1, [(k0, [.str (ropD (⟨e, s⟩ : RS)).2.s, .int .i64 (ropD (⟨e, s⟩ : RS)).2.e])], []⟩) :=
  (qop_m0 b s e hs).re (by repeat (first | exact trivial | refine ⟨Sim.ptr, ?_⟩ | refine ⟨Sim.fn ⟨Sim.ptr, trivial⟩ trivial, ?_⟩ | refine ⟨Sim.fn trivial ⟨Sim.ptr, trivial⟩, ?_⟩ | refine ⟨Sim.refl _, ?_⟩)) rfl (fun x => ⟨rfl, rfl, Sim.refl _, rfl⟩)
def T52 : List (Nat × TI) := [(4, ti4), (9, ti9), (22, ti22), (29, ti29), (86, ti86), (88, ti88), (90, ti90)]
theorem T52_ok : TabOK Tryd.prog T52 := .cons t4 (.cons t9 (.cons t22 (.cons t29 (.cons t86 (.cons t88 (.cons t90 (.nil)))))))
theorem enters52 : Enters Tryd.prog 52 := fun _ _ => by kernel_rfl
theorem qans_m0 (b : Nat) (s : ByteArray) (e : Int) (hs : s.size ≤ 1000000000) : SpecX Tryd.prog 52 [.ptr 0 b 0] [(0, ⟨b, 90, [.str s, .int .i64 e]⟩)] (fun _ => ⟨ansAV (ransD (⟨e, s⟩ : RS)).1, [(0, [.str (ransD (⟨e, s⟩ : RS)).2.s, .int .i64 (ransD (⟨e, s⟩ : RS)).2.e])], []⟩) := by
  intro m w hm hargs hpre
  have hs1 := shr_rcode true true (⟨e, s⟩ : RS)
  obtain ⟨o, ho1⟩ : ∃ o, o = rcodeD true true (⟨e, s⟩ : RS) := ⟨_, rfl⟩
  have S1 := qcode_m 0 b s e hs true true
  rw [← ho1] at hs1
  simp only [← ho1] at S1
  obtain ⟨v1, e1, s1⟩ := o
  dsimp only at S1 hs1
  replace hs1 : s1.size ≤ 1000000000 := Nat.le_trans hs1 hs
  have hs2 := shr_whole (⟨e1, s1⟩ : RS)
  obtain ⟨o, ho2⟩ : ∃ o, o = wholeD (⟨e1, s1⟩ : RS) := ⟨_, rfl⟩
  have S2 := qany_m 0 b s1 e1 hs1
  rw [← ho2] at hs2
  simp only [← ho2] at S2
  obtain ⟨v2, e2, s2⟩ := o
  dsimp only at S2 hs2
  replace hs2 : s2.size ≤ 1000000000 := Nat.le_trans hs2 hs1
  have hs3 := shr_num 0 0 1 (⟨e2, s2⟩ : RS)
  obtain ⟨o, ho3⟩ : ∃ o, o = numD 0 0 1 (⟨e2, s2⟩ : RS) := ⟨_, rfl⟩
  have S3 := (by have S := qnum_m 0 b s2 e2 hs2 0 1; unfold rnumD at S; exact S)
  rw [← ho3] at hs3
  simp only [← ho3] at S3
  obtain ⟨v3, e3, s3⟩ := o
  dsimp only at S3 hs3
  replace hs3 : s3.size ≤ 1000000000 := Nat.le_trans hs3 hs2
  obtain ⟨h3, hh3⟩ : ∃ h, h = decide (v3 = 1) := ⟨_, rfl⟩
  have hs4 := shr_val h3 (⟨e3, s3⟩ : RS)
  obtain ⟨o, ho4⟩ : ∃ o, o = valD h3 (⟨e3, s3⟩ : RS) := ⟨_, rfl⟩
  have S4 := qval_m 0 b s3 e3 hs3 h3
  rw [← ho4] at hs4
  simp only [← ho4] at S4
  obtain ⟨v4, e4, s4⟩ := o
  dsimp only at S4 hs4
  replace hs4 : s4.size ≤ 1000000000 := Nat.le_trans hs4 hs3
  rw [hh3] at ho4
  have hD : ransD (⟨e, s⟩ : RS) = ((⟨v1, v2, decide (v3 = 1), v4⟩ : Ans), ⟨e4, s4⟩) := by simp only [ransD, rtoldD, flagD, ← ho1, ← ho2, ← ho3, ← ho4]
  rw [hD]
  dsimp only
  rw [← hh3]
  simp only [ansAV, ansC]
  refine enterX hm hpre hargs Tryd.func52 rfl (by simp [Tryd.ntmps52]) fun a0 hF => ?_
  simp only [Tryd.ntmps52, startT] at hF
  obtain ⟨B, hB⟩ : ∃ B, B = std := ⟨_, rfl⟩
  refine wp_seq ?_
  apply region_okB hB T52_ok [0, 2] [0, 2] [] hF
  case hex => intro A X; conv => lhs; cbv
  case hob =>
    intro X
    subst hB
    simp [AllOb, Ob.holds, BE.den, std, stdCmp, stdArith] <;> omega
  case hQ =>
  intro X0 a0 w1 hF
  refine wp_seq ?_
  apply region_okB hB T52_ok [0, 2, 3] [0, 2, 3] [(1, .x fun _ => ⟨.int .i64 v1, [(0, [.str s1, .int .i64 e1])], []⟩)] hF
  case hex => intro A X; conv => lhs; cbv
  case hob =>
    intro X
    subst hB
    simp only [AllOb, Ob.holds, BE.den, List.mem_cons, List.not_mem_nil, or_false, forall_eq_or_imp, forall_eq] <;> (and_intros <;> first | trivial | (intro h; trivial) | exact enters85 | (intro h; exact enters85) | (refine S1.re ⟨Sim.ptr, Sim.tt, Sim.tt, trivial⟩ rfl (fun x => ⟨rfl, rfl, Sim.refl _, rfl⟩)) | (intro h; (refine S1.re ⟨Sim.ptr, Sim.tt, Sim.tt, trivial⟩ rfl (fun x => ⟨rfl, rfl, Sim.refl _, rfl⟩))) | rfl | (intro h; rfl))
  case hQ =>
  intro X1 a0 w1 hF
  refine wp_seq ?_
  apply region_okB hB T52_ok [0, 2, 3] [0, 2, 3] [(1, .x fun _ => ⟨.int .u64 v2, [(0, [.str s2, .int .i64 e2])], []⟩)] hF
  case hex => intro A X; conv => lhs; cbv
  case hob =>
    intro X
    subst hB
    simp only [AllOb, Ob.holds, BE.den, List.mem_cons, List.not_mem_nil, or_false, forall_eq_or_imp, forall_eq] <;> (and_intros <;> first | trivial | (intro h; trivial) | exact enters49 | exact S2 | exact ⟨enters49, S2⟩ | (intro h; exact ⟨enters49, S2⟩) | rfl | (intro h; rfl))
  case hQ =>
  intro X2 a0 w1 hF
  refine wp_seq ?_
  apply region_okB hB T52_ok [0, 2, 3] [0, 2, 3] [(1, .x fun _ => ⟨.int .u64 v3, [(0, [.str s3, .int .i64 e3])], []⟩)] hF
  case hex => intro A X; conv => lhs; cbv
  case hob =>
    intro X
    subst hB
    simp only [AllOb, Ob.holds, BE.den, List.mem_cons, List.not_mem_nil, or_false, forall_eq_or_imp, forall_eq] <;> (and_intros <;> first | trivial | (intro h; trivial) | exact enters48 | exact S3 | exact ⟨enters48, S3⟩ | (intro h; exact ⟨enters48, S3⟩) | rfl | (intro h; rfl))
  case hQ =>
  intro X3 a0 w1 hF
  refine wp_seq ?_
  apply region_okB hB T52_ok [2, 3] [0, 2, 3] [(3, .x fun _ => ⟨.str v4, [(0, [.str s4, .int .i64 e4])], []⟩)] hF
  case hex => intro A X; conv => lhs; cbv
  case hob =>
    intro X
    subst hB
    simp only [AllOb, Ob.holds, BE.den, List.mem_cons, List.not_mem_nil, or_false, forall_eq_or_imp, forall_eq] <;> (and_intros <;> first | trivial | (intro h; trivial) | exact enters84 | (intro h; exact enters84) | (refine S4.re ⟨Sim.ptr, ?_, trivial⟩ rfl (fun x => ⟨rfl, rfl, Sim.refl _, rfl⟩); rw [hh3]; exact Sim.refl _) | (intro h; (refine S4.re ⟨Sim.ptr, ?_, trivial⟩ rfl (fun x => ⟨rfl, rfl, Sim.refl _, rfl⟩); rw [hh3]; exact Sim.refl _)) | exact S4 | (intro h; exact S4) | rfl | (intro h; rfl))
  case hQ =>
  intro X4 a0 w1 hF
  refine wp_seq ?_
  apply region_okB hB T52_ok [2] [0, 2] [] hF
  case hex => intro A X; conv => lhs; cbv
  case hob =>
    intro X
    subst hB
    simp [AllOb, Ob.holds, BE.den, std, stdCmp, stdArith] <;> omega
  case hQ =>
  intro X5 a0 w1 hF
  refine wp_ret ?_
  refine (ret_x (fn := Tryd.f52) T52_ok hF (rs := [.cell 2 29]) rfl (by conv => lhs; cbv) ?_ noAtom [] ?_ ?_ ?_).1
  · subst hB; simp [AllOb, Ob.holds]
  · subst hB; rw [hh3]; exact Sim.refl _
  · subst hB; exact ⟨rfl, ⟨_, rfl, SimL.refl _⟩, trivial⟩
  · exact trivial
theorem qans_m (k0 : Nat) (b : Nat) (s : ByteArray) (e : Int) (hs : s.size ≤ 1000000000) : SpecX Tryd.prog 52 [.ptr k0 b 0] [(k0, ⟨b, 90, [.str s, .int .i64 e]⟩)] (fun _ => ⟨ansAV (ransD (⟨e, s⟩ : RS)).1, [(k0, [.str (ransD (⟨e, s⟩ : RS)).2.s, .int .i64 (ransD (⟨e, s⟩ : RS)).2.e])], []⟩) :=
  (qans_m0 b s e hs).re (by repeat (first | exact trivial | refine ⟨Sim.ptr, ?_⟩ | refine ⟨Sim.fn ⟨Sim.ptr, trivial⟩ trivial, ?_⟩ | refine ⟨Sim.fn trivial ⟨Sim.ptr, trivial⟩, ?_⟩ | refine ⟨Sim.refl _, ?_⟩)) rfl (fun x => ⟨rfl, rfl, Sim.refl _, rfl⟩)
end Go.Proofs.YtkamdppnnhjajaaDoor.Sym

namespace Go.Proofs.YtkamdppnnhjajaaDoor.Sym
open Go Go.RowKit
set_option maxRecDepth 100000
set_option maxHeartbeats 1600000
set_option linter.unusedVariables false
set_option linter.unusedSimpArgs false
def T53 : List (Nat × TI) := [(3, ti3), (4, ti4), (9, ti9), (22, ti22), (27, ti27), (29, ti29), (30, ti30), (32, ti32), (62, ti62), (86, ti86), (88, ti88), (90, ti90)]
theorem T53_ok : TabOK Tryd.prog T53 := .cons t3 (.cons t4 (.cons t9 (.cons t22 (.cons t27 (.cons t29 (.cons t30 (.cons t32 (.cons t62 (.cons t86 (.cons t88 (.cons t90 (.nil))))))))))))
theorem enters53 : Enters Tryd.prog 53 := fun _ _ => by kernel_rfl
theorem qcell_m0 (b : Nat) (s : ByteArray) (e : Int) (hs : s.size ≤ 1000000000) : SpecX Tryd.prog 53 [.ptr 0 b 0] [(0, ⟨b, 90, [.str s, .int .i64 e]⟩)] (fun x => ⟨celAV (x.A 0) (x.c 0) (rcellD (⟨e, s⟩ : RS)).1, [(0, [.str (rcellD (⟨e, s⟩ : RS)).2.s, .int .i64 (rcellD (⟨e, s⟩ : RS)).2.e])], []⟩) := by
  intro m w hm hargs hpre
  have hs1 := shr_whole (⟨e, s⟩ : RS)
  obtain ⟨o, ho1⟩ : ∃ o, o = wholeD (⟨e, s⟩ : RS) := ⟨_, rfl⟩
  have S1 := qany_m 0 b s e hs
  rw [← ho1] at hs1
  simp only [← ho1] at S1
  obtain ⟨v1, e1, s1⟩ := o
  dsimp only at S1 hs1
  replace hs1 : s1.size ≤ 1000000000 := Nat.le_trans hs1 hs
  have hs2 := shr_num 0 0 1 (⟨e1, s1⟩ : RS)
  obtain ⟨o, ho2⟩ : ∃ o, o = numD 0 0 1 (⟨e1, s1⟩ : RS) := ⟨_, rfl⟩
  have S2 := (by have S := qnum_m 0 b s1 e1 hs1 0 1; unfold rnumD at S; exact S)
  rw [← ho2] at hs2
  simp only [← ho2] at S2
  obtain ⟨v2, e2, s2⟩ := o
  dsimp only at S2 hs2
  replace hs2 : s2.size ≤ 1000000000 := Nat.le_trans hs2 hs1
  obtain ⟨h2, hh2⟩ : ∃ h, h = decide (v2 = 1) := ⟨_, rfl⟩
  have hs3 := shr_val h2 (⟨e2, s2⟩ : RS)
  obtain ⟨o, ho3⟩ : ∃ o, o = valD h2 (⟨e2, s2⟩ : RS) := ⟨_, rfl⟩
  have S3 := qval_m 0 b s2 e2 hs2 h2
  rw [← ho3] at hs3
  simp only [← ho3] at S3
  obtain ⟨v3, e3, s3⟩ := o
  dsimp only at S3 hs3
  replace hs3 : s3.size ≤ 1000000000 := Nat.le_trans hs3 hs2
  have hr := num_rng (d := 0) (lo := 0) (hi := 64) (⟨e3, s3⟩ : RS) (by decide) (by decide)
  have hs4 := shr_num 0 0 64 (⟨e3, s3⟩ : RS)
  obtain ⟨o, ho4⟩ : ∃ o, o = numD 0 0 64 (⟨e3, s3⟩ : RS) := ⟨_, rfl⟩
  have S4 := (by have S := qnum_m 0 b s3 e3 hs3 0 64; unfold rnumD at S; exact S)
  rw [← ho4] at hs4
  simp only [← ho4] at S4
  obtain ⟨v4, e4, s4⟩ := o
  dsimp only at S4 hs4
  replace hs4 : s4.size ≤ 1000000000 := Nat.le_trans hs4 hs3
  rw [← ho4] at hr
  dsimp only at hr
  obtain ⟨N, hN⟩ : ∃ N : Nat, v4 = (N : Int) := ⟨v4.toNat, by omega⟩
  subst hN
  rw [hh2] at ho3
  have hcD : rcellD (⟨e, s⟩ : RS) = (⟨v1, h2, v3, (rmarksD N 0 ⟨e4, s4⟩).1⟩, (rmarksD N 0 ⟨e4, s4⟩).2) := by simp only [rcellD, flagD, ← ho1, ← ho2, ← ho3, ← ho4, Int.toNat_natCast, hh2]
  have ewN := wrap_in (x := (N : Int)) (by omega) (by omega)
  refine enterX hm hpre hargs Tryd.func53 rfl (by simp [Tryd.ntmps53]) fun a0 hF => ?_
  simp only [Tryd.ntmps53, startT] at hF
  obtain ⟨B, hB⟩ : ∃ B, B = std := ⟨_, rfl⟩
  refine wp_seq ?_
  apply region_okB hB T53_ok [0, 2] [0, 2] [] hF
  case hex => intro A X; conv => lhs; cbv
  case hob =>
    intro X
    subst hB
    simp [AllOb, Ob.holds, BE.den, std, stdCmp, stdArith] <;> omega
  case hQ =>
  intro X0 a0 w1 hF
  refine wp_seq ?_
  apply region_okB hB T53_ok [0, 2, 3] [0, 3, 2] [(1, .x fun _ => ⟨.int .u64 v1, [(0, [.str s1, .int .i64 e1])], []⟩)] hF
  case hex => intro A X; conv => lhs; cbv
  case hob =>
    intro X
    subst hB
    simp only [AllOb, Ob.holds, BE.den, List.mem_cons, List.not_mem_nil, or_false, forall_eq_or_imp, forall_eq] <;> (and_intros <;> first | trivial | (intro h; trivial) | exact enters49 | exact S1 | exact ⟨enters49, S1⟩ | (intro h; exact ⟨enters49, S1⟩) | rfl | (intro h; rfl))
  case hQ =>
  intro X1 a0 w1 hF
  refine wp_seq ?_
  apply region_okB hB T53_ok [0, 2, 3] [0, 3, 2] [(1, .x fun _ => ⟨.int .u64 v2, [(0, [.str s2, .int .i64 e2])], []⟩)] hF
  case hex => intro A X; conv => lhs; cbv
  case hob =>
    intro X
    subst hB
    simp only [AllOb, Ob.holds, BE.den, List.mem_cons, List.not_mem_nil, or_false, forall_eq_or_imp, forall_eq] <;> (and_intros <;> first | trivial | (intro h; trivial) | exact enters48 | exact S2 | exact ⟨enters48, S2⟩ | (intro h; exact ⟨enters48, S2⟩) | rfl | (intro h; rfl))
  case hQ =>
  intro X2 a0 w1 hF
  refine wp_seq ?_
  apply region_okB hB T53_ok [0, 2, 3] [0, 3, 2] [(3, .x fun _ => ⟨.str v3, [(0, [.str s3, .int .i64 e3])], []⟩)] hF
  case hex => intro A X; conv => lhs; cbv
  case hob =>
    intro X
    subst hB
    simp only [AllOb, Ob.holds, BE.den, List.mem_cons, List.not_mem_nil, or_false, forall_eq_or_imp, forall_eq] <;> (and_intros <;> first | trivial | (intro h; trivial) | exact enters84 | (intro h; exact enters84) | (refine S3.re ⟨Sim.ptr, ?_, trivial⟩ rfl (fun x => ⟨rfl, rfl, Sim.refl _, rfl⟩); rw [hh2]; exact Sim.refl _) | (intro h; (refine S3.re ⟨Sim.ptr, ?_, trivial⟩ rfl (fun x => ⟨rfl, rfl, Sim.refl _, rfl⟩); rw [hh2]; exact Sim.refl _)) | exact S3 | (intro h; exact S3) | rfl | (intro h; rfl))
  case hQ =>
  intro X3 a0 w1 hF
  refine wp_seq ?_
  apply region_okB hB T53_ok [4, 0, 2, 3] [0, 3, 2] [(1, .x fun _ => ⟨.int .u64 (N : Int), [(0, [.str s4, .int .i64 e4])], []⟩)] hF
  case hex => intro A X; conv => lhs; cbv
  case hob =>
    intro X
    subst hB
    simp only [AllOb, Ob.holds, BE.den, List.mem_cons, List.not_mem_nil, or_false, forall_eq_or_imp, forall_eq] <;> (and_intros <;> first | trivial | (intro h; trivial) | exact enters48 | exact S4 | exact ⟨enters48, S4⟩ | (intro h; exact ⟨enters48, S4⟩) | rfl | (intro h; rfl))
  case hQ =>
  intro X4 a0 w1 hF
  replace hF := hF.head (v' := .int .i64 (N : Int)) (by subst hB; show AV.int .i64 (IntKind.i64.wrap (N : Int)) = _; rw [ewN])
  refine wp_seq ?_
  apply region_okB hB T53_ok [0, 2, 3, 4, 5] [0, 3, 2] [] hF
  case hex => intro A X; conv => lhs; cbv
  case hob =>
    intro X
    subst hB
    simp [AllOb, Ob.holds, BE.den, std, stdCmp, stdArith] <;> omega
  case hQ =>
  intro X5 a0 w1 hF
  refine wp_seq ?_
  refine wp_seq ?_
  apply region_okB hB T53_ok [5, 6, 0, 2, 3, 4] [0, 3, 2] [] hF
  case hex => intro A X; conv => lhs; cbv
  case hob =>
    intro X
    subst hB
    simp [AllOb, Ob.holds, BE.den, std, stdCmp, stdArith] <;> omega
  case hQ =>
  intro X6 a0 w1 hF
  refine wp_block ?_
  replace hF := hF.fresh (Below.refl _ _) 60 (t := ⟨none, 0, 0, 6, 62⟩) (by decide) (Own.nil _ _ _ _ _)
  have hrow : Ok _ _ (.sl (some 60) none 0 0 6 (fun t => markC ((fun _ => zeroMark) t))) := ok_recell ((hF.mem 3 _ rfl).2.1 _ (.tail _ (.tail _ (.tail _ (.head _))))).2 (fun i hi => absurd hi (Nat.not_lt_zero _))
  replace hF := hF.recells 3 rfl [.int .u64 v1, .bool (.v h2), .str v3, .sl (some 60) none 0 0 6 (fun t => markC ((fun _ => zeroMark) t))] (by subst hB; rw [hh2]; rfl) (fun v hv => by
    simp only [List.mem_cons, List.not_mem_nil, or_false] at hv
    rcases hv with rfl | rfl | rfl | rfl
    · exact ((hF.mem 3 _ rfl).2.1 _ (.head _))
    · exact ⟨rfl, .bool _⟩
    · exact ((hF.mem 3 _ rfl).2.1 _ (.tail _ (.tail _ (.head _))))
    · exact ⟨rfl, hrow⟩)
  replace hF : Fits _ ⟨67, [(5, .int .u64 0), (6, .int .i64 0), (0, .ptr 0 b 0), (2, .ptr 2 (X0 0).b 0), (3, .ptr 3 (X1 3).b 0), (4, .int .i64 (N : Int))], [], [(0, ⟨b, 90, [.str s4, .int .i64 e4]⟩), (3, ⟨(X1 3).b, 32, [.int .u64 v1, .bool (.v h2), .str v3, .sl (some 60) none 0 0 6 (fun t => markC ((fun _ => zeroMark) t))]⟩), (2, ⟨(X0 0).b, 32, [.int .u64 0, .bool .ff, .str ⟨⟨[]⟩⟩, .sl none none 0 0 6 fun _ => []]⟩)], [(60, ⟨none, 0, 0, 6, 62⟩)]⟩ _ _ := hF.keep [5, 6, 0, 2, 3, 4] [0, 3, 2, 60]
  refine loop_pre (ι := Nat × (Nat → Mark) × Option Addr × Nat × Int × Int × ByteArray) (fun p => [(5, .int .u64 p.2.2.2.2.1), (6, .int .i64 (p.1 : Int))]) (fun p => [(0, ⟨b, 90, [.str p.2.2.2.2.2.2, .int .i64 p.2.2.2.2.2.1]⟩), (3, ⟨(X1 3).b, 32, [.int .u64 v1, .bool (.v h2), .str v3, .sl (some 60) p.2.2.1 p.1 p.2.2.2.1 6 (fun t => markC (p.2.1 t))]⟩)]) (fun p => [(60, ⟨p.2.2.1, p.1, p.2.2.2.1, 6, 62⟩)]) (fun p => p.1 ≤ N ∧ rmarksD N 0 ⟨e4, s4⟩ = (firstM p.2.1 p.1 ++ (rmarksD (N - p.1) p.2.2.2.2.1 ⟨p.2.2.2.2.2.1, p.2.2.2.2.2.2⟩).1, (rmarksD (N - p.1) p.2.2.2.2.1 ⟨p.2.2.2.2.2.1, p.2.2.2.2.2.2⟩).2) ∧ 0 ≤ p.2.2.2.2.1 ∧ p.2.2.2.2.1 ≤ 64 + (p.1 : Int) ∧ p.2.2.2.2.2.2.size ≤ 1000000000) (fun p => N - p.1) (0, fun _ => zeroMark, none, 0, 0, e4, s4) ⟨Nat.zero_le _, rfl, show (0 : Int) ≤ 0 by decide, show (0 : Int) ≤ 64 + ((0 : Nat) : Int) by decide, hs4⟩ hF ?_
  rintro ⟨i, f, A1, c1, least, er, sr⟩ ⟨hi, hJ, hl0, hl1, hsr⟩ a0 w1 hF
  try dsimp only at hi
  try dsimp only at hJ
  try dsimp only at hl0
  try dsimp only at hl1
  try dsimp only at hsr
  refine wp_seq ?_
  refine wp_seq ?_
  apply region_okB hB T53_ok [32, 0, 2, 3, 4, 5, 6] [0, 3, 2, 60] [] hF
  case hex => intro A X; conv => lhs; cbv
  case hob =>
    intro X
    subst hB
    simp [AllOb, Ob.holds, BE.den, std, stdCmp, stdArith] <;> omega
  case hQ =>
  intro X7 a0 w1 hF
  refine test_ok hF rfl (fun hb hF => ?_) (fun hb hF => ?_)
  · skip
    have hin : i < N ∧ er = 0 := by
      subst hB
      simp only [std, stdCmp, BE.den] at hb
      clear hF hargs hm hpre
      by_cases h1 : (i : Int) < (N : Int)
      · by_cases h2 : er = 0
        · exact ⟨by omega, h2⟩
        · simp [h2] at hb
      · simp [h1] at hb
    obtain ⟨hin, her⟩ := hin
    subst her
    have hr5 := rnum_rng (lo := least) (hi := 63) ⟨0, sr⟩
    have hs5 := shr_num least least 63 (⟨0, sr⟩ : RS)
    obtain ⟨o, ho5⟩ : ∃ o, o = numD least least 63 (⟨0, sr⟩ : RS) := ⟨_, rfl⟩
    have S5 := (by have S := qnum_m 0 b sr 0 hsr least 63; unfold rnumD at S; exact S)
    rw [← ho5] at hs5
    simp only [← ho5] at S5
    obtain ⟨v5, e5, s5⟩ := o
    dsimp only at S5 hs5
    replace hs5 : s5.size ≤ 1000000000 := Nat.le_trans hs5 hsr
    rw [← ho5] at hr5
    dsimp only at hr5
    have hs6 := shr_whole (⟨e5, s5⟩ : RS)
    obtain ⟨o, ho6⟩ : ∃ o, o = wholeD (⟨e5, s5⟩ : RS) := ⟨_, rfl⟩
    have S6 := qany_m 0 b s5 e5 hs5
    rw [← ho6] at hs6
    simp only [← ho6] at S6
    obtain ⟨v6, e6, s6⟩ := o
    dsimp only at S6 hs6
    replace hs6 : s6.size ≤ 1000000000 := Nat.le_trans hs6 hs5
    have hs7 := shr_rcode false false (⟨e6, s6⟩ : RS)
    obtain ⟨o, ho7⟩ : ∃ o, o = rcodeD false false (⟨e6, s6⟩ : RS) := ⟨_, rfl⟩
    have S7 := qcode_m 0 b s6 e6 hs6 false false
    rw [← ho7] at hs7
    simp only [← ho7] at S7
    obtain ⟨v7, e7, s7⟩ := o
    dsimp only at S7 hs7
    replace hs7 : s7.size ≤ 1000000000 := Nat.le_trans hs7 hs6
    have hs8 := shr_whole (⟨e7, s7⟩ : RS)
    obtain ⟨o, ho8⟩ : ∃ o, o = wholeD (⟨e7, s7⟩ : RS) := ⟨_, rfl⟩
    have S8 := qany_m 0 b s7 e7 hs7
    rw [← ho8] at hs8
    simp only [← ho8] at S8
    obtain ⟨v8, e8, s8⟩ := o
    dsimp only at S8 hs8
    replace hs8 : s8.size ≤ 1000000000 := Nat.le_trans hs8 hs7
    have hs9 := shr_num 0 0 1 (⟨e8, s8⟩ : RS)
    obtain ⟨o, ho9⟩ : ∃ o, o = numD 0 0 1 (⟨e8, s8⟩ : RS) := ⟨_, rfl⟩
    have S9 := (by have S := qnum_m 0 b s8 e8 hs8 0 1; unfold rnumD at S; exact S)
    rw [← ho9] at hs9
    simp only [← ho9] at S9
    obtain ⟨v9, e9, s9⟩ := o
    dsimp only at S9 hs9
    replace hs9 : s9.size ≤ 1000000000 := Nat.le_trans hs9 hs8
    have ew := wrap_in (x := v5) (by omega) (by omega)
    have hm : rmarksD (N - i) least ⟨0, sr⟩ = ((⟨v5, v6, ⟨v7, v8, decide (v9 = 1), ByteArray.empty⟩⟩ : Mark) :: (rmarksD (N - i - 1) (v5 + 1) ⟨e9, s9⟩).1, (rmarksD (N - i - 1) (v5 + 1) ⟨e9, s9⟩).2) := by
      obtain ⟨k1, hk1⟩ : ∃ k, N - i = k + 1 := ⟨N - i - 1, by omega⟩
      rw [show N - i - 1 = k1 by omega, hk1, rmarksD]
      simp only [ne_eq, not_true, if_false, rmarkD, rtoldD, rnumD, flagD, ← ho5, ← ho6, ← ho7, ← ho8, ← ho9]
    refine wp_skip ?_
    refine wp_seq ?_
    refine wp_block ?_
    refine wp_seq ?_
    apply region_okB hB T53_ok [0, 2, 3, 4, 6, 7] [0, 3, 2, 60, 7] [(2, .x fun _ => ⟨.int .u64 v5, [(0, [.str s5, .int .i64 e5])], []⟩)] hF
    case hex => intro A X; conv => lhs; cbv
    case hob =>
      intro X
      subst hB
      simp only [AllOb, Ob.holds, BE.den, List.mem_cons, List.not_mem_nil, or_false, forall_eq_or_imp, forall_eq] <;> (and_intros <;> first | trivial | (intro h; trivial) | exact enters48 | exact S5 | exact ⟨enters48, S5⟩ | (intro h; exact ⟨enters48, S5⟩) | rfl | (intro h; rfl))
    case hQ =>
    intro X9 a0 w1 hF
    refine wp_seq ?_
    apply region_okB hB T53_ok [0, 2, 3, 4, 6, 7] [0, 3, 2, 60, 7] [(1, .x fun _ => ⟨.int .u64 v6, [(0, [.str s6, .int .i64 e6])], []⟩)] hF
    case hex => intro A X; conv => lhs; cbv
    case hob =>
      intro X
      subst hB
      simp only [AllOb, Ob.holds, BE.den, List.mem_cons, List.not_mem_nil, or_false, forall_eq_or_imp, forall_eq] <;> (and_intros <;> first | trivial | (intro h; trivial) | exact enters49 | exact S6 | exact ⟨enters49, S6⟩ | (intro h; exact ⟨enters49, S6⟩) | rfl | (intro h; rfl))
    case hQ =>
    intro X10 a0 w1 hF
    refine wp_seq ?_
    apply region_okB hB T53_ok [0, 2, 3, 4, 6, 7] [0, 3, 2, 60, 7] [(1, .x fun _ => ⟨.int .i64 v7, [(0, [.str s7, .int .i64 e7])], []⟩)] hF
    case hex => intro A X; conv => lhs; cbv
    case hob =>
      intro X
      subst hB
      simp only [AllOb, Ob.holds, BE.den, List.mem_cons, List.not_mem_nil, or_false, forall_eq_or_imp, forall_eq] <;> (and_intros <;> first | trivial | (intro h; trivial) | exact enters85 | (intro h; exact enters85) | (refine S7.re ⟨Sim.ptr, Sim.ff, Sim.ff, trivial⟩ rfl (fun x => ⟨rfl, rfl, Sim.refl _, rfl⟩)) | (intro h; (refine S7.re ⟨Sim.ptr, Sim.ff, Sim.ff, trivial⟩ rfl (fun x => ⟨rfl, rfl, Sim.refl _, rfl⟩))) | rfl | (intro h; rfl))
    case hQ =>
    intro X11 a0 w1 hF
    refine wp_seq ?_
    apply region_okB hB T53_ok [0, 2, 3, 4, 6, 7] [0, 3, 2, 60, 7] [(1, .x fun _ => ⟨.int .u64 v8, [(0, [.str s8, .int .i64 e8])], []⟩)] hF
    case hex => intro A X; conv => lhs; cbv
    case hob =>
      intro X
      subst hB
      simp only [AllOb, Ob.holds, BE.den, List.mem_cons, List.not_mem_nil, or_false, forall_eq_or_imp, forall_eq] <;> (and_intros <;> first | trivial | (intro h; trivial) | exact enters49 | exact S8 | exact ⟨enters49, S8⟩ | (intro h; exact ⟨enters49, S8⟩) | rfl | (intro h; rfl))
    case hQ =>
    intro X12 a0 w1 hF
    refine wp_seq ?_
    apply region_okB hB T53_ok [0, 2, 3, 4, 6, 7] [0, 3, 2, 60, 7] [(1, .x fun _ => ⟨.int .u64 v9, [(0, [.str s9, .int .i64 e9])], []⟩)] hF
    case hex => intro A X; conv => lhs; cbv
    case hob =>
      intro X
      subst hB
      simp only [AllOb, Ob.holds, BE.den, List.mem_cons, List.not_mem_nil, or_false, forall_eq_or_imp, forall_eq] <;> (and_intros <;> first | trivial | (intro h; trivial) | exact enters48 | exact S9 | exact ⟨enters48, S9⟩ | (intro h; exact ⟨enters48, S9⟩) | rfl | (intro h; rfl))
    case hQ =>
    intro X13 a0 w1 hF
    refine wp_seq ?_
    apply region_okB hB T53_ok [0, 2, 3, 4, 6, 7] [0, 3, 2, 60, 7] [] hF
    case hex => intro A X; conv => lhs; cbv
    case hob =>
      intro X
      subst hB
      refine ⟨rfl, rfl, ⟨rfl, rfl, rfl⟩, ⟨?_, ?_⟩, ?_⟩
      · show i + 1 ≤ maxLen; simp only [maxLen]; omega
      · show (i + 1) * _ ≤ _; omega
      · repeat (first | exact trivial | refine ⟨rfl, ?_⟩)
    case hQ =>
    intro X14 a0 w1 hF
    have hrow : Ok _ _ (.sl (some 60) ((X14 4).A 0) (B.nadd i 1) ((X14 4).c 0) 6 (fun t => markC ((setM f i ⟨v5, v6, ⟨v7, v8, decide (v9 = 1), ByteArray.empty⟩⟩) t))) := ok_recell ((hF.mem 3 _ rfl).2.1 _ (.tail _ (.tail _ (.tail _ (.head _))))).2 (fun t ht => by
      subst hB
      have ht2 : t < i + 1 := ht
      show appC i (fun t => markC (f t)) (chunk 6 [.int .i64 (IntKind.i64.wrap v5), .int .u64 v6, .int .i64 v7, .int .u64 v8, .bool (.v (v9 == 1)), .str ⟨#[]⟩]) t = _
      unfold appC setM
      split
      · simp only; rw [if_neg (by omega)]
      · have : t = i := by omega
        subst this
        rw [ew]; simp [chunk, markC]; exact ⟨rfl, rfl⟩)
    replace hF := hF.recells 3 rfl [.int .u64 v1, .bool (.v h2), .str v3, .sl (some 60) ((X14 4).A 0) (B.nadd i 1) ((X14 4).c 0) 6 (fun t => markC ((setM f i ⟨v5, v6, ⟨v7, v8, decide (v9 = 1), ByteArray.empty⟩⟩) t))] (rfl) (fun v hv => by
      simp only [List.mem_cons, List.not_mem_nil, or_false] at hv
      rcases hv with rfl | rfl | rfl | rfl
      · exact ((hF.mem 3 _ rfl).2.1 _ (.head _))
      · exact ⟨rfl, .bool _⟩
      · exact ((hF.mem 3 _ rfl).2.1 _ (.tail _ (.tail _ (.head _))))
      · exact ⟨rfl, hrow⟩)
    apply region_okB hB T53_ok [0, 2, 3, 4, 5, 6] [0, 3, 2, 60] [] hF
    case hex => intro A X; conv => lhs; cbv
    case hob =>
      intro X
      subst hB
      simp [AllOb, Ob.holds, BE.den, std, stdCmp, stdArith] <;> omega
    case hQ =>
    intro X15 a0 w1 hF
    apply region_okB hB T53_ok [5, 6, 0, 2, 3, 4] [0, 3, 2, 60] [] hF
    case hex => intro A X; conv => lhs; cbv
    case hob =>
      intro X
      subst hB
      simp [AllOb, Ob.holds, BE.den, std, stdCmp, stdArith] <;> omega
    case hQ =>
    intro X8 a0 w1 hF
    have e1 : B.arith .add .i64 (i : Int) 1 = ((i + 1 : Nat) : Int) := by subst hB; exact wrap_succ (n := N) (by omega) (by simp only [maxLen]; omega)
    have e2 : B.arith .add .u64 (B.conv .u64 (B.conv .i64 v5)) 1 = v5 + 1 := by
      subst hB
      show IntKind.u64.wrap (IntKind.u64.wrap (IntKind.i64.wrap v5) + 1) = v5 + 1
      rw [ew, wrap_u64 v5 ⟨by omega, by omega⟩]
      exact wrap_u64 (v5 + 1) ⟨by omega, by omega⟩
    refine ⟨(i + 1, setM f i ⟨v5, v6, ⟨v7, v8, decide (v9 = 1), ByteArray.empty⟩⟩, (X14 4).A 0, (X14 4).c 0, v5 + 1, e9, s9), ⟨by simp only; omega, ?_, by simp only; omega, by simp only; omega, hs9⟩, by simp only; omega, by rw [← e1, ← e2, show i + 1 = B.nadd i 1 by subst hB; rfl]; exact hF⟩
    simp only
    rw [hJ, hm, firstM_set, show N - (i + 1) = N - i - 1 by omega, List.append_assoc]
    rfl
  · skip
    have hout : rmarksD (N - i) least ⟨er, sr⟩ = ([], ⟨er, sr⟩) := by
      by_cases h2 : er = 0
      · have h1 : i = N := by
          subst hB
          simp only [std, stdCmp, BE.den] at hb
          rw [h2] at hb
          by_cases h1 : (i : Int) < (N : Int)
          · simp [h1] at hb
          · omega
        rw [h1, Nat.sub_self]; rfl
      · cases N - i with
        | zero => rfl
        | succ k => simp [rmarksD, h2]
    rw [hout, List.append_nil] at hJ
    have hD : rcellD (⟨e, s⟩ : RS) = (⟨v1, h2, v3, firstM f i⟩, ⟨er, sr⟩) := by rw [hcD, hJ]
    refine wp_exit ?_
    refine wp_seq ?_
    apply region_okB hB T53_ok [2] [0, 2] [] hF
    case hex => intro A X; conv => lhs; cbv
    case hob =>
      intro X
      subst hB
      simp [AllOb, Ob.holds, BE.den, std, stdCmp, stdArith] <;> omega
    case hQ =>
    intro X16 a0 w1 hF
    refine wp_ret ?_
    refine (ret_x (fn := Tryd.f53) T53_ok hF (rs := [.cell 2 32]) rfl (by conv => lhs; cbv) ?_ (⟨0, fun _ => A1, fun _ => c1, fun _ => .empty⟩) [] ?_ ?_ ?_).1
    · subst hB; simp [AllOb, Ob.holds]
    · subst hB; rw [hD]
      exact Sim.agg ⟨Sim.refl _, Sim.refl _, Sim.refl _, Sim.resl (firstM_len f i).symm (fun t ht => by rw [firstM_len] at ht; exact congrArg markC (firstM_get f i t ht).symm), trivial⟩
    · subst hB; rw [hD]
      exact ⟨rfl, ⟨_, rfl, SimL.refl _⟩, trivial⟩
    · exact trivial
theorem qcell_m (k0 : Nat) (b : Nat) (s : ByteArray) (e : Int) (hs : s.size ≤ 1000000000) : SpecX Tryd.prog 53 [.ptr k0 b 0] [(k0, ⟨b, 90, [.str s, .int .i64 e]⟩)] (fun x => ⟨celAV (x.A 0) (x.c 0) (rcellD (⟨e, s⟩ : RS)).1, [(k0, [.str (rcellD (⟨e, s⟩ : RS)).2.s, .int .i64 (rcellD (⟨e, s⟩ : RS)).2.e])], []⟩) :=
  (qcell_m0 b s e hs).re (by repeat (first | exact trivial | refine ⟨Sim.ptr, ?_⟩ | refine ⟨Sim.fn ⟨Sim.ptr, trivial⟩ trivial, ?_⟩ | refine ⟨Sim.fn trivial ⟨Sim.ptr, trivial⟩, ?_⟩ | refine ⟨Sim.refl _, ?_⟩)) rfl (fun x => ⟨rfl, rfl, Sim.refl _, rfl⟩)
end Go.Proofs.YtkamdppnnhjajaaDoor.Sym

namespace Go.Proofs.YtkamdppnnhjajaaDoor.Sym
open Go Go.RowKit
set_option maxRecDepth 100000
set_option maxHeartbeats 1600000
set_option linter.unusedVariables false
set_option linter.unusedSimpArgs false
theorem Fits.cellAt {C : Cx} {s : St} {a : Act} {w : World} (h : Fits C s a w) (k0 : Nat) {blk : Blk} (hb : lookM s.mem k0 = some blk) (i : Nat) (c : AV) (hi : i < blk.cells.length) (hs : Sim (blk.cells.getD i .undef) c) (ho : c.one = true) :
    Fits C { s with mem := (k0, ⟨blk.at_, blk.ty, blk.cells.set i c⟩) :: delM s.mem k0 } a w := by
  have hg : blk.cells.getD i .undef = blk.cells[i] := by simp [List.getD, hi]
  rw [hg] at hs
  refine h.recells k0 hb _ ?_ fun v hv => ?_
  · rw [List.map_set, ← hs.1]
    apply List.ext_getElem (by simp)
    intro j h1 h2
    rw [List.getElem_set]
    split
    · rename_i e; subst e; simp
    · rfl
  · rcases List.mem_or_eq_of_mem_set hv with hv | rfl
    · exact (h.mem k0 _ hb).2.1 v hv
    · exact ⟨ho, hs.2.2 _ _ ((h.mem k0 _ hb).2.1 _ (List.getElem_mem hi)).2⟩
theorem zero_sim : Sim (.agg [.int .i64 0, .int .u64 0, .int .u8 0, .int .u8 0, .int .u8 0, .int .u8 0, .int .u8 0, .int .u8 0, .int .u8 0, .int .u8 0, .int .u8 0, .int .u8 0, .int .u8 0, .int .u8 0, .int .u8 0, .int .u8 0, .int .u8 0, .int .u8 0, .int .u8 0, .int .u8 0, .int .u8 0, .int .u8 0,
    .int .i64 0, .int .u64 0, .int .i64 0, .int .u64 0, .str ⟨⟨[]⟩⟩, .int .i64 0, .int .u64 0, .bool (.v false), .str ⟨⟨[]⟩⟩, .int .u64 0, .int .u64 0, .bool (.v false), .str ⟨⟨[]⟩⟩, .sl none none 0 0 6 (fun _ => [])]) (parAV none 0 zeroPar) := by
  show Sim _ (.agg (parC (kI (List.replicate 20 0)) (marksAV none 0 []) zeroPar))
  rw [kI_zero]
  exact Sim.agg (by repeat (first | exact trivial | refine ⟨Sim.refl _, ?_⟩ | refine ⟨Sim.ff, ?_⟩ | refine ⟨Sim.recell (fun i hi => absurd hi (Nat.not_lt_zero _)), ?_⟩))
theorem shr_who : Shr whoD := fun r => Nat.le_trans (shr_whole _) (shr_num 0 0 63 r)
theorem shr_rop : Shr ropD := fun r => Nat.le_trans (shr_val _ _) (Nat.le_trans (shr_num _ _ _ _) (Nat.le_trans (shr_num 1 1 4 _) (shr_who r)))
theorem shr_rtold (a b : Bool) : Shr (rtoldD a b) := fun r => Nat.le_trans (shr_flag _) (Nat.le_trans (shr_whole _) (shr_rcode a b r))
theorem shr_rans : Shr ransD := fun r => Nat.le_trans (shr_val _ _) (shr_rtold true true r)
theorem shr_rmark (x : Int) : Shr (rmarkD x) := fun r => Nat.le_trans (shr_rtold _ _ _) (Nat.le_trans (shr_whole _) (shr_num x x 63 r))
theorem shr_rmarks : ∀ (n : Nat) (x : Int), Shr (rmarksD n x)
  | 0, x => fun r => Nat.le_refl _
  | n + 1, x => fun r => by
    unfold rmarksD
    split
    · exact Nat.le_refl _
    · exact Nat.le_trans (shr_rmarks n _ _) (shr_rmark x r)
theorem shr_rcell : Shr rcellD := fun r => Nat.le_trans (shr_rmarks _ _ _) (Nat.le_trans (shr_num 0 0 64 _) (Nat.le_trans (shr_val _ _) (Nat.le_trans (shr_flag _) (shr_whole r))))
def T15 : List (Nat × TI) := [(3, ti3), (4, ti4), (9, ti9), (22, ti22), (24, ti24), (26, ti26), (27, ti27), (29, ti29), (32, ti32), (34, ti34), (86, ti86), (88, ti88), (90, ti90)]
theorem T15_ok : TabOK Tryd.prog T15 := .cons t3 (.cons t4 (.cons t9 (.cons t22 (.cons t24 (.cons t26 (.cons t27 (.cons t29 (.cons t32 (.cons t34 (.cons t86 (.cons t88 (.cons t90 (.nil)))))))))))))
theorem enters15 : Enters Tryd.prog 15 := fun _ _ => by kernel_rfl
theorem rgetp_s (s : ByteArray) (hs : s.size ≤ 1000000000) : Spec Tryd.prog 15 [.str s] (fun x => .tup [parAV (x.A 0) (x.c 0) (rgetP s).1, .int .i64 (rgetP s).2]) := by
  intro m w hm hargs
  have hr1 := rnum_rng (lo := 1) (hi := 4) (⟨0, s⟩ : RS)
  have hs1 := shr_num 1 1 4 (⟨0, s⟩ : RS)
  obtain ⟨o, ho1⟩ : ∃ o, o = numD 1 1 4 (⟨0, s⟩ : RS) := ⟨_, rfl⟩
  have S1 := fun b => (by have S := qnum_m 9 b s 0 hs 1 4; unfold rnumD at S; exact S)
  rw [← ho1] at hs1
  simp only [← ho1] at S1
  obtain ⟨v1, e1, s1⟩ := o
  dsimp only at S1 hs1
  replace hs1 : s1.size ≤ 1000000000 := Nat.le_trans hs1 hs
  rw [← ho1] at hr1
  dsimp only at hr1
  have ew1 := wrap_in (x := v1) (by omega) (by omega)
  have hs2 := shr_whole (⟨e1, s1⟩ : RS)
  obtain ⟨o, ho2⟩ : ∃ o, o = wholeD (⟨e1, s1⟩ : RS) := ⟨_, rfl⟩
  have S2 := fun b => qany_m 9 b s1 e1 hs1
  rw [← ho2] at hs2
  simp only [← ho2] at S2
  obtain ⟨v2, e2, s2⟩ := o
  dsimp only at S2 hs2
  replace hs2 : s2.size ≤ 1000000000 := Nat.le_trans hs2 hs1
  refine enter hm hargs Tryd.func15 rfl (by simp [Tryd.ntmps15]) fun a0 hF => ?_
  simp only [Tryd.ntmps15, startT] at hF
  obtain ⟨B, hB⟩ : ∃ B, B = std := ⟨_, rfl⟩
  refine wp_seq ?_
  apply region_okB hB T15_ok [0, 2] [2] [] hF
  case hex => intro A X; conv => lhs; cbv
  case hob =>
    intro X
    subst hB
    simp [AllOb, Ob.holds, BE.den, std, stdCmp, stdArith] <;> omega
  case hQ =>
  intro X0 a0 w1 hF
  refine wp_seq ?_
  apply region_okB hB T15_ok [2, 4] [2, 9] [] hF
  case hex => intro A X; conv => lhs; cbv
  case hob =>
    intro X
    subst hB
    simp [AllOb, Ob.holds, BE.den, std, stdCmp, stdArith] <;> omega
  case hQ =>
  intro X1 a0 w1 hF
  refine wp_seq ?_
  apply region_okB hB T15_ok [2, 4, 5] [2, 9, 5] [(1, .x fun _ => ⟨.int .u64 v1, [(9, [.str s1, .int .i64 e1])], []⟩)] hF
  case hex => intro A X; conv => lhs; cbv
  case hob =>
    intro X
    subst hB
    simp only [AllOb, Ob.holds, BE.den, List.mem_cons, List.not_mem_nil, or_false, forall_eq_or_imp, forall_eq] <;> (and_intros <;> first | trivial | (intro h; trivial) | exact enters48 | exact S1 _ | exact ⟨enters48, S1 _⟩ | (intro h; exact ⟨enters48, S1 _⟩) | rfl | (intro h; rfl))
  case hQ =>
  intro X2 a0 w1 hF
  replace hF := hF.cellAt 5 rfl 0 (.int .i64 v1) (Nat.le_of_ble_eq_true rfl) (by subst hB; show Sim (.int .i64 (IntKind.i64.wrap v1)) _; rw [ew1]; exact Sim.refl _) rfl
  refine wp_seq ?_
  apply region_okB hB T15_ok [2, 4, 5] [2, 9, 5] [(1, .x fun _ => ⟨.int .u64 v2, [(9, [.str s2, .int .i64 e2])], []⟩)] hF
  case hex => intro A X; conv => lhs; cbv
  case hob =>
    intro X
    subst hB
    simp only [AllOb, Ob.holds, BE.den, List.mem_cons, List.not_mem_nil, or_false, forall_eq_or_imp, forall_eq] <;> (and_intros <;> first | trivial | (intro h; trivial) | exact enters49 | exact S2 _ | exact ⟨enters49, S2 _⟩ | (intro h; exact ⟨enters49, S2 _⟩) | rfl | (intro h; rfl))
  case hQ =>
  intro X3 a0 w1 hF
  refine wp_seq ?_
  refine wp_seq ?_
  apply region_okB hB T15_ok [2, 4, 5, 18] [2, 9, 5] [] hF
  case hex => intro A X; conv => lhs; cbv
  case hob =>
    intro X
    subst hB
    simp [AllOb, Ob.holds, BE.den, std, stdCmp, stdArith] <;> omega
  case hQ =>
  intro X4 a0 w1 hF
  refine wp_block ?_
  refine wp_seq ?_
  apply region_okB hB T15_ok [19, 2, 4, 5, 18] [2, 9, 5] [] hF
  case hex => intro A X; conv => lhs; cbv
  case hob =>
    intro X
    subst hB
    simp [AllOb, Ob.holds, BE.den, std, stdCmp, stdArith] <;> omega
  case hQ =>
  intro X5 a0 w1 hF
  refine test_ok hF rfl (fun hb hF => ?_) (fun hb hF => ?_)
  · skip
    have hk1 : v1 = 1 := by subst hB; simpa [std, stdCmp] using hb
    have hs3 := shr_plc (⟨e2, s2⟩ : RS)
    obtain ⟨o, ho3⟩ : ∃ o, o = plcD (⟨e2, s2⟩ : RS) := ⟨_, rfl⟩
    have S3 := fun b => qplc_m 9 b s2 e2 hs2
    rw [← ho3] at hs3
    simp only [← ho3] at S3
    obtain ⟨y3, e3, s3⟩ := o
    dsimp only at S3 hs3
    replace hs3 : s3.size ≤ 1000000000 := Nat.le_trans hs3 hs2
    obtain ⟨K, hK⟩ : ∃ K, K = kI y3 := ⟨_, rfl⟩
    simp only [← hK] at S3
    have hsN := shr_rop (⟨e3, s3⟩ : RS)
    obtain ⟨o, hoN⟩ : ∃ o, o = ropD (⟨e3, s3⟩ : RS) := ⟨_, rfl⟩
    have SN := fun b => qop_m 9 b s3 e3 hs3
    rw [← hoN] at hsN
    simp only [← hoN] at SN
    obtain ⟨⟨oc, oq, ok, ov, ot⟩, eN, sN⟩ := o
    dsimp only at SN hsN
    replace hsN : sN.size ≤ 1000000000 := Nat.le_trans hsN hs3
    simp only [opAV, opC] at SN
    obtain ⟨XP, hXP⟩ : ∃ x, x = (⟨v1, v2, y3, ⟨oc, oq, ok, ov, ot⟩, zeroAns, 0, zeroCel⟩ : Par) := ⟨_, rfl⟩
    have hG : rallD s = (XP, ⟨eN, sN⟩) := by
      rw [hXP]
      simp only [rallD, rnumD, ← ho1, ← ho2, rbodyD, hk1, if_true, ← ho3, ← hoN]
    refine wp_seq ?_
    apply region_okB hB T15_ok [2, 4, 5] [2, 9, 5] [(1, .x fun _ => ⟨.agg (keyC K), [(9, [.str s3, .int .i64 e3])], []⟩)] hF
    case hex => intro A X; conv => lhs; cbv
    case hob =>
      intro X
      subst hB
      simp only [AllOb, Ob.holds, BE.den, List.mem_cons, List.not_mem_nil, or_false, forall_eq_or_imp, forall_eq] <;> (and_intros <;> first | trivial | (intro h; trivial) | exact enters50 | exact S3 _ | exact ⟨enters50, S3 _⟩ | (intro h; exact ⟨enters50, S3 _⟩) | rfl | (intro h; rfl))
    case hQ =>
    intro X6 a0 w1 hF
    apply region_okB hB T15_ok [2, 4, 5] [2, 9, 5] [(1, .x fun _ => ⟨.agg [.int .i64 oc, .int .u64 oq, .int .i64 ok, .int .u64 ov, .str ot], [(9, [.str sN, .int .i64 eN])], []⟩)] hF
    case hex => intro A X; conv => lhs; cbv
    case hob =>
      intro X
      subst hB
      simp only [AllOb, Ob.holds, BE.den, List.mem_cons, List.not_mem_nil, or_false, forall_eq_or_imp, forall_eq] <;> (and_intros <;> first | trivial | (intro h; trivial) | exact enters51 | exact SN _ | exact ⟨enters51, SN _⟩ | (intro h; exact ⟨enters51, SN _⟩) | rfl | (intro h; rfl))
    case hQ =>
    intro X7 a0 w1 hF
    refine wp_seq ?_
    refine wp_seq ?_
    apply region_okB hB T15_ok [61, 2, 4, 5] [2, 9, 5] [] hF
    case hex => intro A X; conv => lhs; cbv
    case hob =>
      intro X
      subst hB
      simp [AllOb, Ob.holds, BE.den, std, stdCmp, stdArith] <;> omega
    case hQ =>
    intro X18 a0 w1 hF
    refine test_ok hF rfl (fun hb hF => ?_) (fun hb hF => ?_)
    · skip
      have he : eN ≠ 0 := by subst hB; simpa [std, stdCmp] using hb
      have hR : rgetP s = (zeroPar, eN) := by
        unfold rgetP
        simp only [hG]
        rw [if_pos he]
      refine wp_seq ?_
      apply drawn_okB hB (by kernel_rfl) T15_ok [2, 3] [2, 9, 5] [] hF rfl
      case hex => intro A X; conv => lhs; cbv
      case hD => kernel_rfl
      case hlen => rfl
      case hob =>
        intro X
        subst hB
        simp [AllOb, Ob.holds, BE.den, std, stdCmp, stdArith] <;> omega
      case hQ =>
      intro X19 a0 w1 hF
      refine wp_ret ?_
      refine ret_sim (fn := Tryd.f15) T15_ok hF (rs := [.cell 2 34, .tmp 3]) rfl (by conv => lhs; cbv) ?_ noAtom ?_
      · simp [AllOb, Ob.holds]
      · subst hB; rw [hR]
        exact Sim.tup ⟨zero_sim, Sim.refl _, trivial⟩
    · skip
      have he : eN = 0 := by subst hB; simpa [std, stdCmp] using hb
      refine wp_skip ?_
      refine wp_seq ?_
      refine wp_seq ?_
      apply region_okB hB T15_ok [72, 2, 5] [2, 9, 5] [] hF
      case hex => intro A X; conv => lhs; cbv
      case hob =>
        intro X
        subst hB
        simp [AllOb, Ob.holds, BE.den, std, stdCmp, stdArith] <;> omega
      case hQ =>
      intro X20 a0 w1 hF
      refine test_ok hF rfl (fun hb hF => ?_) (fun hb hF => ?_)
      · skip
        have hz : ¬ sN.size = 0 := by
          have h1 : (!(sN.toList == (⟨⟨[]⟩⟩ : ByteArray).toList)) = true := by subst hB; exact hb
          intro h0
          have h2 : sN = ⟨#[]⟩ := un_inj (List.eq_nil_of_length_eq_zero (by rw [un_size]; exact h0))
          rw [h2] at h1
          simp at h1
        have hR : rgetP s = (zeroPar, 3) := by
          unfold rgetP
          simp only [hG]
          rw [if_neg (by simpa using he), if_neg hz]
        refine wp_seq ?_
        apply region_okB hB T15_ok [2, 3] [2, 9, 5] [] hF
        case hex => intro A X; conv => lhs; cbv
        case hob =>
          intro X
          subst hB
          simp [AllOb, Ob.holds, BE.den, std, stdCmp, stdArith] <;> omega
        case hQ =>
        intro X21 a0 w1 hF
        refine wp_ret ?_
        refine ret_sim (fn := Tryd.f15) T15_ok hF (rs := [.cell 2 34, .tmp 3]) rfl (by conv => lhs; cbv) ?_ noAtom ?_
        · simp [AllOb, Ob.holds]
        · subst hB; rw [hR]
          exact Sim.tup ⟨zero_sim, Sim.refl _, trivial⟩
      · skip
        have hz : sN.size = 0 := by
          have h1 : (!(sN.toList == (⟨⟨[]⟩⟩ : ByteArray).toList)) = false := by subst hB; exact hb
          rw [eqB] at h1
          simp at h1
          rw [un_inj h1]; rfl
        have hR : rgetP s = (XP, 0) := by
          unfold rgetP
          simp only [hG]
          rw [if_neg (by simpa using he), if_pos hz]
        refine wp_skip ?_
        refine wp_seq ?_
        apply region_okB hB T15_ok [2, 3] [2, 9, 5] [] hF
        case hex => intro A X; conv => lhs; cbv
        case hob =>
          intro X
          subst hB
          simp [AllOb, Ob.holds, BE.den, std, stdCmp, stdArith] <;> omega
        case hQ =>
        intro X22 a0 w1 hF
        refine wp_ret ?_
        refine ret_sim (fn := Tryd.f15) T15_ok hF (rs := [.cell 2 34, .tmp 3]) rfl (by conv => lhs; cbv) ?_ noAtom ?_
        · simp [AllOb, Ob.holds]
        · subst hB; rw [hR, hXP]
          show Sim _ (.tup [.agg (parC (kI y3) (marksAV none 0 []) ⟨v1, v2, y3, ⟨oc, oq, ok, ov, ot⟩, zeroAns, 0, zeroCel⟩), .int .i64 0])
          rw [← hK]
          exact Sim.tup ⟨Sim.agg (by repeat (first | exact trivial | refine ⟨Sim.refl _, ?_⟩ | refine ⟨Sim.ff, ?_⟩ | refine ⟨Sim.recell (fun i hi => absurd hi (Nat.not_lt_zero _)), ?_⟩)), Sim.refl _, trivial⟩
  · skip
    have hk1 : ¬ v1 = 1 := by subst hB; simpa [std, stdCmp] using hb
    refine wp_seq ?_
    apply region_okB hB T15_ok [27, 2, 4, 5, 18] [2, 9, 5] [] hF
    case hex => intro A X; conv => lhs; cbv
    case hob =>
      intro X
      subst hB
      simp [AllOb, Ob.holds, BE.den, std, stdCmp, stdArith] <;> omega
    case hQ =>
    intro X8 a0 w1 hF
    refine test_ok hF rfl (fun hb hF => ?_) (fun hb hF => ?_)
    · skip
      have hk2 : v1 = 2 := by subst hB; simpa [std, stdCmp] using hb
      have hr3 := num_rng (d := 0) (lo := 0) (hi := 63) (⟨e2, s2⟩ : RS) (by decide) (by decide)
      have hs3 := shr_num 0 0 63 (⟨e2, s2⟩ : RS)
      obtain ⟨o, ho3⟩ : ∃ o, o = numD 0 0 63 (⟨e2, s2⟩ : RS) := ⟨_, rfl⟩
      have S3 := fun b => (by have S := qnum_m 9 b s2 e2 hs2 0 63; unfold rnumD at S; exact S)
      rw [← ho3] at hs3
      simp only [← ho3] at S3
      obtain ⟨v3, e3, s3⟩ := o
      dsimp only at S3 hs3
      replace hs3 : s3.size ≤ 1000000000 := Nat.le_trans hs3 hs2
      rw [← ho3] at hr3
      dsimp only at hr3
      have ew3 := wrap_in (x := v3) (by omega) (by omega)
      have hs4 := shr_whole (⟨e3, s3⟩ : RS)
      obtain ⟨o, ho4⟩ : ∃ o, o = wholeD (⟨e3, s3⟩ : RS) := ⟨_, rfl⟩
      have S4 := fun b => qany_m 9 b s3 e3 hs3
      rw [← ho4] at hs4
      simp only [← ho4] at S4
      obtain ⟨v4, e4, s4⟩ := o
      dsimp only at S4 hs4
      replace hs4 : s4.size ≤ 1000000000 := Nat.le_trans hs4 hs3
      have hsN := shr_rans (⟨e4, s4⟩ : RS)
      obtain ⟨o, hoN⟩ : ∃ o, o = ransD (⟨e4, s4⟩ : RS) := ⟨_, rfl⟩
      have SN := fun b => qans_m 9 b s4 e4 hs4
      rw [← hoN] at hsN
      simp only [← hoN] at SN
      obtain ⟨⟨ac, av, ah, at_⟩, eN, sN⟩ := o
      dsimp only at SN hsN
      replace hsN : sN.size ≤ 1000000000 := Nat.le_trans hsN hs4
      simp only [ansAV, ansC] at SN
      obtain ⟨XP, hXP⟩ : ∃ x, x = (⟨v1, v2, zeroKey, ⟨v3, v4, 0, 0, ByteArray.empty⟩, ⟨ac, av, ah, at_⟩, 0, zeroCel⟩ : Par) := ⟨_, rfl⟩
      have hG : rallD s = (XP, ⟨eN, sN⟩) := by
        rw [hXP]
        simp only [rallD, rnumD, ← ho1, ← ho2, rbodyD, hk2, show ((2 : Int) = 1) = False from by simp, if_true, if_false, whoD, ← ho3, ← ho4, ← hoN]
      refine wp_seq ?_
      apply region_okB hB T15_ok [2, 4, 5] [2, 9, 5] [(1, .x fun _ => ⟨.int .u64 v3, [(9, [.str s3, .int .i64 e3])], []⟩)] hF
      case hex => intro A X; conv => lhs; cbv
      case hob =>
        intro X
        subst hB
        simp only [AllOb, Ob.holds, BE.den, List.mem_cons, List.not_mem_nil, or_false, forall_eq_or_imp, forall_eq] <;> (and_intros <;> first | trivial | (intro h; trivial) | exact enters48 | exact S3 _ | exact ⟨enters48, S3 _⟩ | (intro h; exact ⟨enters48, S3 _⟩) | rfl | (intro h; rfl))
      case hQ =>
      intro X9 a0 w1 hF
      replace hF := hF.cellAt 5 rfl 22 (.int .i64 v3) (Nat.le_of_ble_eq_true rfl) (by subst hB; show Sim (.int .i64 (IntKind.i64.wrap v3)) _; rw [ew3]; exact Sim.refl _) rfl
      refine wp_seq ?_
      apply region_okB hB T15_ok [2, 4, 5] [2, 9, 5] [(1, .x fun _ => ⟨.int .u64 v4, [(9, [.str s4, .int .i64 e4])], []⟩)] hF
      case hex => intro A X; conv => lhs; cbv
      case hob =>
        intro X
        subst hB
        simp only [AllOb, Ob.holds, BE.den, List.mem_cons, List.not_mem_nil, or_false, forall_eq_or_imp, forall_eq] <;> (and_intros <;> first | trivial | (intro h; trivial) | exact enters49 | exact S4 _ | exact ⟨enters49, S4 _⟩ | (intro h; exact ⟨enters49, S4 _⟩) | rfl | (intro h; rfl))
      case hQ =>
      intro X10 a0 w1 hF
      apply region_okB hB T15_ok [2, 4, 5] [2, 9, 5] [(1, .x fun _ => ⟨.agg [.int .i64 ac, .int .u64 av, .bool (.v ah), .str at_], [(9, [.str sN, .int .i64 eN])], []⟩)] hF
      case hex => intro A X; conv => lhs; cbv
      case hob =>
        intro X
        subst hB
        simp only [AllOb, Ob.holds, BE.den, List.mem_cons, List.not_mem_nil, or_false, forall_eq_or_imp, forall_eq] <;> (and_intros <;> first | trivial | (intro h; trivial) | exact enters52 | exact SN _ | exact ⟨enters52, SN _⟩ | (intro h; exact ⟨enters52, SN _⟩) | rfl | (intro h; rfl))
      case hQ =>
      intro X11 a0 w1 hF
      refine wp_seq ?_
      refine wp_seq ?_
      apply region_okB hB T15_ok [61, 2, 4, 5] [2, 9, 5] [] hF
      case hex => intro A X; conv => lhs; cbv
      case hob =>
        intro X
        subst hB
        simp [AllOb, Ob.holds, BE.den, std, stdCmp, stdArith] <;> omega
      case hQ =>
      intro X18 a0 w1 hF
      refine test_ok hF rfl (fun hb hF => ?_) (fun hb hF => ?_)
      · skip
        have he : eN ≠ 0 := by subst hB; simpa [std, stdCmp] using hb
        have hR : rgetP s = (zeroPar, eN) := by
          unfold rgetP
          simp only [hG]
          rw [if_pos he]
        refine wp_seq ?_
        apply drawn_okB hB (by kernel_rfl) T15_ok [2, 3] [2, 9, 5] [] hF rfl
        case hex => intro A X; conv => lhs; cbv
        case hD => kernel_rfl
        case hlen => rfl
        case hob =>
          intro X
          subst hB
          simp [AllOb, Ob.holds, BE.den, std, stdCmp, stdArith] <;> omega
        case hQ =>
        intro X19 a0 w1 hF
        refine wp_ret ?_
        refine ret_sim (fn := Tryd.f15) T15_ok hF (rs := [.cell 2 34, .tmp 3]) rfl (by conv => lhs; cbv) ?_ noAtom ?_
        · simp [AllOb, Ob.holds]
        · subst hB; rw [hR]
          exact Sim.tup ⟨zero_sim, Sim.refl _, trivial⟩
      · skip
        have he : eN = 0 := by subst hB; simpa [std, stdCmp] using hb
        refine wp_skip ?_
        refine wp_seq ?_
        refine wp_seq ?_
        apply region_okB hB T15_ok [72, 2, 5] [2, 9, 5] [] hF
        case hex => intro A X; conv => lhs; cbv
        case hob =>
          intro X
          subst hB
          simp [AllOb, Ob.holds, BE.den, std, stdCmp, stdArith] <;> omega
        case hQ =>
        intro X20 a0 w1 hF
        refine test_ok hF rfl (fun hb hF => ?_) (fun hb hF => ?_)
        · skip
          have hz : ¬ sN.size = 0 := by
            have h1 : (!(sN.toList == (⟨⟨[]⟩⟩ : ByteArray).toList)) = true := by subst hB; exact hb
            intro h0
            have h2 : sN = ⟨#[]⟩ := un_inj (List.eq_nil_of_length_eq_zero (by rw [un_size]; exact h0))
            rw [h2] at h1
            simp at h1
          have hR : rgetP s = (zeroPar, 3) := by
            unfold rgetP
            simp only [hG]
            rw [if_neg (by simpa using he), if_neg hz]
          refine wp_seq ?_
          apply region_okB hB T15_ok [2, 3] [2, 9, 5] [] hF
          case hex => intro A X; conv => lhs; cbv
          case hob =>
            intro X
            subst hB
            simp [AllOb, Ob.holds, BE.den, std, stdCmp, stdArith] <;> omega
          case hQ =>
          intro X21 a0 w1 hF
          refine wp_ret ?_
          refine ret_sim (fn := Tryd.f15) T15_ok hF (rs := [.cell 2 34, .tmp 3]) rfl (by conv => lhs; cbv) ?_ noAtom ?_
          · simp [AllOb, Ob.holds]
          · subst hB; rw [hR]
            exact Sim.tup ⟨zero_sim, Sim.refl _, trivial⟩
        · skip
          have hz : sN.size = 0 := by
            have h1 : (!(sN.toList == (⟨⟨[]⟩⟩ : ByteArray).toList)) = false := by subst hB; exact hb
            rw [eqB] at h1
            simp at h1
            rw [un_inj h1]; rfl
          have hR : rgetP s = (XP, 0) := by
            unfold rgetP
            simp only [hG]
            rw [if_neg (by simpa using he), if_pos hz]
          refine wp_skip ?_
          refine wp_seq ?_
          apply region_okB hB T15_ok [2, 3] [2, 9, 5] [] hF
          case hex => intro A X; conv => lhs; cbv
          case hob =>
            intro X
            subst hB
            simp [AllOb, Ob.holds, BE.den, std, stdCmp, stdArith] <;> omega
          case hQ =>
          intro X22 a0 w1 hF
          refine wp_ret ?_
          refine ret_sim (fn := Tryd.f15) T15_ok hF (rs := [.cell 2 34, .tmp 3]) rfl (by conv => lhs; cbv) ?_ noAtom ?_
          · simp [AllOb, Ob.holds]
          · subst hB; rw [hR, hXP]
            show Sim _ (.tup [.agg (parC (kI (List.replicate 20 0)) (marksAV none 0 []) ⟨v1, v2, zeroKey, ⟨v3, v4, 0, 0, ByteArray.empty⟩, ⟨ac, av, ah, at_⟩, 0, zeroCel⟩), .int .i64 0])
            rw [kI_zero]
            exact Sim.tup ⟨Sim.agg (by repeat (first | exact trivial | refine ⟨Sim.refl _, ?_⟩ | refine ⟨Sim.ff, ?_⟩ | refine ⟨Sim.recell (fun i hi => absurd hi (Nat.not_lt_zero _)), ?_⟩)), Sim.refl _, trivial⟩
    · skip
      have hk2 : ¬ v1 = 2 := by subst hB; simpa [std, stdCmp] using hb
      refine wp_seq ?_
      apply region_okB hB T15_ok [41, 2, 4, 5, 18] [2, 9, 5] [] hF
      case hex => intro A X; conv => lhs; cbv
      case hob =>
        intro X
        subst hB
        simp [AllOb, Ob.holds, BE.den, std, stdCmp, stdArith] <;> omega
      case hQ =>
      intro X12 a0 w1 hF
      refine test_ok hF rfl (fun hb hF => ?_) (fun hb hF => ?_)
      · skip
        have hk3 : v1 = 3 := by subst hB; simpa [std, stdCmp] using hb
        have hs3 := shr_plc (⟨e2, s2⟩ : RS)
        obtain ⟨o, ho3⟩ : ∃ o, o = plcD (⟨e2, s2⟩ : RS) := ⟨_, rfl⟩
        have S3 := fun b => qplc_m 9 b s2 e2 hs2
        rw [← ho3] at hs3
        simp only [← ho3] at S3
        obtain ⟨y3, e3, s3⟩ := o
        dsimp only at S3 hs3
        replace hs3 : s3.size ≤ 1000000000 := Nat.le_trans hs3 hs2
        obtain ⟨K, hK⟩ : ∃ K, K = kI y3 := ⟨_, rfl⟩
        simp only [← hK] at S3
        have hs4 := shr_whole (⟨e3, s3⟩ : RS)
        obtain ⟨o, ho4⟩ : ∃ o, o = wholeD (⟨e3, s3⟩ : RS) := ⟨_, rfl⟩
        have S4 := fun b => qany_m 9 b s3 e3 hs3
        rw [← ho4] at hs4
        simp only [← ho4] at S4
        obtain ⟨v4, e4, s4⟩ := o
        dsimp only at S4 hs4
        replace hs4 : s4.size ≤ 1000000000 := Nat.le_trans hs4 hs3
        have hsN := shr_rcell (⟨e4, s4⟩ : RS)
        obtain ⟨o, hoN⟩ : ∃ o, o = rcellD (⟨e4, s4⟩ : RS) := ⟨_, rfl⟩
        have SN := fun b => qcell_m 9 b s4 e4 hs4
        rw [← hoN] at hsN
        simp only [← hoN] at SN
        obtain ⟨⟨cv, ch, ct, cm⟩, eN, sN⟩ := o
        dsimp only at SN hsN
        replace hsN : sN.size ≤ 1000000000 := Nat.le_trans hsN hs4
        obtain ⟨n5, f5, hm5, hn5, hf5⟩ := marks_open cm
        simp only [celAV, celC, hm5, rowM] at SN
        obtain ⟨XP, hXP⟩ : ∃ x, x = (⟨v1, v2, y3, zeroOp, zeroAns, v4, ⟨cv, ch, ct, cm⟩⟩ : Par) := ⟨_, rfl⟩
        have hG : rallD s = (XP, ⟨eN, sN⟩) := by
          rw [hXP]
          simp only [rallD, rnumD, ← ho1, ← ho2, rbodyD, hk3, show ((3 : Int) = 1) = False from by simp, show ((3 : Int) = 2) = False from by simp, if_true, if_false, ← ho3, ← ho4, ← hoN]
        refine wp_seq ?_
        apply region_okB hB T15_ok [2, 4, 5] [2, 9, 5] [(1, .x fun _ => ⟨.agg (keyC K), [(9, [.str s3, .int .i64 e3])], []⟩)] hF
        case hex => intro A X; conv => lhs; cbv
        case hob =>
          intro X
          subst hB
          simp only [AllOb, Ob.holds, BE.den, List.mem_cons, List.not_mem_nil, or_false, forall_eq_or_imp, forall_eq] <;> (and_intros <;> first | trivial | (intro h; trivial) | exact enters50 | exact S3 _ | exact ⟨enters50, S3 _⟩ | (intro h; exact ⟨enters50, S3 _⟩) | rfl | (intro h; rfl))
        case hQ =>
        intro X13 a0 w1 hF
        refine wp_seq ?_
        apply region_okB hB T15_ok [2, 4, 5] [2, 9, 5] [(1, .x fun _ => ⟨.int .u64 v4, [(9, [.str s4, .int .i64 e4])], []⟩)] hF
        case hex => intro A X; conv => lhs; cbv
        case hob =>
          intro X
          subst hB
          simp only [AllOb, Ob.holds, BE.den, List.mem_cons, List.not_mem_nil, or_false, forall_eq_or_imp, forall_eq] <;> (and_intros <;> first | trivial | (intro h; trivial) | exact enters49 | exact S4 _ | exact ⟨enters49, S4 _⟩ | (intro h; exact ⟨enters49, S4 _⟩) | rfl | (intro h; rfl))
        case hQ =>
        intro X14 a0 w1 hF
        apply region_okB hB T15_ok [2, 4, 5] [2, 9, 5] [(1, .x fun x => ⟨.agg [.int .u64 cv, .bool (.v ch), .str ct, .sl none (x.A 0) n5 (x.c 0) 6 (fun i => markC (f5 i))], [(9, [.str sN, .int .i64 eN])], []⟩)] hF
        case hex => intro A X; conv => lhs; cbv
        case hob =>
          intro X
          subst hB
          simp only [AllOb, Ob.holds, BE.den, List.mem_cons, List.not_mem_nil, or_false, forall_eq_or_imp, forall_eq] <;> (and_intros <;> first | trivial | (intro h; trivial) | exact enters53 | exact SN _ | exact ⟨enters53, SN _⟩ | (intro h; exact ⟨enters53, SN _⟩) | rfl | (intro h; rfl))
        case hQ =>
        intro X15 a0 w1 hF
        refine wp_seq ?_
        refine wp_seq ?_
        apply region_okB hB T15_ok [61, 2, 4, 5] [2, 9, 5] [] hF
        case hex => intro A X; conv => lhs; cbv
        case hob =>
          intro X
          subst hB
          simp [AllOb, Ob.holds, BE.den, std, stdCmp, stdArith] <;> omega
        case hQ =>
        intro X18 a0 w1 hF
        refine test_ok hF rfl (fun hb hF => ?_) (fun hb hF => ?_)
        · skip
          have he : eN ≠ 0 := by subst hB; simpa [std, stdCmp] using hb
          have hR : rgetP s = (zeroPar, eN) := by
            unfold rgetP
            simp only [hG]
            rw [if_pos he]
          refine wp_seq ?_
          apply drawn_okB hB (by kernel_rfl) T15_ok [2, 3] [2, 9, 5] [] hF rfl
          case hex => intro A X; conv => lhs; cbv
          case hD => kernel_rfl
          case hlen => rfl
          case hob =>
            intro X
            subst hB
            simp [AllOb, Ob.holds, BE.den, std, stdCmp, stdArith] <;> omega
          case hQ =>
          intro X19 a0 w1 hF
          refine wp_ret ?_
          refine ret_sim (fn := Tryd.f15) T15_ok hF (rs := [.cell 2 34, .tmp 3]) rfl (by conv => lhs; cbv) ?_ noAtom ?_
          · simp [AllOb, Ob.holds]
          · subst hB; rw [hR]
            exact Sim.tup ⟨zero_sim, Sim.refl _, trivial⟩
        · skip
          have he : eN = 0 := by subst hB; simpa [std, stdCmp] using hb
          refine wp_skip ?_
          refine wp_seq ?_
          refine wp_seq ?_
          apply region_okB hB T15_ok [72, 2, 5] [2, 9, 5] [] hF
          case hex => intro A X; conv => lhs; cbv
          case hob =>
            intro X
            subst hB
            simp [AllOb, Ob.holds, BE.den, std, stdCmp, stdArith] <;> omega
          case hQ =>
          intro X20 a0 w1 hF
          refine test_ok hF rfl (fun hb hF => ?_) (fun hb hF => ?_)
          · skip
            have hz : ¬ sN.size = 0 := by
              have h1 : (!(sN.toList == (⟨⟨[]⟩⟩ : ByteArray).toList)) = true := by subst hB; exact hb
              intro h0
              have h2 : sN = ⟨#[]⟩ := un_inj (List.eq_nil_of_length_eq_zero (by rw [un_size]; exact h0))
              rw [h2] at h1
              simp at h1
            have hR : rgetP s = (zeroPar, 3) := by
              unfold rgetP
              simp only [hG]
              rw [if_neg (by simpa using he), if_neg hz]
            refine wp_seq ?_
            apply region_okB hB T15_ok [2, 3] [2, 9, 5] [] hF
            case hex => intro A X; conv => lhs; cbv
            case hob =>
              intro X
              subst hB
              simp [AllOb, Ob.holds, BE.den, std, stdCmp, stdArith] <;> omega
            case hQ =>
            intro X21 a0 w1 hF
            refine wp_ret ?_
            refine ret_sim (fn := Tryd.f15) T15_ok hF (rs := [.cell 2 34, .tmp 3]) rfl (by conv => lhs; cbv) ?_ noAtom ?_
            · simp [AllOb, Ob.holds]
            · subst hB; rw [hR]
              exact Sim.tup ⟨zero_sim, Sim.refl _, trivial⟩
          · skip
            have hz : sN.size = 0 := by
              have h1 : (!(sN.toList == (⟨⟨[]⟩⟩ : ByteArray).toList)) = false := by subst hB; exact hb
              rw [eqB] at h1
              simp at h1
              rw [un_inj h1]; rfl
            have hR : rgetP s = (XP, 0) := by
              unfold rgetP
              simp only [hG]
              rw [if_neg (by simpa using he), if_pos hz]
            refine wp_skip ?_
            refine wp_seq ?_
            apply region_okB hB T15_ok [2, 3] [2, 9, 5] [] hF
            case hex => intro A X; conv => lhs; cbv
            case hob =>
              intro X
              subst hB
              simp [AllOb, Ob.holds, BE.den, std, stdCmp, stdArith] <;> omega
            case hQ =>
            intro X22 a0 w1 hF
            refine wp_ret ?_
            refine ret_sim (fn := Tryd.f15) T15_ok hF (rs := [.cell 2 34, .tmp 3]) rfl (by conv => lhs; cbv) ?_ (⟨0, fun _ => (X15 1).A 0, fun _ => (X15 1).c 0, fun _ => .empty⟩) ?_
            · simp [AllOb, Ob.holds]
            · subst hB; rw [hR, hXP]
              show Sim _ (.tup [.agg (parC (kI y3) (marksAV ((X15 1).A 0) ((X15 1).c 0) cm) ⟨v1, v2, y3, zeroOp, zeroAns, v4, ⟨cv, ch, ct, cm⟩⟩), .int .i64 0])
              rw [← hK, hm5]
              exact Sim.tup ⟨Sim.agg (by repeat (first | exact trivial | refine ⟨Sim.refl _, ?_⟩ | refine ⟨Sim.ff, ?_⟩ | refine ⟨Sim.recell (fun i hi => absurd hi (Nat.not_lt_zero _)), ?_⟩)), Sim.refl _, trivial⟩
      · skip
        have hk3 : ¬ v1 = 3 := by subst hB; simpa [std, stdCmp] using hb
        refine wp_seq ?_
        apply region_okB hB T15_ok [52, 2, 4, 5] [2, 9, 5] [] hF
        case hex => intro A X; conv => lhs; cbv
        case hob =>
          intro X
          subst hB
          simp [AllOb, Ob.holds, BE.den, std, stdCmp, stdArith] <;> omega
        case hQ =>
        intro X16 a0 w1 hF
        refine test_ok hF rfl (fun hb hF => ?_) (fun hb hF => ?_)
        · skip
          have hk4 : v1 = 4 := by subst hB; simpa [std, stdCmp] using hb
          have hsN := shr_whole (⟨e2, s2⟩ : RS)
          obtain ⟨o, hoN⟩ : ∃ o, o = wholeD (⟨e2, s2⟩ : RS) := ⟨_, rfl⟩
          have SN := fun b => qany_m 9 b s2 e2 hs2
          rw [← hoN] at hsN
          simp only [← hoN] at SN
          obtain ⟨v3, eN, sN⟩ := o
          dsimp only at SN hsN
          replace hsN : sN.size ≤ 1000000000 := Nat.le_trans hsN hs2
          obtain ⟨XP, hXP⟩ : ∃ x, x = (⟨v1, v2, zeroKey, zeroOp, zeroAns, v3, zeroCel⟩ : Par) := ⟨_, rfl⟩
          have hG : rallD s = (XP, ⟨eN, sN⟩) := by
            rw [hXP]
            simp only [rallD, rnumD, ← ho1, ← ho2, rbodyD, hk4, show ((4 : Int) = 1) = False from by simp, show ((4 : Int) = 2) = False from by simp, show ((4 : Int) = 3) = False from by simp, if_true, if_false, ← hoN]
          apply region_okB hB T15_ok [2, 4, 5] [2, 9, 5] [(1, .x fun _ => ⟨.int .u64 v3, [(9, [.str sN, .int .i64 eN])], []⟩)] hF
          case hex => intro A X; conv => lhs; cbv
          case hob =>
            intro X
            subst hB
            simp only [AllOb, Ob.holds, BE.den, List.mem_cons, List.not_mem_nil, or_false, forall_eq_or_imp, forall_eq] <;> (and_intros <;> first | trivial | (intro h; trivial) | exact enters49 | exact SN _ | exact ⟨enters49, SN _⟩ | (intro h; exact ⟨enters49, SN _⟩) | rfl | (intro h; rfl))
          case hQ =>
          intro X17 a0 w1 hF
          refine wp_seq ?_
          refine wp_seq ?_
          apply region_okB hB T15_ok [61, 2, 4, 5] [2, 9, 5] [] hF
          case hex => intro A X; conv => lhs; cbv
          case hob =>
            intro X
            subst hB
            simp [AllOb, Ob.holds, BE.den, std, stdCmp, stdArith] <;> omega
          case hQ =>
          intro X18 a0 w1 hF
          refine test_ok hF rfl (fun hb hF => ?_) (fun hb hF => ?_)
          · skip
            have he : eN ≠ 0 := by subst hB; simpa [std, stdCmp] using hb
            have hR : rgetP s = (zeroPar, eN) := by
              unfold rgetP
              simp only [hG]
              rw [if_pos he]
            refine wp_seq ?_
            apply drawn_okB hB (by kernel_rfl) T15_ok [2, 3] [2, 9, 5] [] hF rfl
            case hex => intro A X; conv => lhs; cbv
            case hD => kernel_rfl
            case hlen => rfl
            case hob =>
              intro X
              subst hB
              simp [AllOb, Ob.holds, BE.den, std, stdCmp, stdArith] <;> omega
            case hQ =>
            intro X19 a0 w1 hF
            refine wp_ret ?_
            refine ret_sim (fn := Tryd.f15) T15_ok hF (rs := [.cell 2 34, .tmp 3]) rfl (by conv => lhs; cbv) ?_ noAtom ?_
            · simp [AllOb, Ob.holds]
            · subst hB; rw [hR]
              exact Sim.tup ⟨zero_sim, Sim.refl _, trivial⟩
          · skip
            have he : eN = 0 := by subst hB; simpa [std, stdCmp] using hb
            refine wp_skip ?_
            refine wp_seq ?_
            refine wp_seq ?_
            apply region_okB hB T15_ok [72, 2, 5] [2, 9, 5] [] hF
            case hex => intro A X; conv => lhs; cbv
            case hob =>
              intro X
              subst hB
              simp [AllOb, Ob.holds, BE.den, std, stdCmp, stdArith] <;> omega
            case hQ =>
            intro X20 a0 w1 hF
            refine test_ok hF rfl (fun hb hF => ?_) (fun hb hF => ?_)
            · skip
              have hz : ¬ sN.size = 0 := by
                have h1 : (!(sN.toList == (⟨⟨[]⟩⟩ : ByteArray).toList)) = true := by subst hB; exact hb
                intro h0
                have h2 : sN = ⟨#[]⟩ := un_inj (List.eq_nil_of_length_eq_zero (by rw [un_size]; exact h0))
                rw [h2] at h1
                simp at h1
              have hR : rgetP s = (zeroPar, 3) := by
                unfold rgetP
                simp only [hG]
                rw [if_neg (by simpa using he), if_neg hz]
              refine wp_seq ?_
              apply region_okB hB T15_ok [2, 3] [2, 9, 5] [] hF
              case hex => intro A X; conv => lhs; cbv
              case hob =>
                intro X
                subst hB
                simp [AllOb, Ob.holds, BE.den, std, stdCmp, stdArith] <;> omega
              case hQ =>
              intro X21 a0 w1 hF
              refine wp_ret ?_
              refine ret_sim (fn := Tryd.f15) T15_ok hF (rs := [.cell 2 34, .tmp 3]) rfl (by conv => lhs; cbv) ?_ noAtom ?_
              · simp [AllOb, Ob.holds]
              · subst hB; rw [hR]
                exact Sim.tup ⟨zero_sim, Sim.refl _, trivial⟩
            · skip
              have hz : sN.size = 0 := by
                have h1 : (!(sN.toList == (⟨⟨[]⟩⟩ : ByteArray).toList)) = false := by subst hB; exact hb
                rw [eqB] at h1
                simp at h1
                rw [un_inj h1]; rfl
              have hR : rgetP s = (XP, 0) := by
                unfold rgetP
                simp only [hG]
                rw [if_neg (by simpa using he), if_pos hz]
              refine wp_skip ?_
              refine wp_seq ?_
              apply region_okB hB T15_ok [2, 3] [2, 9, 5] [] hF
              case hex => intro A X; conv => lhs; cbv
              case hob =>
                intro X
                subst hB
                simp [AllOb, Ob.holds, BE.den, std, stdCmp, stdArith] <;> omega
              case hQ =>
              intro X22 a0 w1 hF
              refine wp_ret ?_
              refine ret_sim (fn := Tryd.f15) T15_ok hF (rs := [.cell 2 34, .tmp 3]) rfl (by conv => lhs; cbv) ?_ noAtom ?_
              · simp [AllOb, Ob.holds]
              · subst hB; rw [hR, hXP]
                show Sim _ (.tup [.agg (parC (kI (List.replicate 20 0)) (marksAV none 0 []) ⟨v1, v2, zeroKey, zeroOp, zeroAns, v3, zeroCel⟩), .int .i64 0])
                rw [kI_zero]
                exact Sim.tup ⟨Sim.agg (by repeat (first | exact trivial | refine ⟨Sim.refl _, ?_⟩ | refine ⟨Sim.ff, ?_⟩ | refine ⟨Sim.recell (fun i hi => absurd hi (Nat.not_lt_zero _)), ?_⟩)), Sim.refl _, trivial⟩
        · exfalso
          have hk4 : ¬ v1 = 4 := by subst hB; simpa [std, stdCmp] using hb
          omega
end Go.Proofs.YtkamdppnnhjajaaDoor.Sym
