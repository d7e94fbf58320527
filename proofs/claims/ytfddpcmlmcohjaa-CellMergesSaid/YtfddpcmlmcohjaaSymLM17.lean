/-
  The statement CellMerges (printed by a program of mine). Conditions: fewer marks than a thousand million.
-/
import Derived.Test.YtfddpcmlmcohjaaSymRMer
import Derived.Test.YtfddpcmlmcohjaaSymMer
import Derived.Test.YtfddpcmlmcohjaaSymOwn17
namespace Go.Proofs.Ytfddpcmlmcohjaa.Sym
open Go Go.RowKit
set_option maxRecDepth 100000
set_option linter.unusedVariables false
set_option linter.unusedSimpArgs false
theorem enters25 : Enters Try.prog 25 := fun _ _ => by kernel_rfl
theorem enters30 : Enters Try.prog 30 := fun _ _ => by kernel_rfl
theorem same_t (A1 : Option Addr) (k1 : Nat) (A2 : Option Addr) (k2 : Nat) (c : Cel) (h : c.marks.length < 2147483000) : Spec Try.prog 30 [celAV A1 k1 c, celAV A2 k2 c] (fun _ => .bool .tt) := by
  intro m w hm ha
  refine (same_s A1 A2 k1 k2 c c h h m w hm ha).mono ?_
  rintro e w' ⟨x, rfl, _, hb⟩
  exact ⟨x, by simp [AV.den, BE.den], .bool _, hb⟩
theorem foldM_len (a : List Mark) : ∀ (l o : List Mark), (l.foldl (stepM a) o).length ≤ o.length + l.length
  | [], o => by simp
  | m :: l, o => by
    have h1 := foldM_len a l (stepM a o m)
    have h2 := putM_length o m
    have h3 : (stepM a o m).length ≤ o.length + 1 := by
      unfold stepM
      split
      · exact h2
      · split
        · exact h2
        · omega
    simp only [List.foldl_cons, List.length_cons]
    omega
theorem mergeC_len (a b : Cel) : (mergeC a b).1.marks.length ≤ a.marks.length + b.marks.length := by
  have := foldM_len a.marks b.marks a.marks
  unfold mergeC mergeM
  split
  · simp [zeroCel]
  · split <;> simpa using this
def T8 : List (Nat × TI) := [(4, ti4), (26, ti26), (41, ti41)]
theorem T8_ok : TabOK Try.prog T8 := .cons t4 (.cons t26 (.cons t41 (.nil)))
theorem enters8 : Enters Try.prog 8 := fun _ _ => by kernel_rfl
theorem lawMerges_s (A1 : Option Addr) (k1 : Nat) (a : Cel) (A2 : Option Addr) (k2 : Nat) (b : Cel) : Spec Try.prog 8 [celAV A1 k1 a, celAV A2 k2 b] (fun _ => .bool .tt) := by
  intro m w hm hargs
  have hoa := hargs (celAV A1 k1 a) (by simp)
  have hob := hargs (celAV A2 k2 b) (by simp)
  have SB1 := big_s A1 k1 a
  have SB2 := big_s A2 k2 b
  have SO1 := own_s A1 k1 a
  have SO2 := own_s A2 k2 b
  have SM := fun h1 h2 => mer_s A1 k1 a A2 k2 b h1 h2
  have SR := fun A1 k1 A2 k2 h1 h2 => rmer_s A1 k1 a A2 k2 b h1 h2
  have hlen := mergeC_len a b
  have SS := fun A k A' k' h => same_t A k A' k' (mergeC a b).1 h
  have SS1 := fun A k A' k' h => same_t A k A' k' a h
  have SS2 := fun A k A' k' h => same_t A k A' k' b h
  generalize mergeC a b = r at SM SR hlen SS
  obtain ⟨⟨mv, mh, ms, ml⟩, me⟩ := r
  obtain ⟨n1, f1, ho1, hn1, hf1⟩ := marks_open a.marks
  obtain ⟨n2, f2, ho2, hn2, hf2⟩ := marks_open b.marks
  obtain ⟨n3, f3, ho3, hn3, hf3⟩ := marks_open ml
  simp only [celAV, ho1, ho2, ho3] at *
  generalize hba : bigF a = ba at SB1
  generalize hbb : bigF b = bb at SB2
  refine enter hm hargs Try.func8 rfl (by simp [Try.ntmps8]) fun a0 hF => ?_
  simp only [Try.ntmps8, startT] at hF
  refine wp_seq ?_
  apply region_ok T8_ok [2, 3] [2, 3] [] hF
  case hex => intro A X; conv => lhs; cbv
  case hob =>
    intro X
    refine ob_split ?_
    simp [AllOb, Ob.holds, BE.den, std, stdCmp, stdArith] <;> omega
  case hQ =>
  intro X0 a0 w1 hF
  refine wp_seq ?_
  refine wp_seq ?_
  apply region_ok T8_ok [16, 2, 3] [2, 3] [(1, fun _ => .bool (.v ba)), (4, fun _ => .bool (.v bb))] hF
  case hex => intro A X; conv => lhs; cbv
  case hob =>
    intro X
    exact ⟨rfl, ⟨enters21, SB1⟩, fun _ => rfl, fun _ => ⟨enters21, SB2⟩, trivial⟩
  case hQ =>
  intro X1 a0 w1 hF
  refine test_ok hF rfl (fun hb hF => ?_) (fun hb hF => ?_)
  · skip
    refine wp_seq ?_
    apply region_ok T8_ok [4] [] [] hF
    case hex => intro A X; conv => lhs; cbv
    case hob =>
      intro X
      refine ob_split ?_
      simp [AllOb, Ob.holds, BE.den, std, stdCmp, stdArith] <;> omega
    case hQ =>
    intro X2 a0 w1 hF
    refine wp_ret ?_
    refine ret_spec (fn := Try.f8) T8_ok hF (rs := [.tmp 4]) rfl (rfl) ?_ noAtom ?_
    · simp [AllOb, Ob.holds]
    · rfl
  · skip
    have hl1 : a.marks.length ≤ 80 := by
      refine big_le (hba.trans ?_)
      cases ba
      · rfl
      · simp [std] at hb
    have hl2 : b.marks.length ≤ 80 := by
      refine big_le (hbb.trans ?_)
      cases bb
      · rfl
      · cases ba <;> simp [std] at hb
    refine wp_skip ?_
    refine wp_seq ?_
    apply region_ok T8_ok [2, 3, 5] [2, 3, 5] [(1, fun x => .agg [.int .u64 a.version, .bool (.v a.has), .str a.val, rowM none (x.A 0) n1 (x.c 0) f1])] hF
    case hex => intro A X; conv => lhs; cbv
    case hob =>
      intro X
      exact ⟨rfl, ⟨enters22, SO1 (by omega)⟩, rfl, trivial⟩
    case hQ =>
    intro X3 a0 w1 hF
    refine wp_seq ?_
    apply region_ok T8_ok [2, 3, 5, 6] [2, 3, 5, 6] [(1, fun x => .agg [.int .u64 b.version, .bool (.v b.has), .str b.val, rowM none (x.A 0) n2 (x.c 0) f2])] hF
    case hex => intro A X; conv => lhs; cbv
    case hob =>
      intro X
      exact ⟨rfl, ⟨enters22, SO2 (by omega)⟩, rfl, trivial⟩
    case hQ =>
    intro X4 a0 w1 hF
    refine wp_seq ?_
    apply region_ok T8_ok [2, 3, 5, 6, 7, 8] [2, 3, 5, 6, 7] [(2, fun x => .tup [.agg [.int .u64 mv, .bool (.v mh), .str ms, rowM none (x.A 0) n3 (x.c 0) f3], .int .i64 me])] hF
    case hex => intro A X; conv => lhs; cbv
    case hob =>
      intro X
      exact ⟨rfl, rfl, ⟨enters31, SM (by omega) (by omega)⟩, rfl, trivial⟩
    case hQ =>
    intro X5 a0 w1 hF
    refine wp_seq ?_
    apply region_ok T8_ok [2, 3, 5, 6, 7, 8, 9, 10] [2, 3, 5, 6, 7, 9] [(2, fun x => .tup [.agg [.int .u64 mv, .bool (.v mh), .str ms, rowM none (x.A 0) n3 (x.c 0) f3], .int .i64 me])] hF
    case hex => intro A X; conv => lhs; cbv
    case hob =>
      intro X
      exact ⟨rfl, rfl, ⟨enters32, SR _ _ _ _ (by omega) (by omega)⟩, rfl, trivial⟩
    case hQ =>
    intro X6 a0 w1 hF
    refine wp_seq ?_
    apply region_ok T8_ok [4] [] [(0, fun _ => .bool .tt), (4, fun _ => .bool .tt), (14, fun _ => .bool .tt), (19, fun _ => .bool .tt)] hF
    case hex => intro A X; conv => lhs; cbv
    case hob =>
      intro X
      exact ⟨⟨enters25, celled_s⟩, rfl, rfl, ⟨enters30, SS _ _ _ _ (by omega)⟩, fun _ => rfl, fun _ => rfl, fun _ => ⟨enters30, SS1 _ _ _ _ (by omega)⟩, fun _ => rfl, fun _ => rfl, fun _ => ⟨enters30, SS2 _ _ _ _ (by omega)⟩, trivial⟩
    case hQ =>
    intro X7 a0 w1 hF
    refine wp_ret ?_
    refine ret_spec (fn := Try.f8) T8_ok hF (rs := [.tmp 4]) rfl (rfl) ?_ noAtom ?_
    · simp [AllOb, Ob.holds]
    · refine congrArg (fun b => AV.bool (.v b)) ?_
      simp [std, stdCmp]
end Go.Proofs.Ytfddpcmlmcohjaa.Sym
