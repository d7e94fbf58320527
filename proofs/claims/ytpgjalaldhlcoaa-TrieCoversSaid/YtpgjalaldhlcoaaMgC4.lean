/-
  LaySort, SortOrd, PlTrie2, SymTr4, SymHd3, SymTr5, SymInl3, SymTr6, SymInl4, SymUp, SymTr7, SymTrA, SymTrB, OpenS24, SymTg, SymL24F, PlTe, PlBld, PlBld2, PlBld3, SymL24B, PlCo, SymSpn, SymL24C, WalkTrieCovers: put together by a program of mine (a claim may have 60 files at most). Conditions: none.
-/
import Derived.WalkKit
import Derived.WalkLawsBesides
import Derived.WalkSpells
import Derived.Lib.Hide
import Derived.Deep.QuietTactic
import Derived.BigQuiet
import Derived.Deep.LoopGhost
import Derived.Deep.DeepCutAuto
import Derived.Deep.RegionLaw
import Derived.Lib.Overlaps
import Derived.Laws.CopyOwn
import Derived.IntWalk
import Derived.ProofKit
import Derived.OpenShut
import Derived.ShutString
import Derived.ChangeOld
import Derived.Deep.Slices
import Derived.Orders
import Derived.OrdersHeld
import Derived.Defers
import Derived.Recover
import Derived.Lib.BitFns
import Derived.ChangeKeysEq
import Derived.Test.YtpgjalaldhlcoaaProg
import Derived.Lib.BufferWrite
import Derived.Maps.OwnSet
import Derived.Maps.RangeWalk
import Derived.Maps.Ext
import Derived.DeepKeys4
import Derived.RangeFuncLeaves
import Derived.RangeFuncCalls
import Derived.OrdersIn
import Derived.Shelf.SlSortCmp.WholeK
import Derived.Shelf.SlSortCmp.NoneTotal
import Derived.Deep.RegionHeld3
import Derived.Ground.SlsfProg
import Derived.Shelf.SlGeneric
import Derived.Test.YtpgjalaldhlcoaaChecked
import Derived.Test.YtpgjalaldhlcoaaMgC1
import Derived.Test.YtpgjalaldhlcoaaMgC2
import Derived.Test.YtpgjalaldhlcoaaMgC3
set_option linter.unusedVariables false
set_option linter.unusedSimpArgs false
set_option maxRecDepth 100000
set_option maxHeartbeats 1600000
namespace Go.Proofs
open Go.Shelf
def Try.sortRow_ren : Go.Shelf.Ren := ⟨fun | 6 => 25 | 15 => 42 | 14 => 41 | 28 => 59 | 29 => 60 | 20 => 51 | 21 => 52 | 22 => 53 | 23 => 54 | 24 => 55 | 25 => 56 | 26 => 57 | 27 => 58 | 46 => 73 | 47 => 74 | 48 => 75 | 49 => 76 | 50 => 77 | 57 => 82 | n => n, fun | 22 => 24 | 24 => 40 | 25 => 65 | 3 => 3 | 39 => 86 | 0 => 0 | 53 => 105 | 55 => 34 | 4 => 4 | 46 => 98 | 45 => 97 | 50 => 102 | 5 => 5 | 9 => 9 | 66 => 123 | 70 => 127 | 76 => 131 | 77 => 132 | n => n, fun | n => n⟩
theorem Try.sortRow : Go.Proofs.SlLaysF0.n6 Try.prog Try.sortRow_ren := {
 mixed := by kernel_rfl
 f6 := ⟨Try.f25.name, by decide, Try.func25.trans (congrArg some (by kernel_rfl))⟩
 f14 := ⟨Try.f41.name, by decide, Try.func41.trans (congrArg some (by kernel_rfl))⟩
 f15 := Try.func42.trans (congrArg some (by kernel_rfl))
 f20 := ⟨Try.f51.name, by decide, Try.func51.trans (congrArg some (by kernel_rfl))⟩
 f21 := ⟨Try.f52.name, by decide, Try.func52.trans (congrArg some (by kernel_rfl))⟩
 f22 := ⟨Try.f53.name, by decide, Try.func53.trans (congrArg some (by kernel_rfl))⟩
 f23 := ⟨Try.f54.name, by decide, Try.func54.trans (congrArg some (by kernel_rfl))⟩
 f24 := ⟨Try.f55.name, by decide, Try.func55.trans (congrArg some (by kernel_rfl))⟩
 f25 := ⟨Try.f56.name, by decide, Try.func56.trans (congrArg some (by kernel_rfl))⟩
 f26 := ⟨Try.f57.name, by decide, Try.func57.trans (congrArg some (by kernel_rfl))⟩
 f27 := ⟨Try.f58.name, by decide, Try.func58.trans (congrArg some (by kernel_rfl))⟩
 f28 := Try.func59.trans (congrArg some (by kernel_rfl))
 f29 := Try.func60.trans (congrArg some (by kernel_rfl))
 f46 := ⟨Try.f73.name, by decide, Try.func73.trans (congrArg some (by kernel_rfl))⟩
 f47 := Try.func74.trans (congrArg some (by kernel_rfl))
 f48 := Try.func75.trans (congrArg some (by kernel_rfl))
 f49 := ⟨Try.f76.name, by decide, Try.func76.trans (congrArg some (by kernel_rfl))⟩
 f50 := ⟨Try.f77.name, by decide, Try.func77.trans (congrArg some (by kernel_rfl))⟩
 f57 := ⟨Try.f82.name, by decide, Try.func82.trans (congrArg some (by kernel_rfl))⟩
 t0 := Try.underlying0
 a0 := Try.isAgg0
 z0 := Try.sizeOf0
 v0 := Try.zeroValue0
 t3 := Try.underlying3
 a3 := Try.isAgg3
 z3 := Try.sizeOf3
 v3 := Try.zeroValue3
 t4 := Try.underlying4
 a4 := Try.isAgg4
 z4 := Try.sizeOf4
 v4 := Try.zeroValue4
 t5 := Try.underlying5
 a5 := Try.isAgg5
 z5 := Try.sizeOf5
 v5 := Try.zeroValue5
 t9 := Try.underlying9
 a9 := Try.isAgg9
 z9 := Try.sizeOf9
 v9 := Try.zeroValue9
 t22 := Try.underlying24
 a22 := Try.isAgg24
 z22 := Try.sizeOf24
 v22 := Try.zeroValue24
 t25 := Try.underlying65
 a25 := Try.isAgg65
 z25 := Try.sizeOf65
 v25 := Try.zeroValue65
 t39 := Try.underlying86
 a39 := Try.isAgg86
 z39 := Try.sizeOf86
 v39 := Try.zeroValue86
 t45 := Try.underlying97
 a45 := Try.isAgg97
 z45 := Try.sizeOf97
 v45 := Try.zeroValue97
 t46 := Try.underlying98
 a46 := Try.isAgg98
 z46 := Try.sizeOf98
 v46 := Try.zeroValue98
 t50 := Try.underlying102
 a50 := Try.isAgg102
 z50 := Try.sizeOf102
 v50 := Try.zeroValue102
 t53 := Try.underlying105
 a53 := Try.isAgg105
 z53 := Try.sizeOf105
 v53 := Try.zeroValue105
 t55 := Try.underlying34
 a55 := Try.isAgg34
 z55 := Try.sizeOf34
 v55 := Try.zeroValue34
 t66 := Try.underlying123
 a66 := Try.isAgg123
 z66 := Try.sizeOf123
 v66 := Try.zeroValue123
 t70 := Try.underlying127
 a70 := Try.isAgg127
 z70 := Try.sizeOf127
 v70 := Try.zeroValue127
 t76 := Try.underlying131
 a76 := Try.isAgg131
 z76 := Try.sizeOf131
 v76 := Try.zeroValue131
 t77 := Try.underlying132
 a77 := Try.isAgg132
 z77 := Try.sizeOf132
 v77 := Try.zeroValue132 }
def Try.sortLab_ren : Go.Shelf.Ren := ⟨fun | 6 => 37 | 15 => 42 | 14 => 50 | 28 => 59 | 29 => 60 | 20 => 65 | 21 => 66 | 22 => 67 | 23 => 68 | 24 => 69 | 25 => 70 | 26 => 71 | 27 => 72 | 46 => 79 | 47 => 74 | 48 => 75 | 49 => 80 | 50 => 81 | 57 => 83 | n => n, fun | 22 => 45 | 24 => 36 | 25 => 64 | 3 => 3 | 39 => 86 | 0 => 0 | 53 => 105 | 55 => 34 | 4 => 4 | 46 => 98 | 45 => 97 | 50 => 102 | 5 => 5 | 9 => 9 | 66 => 123 | 70 => 127 | 76 => 131 | 77 => 132 | n => n, fun | n => n⟩
theorem Try.sortLab : Go.Proofs.SlLaysF0.n6 Try.prog Try.sortLab_ren := {
 mixed := by kernel_rfl
 f6 := ⟨Try.f37.name, by decide, Try.func37.trans (congrArg some (by kernel_rfl))⟩
 f14 := ⟨Try.f50.name, by decide, Try.func50.trans (congrArg some (by kernel_rfl))⟩
 f15 := Try.func42.trans (congrArg some (by kernel_rfl))
 f20 := ⟨Try.f65.name, by decide, Try.func65.trans (congrArg some (by kernel_rfl))⟩
 f21 := ⟨Try.f66.name, by decide, Try.func66.trans (congrArg some (by kernel_rfl))⟩
 f22 := ⟨Try.f67.name, by decide, Try.func67.trans (congrArg some (by kernel_rfl))⟩
 f23 := ⟨Try.f68.name, by decide, Try.func68.trans (congrArg some (by kernel_rfl))⟩
 f24 := ⟨Try.f69.name, by decide, Try.func69.trans (congrArg some (by kernel_rfl))⟩
 f25 := ⟨Try.f70.name, by decide, Try.func70.trans (congrArg some (by kernel_rfl))⟩
 f26 := ⟨Try.f71.name, by decide, Try.func71.trans (congrArg some (by kernel_rfl))⟩
 f27 := ⟨Try.f72.name, by decide, Try.func72.trans (congrArg some (by kernel_rfl))⟩
 f28 := Try.func59.trans (congrArg some (by kernel_rfl))
 f29 := Try.func60.trans (congrArg some (by kernel_rfl))
 f46 := ⟨Try.f79.name, by decide, Try.func79.trans (congrArg some (by kernel_rfl))⟩
 f47 := Try.func74.trans (congrArg some (by kernel_rfl))
 f48 := Try.func75.trans (congrArg some (by kernel_rfl))
 f49 := ⟨Try.f80.name, by decide, Try.func80.trans (congrArg some (by kernel_rfl))⟩
 f50 := ⟨Try.f81.name, by decide, Try.func81.trans (congrArg some (by kernel_rfl))⟩
 f57 := ⟨Try.f83.name, by decide, Try.func83.trans (congrArg some (by kernel_rfl))⟩
 t0 := Try.underlying0
 a0 := Try.isAgg0
 z0 := Try.sizeOf0
 v0 := Try.zeroValue0
 t3 := Try.underlying3
 a3 := Try.isAgg3
 z3 := Try.sizeOf3
 v3 := Try.zeroValue3
 t4 := Try.underlying4
 a4 := Try.isAgg4
 z4 := Try.sizeOf4
 v4 := Try.zeroValue4
 t5 := Try.underlying5
 a5 := Try.isAgg5
 z5 := Try.sizeOf5
 v5 := Try.zeroValue5
 t9 := Try.underlying9
 a9 := Try.isAgg9
 z9 := Try.sizeOf9
 v9 := Try.zeroValue9
 t22 := Try.underlying45
 a22 := Try.isAgg45
 z22 := Try.sizeOf45
 v22 := Try.zeroValue45
 t25 := Try.underlying64
 a25 := Try.isAgg64
 z25 := Try.sizeOf64
 v25 := Try.zeroValue64
 t39 := Try.underlying86
 a39 := Try.isAgg86
 z39 := Try.sizeOf86
 v39 := Try.zeroValue86
 t45 := Try.underlying97
 a45 := Try.isAgg97
 z45 := Try.sizeOf97
 v45 := Try.zeroValue97
 t46 := Try.underlying98
 a46 := Try.isAgg98
 z46 := Try.sizeOf98
 v46 := Try.zeroValue98
 t50 := Try.underlying102
 a50 := Try.isAgg102
 z50 := Try.sizeOf102
 v50 := Try.zeroValue102
 t53 := Try.underlying105
 a53 := Try.isAgg105
 z53 := Try.sizeOf105
 v53 := Try.zeroValue105
 t55 := Try.underlying34
 a55 := Try.isAgg34
 z55 := Try.sizeOf34
 v55 := Try.zeroValue34
 t66 := Try.underlying123
 a66 := Try.isAgg123
 z66 := Try.sizeOf123
 v66 := Try.zeroValue123
 t70 := Try.underlying127
 a70 := Try.isAgg127
 z70 := Try.sizeOf127
 v70 := Try.zeroValue127
 t76 := Try.underlying131
 a76 := Try.isAgg131
 z76 := Try.sizeOf131
 v76 := Try.zeroValue131
 t77 := Try.underlying132
 a77 := Try.isAgg132
 z77 := Try.sizeOf132
 v77 := Try.zeroValue132 }
end Go.Proofs
namespace Go.Proofs.Ytpgjalaldhlcoaa.Sym
open Go Go.RowKit Go.Sort
instance : Inhabited RowA := ⟨zRow⟩
def labLt (a b : Lab) : Bool := decide (cmpLab a b < 0)
theorem labLt_iff (a b : Lab) : labLt a b = true ↔ a.bits < b.bits ∨ (a.bits = b.bits ∧ a.len < b.len) := by
 unfold labLt cmpLab cmpI
 rw [decide_eq_true_iff]
 split <;> rename_i h <;> (repeat' split at h) <;> (repeat' split) <;> omega
theorem labLt_not (a b : Lab) : labLt a b = false ↔ ¬ (a.bits < b.bits ∨ (a.bits = b.bits ∧ a.len < b.len)) := by
 rw [← labLt_iff]; simp
def cfRow (x y : RowA) : Int := cmpLab x.lab y.lab
theorem cfRow_lt (x y : RowA) : ltOf cfRow x y = labLt x.lab y.lab := rfl
theorem swoRow : SWO (ltOf cfRow) := by
 refine ⟨fun x => ?_, fun x y z h1 h2 => ?_, fun x y z h1 h2 => ?_⟩
 ·rw [cfRow_lt, labLt_not]; omega
 ·rw [cfRow_lt, labLt_iff] at *; omega
 rw [cfRow_lt, labLt_not] at *; omega
theorem sortRow_c {n B e : Nat} {A : Option Addr} {c : Nat} {h : Nat → RowA} {w : World} (hO : Own w B e 8 (.slice A n c) n (rowFlat (fun t => rowC (h t)) n)) (hn : n < 4611686018427387904) :
  Calls Try.prog 25 #[.slice A n c, .func (.func 26) #[] #[]] w fun e' w' => e' = .returned (.tuple #[]) ∧ ∃ h' : Nat → RowA, ((List.range n).map h').Perm ((List.range n).map h) ∧ (∀ i j, i < j → j < n → labLt (h' j).lab (h' i).lab = false) ∧ Own w' B e 8 (.slice A n c) n (rowFlat (fun t => rowC (h' t)) n) ∧ Chg (fun x => ownB (.slice A n c) = some x) w w' := by
 refine sorted_c (cells := rowC) (lt := ltOf cfRow) (k := 8) (fun _ => rfl) hO (fun b d hd hH hb => ?_) (fun h0 => ?_)
 ·have eg : ∀ args w, (callFunc 26 args).run Try.prog w = .ok (.enter 26 args) w := enters_of Try.func26 (by kernel_rfl) rfl
  have hcmp : CmpLays Try.prog 26 #[] (encV rowC) 8 cfRow b 0 d.size w := by
   intro m os dk hdk x y
   refine (bord_c x y _).mono ?_
   rintro e w' ⟨rfl, q, os', rfl⟩
   exact ⟨rfl, q, os', rfl⟩
  have := AnyQ.slices_SortFunc Try.sortRow 8 (fun _ => by kernel_rfl) (fun _ => by kernel_rfl) (encV rowC) (fun _ => rfl) (fun x v hv => by
   simp only [encV, rowC, List.map_cons, List.map_nil, AV.den, List.mem_cons, List.not_mem_nil, or_false] at hv
   rcases hv with rfl | rfl | rfl | rfl | rfl | rfl | rfl | rfl <;> rfl) cfRow swoRow 26 #[] b 0 c d w eg hcmp hH hb (by omega)
  exact this
 exact AnyF.slices_SortFunc_none (P := Try.prog) (ρ := Try.sortRow_ren) { Try.sortRow with } A c _ w
instance : Inhabited Lab := ⟨⟨0, 0⟩⟩
abbrev labC (x : Lab) : List AV := [.int .i64 x.len, .int .u64 x.bits]
def cfLab (x y : Lab) : Int := cmpLab x y
theorem cfLab_lt (x y : Lab) : ltOf cfLab x y = labLt x y := rfl
theorem swoLab : SWO (ltOf cfLab) := by
 refine ⟨fun x => ?_, fun x y z h1 h2 => ?_, fun x y z h1 h2 => ?_⟩
 ·rw [cfLab_lt, labLt_not]; omega
 ·rw [cfLab_lt, labLt_iff] at *; omega
 rw [cfLab_lt, labLt_not] at *; omega
theorem sortLab_c {n B e : Nat} {A : Option Addr} {c : Nat} {h : Nat → Lab} {w : World} (hO : Own w B e 2 (.slice A n c) n (rowFlat (fun t => labC (h t)) n)) (hn : n < 4611686018427387904) :
  Calls Try.prog 37 #[.slice A n c, .func (.func 27) #[] #[]] w fun e' w' => e' = .returned (.tuple #[]) ∧ ∃ h' : Nat → Lab, ((List.range n).map h').Perm ((List.range n).map h) ∧ (∀ i j, i < j → j < n → labLt (h' j) (h' i) = false) ∧ Own w' B e 2 (.slice A n c) n (rowFlat (fun t => labC (h' t)) n) ∧ Chg (fun x => ownB (.slice A n c) = some x) w w' := by
 refine sorted_c (cells := labC) (lt := ltOf cfLab) (k := 2) (fun _ => rfl) hO (fun b d hd hH hb => ?_) (fun h0 => ?_)
 ·have eg : ∀ args w, (callFunc 27 args).run Try.prog w = .ok (.enter 27 args) w := enters_of Try.func27 (by kernel_rfl) rfl
  have hcmp : CmpLays Try.prog 27 #[] (encV labC) 2 cfLab b 0 d.size w := by
   intro m os dk hdk x y
   refine (order_c x y _).mono ?_
   rintro e w' ⟨rfl, q, os', rfl⟩
   exact ⟨rfl, q, os', rfl⟩
  have := AnyQ.slices_SortFunc Try.sortLab 2 (fun _ => by kernel_rfl) (fun _ => by kernel_rfl) (encV labC) (fun _ => rfl) (fun x v hv => by
   simp only [encV, labC, List.map_cons, List.map_nil, AV.den, List.mem_cons, List.not_mem_nil, or_false] at hv
   rcases hv with rfl | rfl <;> rfl) cfLab swoLab 27 #[] b 0 c d w eg hcmp hH hb (by omega)
  exact this
 exact AnyF.slices_SortFunc_none (P := Try.prog) (ρ := Try.sortLab_ren) { Try.sortLab with } A c _ w
end Go.Proofs.Ytpgjalaldhlcoaa.Sym
namespace Go.Proofs.Ytpgjalaldhlcoaa.Sym
open Go Go.RowKit
def insL (x : Lab) : List Lab → List Lab
 | [] => [x]
 | y :: l => if lessL x y = true then x :: y :: l else y :: insL x l
def sortL (l : List Lab) : List Lab := l.foldl (fun o x => insL x o) []
def leafs (l : List Rw) : List Lab := (l.filter fun w => decide (w.r.kind = 1)).map (·.lab)
def leavesP (l : List Rw) : List Lab := sortL (leafs l)
def leL (a b : Lab) : Prop := lessL b a = false
theorem leL_trans {a b c : Lab} (h : leL a b) (h' : leL b c) : leL a c := by
 unfold leL at *
 cases hx : lessL c a with
 | false => rfl
 | true =>
  rcases less_total a b with h1 | h1 | h1
  ·have := less_trans hx h1
   rw [h'] at this; cases this
  ·subst h1
   rw [h'] at hx; cases hx
  rw [h] at h1; cases h1
theorem less_le {a b : Lab} (h : lessL a b = true) : leL a b := by
 unfold leL
 cases hx : lessL b a with
 | false => rfl
 | true => have := less_trans h hx; rw [less_irr] at this; cases this
theorem leL_anti {a b : Lab} (h : leL a b) (h' : leL b a) : a = b := by
 unfold leL at *
 rcases less_total a b with h1 | h1 | h1
 ·rw [h'] at h1; cases h1
 ·exact h1
 rw [h] at h1; cases h1
theorem insL_perm (x : Lab) : ∀ l : List Lab, (insL x l).Perm (x :: l)
 | [] => List.Perm.refl _
 | y :: l => by
  unfold insL
  split
  ·exact List.Perm.refl _
  exact (List.Perm.cons _ (insL_perm x l)).trans (List.Perm.swap _ _ _)
theorem insL_sorted (x : Lab) : ∀ {l : List Lab}, l.Pairwise leL → (insL x l).Pairwise leL
 | [], _ => List.pairwise_singleton _ _
 | y :: l, h => by
  have h' := List.pairwise_cons.1 h
  unfold insL
  split
  ·rename_i hx
   refine List.pairwise_cons.2 ⟨fun z hz => ?_, h⟩
   rcases List.mem_cons.1 hz with rfl | hz
   ·exact less_le hx
   exact leL_trans (less_le hx) (h'.1 z hz)
  rename_i hx
  refine List.pairwise_cons.2 ⟨fun z hz => ?_, insL_sorted x h'.2⟩
  rcases List.mem_cons.1 ((insL_perm x l).mem_iff.1 hz) with rfl | hz
  ·exact (Bool.not_eq_true _).mp hx
  exact h'.1 z hz
theorem sortL_go (l : List Lab) : ∀ (o : List Lab), (l.foldl (fun o x => insL x o) o).Perm (l ++ o) ∧ (o.Pairwise leL → (l.foldl (fun o x => insL x o) o).Pairwise leL) := by
 induction l with
 | nil => exact fun o => ⟨List.Perm.refl _, id⟩
 | cons x l ih =>
  intro o
  obtain ⟨h1, h2⟩ := ih (insL x o)
  refine ⟨?_, fun ho => h2 (insL_sorted x ho)⟩
  refine h1.trans ?_
  have := (insL_perm x o).append_left l
  exact this.trans List.perm_middle
theorem sortL_perm (l : List Lab) : (sortL l).Perm l := by
 have := (sortL_go l []).1
 rwa [List.append_nil] at this
theorem sortL_sorted (l : List Lab) : (sortL l).Pairwise leL := (sortL_go l []).2 .nil
theorem sorted_uniq {l l' : List Lab} (hp : l.Perm l') (h : l.Pairwise leL) (h' : l'.Pairwise leL) : l = l' :=
 List.Perm.eq_of_pairwise (le := leL) (fun a b _ _ h1 h2 => leL_anti h1 h2) h h' hp
theorem sortL_eq {l l' : List Lab} (hp : l.Perm l') (h : l.Pairwise leL) : sortL l' = l := (sorted_uniq (hp.trans (sortL_perm l').symm) h (sortL_sorted l')).symm
theorem sortL_len (l : List Lab) : (sortL l).length = l.length := (sortL_perm l).length_eq
theorem leafs_len (l : List Rw) : (leafs l).length ≤ l.length := by
 unfold leafs
 rw [List.length_map]
 exact List.length_filter_le _ _
theorem leaves_len (l : List Rw) : (leavesP l).length ≤ l.length := by
 unfold leavesP
 rw [sortL_len]
 exact leafs_len l
abbrev labsV (A : Option Addr) (n c : Nat) (g : Nat → Lab) : AV := .sl none A n c 2 (fun t => labC (g t))
def labF (l : List Lab) : Nat → Lab := fun t => l.getD t ⟨0, 0⟩
def lSet (g : Nat → Lab) (p : Nat) (x : Lab) : Nat → Lab := fun i => if i = p then x else g i
theorem leafs_step (f : Nat → RowA) (i : Nat) : leafs (rwsA f (i + 1)) = leafs (rwsA f i) ++ (if (f i).x.r.kd = 1 then [(f i).lab] else []) := by
 show leafs (listA RowA.abs f (i + 1)) = leafs (listA RowA.abs f i) ++ _
 rw [listA_succ]
 unfold leafs
 rw [List.filter_append, List.map_append]
 congr 1
 by_cases h : (f i).x.r.kd = 1
 ·simp [RowA.abs, RN.abs, h]
 simp [RowA.abs, RN.abs, h]
theorem map_lSet (g : Nat → Lab) (q : Nat) (x : Lab) : (List.range (q + 1)).map (lSet g q x) = (List.range q).map g ++ [x] := by
 rw [List.range_succ, List.map_append]
 congr 1
 ·apply List.map_congr_left
  intro t ht
  have := List.mem_range.1 ht
  unfold lSet
  rw [if_neg (by omega)]
 simp [lSet]
theorem labLt_le (a b : Lab) : labLt a b = lessL a b := by
 rw [Bool.eq_iff_iff, labLt_iff]
 simp [lessL]
theorem leaves_fin {l : List Rw} {h h' : Nat → Lab} {k : Nat} (hl : (List.range k).map h = leafs l) (hp : ((List.range k).map h').Perm ((List.range k).map h)) (hs : ∀ i j, i < j → j < k → labLt (h' j) (h' i) = false) : leavesP l = (List.range k).map h' := by
 unfold leavesP
 rw [← hl]
 refine sortL_eq hp ?_
 rw [List.pairwise_map]
 refine List.Pairwise.imp_of_mem ?_ (List.pairwise_lt_range (n := k))
 intro a b ha hb hab
 unfold leL
 rw [← labLt_le]
 exact hs a b hab (List.mem_range.1 hb)
theorem labF_map {h : Nat → Lab} {k t : Nat} (ht : t < k) : labF ((List.range k).map h) t = h t := by
 unfold labF
 simp [List.getD_eq_getElem?_getD, ht]
theorem enters37 : Enters Try.prog 37 := fun _ _ => by kernel_rfl
theorem leaves_s (A : Option Addr) (n c : Nat) (f : Nat → RowA) (hn : n ≤ 100000) : Spec Try.prog 13 [rowsV A n c f] (fun y => labsV (y.A 0) (leavesP (rwsA f n)).length (y.c 0) (labF (leavesP (rwsA f n)))) := by
 intro m w hm hargs
 have hmx : maxLen = 9223372036854775807 := rfl
 refine en 25 hm hargs Try.func13 fun B hB a0 hF => ?_
 refine wp_seq (rg hB TA_ok [0] [] [] hF fun X0 a0 w1 hF => ?_)
 refine wp_seq (rg hB TA_ok [3, 0] [3] [] hF fun X1 a0 w1 hF => ?_)
 refine wp_seq (wp_seq (rg hB TA_ok [3, 8, 6, 7] [3] [] hF fun X2 a0 w1 hF => ?_))
 replace hF := hF.headS (v' := .sl (some 3) none 0 0 2 (fun t => labC ⟨0, 0⟩)) (zq0) rfl
 refine wp_block (loop_pre (ι := Nat × Nat × (Nat → Lab) × Option Addr × Nat) (fun p => [(3, .sl (some 3) p.2.2.2.1 p.2.1 p.2.2.2.2 2 (fun t => labC (p.2.2.1 t))), (8, .int .i64 (p.1 : Int))]) (fun p => []) (fun p => [(3, ⟨p.2.2.2.1, p.2.1, p.2.2.2.2, 2, 36⟩)]) (fun p => p.1 ≤ n ∧ p.2.1 ≤ p.1 ∧ (List.range p.2.1).map p.2.2.1 = leafs (rwsA f p.1)) (fun p => n - p.1) (0, 0, fun _ => ⟨0, 0⟩, none, 0) ⟨Nat.zero_le _, Nat.le_refl _, rfl⟩ hF ?_)
 rintro ⟨i, q, g, A1, c1⟩ ⟨hi, hq, hg⟩ a0 w1 hF
 try dsimp only at hi
 try dsimp only at hq
 try dsimp only at hg
 refine wp_seq (rg hB TA_ok [9, 3, 8, 6, 7] [3] [] hF fun X3 a0 w1 hF => ?_)
 refine wp_seq (test_ok hF rfl (fun hb hF => ?_) (fun hb hF => ?_))
 ·have hin : i < n := by
   have : (i : Int) < (n : Int) := by subst hB; simpa [std, sC] using hb
   omega
  refine wp_skip (wp_seq (wp_block (wp_seq ?_)))
  refine rg hB TA_ok [5, 3, 8, 6, 7] [5, 3] [] hF (hob := by intro X; subst hB; simp only [AO, Ob.holds, BE.den] <;> and_intros <;> repeat first | trivial | rfl | exact (show (0 : Int) ≤ (i : Int) by omega) | exact (show (i : Int) < (n : Int) by omega) | exact (fun _ _ => by kernel_rfl) | refine ⟨?_, ?_⟩ | intro h | exact Int.le_refl _ | decide | omega) fun X4 a0 w1 hF => ?_
  replace hF := hF.memS (cells' := rowC (f i)) (by subst hB; exact zl)
  refine wp_seq (rg hB TA_ok [15, 5, 3, 8, 6, 7] [5, 3] [] hF fun X5 a0 w1 hF => ?_)
  apply test_ok hF rfl <;> intro hb hF
  ·have hk : (f i).x.r.kd = 1 := by subst hB; simpa [std, sC] using hb
   refine rg hB TA_ok [3, 8, 6, 7] [3] [] hF (hob := ?hob) fun X6 a0 w1 hF => ?_
   case hob =>
    intro X
    subst hB
    repeat (first | exact trivial | refine ⟨⟨rfl, rfl, rfl⟩, ?_⟩ | refine ⟨rfl, ?_⟩ | refine ⟨⟨show q + 1 ≤ maxLen by omega, show (q + 1) * _ ≤ _ by omega⟩, ?_⟩)
   replace hF := hF.headS (v' := .sl (some 3) ((X6 4).A 0) (B.nadd q 1) ((X6 4).c 0) 2 (fun t => labC (lSet g q (f i).lab t))) (Sim.resl rfl (fun t ht => by
    subst hB
    have ht2 : t < q + 1 := ht
    show appC q (fun t => labC (g t)) (chunk 2 [.int .i64 (f i).lab.len, .int .u64 (f i).lab.bits]) t = _
    unfold appC lSet
    split
    ·rw [if_neg (by omega)]
    have : t = q := by omega
    subst this
    simp [chunk, labC])) rfl
   refine rg hB TA_ok [3, 8, 6, 7] [3] [] hF fun X7 a0 w1 hF => ?_
   have e : B.arith .add .i64 (i : Int) 1 = ((i + 1 : Nat) : Int) := by subst hB; exact wrap_succ (n := n) hin (by omega)
   refine ⟨(i + 1, q + 1, lSet g q (f i).lab, _, _), ⟨by simp only; omega, by simp only; omega, ?_⟩, by simp only; omega, by rw [← e, show q + 1 = B.nadd q 1 by subst hB; rfl]; exact hF⟩
   simp only
   rw [map_lSet, hg, leafs_step, if_pos hk]
  have hk : ¬ (f i).x.r.kd = 1 := by subst hB; simpa [std, sC] using hb
  refine wp_skip (rg hB TA_ok [3, 8, 6, 7] [3] [] hF fun X7 a0 w1 hF => ?_)
  have e : B.arith .add .i64 (i : Int) 1 = ((i + 1 : Nat) : Int) := by subst hB; exact wrap_succ (n := n) hin (by omega)
  refine ⟨(i + 1, q, g, _, _), ⟨by simp only; omega, by simp only; omega, ?_⟩, by simp only; omega, by rw [← e]; exact hF⟩
  simp only
  rw [hg, leafs_step, if_neg hk, List.append_nil]
 have hout : i = n := by
  have : ¬ (i : Int) < (n : Int) := by subst hB; simpa [std, sC] using hb
  omega
 rw [hout] at hg
 refine wp_exit (wp_seq (wp_region_lit (lpr 0 1 hB TA_ok [22, 3] [3] [] hF fun X8_0 a0 w1 hF => ?_)))
 obtain ⟨_, xs, hO⟩ := hF.gr 3 ⟨A1, q, c1, 2, 36⟩ rfl
 have hs3 := hF.slot 3 rfl
 have hk3 : Ok _ w1 (.sl (some 3) A1 q c1 2 (fun t => labC (g t))) := hs3.2
 have hd3 : a0.tmps[3]? = some (AV.sl (some 3) A1 q c1 2 (fun t => labC (g t))).den := hs3.1
 have hfl := own_flat hO hk3
 rw [hfl] at hO
 have hO : Own w1 w.heap.size 36 2 (.slice A1 q c1) q (rowFlat (fun t => labC (g t)) q) := hO
 refine man_sorted rfl rfl rfl rfl rfl hF rfl rfl enters37 (fun w' => ∃ h' : Nat → Lab, ((List.range q).map h').Perm ((List.range q).map g) ∧ (∀ i j, i < j → j < q → labLt (h' j) (h' i) = false) ∧ Own w' w.heap.size 36 2 (.slice A1 q c1) q (rowFlat (fun t => labC (h' t)) q)) ((sortLab_c hO (by omega)).mono ?_) ?_
 ·rintro e w2 ⟨he, h', g1, g2, g3, g4⟩
  exact ⟨he, ⟨h', g1, g2, g3⟩, g4⟩
 rintro w2 ⟨h', g1, g2, g3⟩ g4
 have hfin := leaves_fin hg g1 g2
 have hF2 := Fits.sorted hF g4 (l' := [(3, .sl none A1 q c1 2 (fun t => labC (h' t)))]) (fun x hx => ?hl) (fun x e he v hv => ?hm)
 case hl =>
  by_cases hx3 : x = 3
  ·subst hx3
   refine ⟨hd3, own_known g3 (fun _ _ => rfl) (Fits.notM hF) (fun i hi v hv => ?_) none⟩
   simp only [labC, List.mem_cons, List.not_mem_nil, or_false] at hv
   rcases hv with rfl | rfl <;> exact ⟨rfl, .int _ _⟩
  have : look [(3, AV.sl none A1 q c1 2 (fun t => labC (h' t)))] x = .undef := by rw [look_cons, if_neg (fun e => hx3 e.symm)]; rfl
  rw [this] at hx; cases hx
 case hm => cases he
 have hF : Fits _ _ (a0.put (some 23) (.tuple #[])) w2 := hF2.put (some 23) (fun t ht => by injection ht with ht; subst ht; exact Nat.le_of_ble_eq_true rfl) (.tup []) (fun _ => .tup _ fun u hu => by cases hu) _ fun _ => rfl
 refine wpList_nil (wp_seq (rg hB TA_ok [2] [2, 3, 20] [] hF fun X9 a0 w1 hF => ?_))
 refine wp_ret ((rsi hB TA_ok hF (⟨0, fun _ => A1, fun _ => c1, fun _ => ⟨#[]⟩⟩) (he := ?_)))
 subst hB
 rw [hfin, List.length_map, List.length_range]
 exact Sim.resl rfl (fun t ht => by rw [labF_map ht])
end Go.Proofs.Ytpgjalaldhlcoaa.Sym
namespace Go.Proofs.Ytpgjalaldhlcoaa.Sym
open Go.RowKit
section
variable {C : Cx} {P : Program} {Q : Exit → Act → World → Prop} {T : List (Nat × TI)} {cs : List (Nat × CS)} {ops : Array Oper} {all : List Oper} {H : Hand}
theorem closed {listed : Array Bool} (hDC : ∀ k o, all[k]? = some o → listed.getD k false = true → ∀ e ∈ o.after.toList, Region.binds .any e = true → listed.getD e.on false = true) {i j : Nat} (hr : WaitsFor all i j) : (∀ o e, all[i]? = some o → e ∈ o.after.toList → Region.binds .any e = true → listed.getD e.on false = true) → listed.getD j false = true := by
 induction hr with
 | one h1 h2 h3 h4 => intro hi; rw [← h4]; exact hi _ _ h1 h2 h3
 | more h1 h2 h3 h4 ih => intro hi; exact ih fun o e g1 g2 g3 => hDC _ o g1 (hi _ _ h1 h2 h3) e g2 g3
theorem chain_ok {tz : List Nat} (hops : ops = all.toArray) (htz : ∀ i j, edge tz i j = true → WaitsFor all i j) {n0 : Nat} (hz : ∀ k, n0 ≤ k → k < ops.size → ∀ j, j < k → edge tz k j = true) (hze : ∀ (k : Nat) (o : Oper), ops[k]? = some o → ∀ e ∈ o.after.toList, Region.binds .any e = true → e.on < k) :
  ∀ (n k : Nat) (listed : Array Bool) (a : Act) (w : World), n0 ≤ k → ops.size - k = n → k ≤ ops.size → listed.size = ops.size → (∀ j, j < k → listed.getD j false = true) → (∀ j, k ≤ j → j < ops.size → listed.getD j true = false) →
  (∀ k o, all[k]? = some o → listed.getD k false = true → ∀ e ∈ o.after.toList, Region.binds .any e = true → listed.getD e.on false = true) → wpList P ops Q (all.drop k) a w → wpAny P .any ops Q n listed a w
 | 0, k, listed, a, w, h0, hn, hk, hsz, hlo, hhi, hDC, hq => by
  have hlen : all.length = ops.size := by rw [hops]; simp
  have : all.drop k = [] := List.drop_eq_nil_of_le (by omega)
  rw [this] at hq
  refine ⟨?_, hq⟩
  cases hr : Region.ready .any ops listed with
  | nil => rfl
  | cons i r =>
   obtain ⟨h1, o, h2, _⟩ := mem_ready.1 (hr ▸ List.mem_cons_self : i ∈ Region.ready .any ops listed)
   have hi := (Array.getElem?_eq_some_iff.1 h2).1
   have := hlo i (by omega)
   rw [getD_tf h1] at this; cases this
 | n + 1, k, listed, a, w, h0, hn, hk, hsz, hlo, hhi, hDC, hq => by
  have hlen : all.length = ops.size := by rw [hops]; simp
  have hkl : k < ops.size := by omega
  obtain ⟨o, ho⟩ : ∃ o, ops[k]? = some o := ⟨_, Array.getElem?_eq_getElem hkl⟩
  have hoa : all[k]? = some o := by rw [hops] at ho; simpa using ho
  have hd : all.drop k = o :: all.drop (k + 1) := by
   have hka : k < all.length := by omega
   rw [List.drop_eq_getElem_cons hka]
   congr 1
   exact (List.getElem?_eq_some_iff.1 hoa).2
  refine ⟨fun hr => ?_, fun i hi => ?_⟩
  ·exfalso
   have : k ∈ Region.ready .any ops listed := mem_ready.2 ⟨hhi k (Nat.le_refl _) hkl, o, ho, fun e he hb => hlo _ (hze k o ho e (by simpa using he) hb)⟩
   rw [hr] at this; cases this
  obtain ⟨h1, o', h2, h3⟩ := mem_ready.1 hi
  have hil := (Array.getElem?_eq_some_iff.1 h2).1
  have hik : i = k := by
   refine Decidable.byContradiction fun hne => ?_
   by_cases hlt : i < k
   ·have := hlo i hlt
    rw [getD_tf h1] at this; cases this
   have hw := htz _ _ (hz i (by omega) hil k (by omega))
   have h4 := closed hDC hw (fun o'' e g1 g2 g3 => by
    have : o'' = o' := by
     have e1 : ops[i]? = some o'' := by rw [hops]; simpa using g1
     rw [h2] at e1; injection e1 with e1; exact e1.symm
    subst this
    exact h3 e (by simpa using g2) g3)
   have := hhi k (Nat.le_refl _) hkl
   rw [getD_tf this] at h4; cases h4
  subst hik
  have : o' = o := by rw [ho] at h2; injection h2 with h2; exact h2.symm
  subst this
  have fin : ∀ a w, wpList P ops Q (all.drop (i + 1)) a w → wpAny P .any ops Q n (listed.setIfInBounds i true) a w := by
   intro a w hq'
   refine chain_ok hops htz hz hze n (i + 1) _ a w (by omega) (by omega) (by omega) (by simpa using hsz) (fun j hj => ?_) (fun j hj hj' => ?_) (fun k2 ok hk2 hu e he hb => ?_) hq'
   ·by_cases hji : j = i
    ·subst hji; simp [Array.getD_eq_getD_getElem?, hsz, hil]
    rw [getD_set_ne false (fun e' => hji e'.symm)]; exact hlo j (by omega)
   ·rw [getD_set_ne true (by omega)]; exact hhi j (by omega) hj'
   have hon : listed.getD e.on false = true := by
    by_cases hki : k2 = i
    ·subst hki
     have : ok = o' := by
      have e1 : ops[k2]? = some ok := by rw [hops]; simpa using hk2
      rw [h2] at e1; injection e1 with e1; exact e1.symm
     subst this
     exact h3 e (by simpa using he) hb
    rw [getD_set_ne false (fun e' => hki e'.symm)] at hu
    exact hDC k2 ok hk2 hu e he hb
   by_cases hei : e.on = i
   ·rw [hei]; simp [Array.getD_eq_getD_getElem?, hsz, hil]
   rw [getD_set_ne false (fun e' => hei e'.symm)]; exact hon
  rw [hd] at hq
  unfold wpOp
  simp only [h2]
  unfold wpList at hq
  by_cases hw : Region.wanted o' (yielded ops a.tmps) = true
  ·rw [if_pos hw] at hq ⊢
   exact hq.imp (Oper.wp_mono fin) id
  rw [if_neg hw] at hq ⊢
  exact fin _ _ hq
theorem any3_ok {tb tz : List Nat} (hT : TabOK P T) (hops : ops = all.toArray) (htb : ∀ i j, edge tb i j = true → WaitsFor all i j) (htz : ∀ i j, edge tz i j = true → WaitsFor all i j) (hH : HandOK C P all H) {n0 : Nat} (hz : ∀ k, n0 ≤ k → k < ops.size → ∀ j, j < k → edge tz k j = true) (hze : ∀ (k : Nat) (o : Oper), ops[k]? = some o → ∀ e ∈ o.after.toList, Region.binds .any e = true → e.on < k) (hz4 : n0 ≤ ops.size) : ∀ (n : Nat) (L : List (Nat × Oper)) (fs : List Foot) (listed : Array Bool) (s : St) (a : Act) (w : World), L.length = n → Fits C s a w → NM s (ds fs) → Ord fs → Paired tb L fs → (∀ k o, all[k]? = some o → listed.getD k false = true → ∀ e ∈ o.after.toList, Region.binds .any e = true → listed.getD e.on false = true) →
  L.Pairwise (fun x y => x.1 < y.1) → (∀ x ∈ L, ops[x.1]? = some x.2 ∧ listed.getD x.1 true = false) → (∀ k o, k < n0 → ops[k]? = some o → listed.getD k true = false → (k, o) ∈ L) → (∀ k, n0 ≤ k → k < ops.size → listed.getD k true = false) → (∀ x ∈ L, x.1 < n0) → listed.size = ops.size →
  (∀ x ∈ L, ∀ e ∈ x.2.after.toList, Region.binds .any e = true → e.on < x.1) →
  (∀ X, ∃ τ obs, exec2 std T cs H X all L s = some (τ, obs, fs) ∧ AO P C.K obs ∧ ∀ a' w', Fits C τ a' w' → wpList P ops Q (all.drop n0) a' w') → wpAny P .any ops Q (n + (ops.size - n0)) listed a w
 | 0, L, fs, listed, s, a, w, hn, h, hNM, hF, hP, hDC, hsr, hL, hA, hZ, hLn, hsz, hE, hs => by
  have : L = [] := List.eq_nil_of_length_eq_zero hn
  subst this
  obtain ⟨τ, obs, e1, _, e2⟩ := hs (fun _ => ⟨0, fun _ => none, fun _ => 0, fun _ => .empty⟩)
  simp only [exec2, Option.some.injEq, Prod.mk.injEq] at e1
  obtain ⟨rfl, _⟩ := e1
  rw [Nat.zero_add]
  refine chain_ok hops htz hz hze (ops.size - n0) n0 listed a w (Nat.le_refl _) rfl hz4 hsz (fun k hk => ?_) hZ hDC (e2 a w h)
  by_cases hl : listed.getD k false = true
  ·exact hl
  have := hA k _ hk (Array.getElem?_eq_getElem (by omega)) (getD_ft (by rw [hsz]; omega) hl)
  cases this
 | n + 1, L, fs, listed, s, a, w, hn, h, hNM, hF, hP, hDC, hsr, hL, hA, hZ, hLn, hsz, hE, hs => by
  rw [show n + 1 + (ops.size - n0) = (n + (ops.size - n0)) + 1 by omega]
  refine ⟨fun hr => ?_, fun i hi => ?_⟩
  ·-- the first one that is left may come up
   exfalso
   cases L with
   | nil => cases hn
   | cons x L =>
    obtain ⟨i0, o0⟩ := x
    obtain ⟨h1, h2⟩ := hL (i0, o0) (by simp)
    have : i0 ∈ Region.ready .any ops listed := mem_ready.2 ⟨h2, o0, h1, fun e he hb => by
     have hlt := hE (i0, o0) (by simp) e (by simpa using he) hb
     simp only at hlt
     have hi0 : i0 < ops.size := (Array.getElem?_eq_some_iff.1 h1).1
     have hon : e.on < listed.size := by rw [hsz]; omega
     by_cases hl : listed.getD e.on false = true
     ·exact hl
     exfalso
     have hm := hA e.on _ (by have := hLn (i0, o0) (by simp); simp only at this; omega) (Array.getElem?_eq_getElem (by omega)) (getD_ft hon hl)
     rcases List.mem_cons.1 hm with he' | hm
     ·injection he' with he'; omega
     have := (List.pairwise_cons.1 hsr).1 _ hm
     simp only at this; omega⟩
    rw [hr] at this
    cases this
  obtain ⟨h1, o, h2, h3⟩ := mem_ready.1 hi
  have hi0 : i < n0 := by
   refine Decidable.byContradiction fun hni => ?_
   cases L with
   | nil => cases hn
   | cons x L =>
    have hx0 := hLn x (by simp)
    have hw := htz _ _ (hz i (by omega) (Array.getElem?_eq_some_iff.1 h2).1 x.1 (by omega))
    have h4 := closed hDC hw (fun o' e g1 g2 g3 => by
     have : o' = o := by
      have e1 : ops[i]? = some o' := by rw [hops]; simpa using g1
      rw [h2] at e1; injection e1 with e1; exact e1.symm
     subst this
     exact h3 e (by simpa using g2) g3)
    have q5 := (hL x (by simp)).2
    rw [getD_tf q5] at h4
    cases h4
  have hio : all[i]? = some o := by rw [hops] at h2; simpa using h2
  have hin := hA i o hi0 h2 h1
  obtain ⟨L1, L2, rfl⟩ := List.append_of_mem hin
  obtain ⟨fs1, f, fs2, hlen, rfl⟩ : ∃ fs1 f fs2, fs1.length = L1.length ∧ fs = fs1 ++ f :: fs2 := by
   have hl := hP.1
   simp only [List.length_append, List.length_cons] at hl
   have hlt : L1.length < fs.length := by omega
   refine ⟨fs.take L1.length, fs[L1.length], fs.drop (L1.length + 1), by simp; omega, ?_⟩
   rw [← List.drop_eq_getElem_cons hlt, List.take_append_drop]
  obtain ⟨hP1, hcm⟩ := pairsB_del hlen hP.2
  have hcomm : ∀ g ∈ fs1, comm g f = true := by
   intro g hg
   obtain ⟨k, hk⟩ := List.getElem?_of_mem hg
   have hkl : k < L1.length := by rw [← hlen]; exact (List.getElem?_eq_some_iff.1 hk).1
   rcases hcm k _ g (List.getElem?_eq_getElem hkl) hk with he | he
   ·exfalso
    have h5 := (hL L1[k] (List.mem_append_left _ (List.getElem_mem hkl))).2
    have hr := htb _ _ he
    have dc : ∀ {i j : Nat}, WaitsFor all i j → (∀ o e, all[i]? = some o → e ∈ o.after.toList → Region.binds .any e = true → listed.getD e.on false = true) → listed.getD j false = true := by
     intro i j hr
     induction hr with
     | one h1 h2 h3 h4 => intro hi; rw [← h4]; exact hi _ _ h1 h2 h3
     | more h1 h2 h3 h4 ih => intro hi; exact ih fun o e g1 g2 g3 => hDC _ o g1 (hi _ _ h1 h2 h3) e g2 g3
    have h4 := dc hr fun o' e g1 g2 g3 => by
     have : o' = o := by
      have e1 : ops[i]? = some o' := by rw [hops]; simpa using g1
      rw [h2] at e1; injection e1 with e1; exact e1.symm
     subst this
     exact h3 e (by simpa using g2) g3
    rw [getD_tf h5] at h4
    cases h4
   exact he
  have mf : ∀ X, ∃ δ ob, delta2 std T cs H (X i) all i o s = some (δ, ob, f) ∧ AO P C.K ob ∧ ∃ τ' obs', exec2 std T cs H X all (L1 ++ L2) (s.app δ) = some (τ', obs', fs1 ++ fs2) ∧ AO P C.K obs' ∧ ∀ a' w', Fits C τ' a' w' → wpList P ops Q (all.drop n0) a' w' := by
   intro X
   obtain ⟨τ, obs, e1, e2, e3⟩ := hs X
   obtain ⟨δ, ob, g1, τ', obs', g2, g3, g4⟩ := moveFront2 (P := P) e1 hlen hNM hF hcomm
   exact ⟨δ, ob, g1, (g4 e2).1, τ', obs', g2, (g4 e2).2, fun a' w' hf => e3 a' w' (hf.alike g3)⟩
  have hsrt : (L1 ++ L2).Pairwise (fun x y => x.1 < y.1) := hsr.sublist (List.Sublist.append_left (List.sublist_cons_self _ _) _)
  have hnot : ∀ x ∈ L1 ++ L2, x.1 ≠ i := by
   intro x hx
   rw [List.pairwise_append] at hsr
   obtain ⟨p1, p2, p3⟩ := hsr
   rcases List.mem_append.1 hx with hx | hx
   ·have := p3 x hx (i, o) (by simp); simp only at this; omega
   have := (List.pairwise_cons.1 p2).1 x hx; simp only at this; omega
  have key := delta2_ok (C := C) (K := fun a' w' => wpAny P .any ops Q (n + (ops.size - n0)) (listed.setIfInBounds i true) a' w') (Q := Q) (cs := cs) (i := i) (o := o) hT hH hio hops h (fun x => by
   obtain ⟨δ, ob, g1, g2, _⟩ := mf (fun _ => x)
   exact ⟨_, g1, g2⟩) (fun x r a' w' hr hf => by
   have hfo := delta2_foot hr
   obtain ⟨δ, ob, f'⟩ := r
   obtain ⟨δ0, ob0, g0, _⟩ := mf (fun _ => x)
   rw [hr] at g0
   injection g0 with g0; injection g0 with q1 q2; injection q2 with q2 q3
   subst q1; subst q2; subst q3
   have hinF : ∀ g ∈ fs1 ++ fs2, g ∈ fs1 ++ f' :: fs2 := fun g hg => by
    rcases List.mem_append.1 hg with hg | hg
    ·exact List.mem_append_left _ hg
    exact List.mem_append_right _ (List.mem_cons_of_mem _ hg)
   obtain ⟨n1, n2⟩ := nm_of hfo (gs := fs1 ++ fs2) hNM (by simp) hinF (fun g hg => by
    rcases List.mem_append.1 hg with hg | hg
    ·have := hcomm g hg
     simp only [comm, Bool.and_eq_true] at this
     exact this.1.1.1.1.1.1.1.1.1
    exact (List.pairwise_cons.1 (List.pairwise_append.1 hF).2.1).1 g hg)
   refine any3_ok hT hops htb htz hH hz hze hz4 n (L1 ++ L2) (fs1 ++ fs2) (listed.setIfInBounds i true) (s.app δ) a' w' ?_ hf n2 ?_ ?_ ?_ hsrt ?_ ?_ (fun k hk hk' => by rw [getD_set_ne true (by omega)]; exact hZ k hk hk') ?_ (by simpa using hsz) ?_ ?_
   ·simp at hn ⊢; omega
   ·exact hF.sublist (List.Sublist.append_left (List.sublist_cons_self _ _) _)
   ·refine ⟨?_, hP1⟩
    have := hP.1
    simp at this ⊢; omega
   ·intro k ok hk hu e he hb
    by_cases hki : k = i
    ·subst hki
     have : ok = o := by
      have e1 : ops[k]? = some ok := by rw [hops]; simpa using hk
      rw [h2] at e1; injection e1 with e1; exact e1.symm
     subst this
     have hl := h3 e (by simpa using he) hb
     by_cases hei : e.on = k
     ·have := hE (k, ok) hin e he hb
      simp only at this; omega
     rw [getD_set_ne false (fun e' => hei e'.symm)]; exact hl
    rw [getD_set_ne false (fun e' => hki e'.symm)] at hu
    have hl := hDC k ok hk hu e he hb
    by_cases hei : e.on = i
    ·rw [hei] at hl
     have h5 := (hL (i, o) hin).2
     simp only at h5
     rw [getD_tf h5] at hl; cases hl
    rw [getD_set_ne false (fun e' => hei e'.symm)]; exact hl
   ·intro x' hx
    have hx' : x' ∈ L1 ++ (i, o) :: L2 := by
     rcases List.mem_append.1 hx with hx | hx
     ·exact List.mem_append_left _ hx
     exact List.mem_append_right _ (List.mem_cons_of_mem _ hx)
    obtain ⟨e1, e2⟩ := hL x' hx'
    refine ⟨e1, ?_⟩
    rw [getD_set_ne true (fun e => hnot x' hx e.symm)]
    exact e2
   ·intro k ok hkn hk hu
    by_cases hki : k = i
    ·subst hki
     have hlt : k < listed.size := by rw [hsz]; exact (Array.getElem?_eq_some_iff.1 h2).1
     simp [Array.getD_eq_getD_getElem?, hlt] at hu
    rw [getD_set_ne true (fun e => hki e.symm)] at hu
    have := hA k ok hkn hk hu
    rcases List.mem_append.1 this with hx | hx
    ·exact List.mem_append_left _ hx
    rcases List.mem_cons.1 hx with hx | hx
    ·injection hx with hx; exact absurd hx hki
    exact List.mem_append_right _ hx
   ·intro x' hx
    refine hLn x' ?_
    rcases List.mem_append.1 hx with hx | hx
    ·exact List.mem_append_left _ hx
    exact List.mem_append_right _ (List.mem_cons_of_mem _ hx)
   ·intro x' hx
    refine hE x' ?_
    rcases List.mem_append.1 hx with hx | hx
    ·exact List.mem_append_left _ hx
    exact List.mem_append_right _ (List.mem_cons_of_mem _ hx)
   intro X
   obtain ⟨Y, hY, hYX⟩ : ∃ Y : Nat → Atom, Y i = x ∧ ∀ j, j ≠ i → Y j = X j := ⟨fun j => if j = i then x else X j, by simp, fun j hj => by simp [hj]⟩
   obtain ⟨δ1, ob1, g1, _, τ', obs', g2, g3, g4⟩ := mf Y
   rw [hY, hr] at g1
   injection g1 with g1; injection g1 with q1 _
   subst q1
   rw [exec2_congr _ _ (fun x' hx => hYX x'.1 (hnot x' hx))] at g2
   exact ⟨τ', obs', g2, g3, g4⟩)
  unfold wpOp
  simp only [h2]
  by_cases hw : Region.wanted o (yielded ops a.tmps) = true
  ·rw [if_pos hw] at key ⊢
   exact .inl key
  rw [if_neg hw] at key ⊢
  exact key
def tail3B (all : List Oper) (n0 : Nat) : Bool := Nat.ble n0 all.length && (edgesB (number 0 all) && (List.range all.length).all fun k => Nat.blt k n0 || (List.range k).all fun j => edge (masks all []) k j)
theorem drawn3_any {s : St} {a : Act} {w : World} {all : List Oper} (n0 : Nat) (H : Hand) (hH : HandOK C P all H) (hT : TabOK P T) (kp km : List Nat) (cs : List (Nat × CS)) (h : Fits C s a w) (hgs : s.gs = []) (fs : List Foot) (hD : drawB (all.take n0) fs = true) (hZ : tail3B all n0 = true) (hlen : (all.take n0).length = fs.length)
  {R : Alg → (Nat → Atom) → St × List Ob}
  (hex : ∀ A X, (exec2 A T cs H X all (number 0 (all.take n0)) s).map (fun r => ((r.1.keep kp km, r.2.1), r.2.2)) = some (R A X, fs)) (hob : ∀ X, AO P C.K (R std X).2) (hQ : ∀ X a' w', Fits C (R std X).1 a' w' → wpList P all.toArray Q (all.drop n0) a' w') : wpAny P .any all.toArray Q all.toArray.size (Array.replicate all.toArray.size false) a { w with drawn := w.drawn + 1 } := by
 simp only [drawB, Bool.and_eq_true] at hD
 obtain ⟨⟨d1, d2⟩, d3⟩ := hD
 simp only [tail3B, Bool.and_eq_true, Nat.ble_eq] at hZ
 obtain ⟨hn0, hZe, hZ⟩ := hZ
 have hf : Fits C s a { w with drawn := w.drawn + 1 } := h.world (fun _ _ _ => rfl) (fun _ _ _ _ _ => rfl) ⟨h.chg.os, h.chg.tape, h.chg.output, h.chg.size, h.chg.block⟩ (fun _ _ _ hc _ => hc) (fun _ _ h _ => h)
 have hnl : ∀ (l : List Oper) (i : Nat), (number i l).length = l.length := by
  intro l
  induction l with
  | nil => intro i; rfl
  | cons o l ih => intro i; simp [number, ih]
 have htk : (all.take n0).length = n0 := by simp; omega
 have hsz : all.toArray.size = (number 0 (all.take n0)).length + (all.toArray.size - n0) := by rw [hnl, htk]; simp; omega
 have hgt : ∀ {k o}, (all.take n0)[k]? = some o → all[k]? = some o ∧ k < n0 := by
  intro k o hk
  have hlt := (List.getElem?_eq_some_iff.1 hk).1
  rw [htk] at hlt
  rw [List.getElem?_take, if_pos hlt] at hk
  exact ⟨hk, hlt⟩
 have hlst : ∀ k (b : Bool), k < all.length → (Array.replicate all.toArray.size false).getD k b = false := by
  intro k b hk
  have : k < all.toArray.size := by simpa using hk
  simp [Array.getD_eq_getD_getElem?, hk]
 have hmk : ∀ i j, edge (masks (all.take n0) []) i j = true → WaitsFor all i j := by
  intro i j hij
  have := masks_ok (all := all.take n0) (l := all.take n0) (tb := []) rfl (fun i j h => by simp at h) i j hij
  have conv : ∀ {i j}, WaitsFor (all.take n0) i j → WaitsFor all i j := by
   intro i j hw
   induction hw with
   | one h1 h2 h3 h4 => exact .one (hgt h1).1 h2 h3 h4
   | more h1 h2 h3 h4 ih => exact .more (hgt h1).1 h2 h3 ih
  exact conv this
 have ed : ∀ (L : List (Nat × Oper)), edgesB L = true → ∀ x ∈ L, ∀ e ∈ x.2.after.toList, Region.binds .any e = true → e.on < x.1 := by
  intro L
  induction L with
  | nil => intro _ x hx; cases hx
  | cons y L ih =>
   obtain ⟨i, o⟩ := y
   intro hL x hx e he hb
   simp only [edgesB, Bool.and_eq_true] at hL
   rcases List.mem_cons.1 hx with rfl | hx
   ·have := List.all_eq_true.1 hL.1 e he
    simpa [hb] using this
   exact ih hL.2 x hx e he hb
 have e0 : all.toArray.size = (Array.replicate all.toArray.size false).size := by simp
 rw [show wpAny P .any all.toArray Q all.toArray.size = wpAny P .any all.toArray Q ((number 0 (all.take n0)).length + (all.toArray.size - n0)) by rw [← hsz]]
 refine any3_ok (cs := cs) (all := all) (tb := masks (all.take n0) []) (tz := masks all []) hT rfl hmk (masks_ok (all := all) (l := all) (tb := []) rfl (fun i j h => by simp at h)) hH (n0 := n0) (fun k hk hk' j hj => ?_) (fun k o hk e he hb => ?_) (by simpa using hn0) _ (number 0 (all.take n0)) fs _ s a _ rfl hf (fun t p v hl => by rw [hgs] at hl; cases hl) ?_ ⟨by rw [hnl]; exact hlen, d1⟩ ?_ (number_sorted _ 0) ?_ ?_ ?_ ?_ ?_ ?_ ?_
 ·have := List.all_eq_true.1 hZ k (List.mem_range.2 (by simpa using hk'))
  simp only [Bool.or_eq_true, Nat.blt_eq] at this
  rcases this with h | h
  ·omega
  exact List.all_eq_true.1 h j (List.mem_range.2 hj)
 ·have := number_mem (i := 0) (l := all) (k := k) (o := o) (by simpa using hk)
  rw [Nat.zero_add] at this
  exact ed _ hZe (k, o) this e he hb
 ·exact ordB_ok d3
 ·intro k o hk hu
  exfalso
  rw [hlst k false (List.getElem?_eq_some_iff.1 hk).1] at hu
  cases hu
 ·intro x hx
  obtain ⟨h1, h2⟩ := number_get hx
  rw [Nat.sub_zero] at h2
  obtain ⟨h3, _⟩ := hgt h2
  exact ⟨by simpa using h3, hlst _ _ (List.getElem?_eq_some_iff.1 h3).1⟩
 ·intro k o hkn hk _
  have hk' : (all.take n0)[k]? = some o := by rw [List.getElem?_take, if_pos hkn]; simpa using hk
  have := number_mem (i := 0) (l := all.take n0) (k := k) (o := o) hk'
  rwa [Nat.zero_add] at this
 ·intro k _ hk
  exact hlst _ _ (by simpa using hk)
 ·intro x hx
  obtain ⟨h1, h2⟩ := number_get hx
  rw [Nat.sub_zero] at h2
  exact (hgt h2).2
 ·simp
 ·exact ed _ d2
 intro X
 obtain ⟨r, hr, e⟩ := Option.map_eq_some_iff.1 (hex std X)
 obtain ⟨τ, obs, fs'⟩ := r
 simp only [Prod.mk.injEq] at e
 obtain ⟨e1, rfl⟩ := e
 refine ⟨τ, obs, hr, ?_, fun a' w' hf' => hQ X a' w' ?_⟩
 ·have := hob X; rw [← e1] at this; exact this
 rw [← e1]; exact hf'.keep kp km
theorem drawn3_ok {s : St} {a : Act} {w : World} {id : Nat} {all : List Oper} (n0 : Nat) (H : Hand) (hH : HandOK C P all H) (hm : P.follows .mixedOrders = true) (hT : TabOK P T) (kp km : List Nat) (cs : List (Nat × CS)) (h : Fits C s a w) (hgs : s.gs = []) (fs : List Foot) (hD : drawB (all.take n0) fs = true) (hZ : tail3B all n0 = true) (hlen : (all.take n0).length = fs.length)
  {R : Alg → (Nat → Atom) → St × List Ob}
  (hex : ∀ A X, (exec2 A T cs H X all (number 0 (all.take n0)) s).map (fun r => ((r.1.keep kp km, r.2.1), r.2.2)) = some (R A X, fs)) (hob : ∀ X, AO P C.K (R std X).2) (hQ : ∀ X a' w', Fits C (R std X).1 a' w' → wpList P all.toArray Q (all.drop n0) a' w') : (Code.region id all.toArray true).wp P Q a w :=
 wp_region_any hm (drawn3_any n0 H hH hT kp km cs h hgs fs hD hZ hlen hex hob hQ)
theorem drawn3_okB {s : St} {a : Act} {w : World} {id : Nat} {all : List Oper} {B : Alg} (hB : B = std) (n0 : Nat) (H : Hand) (hH : HandOK C P all H) (hm : P.follows .mixedOrders = true) (hT : TabOK P T) (kp km : List Nat) (cs : List (Nat × CS)) (h : Fits C s a w) (hgs : s.gs = []) (fs : List Foot) (hD : drawB (all.take n0) fs = true) (hZ : tail3B all n0 = true) (hlen : (all.take n0).length = fs.length)
  {R : Alg → (Nat → Atom) → St × List Ob}
  (hex : ∀ A X, (exec2 A T cs H X all (number 0 (all.take n0)) s).map (fun r => ((r.1.keep kp km, r.2.1), r.2.2)) = some (R A X, fs)) (hob : ∀ X, AO P C.K (R B X).2) (hQ : ∀ X a' w', Fits C (R B X).1 a' w' → wpList P all.toArray Q (all.drop n0) a' w') : (Code.region id all.toArray true).wp P Q a w := by
 subst hB
 exact drawn3_ok n0 H hH hm hT kp km cs h hgs fs hD hZ hlen hex hob hQ
end
section
variable {C : Cx} {P : Program} {Q : Exit → Act → World → Prop} {T : List (Nat × TI)} {s : St} {a : Act} {w : World} {B : Alg}
theorem d3 {id : Nat} {all : List Oper} {R : Alg → (Nat → Atom) → St × List Ob} {fs : List Foot} (n0 : Nat) (hB : B = std) (hT : TabOK P T) (kp km : List Nat) (cs : List (Nat × CS)) (h : Fits C s a w) (hQ : ∀ X a' w', Fits C (R B X).1 a' w' → wpList P all.toArray Q (all.drop n0) a' w') (hm : P.follows .mixedOrders = true := by kernel_rfl) (hgs : s.gs = [] := by rfl)
  (hex : ∀ A X, (exec2 A T cs none X all (number 0 (all.take n0)) s).map (fun r => ((r.1.keep kp km, r.2.1), r.2.2)) = some (R A X, fs) := by intro A X; conv => lhs; cbv) (hD : drawB (all.take n0) fs = true := by kernel_rfl) (hZ : tail3B all n0 = true := by kernel_rfl) (hlen : (all.take n0).length = fs.length := by rfl) (hob : ∀ X, AO P C.K (R B X).2 := by
   intro X; subst hB
   first
   | exact trivial
   | (simp only [AO, Ob.holds, BE.den] <;> and_intros <;> (repeat first | trivial | rfl | exact O1 | exact O2 | exact O3 | exact (fun _ _ => by kernel_rfl) | exact O1 _ _ _ rfl | exact O2 _ _ _ rfl | refine ⟨?_, ?_⟩ | intro h | decide | omega) <;> done)
   | (simp [AO, Ob.holds, BE.den, std, sC, sAr] <;> omega)) : (Code.region id all.toArray true).wp P Q a w := drawn3_okB hB n0 none handOK_none hm hT kp km cs h hgs fs hD hZ hlen hex hob hQ
end
end Go.Proofs.Ytpgjalaldhlcoaa.Sym
namespace Go.Proofs.Ytpgjalaldhlcoaa.Sym
open Go Go.RowKit
theorem setA_setA {α : Type} {l : Lab} {x y : α} : ∀ {L : List (Lab × α)}, setA l y (setA l x L) = setA l y L
 | [] => by simp [setA]
 | p :: L => by
  by_cases h : p.1 = l
  ·simp [setA, h]
  have := setA_setA (l := l) (x := x) (y := y) (L := L)
  simp [setA, h, this]
def nexA (g : Nat → Lab) (n : Nat) : Nat → List (Lab × Lab)
 | 0 => []
 | i + 1 => setA (g i) (if i + 1 < n then g (i + 1) else noneL) (nexA g n i)
theorem nexA_len (g : Nat → Lab) (n : Nat) : ∀ i, (nexA g n i).length ≤ i
 | 0 => Nat.le_refl _
 | i + 1 => by
  have := nexA_len g n i
  unfold nexA
  rw [set_len]
  split <;> omega
theorem nexts_m (A : Option Addr) (n c : Nat) (g : Nat → Lab) (hn : n ≤ 100000) (hN : ∀ i, i < n → LabOk (g i)) : SpecM Try.prog 28 [labsV A n c g] [] none noK (fun y => ⟨.raw (.map (some (y.c 0))), [], []⟩) (fun N y => lmF labAV N (y.c 0) (nexA g n n)) := by
 intro m w hm hargs hpre hI
 have hmx : maxLen = 9223372036854775807 := rfl
 have SNo := none_s
 simp only [labAV] at SNo
 refine enM (bo := none) 31 hm hpre hI hargs Try.func28 fun B hB a0 hF => ?_
 refine wp_seq (rg hB TA_ok [0] [] [] hF fun X0 a0 w1 hF => ?_)
 refine wp_seq (wp_region_lit (man_makeMap (k := 36) (e := 0) rfl rfl rfl rfl hF (Nat.le_of_ble_eq_true rfl) (lmK labAV w1.heap.size []) (fun m w' _ _ hM => ⟨_, LmD.empty hM⟩) ?_))
 obtain ⟨bM, hbM⟩ := eqv (w1.heap.size)
 rw [← hbM]
 intro a0 w1 hfresh hF
 have hbfr : w.heap.size ≤ bM := hfresh
 refine lnd 1 hB TA_ok [3, 0] [] [] hF fun X1 a0 w1 hF => ?_
 refine wp_seq (wp_seq (rg hB TA_ok [9, 0, 3, 7, 8] [] [] hF fun X2 a0 w1 hF => ?_))
 refine wp_block (loop_preK (ι := Nat) (fun p => lmK labAV bM (nexA g n p)) (fun p => [(9, .int .i64 (p : Int))]) (fun p => []) (fun p => []) (fun p => p ≤ n) (fun p => n - p) 0 (Nat.zero_le _) hF ?_)
 rintro i hi a0 w1 hF
 try dsimp only at hi
 replace hF := hF.withK (K' := lmK labAV bM (nexA g n i)) hF.kept
 have hLn := nexA_len g n i
 have hLn2 : (setA (g i) noneL (nexA g n i)).length ≤ i + 1 := by rw [set_len]; split <;> omega
 refine wp_seq (rg hB TA_ok [10, 9, 0, 3, 7, 8] [] [] hF fun X3 a0 w1 hF => ?_)
 refine wp_seq (test_ok hF rfl (fun hb hF => ?_) (fun hb hF => ?_))
 ·have hin : i < n := by
   have : (i : Int) < (n : Int) := by subst hB; simpa [std, sC] using hb
   omega
  have hlab := hN i hin
  refine wp_skip (wp_seq (wp_block (wp_seq ?_)))
  refine rg hB TA_ok [4, 5, 9, 0, 3, 7, 8] [5] [] hF (hob := by intro X; subst hB; simp only [AO, Ob.holds, BE.den] <;> and_intros <;> repeat first | trivial | rfl | exact (show (0 : Int) ≤ (i : Int) by omega) | exact (show (i : Int) < (n : Int) by omega) | exact (fun _ _ => by kernel_rfl) | refine ⟨?_, ?_⟩ | intro h | exact Int.le_refl _ | decide | omega) fun X4 a0 w1 hF => ?_
  replace hF := hF.memS (cells' := labC (g i)) (by subst hB; exact zl)
  apply wp_seq
  apply drawn2_okB hB 3 none ?hH (by kernel_rfl) TA_ok [14, 15, 16, 4, 5, 9, 0, 3, 7, 8] [5] [(2, .r fun _ => .agg [.int .i64 noneL.len, .int .u64 noneL.bits])] hF rfl
  case hH => exact handOK_none
  case hex => intro A X; conv => lhs; cbv
  case hD => kernel_rfl
  case hZ => kernel_rfl
  case hlen => rfl
  case hob =>
   intro X
   subst hB
   simp only [AO, Ob.holds, BE.den] <;> (and_intros <;> repeat first | trivial | rfl | exact enters40 | exact SNo | refine ⟨?_, ?_⟩ | intro h)
  case hQ =>
  intro X5 a0 w1 hF
  obtain ⟨D2, hD2⟩ := hF.kept
  refine man_mapUpdate (k := 36) (e := 36) rfl rfl rfl rfl hF rfl rfl rfl rfl rfl labK mapl_und hD2.map (by omega) (key_lab hlab) (fun h => absurd h (by omega)) (lmK labAV bM (setA (g i) noneL (nexA g n i))) (fun m w' hk hkb hv hM => ?_) ?_
  ·exact lmK_put (x := noneL) hD2.map hlab hk hkb (zr) hv hM
  intro w1 hF
  replace hF := hF.keep [4,5,9,0,3,7,8] [5]
  refine wpList_nil (wp_seq (rg hB TA_ok [21, 4, 5, 9, 0, 3, 7, 8] [5] [] hF fun X6 a0 w1 hF => ?_))
  apply test_ok hF rfl <;> intro hb hF
  ·have hlt : i + 1 < n := by
    have h9 : (IntKind.i64.wrap ((i : Int) + 1)) < (n : Int) := by subst hB; simpa [std, sC, sAr] using hb
    rw [wrap_in (by omega) (by omega)] at h9; omega
   apply drawn2_okB hB 7 none ?hH (by kernel_rfl) TA_ok [22, 23, 28, 9, 0, 3, 7, 8] [] [] hF rfl
   case hH => exact handOK_none
   case hex => intro A X; conv => lhs; cbv
   case hD => kernel_rfl
   case hZ => kernel_rfl
   case hlen => rfl
   case hob =>
    intro X
    subst hB
    have e2 : std.arith .add .i64 (i : Int) 1 = ((i + 1 : Nat) : Int) := by show IntKind.i64.wrap ((i : Int) + 1) = _; rw [wrap_in (by omega) (by omega)]; rfl
    have e3 : 0 ≤ std.arith .add .i64 (i : Int) 1 ∧ std.arith .add .i64 (i : Int) 1 < (n : Int) := by rw [e2]; omega
    repeat (first | exact trivial | refine ⟨rfl, ?_⟩ | refine ⟨e3, ?_⟩)
   case hQ =>
   intro X7 a0 w1 hF
   have e2 : std.toNat (std.arith .add .i64 (i : Int) 1) = i + 1 := by show (IntKind.i64.wrap ((i : Int) + 1)).toNat = i + 1; rw [wrap_in (by omega) (by omega)]; rfl
   obtain ⟨D2, hD2⟩ := hF.kept
   refine man_mapUpdate (k := 36) (e := 36) rfl rfl rfl rfl hF rfl rfl rfl rfl rfl labK mapl_und hD2.map (by omega) (key_lab hlab) (fun h => absurd h (by omega)) (lmK labAV bM (setA (g i) (g (i + 1)) (setA (g i) noneL (nexA g n i)))) (fun m w' hk hkb hv hM => ?_) ?_
   ·exact lmK_put (x := g (i + 1)) hD2.map hlab hk hkb (by subst hB; show Sim (.agg [.int .i64 (g (std.toNat (std.arith .add .i64 (i : Int) 1))).len, .int .u64 (g (std.toNat (std.arith .add .i64 (i : Int) 1))).bits]) _; rw [e2]; exact zr) hv hM
   intro w1 hF
   replace hF := hF.keep [9,0,3,7,8] []
   refine wpList_nil (rg hB TA_ok [9, 0, 3, 7, 8] [] [] hF fun X8 a0 w1 hF => ?_)
   have e : B.arith .add .i64 (i : Int) 1 = ((i + 1 : Nat) : Int) := by subst hB; exact wrap_succ (n := n) hin (by omega)
   refine ⟨i + 1, by omega, by omega, ?_⟩
   rw [← e]
   refine hF.withK ?_
   show (lmK labAV bM (nexA g n (i + 1))).p _ _
   unfold nexA
   rw [if_pos hlt, ← setA_setA (x := noneL)]
   exact hF.kept
  have hlt : ¬ i + 1 < n := by
   have h9 : ¬ (IntKind.i64.wrap ((i : Int) + 1)) < (n : Int) := by subst hB; simpa [std, sC, sAr] using hb
   rw [wrap_in (by omega) (by omega)] at h9; omega
  refine wp_skip (rg hB TA_ok [9, 0, 3, 7, 8] [] [] hF fun X8 a0 w1 hF => ?_)
  have e : B.arith .add .i64 (i : Int) 1 = ((i + 1 : Nat) : Int) := by subst hB; exact wrap_succ (n := n) hin (by omega)
  refine ⟨i + 1, by omega, by omega, ?_⟩
  rw [← e]
  refine hF.withK ?_
  show (lmK labAV bM (nexA g n (i + 1))).p _ _
  unfold nexA
  rw [if_neg hlt]
  exact hF.kept
 have hout : i = n := by
  have : ¬ (i : Int) < (n : Int) := by subst hB; simpa [std, sC] using hb
  omega
 subst hout
 refine wp_exit (wp_seq (rg hB TA_ok [2] [] [] hF fun X9 a0 w1 hF => ?_))
 refine wp_ret ((rm hB TA_ok hF (⟨0, fun _ => none, fun _ => bM, fun _ => ⟨#[]⟩⟩) [] (hJ := ?_)).1)
 exact fun _ _ h => ⟨hbfr, h⟩
section
variable {C : Cx} {P : Program} {Q : Exit → Act → World → Prop} {T : List (Nat × TI)} {s : St} {a : Act} {w : World} {B : Alg} {r : Option Nat}
theorem rd3 {id : Nat} {all : List Oper} {R : Alg → (Nat → Atom) → St × List Ob} {fs : List Foot} (n0 : Nat) (hB : B = std) (hT : TabOK P T) (kp km : List Nat) (cs : List (Nat × CS)) (h : Fits C s a w) (hQ : ∀ X a' w', Fits C (R B X).1 a' w' → wpList P all.toArray Q (all.drop n0) a' w')
  (hO : ∀ a w, ¬ Q .outgrown a w := by first | exact fun _ _ h => h | (intro a w h; obtain ⟨x, h, _⟩ := h; cases h)) (hm : P.follows .mixedOrders = true := by kernel_rfl) (hgs : s.gs = [] := by rfl)
  (hex : ∀ A X, (exec2 A T cs none X all (number 0 (all.take n0)) s).map (fun r => ((r.1.keep kp km, r.2.1), r.2.2)) = some (R A X, fs) := by intro A X; conv => lhs; cbv) (hD : drawB (all.take n0) fs = true := by kernel_rfl) (hZ : tail3B all n0 = true := by kernel_rfl) (hlen : (all.take n0).length = fs.length := by rfl) (hob : ∀ X, AO P C.K (R B X).2 := by
   intro X; subst hB
   first
   | exact trivial
   | (simp only [AO, Ob.holds, BE.den] <;> and_intros <;> (repeat first | trivial | rfl | exact O1 | exact O2 | exact O3 | exact (fun _ _ => by kernel_rfl) | exact O1 _ _ _ rfl | exact O2 _ _ _ rfl | refine ⟨?_, ?_⟩ | intro h | decide | omega) <;> done)
   | (simp [AO, Ob.holds, BE.den, std, sC, sAr] <;> omega)) (hd : noDefer all = true := by rfl) : (Code.region id all.toArray true).wpIn (rF r) 0 P Q a w := by
 subst hB
 exact wpIn_region_any hm (any_r hO (fun o ho => nd_at hd (by simpa using ho)) _ _ _ _ (drawn3_any n0 none handOK_none hT kp km cs h hgs fs hD hZ hlen hex hob hQ))
end
section
variable {m0 : Nat → Nat → Prop} {w0 : World} {S : Nat → Prop} {ds : List Deferred} {K : Kn} {P : Program} {Q : Exit → Act → World → Prop} {ops : Array Oper}
theorem man_callKL {K1 E : Kn} {J : Kn} {tmc : List (Nat × AV)} {l D bo : Nat} {rc : Loop} {st : LoopState} {pe : Option Code} {s : St} {a : Act} {w : World} {L rest : List Oper} {o : Oper} {c : Call} {g : Operand} {f : FuncId} {lf r args args' : List AV} (hL : L = o :: rest) (hg : o.guard = none) (hop : o.op = .call c) (hcal : c.callee = .value g) (h : Fits ⟨m0, w0, S, ds, (KL K1 tmc l rc D st pe).and E⟩ s a w) (hgv : val s [] g = .fn f lf r) (hl : vals s [] c.args.toList = some args) (hen : Enters P f)
  {res : Atom → CR} (hsp : SpecM P f args' [] (some bo) K1 res (fun _ _ => J)) (hlb : l ≠ bo) (hDb : D ≠ bo) (hE : E.off bo) (hC : bo < w0.heap.size → S bo) (hsim : SimL (lf ++ args ++ r) args') (hd : inNt s o.dst = true)
  (Kc : ∀ x a' w', Fits ⟨m0, w0, S, ds, (KL J tmc l rc D st pe).and E⟩ ((s.eff (.sets (upd [] (res x).sets ++ (res x).news))).put o.dst (res x).v) a' w' → wpList P ops Q rest a' w') : wpList P ops Q L a w :=
 man_callM hL hg hop hcal h hgv hl hen hsp (fun _ _ h => h.1.1.1) (fun b hb => by cases hb; exact hC) hsim (fun e he => by cases he) rfl hd (fun _ => (KL J tmc l rc D st pe).and E)
  (fun n x m w m' w' _ hk hkb hJ => ⟨⟨⟨hJ, okT_off tmc bo hkb hk.1.1.2⟩, recK_off hlb hDb hkb hk.1.2⟩, hE hkb hk.2⟩) Kc
end
section
variable {P : Program} {f : FuncId} {fn : Func} {c : Code} {R : Ending → World → Prop} {m : Nat → Nat → Prop} {w : World} {pre : List (Nat × Blk)} {args : List AV} {I : Kn} {bo : Option Nat}
theorem preFits {n : Nat} (hm : ∀ b o, m b o → b < w.heap.size) (hp : PreOk m w pre) (hI : I.p m w) (hargs : ∀ v ∈ args, Ok m w v) (hn : args.length ≤ n) : Fits ⟨m, w, fun k => ats pre k ∨ bo = some k, [], I⟩ ⟨n, startT 0 args, [], pre, []⟩ { tmps := (args.map AV.den).toArray ++ Array.replicate (n - args.length) Go.undef, defers := [] } w :=
 ((enterFits hm hp hargs hn).wider fun k hk => .inl hk).withK (I.st ⟨fun b o u h1 h2 => ⟨h1, fun hm' => by
  rcases hm' with h3 | ⟨k, e, he, hat⟩ | ⟨k, e, he, _⟩
  ·exact h2 h3
  ·exact h2 (hat ▸ hp.free _ (lookM_mem he) o)
  cases he⟩, fun _ _ h _ => h⟩ hI)
theorem enMN (nt : Nat) (hm : ∀ b o, m b o → b < w.heap.size) (hp : PreOk m w pre) (hI : I.p m w) (hargs : ∀ v ∈ args, Ok m w v) (hf : P.funcs[f]? = some fn) (h : ∀ B, B = std → ∀ a, Fits ⟨m, w, fun k => ats pre k ∨ bo = some k, [], I⟩ ⟨nt, startT 0 args, [], pre, []⟩ a w → wpN f P c (bodyPostM Fence.wide 0 P fn R) a w) (hb : fn.body = some c := by rfl) (hnt : fn.ntmps = nt := by rfl) (hn : args.length ≤ nt := by exact Nat.le_of_ble_eq_true rfl) : Calls P f (args.map AV.den).toArray w R := by
 refine calls_marks hf hb ?_
 have := h std rfl _ (preFits hm hp hI hargs hn)
 simpa [hnt] using this
end
def MPost (bo : Option Nat) (m : Nat → Nat → Prop) (w : World) (pre : List (Nat × Blk)) (res : Atom → CR) (J : Atom → Kn) (e : Ending) (w' : World) : Prop :=
 ∃ x, e = .returned (res x).v.den ∧ Ok (mN m (res x).news) w' (res x).v ∧ LeftS bo m w w' pre (res x).sets (res x).news ∧ (∀ b, bo = some b → ∃ es cl es' cl', w.heap[b]? = some (.map es cl) ∧ w'.heap[b]? = some (.map es' cl')) ∧ (J x).p (mN m (res x).news) w'
section
variable {P : Program} {fn : Func} {m : Nat → Nat → Prop} {w0 w : World} {bo : Option Nat} {K : Kn} {nt : Nat} {tm : List (Nat × AV)} {mem : List (Nat × Blk)} {a : Act} {B : Alg} {T : List (Nat × TI)} {rs : List ResultVar} {r : List AV × List Ob} {pre : List (Nat × Blk)}
theorem mpost_of {res : Atom → CR} {J : Atom → Kn} (hm : Mem m w0 (fun k => ats pre k ∨ bo = some k) K mem [] w) (hv : Ok (mT m mem []) w (resA r.1)) (x : Atom) (ks : List Nat)
  (hmap : ∀ b, bo = some b → (∃ es cl, w0.heap[b]? = some (.map es cl)) ∧ ∀ m, K.p m w → ∃ es cl, w.heap[b]? = some (.map es cl)) (he : Sim (can (resA r.1)) (can (res x).v)) (hs : SetsOk ⟨0, [], [], mem, []⟩ pre (res x).sets) (hn : NewsOk ⟨0, [], [], mem, []⟩ pre ks (res x).news) (hJ : ∀ m w, K.p m w → (J x).p m w) : MPost bo m w0 pre res J (.returned (resA r.1).den) w := by
 obtain ⟨h1, h2⟩ := left_okS hm (fun b hb => (hmap b hb).2 _ hm.kept) hs hn
 refine ⟨x, ?_, (can_ok _).2 (he.2.2 _ _ ((can_ok _).1 (h2.ok hv))), h1, fun b hb => ?_, hJ _ _ (K.st h2 hm.kept)⟩
 ·rw [← can_den (resA r.1), he.1, can_den]
 obtain ⟨⟨es, cl, h3⟩, h4⟩ := hmap b hb
 obtain ⟨es', cl', h4⟩ := h4 _ hm.kept
 exact ⟨_, _, _, _, h3, h4⟩
theorem rmM {res : Atom → CR} {J : Atom → Kn} (hB : B = std) (hT : TabOK P T) (Ds : List Nat) (h : Fits ⟨m, w0, fun k => ats pre k ∨ bo = some k, Ds.map markD, K.and (marksK Ds)⟩ ⟨nt, tm, [], mem, []⟩ a w) (hof : ∀ D ∈ Ds, K.off D ∧ w0.heap.size ≤ D) (x : Atom) (ks : List Nat)
  (hmap : ∀ b, bo = some b → (∃ es cl, w0.heap[b]? = some (.map es cl)) ∧ ∀ m w, K.p m w → ∃ es cl, w.heap[b]? = some (.map es cl)) (he : Sim (can (resA r.1)) (can (res x).v)) (hs : SetsOk ⟨0, [], [], mem, []⟩ pre (res x).sets := by exact trivial) (hn : NewsOk ⟨0, [], [], mem, []⟩ pre ks (res x).news := by exact trivial) (hJ : ∀ m w, K.p m w → (J x).p m w := by exact fun m w h => h) (hfn : fn.results = rs.toArray := by rfl) (hr : resL T ⟨nt, tm, [], mem, []⟩ rs = some r := by first | rfl | (conv => lhs; cbv)) (ho : AO P (K.and (okT tm)) r.2 := by first | exact trivial | (subst hB; simp [AO, Ob.holds])) :
  bodyPostM Fence.wide 0 P fn (MPost bo m w0 pre res J) .ret a w ∧ bodyPostM Fence.wide 0 P fn (MPost bo m w0 pre res J) .normal a w :=
 retIM hB hT Ds h hof (fun w' hm' hv => mpost_of hm' hv x ks (fun b hb => ⟨(hmap b hb).1, fun m h => (hmap b hb).2 m _ h⟩) he hs hn hJ) hfn hr ho
end
def leafR (l : List Itm) : Rec := ⟨1, l, ⟨0, 0⟩, 0⟩
def innR : Rec := ⟨2, [], noneL, 0⟩
def growP (b : Int) : Nat → List Itm → Lab → List (Lab × Rec) → Bool × List (Lab × Rec)
 | 0, _, _, T => (true, T)
 | n + 1, l, q, T =>
  if 2000 ≤ T.length then (false, T)
  else if (l.length : Int) ≤ b ∨ q.len = 64 then (true, setA q (leafR l) T)
  else if chE q 0 = 0 then
   (if (growP b n (covL (chV q 0) l) (chV q 0) (setA q innR T)).1 = true then growP b n (covL (chV q 1) l) (chV q 1) (growP b n (covL (chV q 0) l) (chV q 0) (setA q innR T)).2
    else (false, (growP b n (covL (chV q 0) l) (chV q 0) (setA q innR T)).2))
  else (true, setA q innR T)
def gT (b : Int) (n : Nat) (l : List Itm) (q : Lab) (T : List (Lab × Rec)) : Nat → List (Lab × Rec)
 | 0 => setA q innR T
 | i + 1 => (growP b n (covL (chV q (i : Nat)) l) (chV q (i : Nat)) (gT b n l q T i)).2
def gB (b : Int) (n : Nat) (l : List Itm) (q : Lab) (T : List (Lab × Rec)) (i : Nat) : Bool := (growP b n (covL (chV q (i : Nat)) l) (chV q (i : Nat)) (gT b n l q T i)).1
section
variable {b : Int} {n : Nat} {l : List Itm} {q : Lab} {T : List (Lab × Rec)}
theorem grow_full (h : 2000 ≤ T.length) : growP b (n + 1) l q T = (false, T) := by
 rw [growP.eq_2]; exact if_pos h
theorem grow_leaf (h : ¬ 2000 ≤ T.length) (h1 : (l.length : Int) ≤ b ∨ q.len = 64) : growP b (n + 1) l q T = (true, setA q (leafR l) T) := by
 rw [growP.eq_2]; exact (if_neg h).trans (if_pos h1)
theorem grow_none (h : ¬ 2000 ≤ T.length) (h1 : ¬ ((l.length : Int) ≤ b ∨ q.len = 64)) (hc : ¬ chE q 0 = 0) : growP b (n + 1) l q T = (true, gT b n l q T 0) := by
 rw [growP.eq_2]; exact (if_neg h).trans ((if_neg h1).trans (if_neg hc))
theorem grow_in (h : ¬ 2000 ≤ T.length) (h1 : ¬ ((l.length : Int) ≤ b ∨ q.len = 64)) (hc : chE q 0 = 0) : growP b (n + 1) l q T = if gB b n l q T 0 = true then (gB b n l q T 1, gT b n l q T 2) else (false, gT b n l q T 1) := by
 rw [growP.eq_2]; exact (if_neg h).trans ((if_neg h1).trans (if_pos hc))
end
def absT (TA : List (Lab × RA)) : List (Lab × Rec) := TA.map fun p => (p.1, p.2.r.abs)
theorem absT_set {q : Lab} {x : RA} : ∀ {TA : List (Lab × RA)}, absT (setA q x TA) = setA q x.r.abs (absT TA)
 | [] => rfl
 | p :: TA => by
  have ih := absT_set (q := q) (x := x) (TA := TA)
  unfold absT at ih ⊢
  by_cases h : p.1 = q
  ·simp [setA, h]
  simp [setA, h, ih]
theorem absT_len (TA : List (Lab × RA)) : (absT TA).length = TA.length := List.length_map _
def lmR (b : Nat) (T : List (Lab × Rec)) : Kn := ⟨fun m w => ∃ TA : List (Lab × RA), absT TA = T ∧ (lmK recV b TA).p m w, fun k ⟨TA, h1, h2⟩ => ⟨TA, h1, (lmK recV b TA).st k h2⟩⟩
theorem lmR_off {b n : Nat} {T : List (Lab × Rec)} (h : b ≠ n) : (lmR b T).off n := fun k ⟨TA, h1, h2⟩ => ⟨TA, h1, lmK_off h k h2⟩
theorem lmR_self {b : Nat} {T : List (Lab × Rec)} : (lmR b T).self := fun m w ⟨TA, h1, h2⟩ l hl _ _ _ _ k ⟨TA', h1', h2'⟩ => ⟨TA', h1', lmK_off (by have := lmK_lt h2; omega) k h2'⟩
theorem lmR_map {b : Nat} {T : List (Lab × Rec)} {m : Nat → Nat → Prop} {w : World} (h : (lmR b T).p m w) : ∃ es cl, w.heap[b]? = some (.map es cl) := by
 obtain ⟨TA, _, h⟩ := h
 exact lmK_map h
theorem lmR_put {b n : Nat} {T : List (Lab × Rec)} {D : DataW Value} {m : Nat → Nat → Prop} {w w' : World} {q : Lab} (h0 : MapW Try.prog 36 w b n D) (hq : LabOk q) (h : (lmR b T).p m w) (k : KeepB (some b) w m w' m) {v : AV} {x : RA} (hs : Sim v (recV x)) (hv : Ok m w v) (hM : MapW Try.prog 36 w' b (T.length + 1) (D.put (keyL q) (.held v.den))) : (lmR b (setA q x.r.abs T)).p m w' := by
 obtain ⟨TA, rfl, h⟩ := h
 rw [absT_len] at hM
 exact ⟨setA q x TA, absT_set, lmK_put h0 hq h k hs hv hM⟩
theorem cov_keys {l : Lab} {its : List Itm} (h : ∀ x ∈ its, U64 x.key) : ∀ i, i < (covL l its).length → U64 (itF (covL l its) i).key := by
 intro i hi
 have : itF (covL l its) i ∈ covL l its := by
  unfold itF
  rw [List.getD_eq_getElem?_getD, List.getElem?_eq_getElem hi]
  exact List.getElem_mem hi
 exact h _ (List.mem_filter.1 this).1
theorem firsts_mem {f : Nat → Itm} {n : Nat} {p : Itm → Prop} (h : ∀ i, i < n → p (f i)) : ∀ x ∈ firsts f n, p x := by
 intro x hx
 unfold firsts at hx
 obtain ⟨i, hi, rfl⟩ := List.mem_map.1 hx
 exact h i (List.mem_range.1 hi)
theorem grow_m (bT : Nat) (b : Int) : ∀ (n : Nat) (A : Option Addr) (ln c : Nat) (f : Nat → Itm) (q : Lab) (T : List (Lab × Rec)), ln ≤ 1000000 → (∀ i, i < ln → U64 (f i).key) → U64 q.bits → isL q = true → 65 ≤ q.len + n → SpecM Try.prog 24 [.raw (.map (some bT)), rowI A ln c f, labAV q, .int .i64 b] [] (some bT) (lmR bT T) (fun _ => ⟨.bool (.v (growP b n (firsts f ln) q T).1), [], []⟩) (fun _ _ => lmR bT (growP b n (firsts f ln) q T).2) := by
 intro n
 induction n with
 | zero =>
  intro A ln c f q T _ _ _ hl hn
  have := (lab_parts hl).2.1
  exact absurd hn (by omega)
 | succ n ih =>
  intro A ln c f q T hln hki hb0 hl hn m w hm hargs hpre hI
  have hmx : maxLen = 9223372036854775807 := rfl
  have hlq : LabOk q := labOk_is hl hb0
  have hmap0 := lmR_map hI
  have hbT : bT < w.heap.size := by obtain ⟨es, cl, h⟩ := hmap0; exact lt_heap h
  obtain ⟨G, hG⟩ := eqv (growP b (n + 1) (firsts f ln) q T)
  rw [← hG]
  simp only [rowI, labAV] at hargs ⊢
  show Calls _ _ _ w (MPost (some bT) m w [] (fun _ => ⟨.bool (.v G.1), [], []⟩) (fun _ => lmR bT G.2))
  refine enMN (bo := some bT) 42 hm hpre hI hargs Try.func24 fun B hB a0 hF => ?_
  refine wpN_seq (wpN_of (rg hB TA_ok [4, 5, 6, 7, 8] [4, 5, 6, 7, 8] [] hF fun X0 a0 w1 hF => ?_))
  refine wpN_seq (wpN_of (wp_seq (wp_region_lit ?_)))
  refine lpr 0 1 hB TA_ok [10, 4, 5, 6, 7, 8] [4, 5, 6, 7, 8] [] hF (fun X1 a0 w1 hF => ?_)
  obtain ⟨TA, hTA, D, hD⟩ := hF.kept
  have hTl : Maps.size D = T.length := by rw [hD.size, ← hTA, absT_len]
  refine man_mlen rfl rfl rfl rfl rfl rfl rfl hF (Nat.le_of_ble_eq_true rfl) rfl mapr_und hD.map fun a0 hF => ?_
  rw [hTl] at hF
  obtain ⟨tn, htn⟩ := eqv (T.length)
  rw [← htn] at hF
  refine lnd 2 hB TA_ok [12, 4, 5, 6, 7, 8] [4, 5, 6, 7, 8] [] hF (fun X2 a0 w1 hF => ?_)
  have hhm : ∀ T', ∀ b', some bT = some b' → (∃ es cl, w.heap[b']? = some (.map es cl)) ∧ ∀ m w, (lmR bT T').p m w → ∃ es cl, w.heap[b']? = some (.map es cl) := fun T' b' hb' => by cases hb'; exact ⟨hmap0, fun m w h => lmR_map h⟩
  apply test_ok hF rfl <;> intro hb hF
  ·have hfull : 2000 ≤ T.length := by
    have : (2000 : Int) ≤ (tn : Int) := by subst hB; simpa [std, sC] using hb
    omega
   refine wp_seq (rg hB TA_ok [8] [8] [] hF fun X3 a0 w1 hF => ?_)
   have hG := hG.trans (grow_full hfull)
   refine wp_ret (rmM (res := fun _ => ⟨.bool (.v G.1), [], []⟩) (J := fun _ => lmR bT G.2) hB TA_ok [] (hF.withK (K' := (lmR bT T).and (marksK [])) ⟨hF.kept, ⟨fun D hD => (by cases hD), List.nodup_nil⟩⟩) (fun D hD => by cases hD) ⟨0, fun _ => none, fun _ => 0, fun _ => .empty⟩ [] (hhm _) (he := ?he) (hJ := by rw [hG]; exact fun _ _ h => h)).1
   case he => rw [hG]; subst hB; exact Sim.bool rfl
  have hnf : ¬ 2000 ≤ T.length := by
   have : ¬ (2000 : Int) ≤ (tn : Int) := by subst hB; simpa [std, sC] using hb
   omega
  refine wp_skip ?_
  refine wpN_seq (wpN_of (wp_seq (rg hB TA_ok [21, 4, 5, 6, 7, 8] [4, 5, 6, 7, 8] [] hF fun X3 a0 w1 hF => ?_)))
  apply test_ok hF rfl <;> intro hb hF
  ·have h9 : (if decide ((ln : Int) ≤ b) = true then true else decide (q.len = 64)) = true := by subst hB; exact hb
   have hlf : ((firsts f ln).length : Int) ≤ b ∨ q.len = 64 := by
    rw [firsts_len]
    by_cases h1 : (ln : Int) ≤ b
    ·exact .inl h1
    rw [decide_eq_false h1] at h9; exact .inr (by simpa using h9)
   have hG := hG.trans (grow_leaf hnf hlf)
   have SCl := Cl.clone_sf A ln c f (by omega)
   simp only [rowI] at SCl
   have O1 := SCl
   refine wp_seq (d3 5 hB TA_ok [22, 23, 26, 8] [8] [(3, .r fun y => .sl none (y.A 0) ln (y.c 0) 2 (fun t => itC (f t)))] hF fun X4 a0 w1 hF => ?_)
   obtain ⟨TA2, hTA2, D2, hD2⟩ := hF.kept
   have hT2 : TA2.length = T.length := by rw [← hTA2, absT_len]
   refine man_mapUpdate (k := 36) (e := 38) rfl rfl rfl rfl hF rfl rfl rfl rfl rfl labK mapr_und hD2.map (by omega) (key_lab hlq) (fun _ => .inr rfl) (lmR bT (setA q (leafR (firsts f ln)) T)) (fun m' w' hk hkb hv hM => ?_) ?_
   ·have := lmR_put (x := ⟨(X4 3).A 0, (X4 3).c 0, ⟨ln, f, 1, ⟨0, 0⟩, 0⟩⟩) hD2.map hlq hk hkb ?_ hv (by rw [← hT2]; exact hM)
    ·exact this
    exact Sim.agg ⟨zr, zr, zr, zr, zr, trivial⟩
   intro w1 hF
   refine wpList_nil ?_
   refine wp_seq (rg hB TA_ok [8] [8] [] hF fun X5 a0 w1 hF => ?_)
   refine wp_ret (rmM (res := fun _ => ⟨.bool (.v G.1), [], []⟩) (J := fun _ => lmR bT G.2) hB TA_ok [] (hF.withK (K' := (lmR bT (setA q (leafR (firsts f ln)) T)).and (marksK [])) ⟨hF.kept, ⟨fun D hD => (by cases hD), List.nodup_nil⟩⟩) (fun D hD => by cases hD) ⟨0, fun _ => none, fun _ => 0, fun _ => .empty⟩ [] (hhm _) (he := ?he) (hJ := by rw [hG]; exact fun _ _ h => h)).1
   case he => rw [hG]; subst hB; exact Sim.bool rfl
  have hnl : ¬ (((firsts f ln).length : Int) ≤ b ∨ q.len = 64) := by
   have h9 : (if decide ((ln : Int) ≤ b) = true then true else decide (q.len = 64)) = false := by subst hB; exact hb
   rw [firsts_len]
   rintro (h1 | h1) <;> simp [h1] at h9
  refine wp_skip ?_
  have SNo := none_s
  simp only [labAV] at SNo
  have O1 := SNo
  refine wpN_seq (wpN_of (d3 4 hB TA_ok [27, 28, 30, 4, 5, 6, 7, 8] [4, 5, 6, 7, 8] [(2, .r fun _ => .agg [.int .i64 noneL.len, .int .u64 noneL.bits])] hF fun X4 a0 w1 hF => ?_))
  obtain ⟨TA2, hTA2, D2, hD2⟩ := hF.kept
  have hT2 : TA2.length = T.length := by rw [← hTA2, absT_len]
  refine man_mapUpdate (k := 36) (e := 38) rfl rfl rfl rfl hF rfl rfl rfl rfl rfl labK mapr_und hD2.map (by omega) (key_lab hlq) (fun _ => .inr rfl) (lmR bT (gT b n (firsts f ln) q T 0)) (fun m' w' hk hkb hv hM => ?_) ?_
  ·have := lmR_put (x := ⟨none, 0, ⟨0, fun _ => zeroItm, 2, noneL, 0⟩⟩) hD2.map hlq hk hkb ?_ hv (by rw [← hT2]; exact hM)
   ·exact this
   exact Sim.agg ⟨zr, sim_nils, zr, zr, zr, trivial⟩
  intro w1 hF
  refine wpList_nil ?_
  replace hF := hF.keep [6, 5, 7, 4, 8] [4, 5, 6, 7, 8]
  have SK := kids_s q
  simp only [labAV] at SK
  have O1 := SK
  refine wpN_seq (wpN_seq (wpN_of (rg hB TA_ok [32, 4, 5, 6, 7, 8] [4, 5, 6, 7, 8] [(1, .r fun y => .fn 46 [] [.ep (some ⟨y.b, 0, none⟩) 0 0 0 [.int .i64 q.len, .int .u64 q.bits]])] hF fun X5 a0 w1 hF => ?_)))
  refine wpN_block ?_
  have hKu := lmR_self _ _ hF.kept
  refine rangeI hF rfl enters46 hKu (fun l D rc w1 hl hD hrc hD0 hsz ha hm1 hlb => ?_)
  subst hrc
  obtain ⟨memc, hmemc⟩ := eqv ([(4, (⟨(X0 0).b, 61, [.raw (.map (some bT))]⟩ : Blk)), (5, ⟨(X0 1).b, 22, [.sl none A ln c 2 (fun i => itC (f i))]⟩), (6, ⟨(X0 2).b, 36, [.int .i64 q.len, .int .u64 q.bits]⟩), (7, ⟨(X0 3).b, 3, [.int .i64 b]⟩), (8, ⟨(X0 4).b, 4, [.bool .ff]⟩)])
  refine (kids_c (l := l) (D := D) (ntc := 42) (p := 33) Try.func24 (by omega) (by omega) rfl rfl rfl (by decide) ⟨_, ha⟩ q hb0 (fun i K' mem gr => (∀ j, j < i → gB b n (firsts f ln) q T j = true) ∧ K' = lmR bT (gT b n (firsts f ln) q T i) ∧ mem = memc ∧ gr = []) (fun cc K' mem gr => cc = .ret ∧ ∃ i, i < 2 ∧ chE q 0 = 0 ∧ (∀ j, j < i → gB b n (firsts f ln) q T j = true) ∧ gB b n (firsts f ln) q T i = false ∧ K' = lmR bT (gT b n (firsts f ln) q T (i + 1)) ∧ mem = memc ∧ gr = []) ?_ ⟨fun j hj => absurd hj (Nat.not_lt_zero _), rfl, hmemc.symm, rfl⟩ (hKu.off (by omega)) hm1 (hlb _ (by simp))).mono ?_
  ·intro i hi hce E hE hE2 K' mem gr a w2 ⟨hgb, hK', hmem, hgr⟩ hoff hF
   subst hK' hmem hgr
   obtain ⟨hc1, hc2, hc3⟩ := ch_is hb0 hce (i : Nat)
   obtain ⟨cl, hcl⟩ := eqv (chV q (i : Nat))
   rw [← hcl] at hc1 hc2 hc3 hF
   simp only [labAV] at hF
   rw [hmemc] at hF
   refine rrg hB TA_ok [9, 4, 5, 6, 7, 8] [9, 4, 5, 6, 7, 8] [] hF fun X6 a0 w1 hF => ?_
   refine ⟨42, _, _, _, hF, fun w2 hF => ?_⟩
   have SCV := tcov_s A ln c f (by omega) cl hc2 hki
   have hcln := cov_len cl (firsts f ln)
   have hcvk := cov_keys (l := cl) (firsts_mem (p := fun x => U64 x.key) hki)
   rw [firsts_len] at hcln
   obtain ⟨CV, hCV⟩ := eqv (covL cl (firsts f ln))
   rw [← hCV] at SCV hcln hcvk
   obtain ⟨cf, hcf⟩ := eqv (itF CV)
   obtain ⟨cn, hcn⟩ := eqv (CV.length)
   have hfc : firsts cf cn = CV := by rw [hcf, hcn, firsts_itF']
   rw [← hcf, ← hcn] at SCV hcvk
   rw [← hcn] at hcln
   simp only [rowI, labAV] at SCV
   refine wpIn_block (wpIn_seq (rd3 6 hB TA_ok [34, 37, 38, 39, 8] [4, 5, 6, 7, 8] [(3, .r fun x => .sl none (x.A 0) cn (x.c 0) 2 (fun i => itC (cf i)))] hF (fun X7 a0 w1 hF => ?_) (hob := ?hob)))
   case hob =>
    intro X; subst hB
    repeat (first | exact trivial | refine ⟨⟨fun _ _ => by kernel_rfl, SCV⟩, ?_⟩ | refine ⟨rfl, ?_⟩)
   have IH := ih ((X7 3).A 0) cn ((X7 3).c 0) cf cl (gT b n (firsts f ln) q T i) (by omega) hcvk hc2 hc1 (by omega)
   have hgBi : (growP b n (firsts cf cn) cl (gT b n (firsts f ln) q T i)).1 = gB b n (firsts f ln) q T i := by rw [hfc, hCV, hcl]; rfl
   have hgTi : (growP b n (firsts cf cn) cl (gT b n (firsts f ln) q T i)).2 = gT b n (firsts f ln) q T (i + 1) := by rw [hfc, hCV, hcl]; rfl
   rw [hgBi, hgTi] at IH
   obtain ⟨gb, hgbb⟩ := eqv (gB b n (firsts f ln) q T i)
   rw [← hgbb] at IH
   simp only [rowI, labAV] at IH
   refine man_callKL rfl rfl rfl rfl hF rfl rfl (fun _ _ => by kernel_rfl) IH (by omega) (by omega) (hE2 _) (fun _ => .inr rfl) (zl) rfl (fun x a0 w1 hF => ?_)
   refine lnd 7 hB TA_ok [41, 8] [4, 5, 6, 7, 8] [] hF (fun X8 a0 w1 hF => ?_)
   have hoff2 : ∀ T', (lmR bT T').off l := fun T' => lmR_off (by omega)
   refine rtest_ok hF rfl (fun hb hF => ?_) (fun hb hF => ?_)
   ·have hgf : gB b n (firsts f ln) q T i = false := by rw [← hgbb]; subst hB; cases gb <;> first | rfl | cases hb
    refine wpIn_seq (rrg hB TA_ok [] [4, 5, 6, 7, 8] [] hF fun X9 a0 w1 hF => ?_)
    refine wpIn_ret ?_
    exact ⟨lmR bT (gT b n (firsts f ln) q T (i + 1)), _, [], ⟨rfl, i, hi, hce, hgb, hgf, rfl, hmemc.symm, rfl⟩, hoff2 _, hF.bare⟩
   have hgt : gB b n (firsts f ln) q T i = true := by rw [← hgbb]; subst hB; cases gb <;> first | rfl | cases hb
   refine wpIn_skip ?_
   refine ⟨lmR bT (gT b n (firsts f ln) q T (i + 1)), _, [], ⟨fun j hj => ?_, rfl, hmemc.symm, rfl⟩, hoff2 _, hF.bare⟩
   rcases Nat.lt_or_ge j i with h1 | h1
   ·exact hgb j h1
   rw [show j = i by omega]; exact hgt
  rintro e w3 ⟨v, rfl, K', mem', gr', ho, hh⟩
  have hDo : ∀ T', ∀ D' ∈ [D], (lmR bT T').off D' ∧ w.heap.size ≤ D' := fun T' D' hD' => by
   simp only [List.mem_singleton] at hD'
   subst hD'
   exact ⟨lmR_off (by omega), hD0⟩
  rcases hh with ⟨hm', hgb, rfl, rfl, rfl⟩ | ⟨cc, ⟨rfl, i, hi, hce, hgb, hgf, rfl, rfl, rfl⟩, hm'⟩
  ·refine ⟨v, rfl, _, _, _, ho, .inl ⟨hm', fun a' w' hF => ?_⟩⟩
   rw [hmemc] at hF
   refine wpN_of (wp_seq (rg hB TA_ok [8] [8] [] hF fun X9 a0 w1 hF => ?_))
   have hGe : G = (true, gT b n (firsts f ln) q T (if chE q 0 = 0 then 2 else 0)) := by
    by_cases hce : chE q 0 = 0
    ·rw [if_pos hce] at hgb ⊢
     rw [hG, grow_in hnf hnl hce, if_pos (hgb 0 (by decide)), hgb 1 (by decide)]
    rw [if_neg hce]
    rw [hG, grow_none hnf hnl hce]
   refine wp_ret (rmM (res := fun _ => ⟨.bool (.v G.1), [], []⟩) (J := fun _ => lmR bT G.2) hB TA_ok [D] hF (hDo _) ⟨0, fun _ => none, fun _ => 0, fun _ => .empty⟩ [] (hhm _) (he := ?he) (hJ := by rw [hGe]; exact fun _ _ h => h)).1
   case he => rw [hGe]; subst hB; exact Sim.bool rfl
  refine ⟨v, rfl, _, _, _, ho, .inr ⟨.ret, hm', fun a' w' hF => ?_⟩⟩
  rw [hmemc] at hF
  have hGe : G = (false, gT b n (firsts f ln) q T (i + 1)) := by
   rw [hG, grow_in hnf hnl hce]
   rcases i with _ | _ | i
   ·rw [if_neg (by rw [hgf]; decide)]
   ·rw [if_pos (hgb 0 (by decide)), hgf]
   omega
  refine wp_ret (rmM (res := fun _ => ⟨.bool (.v G.1), [], []⟩) (J := fun _ => lmR bT G.2) hB TA_ok [D] (hF.keep [8] [8]) (hDo _) ⟨0, fun _ => none, fun _ => 0, fun _ => .empty⟩ [] (hhm _) (he := ?he2) (hJ := by rw [hGe]; exact fun _ _ h => h)).1
  case he2 => rw [hGe]; subst hB; exact Sim.bool rfl
section
variable {P : Program} {fn : FuncId} {Q : Exit → Act → World → Prop} {C : Cx} {nt t : Nat} {b : Bool} {l : List (Nat × AV)} {mem : List (Nat × Blk)} {gr : List (Nat × Gr)} {a : Act} {w : World} {x y : Code}
theorem ntest_ok (h : Fits C ⟨nt, (t, .bool (.v b)) :: l, [], mem, gr⟩ a w) (hd : (look l t).known = false) (h1 : b = true → Fits C ⟨nt, l, [], mem, gr⟩ a w → wpN fn P x Q a w) (h2 : b = false → Fits C ⟨nt, l, [], mem, gr⟩ a w → wpN fn P y Q a w) : wpN fn P (Code.cond (.tmp t) x y) Q a w := by
 have := (h.slot t (by show (look ((t, AV.bool (.v b)) :: l) t).known = true; rw [look_cons, if_pos rfl]; rfl)).1
 rw [show look ((t, AV.bool (.v b)) :: l) t = .bool (.v b) by rw [look_cons, if_pos rfl]] at this
 refine wpN_cond (t := b) (by simp [Act.eval, this, AV.den, BE.den]) ?_
 cases b with
 | true => exact h1 rfl (h.tail hd)
 | false => exact h2 rfl (h.tail hd)
theorem wpN_loop {ι : Type} (I : ι → Act → World → Prop) (J : ι → Prop) (μ : ι → Nat) {c : Code} {a : Act} {w : World} (p₀ : ι) (h₀ : J p₀) (hf : I p₀ a w)
  (round : ∀ p, J p → ∀ a w, I p a w → wpN fn P c (Exit.then (fun a' w' => ∃ p', J p' ∧ μ p' < μ p ∧ I p' a' w') Q) a w) : wpN fn P (Code.loop c) Q a w := by
 intro b k fs hb
 have key : ∀ n p a w, μ p = n → J p → I p a w →
   ∃ e a' w', Q e a' w' ∧ Arrives P (lone (b.at a (.code c :: .inLoop c :: k)) fs w) b k fs e a' w' := by
  intro n
  induction n using Nat.strongRecOn with
  | _ n ih =>
   intro p a w hn hJ hF
   obtain ⟨e, a₁, w₁, hq, harr⟩ := round p hJ a w hF b (.inLoop c :: k) fs hb
   cases e with
   | normal =>
    obtain ⟨p', hJ', hlt, hF'⟩ := hq
    obtain ⟨e₂, a₂, w₂, hq₂, harr₂⟩ := ih (μ p') (hn ▸ hlt) p' a₁ w₁ rfl hJ' hF'
    exact ⟨e₂, a₂, w₂, hq₂, .of_steps (Steps.trans harr (.one step_inLoop)) harr₂⟩
   | exit id => exact ⟨_, a₁, w₁, hq, .pass (x := .inLoop c) rfl (fun _ _ => .inl (by simp)) harr⟩
   | goto l => exact ⟨_, a₁, w₁, hq, .pass (x := .inLoop c) rfl (fun _ _ => .inl (by simp)) harr⟩
   | ret => exact ⟨_, a₁, w₁, hq, .pass (x := .inLoop c) rfl (fun _ _ => .inl (by simp)) harr⟩
   | panic ch => exact ⟨_, a₁, w₁, hq, .pass (x := .inLoop c) rfl (fun _ _ => .inl (by simp)) harr⟩
   | outgrown => exact ⟨_, a₁, w₁, hq, .pass (x := .inLoop c) rfl (fun _ _ => .inl (by simp)) harr⟩
 obtain ⟨e, a', w', hq, harr⟩ := key _ p₀ a w rfl h₀ hf
 exact ⟨e, a', w', hq, .of_steps (.one step_loop) harr⟩
end
theorem marks_more {K : Kn} {D : Nat} {Ds : List Nat} {m : Nat → Nat → Prop} {w : World} (h : ((K.and (marksK Ds)).and (marksK [D])).p m w) (hD : D ∉ Ds) : (K.and (marksK (D :: Ds))).p m w :=
 ⟨h.1.1, fun E hE => by
  rcases List.mem_cons.1 hE with rfl | hE
  ·exact h.2.1 _ (by simp)
  exact h.1.2.1 E hE, List.nodup_cons.2 ⟨hD, h.1.2.2⟩⟩
theorem marks_lt {Ds : List Nat} {m : Nat → Nat → Prop} {w : World} (h : (marksK Ds).p m w) : ∀ D ∈ Ds, D < w.heap.size := fun D hD => (Array.getElem?_eq_some_iff.1 (h.1 D hD)).1
theorem marksK_self {Ds : List Nat} : (marksK Ds).self := fun m w h l hl => marksK_off fun hm => by have := marks_lt h l hm; omega
section
variable {α : Type} {el : α → AV} {D : DataW Value} {b r : Nat} {L : List (Lab × α)} {left : Lit → Bool} {cnt : Nat} {m m' : Nat → Nat → Prop} {w w' : World}
theorem ranges_keepB {P : Program} {k : TypeId} {bo : Option Nat} {n : Nat} (hk : KeepB bo w m w' m') (hb1 : bo ≠ some b) (hr1 : bo ≠ some r) (h : w.ranges P k hR b r n D left cnt) : w'.ranges P k hR b r n D left cnt := by
 obtain ⟨es, clock, since, seen, c0, hb, F, hs, hD, hr, rest⟩ := h
 exact ⟨es, clock, since, seen, c0, hk.obj b _ hb1 hb (fun c t f e => by cases e), F, hs, hD, hk.obj r _ hr1 hr (fun c t f e => by cases e), rest⟩
def rgK (el : α → AV) (D : DataW Value) (b r : Nat) (L : List (Lab × α)) (left : Lit → Bool) (cnt : Nat) : Kn := ⟨fun m w => LmD el D b L m w ∧ w.ranges Try.prog 36 hR b r L.length D left cnt, fun k h => ⟨h.1.keep k, ranges_keep k h.2⟩⟩
def spK (el : α → AV) (D : DataW Value) (b r : Nat) (L : List (Lab × α)) (left : Lit → Bool) (bb : Bool) (key v : Value) (kl : Lit) (cnt : Nat) : Kn := ⟨fun m w => LmD el D b L m w ∧ (bb = true → w.ranges Try.prog 36 hR b r L.length D (fun x => left x && !x.sameKey kl) cnt ∧ EntryAt Try.prog w r key v), fun k h => ⟨h.1.keep k, fun hb => ⟨ranges_keep k (h.2 hb).1, entry_keep k (h.2 hb).2⟩⟩⟩
def etK (el : α → AV) (D : DataW Value) (b r : Nat) (L : List (Lab × α)) (left : Lit → Bool) (key v : Value) (cnt : Nat) : Kn := ⟨fun m w => LmD el D b L m w ∧ w.ranges Try.prog 36 hR b r L.length D left cnt ∧ EntryAt Try.prog w r key v, fun k h => ⟨h.1.keep k, ranges_keep k h.2.1, entry_keep k h.2.2⟩⟩
theorem rgK_off {n : Nat} (h1 : b ≠ n) (h2 : r ≠ n) : (rgK el D b r L left cnt).off n := fun k h => ⟨h.1.keepB k (fun e => h1 (by injection e with e; exact e.symm)), ranges_keepB k (fun e => h1 (by injection e with e; exact e.symm)) (fun e => h2 (by injection e with e; exact e.symm)) h.2⟩
theorem ranges_lt {P : Program} {k : TypeId} {n : Nat} (h : w.ranges P k hR b r n D left cnt) : b < w.heap.size ∧ r < w.heap.size := by
 obtain ⟨es, clock, since, seen, c0, hb, F, hs, hD, hr, rest⟩ := h
 exact ⟨lt_heap hb, lt_heap hr⟩
theorem rgK_self : (rgK el D b r L left cnt).self := fun m w h l hl => by
 obtain ⟨h1, h2⟩ := ranges_lt h.2
 exact rgK_off (by omega) (by omega)
theorem LmD.entry (h : LmD el D b L m w) {key v : Value} {kl : Lit} (hk : Go.keyOf Try.prog 36 key = some kl) (hh : Maps.has D kl = true) (ha : ∀ zd, D.atKey kl zd = .held v) : ∃ p ∈ L, keyL p.1 = kl ∧ key = (labAV p.1).den ∧ v = (el p.2).den := by
 obtain ⟨p, hp, he⟩ := (h.has kl).1 hh
 refine ⟨p, hp, he, ?_, ?_⟩
 ·exact labK.inj hk (he ▸ key_lab (h.labs p hp))
 have h1 := h.at_ p hp (.held v)
 rw [he, ha] at h1
 injection h1
theorem keyL_same_refl (l : Lab) : (keyL l).sameKey (keyL l) = true := by simp [keyL, Lit.sameKey]
theorem keyL_same {l l' : Lab} (h : LabOk l) (h' : LabOk l') : (keyL l).sameKey (keyL l') = decide (l = l') := by
 by_cases he : l = l'
 ·subst he; rw [keyL_same_refl, decide_eq_true rfl]
 rw [decide_eq_false he]
 have : keyL l ≠ keyL l' := fun e => he (keyL_inj h h' e)
 unfold keyL at this ⊢
 simp only [Lit.sameKey]
 simpa using this
end
theorem par1_s (l : Lab) (hL : isL l = true) (hb0 : U64 l.bits) (h0 : l.len ≠ 0) : Spec Try.prog 49 [labAV l, .int .u64 ((2 ^ (64 - l.len.toNat) : Nat) : Int)] (fun _ => labAV (parL l)) := by
 intro m w hm hargs
 obtain ⟨hl0, hl1, hl2⟩ := lab_parts hL
 have e2 := andNot_bit hL hb0 h0
 obtain ⟨bt, hbt⟩ := eqv (((2 ^ (64 - l.len.toNat) : Nat) : Int))
 rw [← hbt] at hargs e2 ⊢
 simp only [labAV] at hargs
 refine en 13 hm hargs Try.func49 fun B hB a0 hF => ?_
 refine wp_seq (rg hB TA_ok [1, 2, 4] [2, 4] [] hF fun X0 a0 w1 hF => ?_)
 refine wp_seq (rg hB TA_ok [4] [4] [] hF fun X1 a0 w1 hF => ?_)
 refine wp_ret ((rsi hB TA_ok hF nAt (he := ?_)))
 subst hB
 have e1 : IntKind.i64.wrap (l.len - 1) = l.len - 1 := wrap_in (by omega) (by omega)
 refine Sim.agg ⟨?_, ?_, trivial⟩
 ·show Sim (.int .i64 (IntKind.i64.wrap (l.len - 1))) _
  rw [e1]; exact zr
 show Sim (.int .u64 (sAr .andNot .u64 l.bits bt)) _
 rw [e2]; exact zr
theorem lastp_s (l : Lab) (hb0 : U64 l.bits) : Spec Try.prog 48 [labAV l, .fn 49 [] []] (fun _ => .tup [labAV (parV l), .int .i64 (parE l)]) := by
 intro m w hm hargs
 have SI := isL_s l hb0
 simp only [labAV] at SI hargs ⊢
 obtain ⟨il, hil⟩ := eqv (isL l)
 rw [← hil] at SI
 refine en 23 hm hargs Try.func48 fun B hB a0 hF => ?_
 refine wp_seq (rg hB TA_ok [1, 2, 4] [2, 4] [] hF fun X0 a0 w1 hF => ?_)
 have O1 := SI
 refine wp_seq (wp_block (wp_seq (rg hB TA_ok [6, 1, 2, 4] [2, 4] [(1, .r fun _ => .bool (.v il))] hF fun X1 a0 w1 hF => ?_)))
 apply test_ok hF rfl <;> intro hb hF
 ·have hilf : il = false := by subst hB; cases il <;> first | rfl | (simp [std] at hb)
  have hE : parE l = 1 := by unfold parE; rw [← hil, hilf]; rfl
  have hV : parV l = ⟨0, 0⟩ := by unfold parV; rw [hE]; rfl
  refine wp_seq (rg hB TA_ok [4, 5] [4] [] hF fun X2 a0 w1 hF => ?_)
  refine wp_ret ((rsi hB TA_ok hF nAt (he := ?_)))
  subst hB
  rw [hV, hE]
  exact zr
 have hilt : il = true := by subst hB; cases il <;> first | rfl | (simp [std] at hb)
 have hLt : isL l = true := by rw [← hil]; exact hilt
 obtain ⟨hl0, hl1, hl2⟩ := lab_parts hLt
 refine wp_seq (rg hB TA_ok [11, 1, 2, 4] [2, 4] [] hF fun X3 a0 w1 hF => ?_)
 apply test_ok hF rfl <;> intro hb hF
 ·have h0 : l.len = 0 := by subst hB; simpa [std, sC] using hb
  have hE : parE l = 7 := by unfold parE; rw [← hil, hilt, if_neg (by decide), if_pos h0]
  have hV : parV l = ⟨0, 0⟩ := by unfold parV; rw [hE]; rfl
  refine wp_seq (rg hB TA_ok [4, 5] [4] [] hF fun X4 a0 w1 hF => ?_)
  refine wp_ret ((rsi hB TA_ok hF nAt (he := ?_)))
  subst hB
  rw [hV, hE]
  exact zr
 have h0 : ¬ l.len = 0 := by subst hB; simpa [std, sC] using hb
 have hE : parE l = 0 := by unfold parE; rw [← hil, hilt, if_neg (by decide), if_neg h0]
 have hV : parV l = parL l := by unfold parV; rw [hE]; rfl
 have SB := bit_s (l.len - 1) (by omega) (by omega)
 rw [show 63 - (l.len - 1).toNat = 64 - l.len.toNat by omega] at SB
 have S1 := par1_s l hLt hb0 h0
 simp only [labAV] at S1
 have e1 : IntKind.i64.wrap (l.len - 1) = l.len - 1 := wrap_in (by omega) (by omega)
 rw [← e1] at SB
 obtain ⟨bt, hbt⟩ := eqv (((2 ^ (64 - l.len.toNat) : Nat) : Int))
 rw [← hbt] at SB S1
 obtain ⟨k, hk⟩ := eqv (parL l)
 rw [← hk] at S1 hV
 have O1 := SB
 have O2 := S1
 refine wp_skip (wp_seq (drg hB TA_ok [4, 5] [4] [(5, .r fun _ => .int .u64 bt), (6, .r fun _ => .agg [.int .i64 k.len, .int .u64 k.bits])] hF fun X5 a0 w1 hF => ?_))
 refine wp_ret ((rsi hB TA_ok hF nAt (he := ?_)))
 subst hB
 rw [hV, hE]
 exact zr
theorem par_s (l : Lab) (hb0 : U64 l.bits) : Spec Try.prog 34 [labAV l] (fun _ => .tup [labAV (parV l), .int .i64 (parE l)]) := by
 intro m w hm hargs
 have SI := lastp_s l hb0
 simp only [labAV] at SI hargs ⊢
 obtain ⟨k, hk⟩ := eqv (parV l)
 rw [← hk] at SI ⊢
 obtain ⟨q, hq⟩ := eqv (parE l)
 rw [← hq] at SI ⊢
 refine en 8 hm hargs Try.func34 fun B hB a0 hF => ?_
 refine wp_seq (rg hB TA_ok [1, 2] [1, 2] [] hF fun X0 a0 w1 hF => ?_)
 have O1 := SI
 refine wp_seq (rg hB TA_ok [2, 3] [2] [(1, .r fun _ => .tup [.agg [.int .i64 k.len, .int .u64 k.bits], .int .i64 q])] hF fun X1 a0 w1 hF => ?_)
 exact wp_ret ((rsp hB TA_ok hF nAt).1)
def kindT (T : Tre) (q : Lab) : Int := match T q with
 | none => 0
 | some r => r.kind
def hasT (T : Tre) (q : Lab) : Nat := if (T q).isSome = true then 1 else 0
def kidsT (T : Tre) (q : Lab) : Nat → Nat
 | 0 => 0
 | i + 1 => kidsT T q i + hasT T (chV q (i : Nat))
def soundQ (T : Tre) (NX : Lab → Lab) (b : Int) (q : Lab) (r : Rec) : Bool :=
 !(decide (parE q = 0) && decide (kindT T (parV q) ≠ 2)) &&
 (if r.kind = 1 then decide ((r.items.length : Int) ≤ b) && decide (r.items.length ≤ (covL q r.items).length) && decide (r.next = NX q)
  else if r.kind = 2 then decide (2 ≤ kidsT T q (if chE q 0 = 0 then 2 else 0)) else false)
def entsP (l : List Rw) : List (Lab × Rec) := l.foldl (fun T w => setA w.lab w.r T) []
def nxP (l : List Lab) (q : Lab) : Lab := (getA q (nexA (labF l) l.length l.length)).getD ⟨0, 0⟩
def wellP (l : List Rw) (b : Int) : Bool :=
 (treP l ⟨0, 0⟩).isSome && decide (1 ≤ b) && decide (b ≤ 16) && isRw l && (entsP l).all fun p => soundQ (treP l) (nxP (leavesP l)) b p.1 p.2
theorem ents_eq (f : Nat → RowA) : ∀ n, absT (treeA f n) = entsP (rwsA f n)
 | 0 => rfl
 | n + 1 => by
  have ih := ents_eq f n
  unfold treeA
  rw [absT_set, ih]
  show _ = entsP (listA RowA.abs f (n + 1))
  rw [listA_succ]
  unfold entsP
  rw [List.foldl_append]
  rfl
theorem leaves_mem {l : List Rw} {p : Lab → Prop} (h : ∀ w ∈ l, p w.lab) : ∀ i, i < (leavesP l).length → p (labF (leavesP l) i) := by
 intro i hi
 have hm : labF (leavesP l) i ∈ leavesP l := by
  unfold labF
  rw [List.getD_eq_getElem?_getD, List.getElem?_eq_getElem hi]
  exact List.getElem_mem hi
 have h2 : labF (leavesP l) i ∈ leafs l := (sortL_perm _).mem_iff.1 hm
 unfold leafs at h2
 obtain ⟨w, hw, he⟩ := List.mem_map.1 h2
 rw [← he]
 exact h w (List.mem_filter.1 hw).1
theorem labOk_par {q : Lab} (hb : U64 q.bits) : LabOk (parV q) := by
 unfold parV
 split
 ·rename_i h
  have hl : isL q = true := by
   unfold parE at h
   split at h
   ·cases h
   rename_i h1; simpa using h1
  have h0 : q.len ≠ 0 := by
   intro h0
   unfold parE at h
   rw [if_neg (by simp [hl]), if_pos h0] at h
   cases h
  exact labOk_is (par_isL hl hb h0) (par_u hb)
 exact labOk_is (by decide) ⟨by decide, by decide⟩
section
variable {K : Kn} {P : Program} {T : List (Nat × TI)} {a : Act} {w : World} {m : Nat → Nat → Prop} {w0 : World} {fn : Func} {rs : List ResultVar} {r : List AV × List Ob} {B : Alg} {nt : Nat} {tm : List (Nat × AV)} {mem : List (Nat × Blk)} {gr : List (Nat × Gr)}
theorem rsN {res : Atom → AV} (hB : B = std) (hT : TabOK P T) (Ds : List Nat) (h : Fits ⟨m, w0, ats [], Ds.map markD, K.and (marksK Ds)⟩ ⟨nt, tm, [], mem, gr⟩ a w) (hof : ∀ D ∈ Ds, K.off D ∧ w0.heap.size ≤ D) (x : Atom) (he : Sim (can (resA r.1)) (can (res x))) (hfn : fn.results = rs.toArray := by rfl) (hr : resL T ⟨nt, tm, [], mem, gr⟩ rs = some r := by first | rfl | (conv => lhs; cbv)) (ho : AO P (K.and (okT tm)) r.2 := by first | exact trivial | (subst hB; simp [AO, Ob.holds])) :
  bodyPostM Fence.wide 0 P fn (fun e w' => ∃ x, e = .returned (res x).den ∧ Ok m w' (res x) ∧ Below w0.heap.size w0 w') .ret a w ∧ bodyPostM Fence.wide 0 P fn (fun e w' => ∃ x, e = .returned (res x).den ∧ Ok m w' (res x) ∧ Below w0.heap.size w0 w') .normal a w := by
 refine retIM hB hT Ds h hof (fun w' hm' hv => ⟨x, ?_, ?_, hm'.chg.below (Nat.le_refl _) fun k ⟨e, he, _⟩ => (by cases he)⟩) hfn hr ho
 ·rw [← can_den (resA r.1), he.1, can_den]
 have h1 := he.2.2 _ _ ((can_ok _).1 hv)
 exact ((can_ok _).2 h1).mono fun b o u g1 g2 => ⟨g1, fun hm => g2 (.inl hm)⟩
end
def ldK {α : Type} (el : α → AV) (D : DataW Value) (b : Nat) (L : List (Lab × α)) : Kn := ⟨LmD el D b L, fun k h => h.keep k⟩
theorem zLab_run (w : World) : (zeroValue 36).run Try.prog w = .ok (labAV ⟨0, 0⟩).den w := by kernel_rfl
theorem zLab_ok (m : Nat → Nat → Prop) (w : World) (q : Lab) : Ok m w (labAV q) := by
 unfold labAV
 exact .agg _ (by intro v hv; simp only [List.mem_cons, List.not_mem_nil, or_false] at hv; rcases hv with rfl | rfl <;> rfl) (by intro v hv; simp only [List.mem_cons, List.not_mem_nil, or_false] at hv; rcases hv with rfl | rfl <;> exact .int _ _)
abbrev wK (T : List (Lab × RA)) (NX : List (Lab × Lab)) (D : DataW Value) (bT rr bN : Nat) (left : Lit → Bool) (cnt : Nat) : Kn := (rgK recV D bT rr T left cnt).and (lmK labAV bN NX)
theorem wK_off {T : List (Lab × RA)} {NX : List (Lab × Lab)} {D : DataW Value} {bT rr bN n : Nat} {left : Lit → Bool} {cnt : Nat} (h1 : bT ≠ n) (h2 : rr ≠ n) (h3 : bN ≠ n) : (wK T NX D bT rr bN left cnt).off n := and_off (rgK_off h1 h2) (lmK_off h3)
theorem lab_eqL (a b : Lab) : eqL [.int .i64 a.len, .int .u64 a.bits] [.int .i64 b.len, .int .u64 b.bits] = decide (a = b) := by
 rw [Bool.eq_iff_iff]
 simp only [eqL, eqC, Bool.and_true, Bool.and_eq_true, beq_iff_eq, decide_eq_true_eq]
 constructor
 ·rintro ⟨h1, h2⟩; exact lab_ext h1 h2
 rintro rfl; exact ⟨rfl, rfl⟩
theorem well_s (A : Option Addr) (n c : Nat) (f : Nat → RowA) (hn : n ≤ 100000) (hN : RwN n f) (hK : RwK n f) (b : Int) : Spec Try.prog 10 [rowsV A n c f, .int .i64 b] (fun _ => .bool (.v (wellP (rwsA f n) b))) := by
 intro m w hm hargs
 have hmx : maxLen = 9223372036854775807 := rfl
 have SI := tis_s A n c f (by omega) hN
 have SL := leaves_s A n c f hn
 obtain ⟨ir, hir⟩ := eqv (isRw (rwsA f n))
 rw [← hir] at SI
 have hlvl : (leavesP (rwsA f n)).length ≤ n := by
  have := leaves_len (rwsA f n)
  rw [listA_len] at this
  exact this
 have hlvo := leaves_mem (l := rwsA f n) (p := LabOk) (fun x hx => by
  simp only [rwsA, listA, List.mem_map, List.mem_range] at hx
  obtain ⟨i, hi, rfl⟩ := hx
  exact (hN i hi).2.1)
 obtain ⟨lv, hlv⟩ := eqv (leavesP (rwsA f n))
 rw [← hlv] at SL hlvl hlvo
 obtain ⟨lf, hlf⟩ := eqv (labF lv)
 obtain ⟨ln, hln⟩ := eqv (lv.length)
 rw [← hlf, ← hln] at SL hlvo
 rw [← hln] at hlvl
 obtain ⟨T, hT⟩ := eqv (treeA f n)
 obtain ⟨NX, hNX⟩ := eqv (nexA lf ln ln)
 obtain ⟨W, hW⟩ := eqv (wellP (rwsA f n) b)
 rw [← hW]
 have hTre : treF T = treP (rwsA f n) := by rw [hT, tre_eq]
 refine enN (pre := []) 108 hm ⟨fun e he => (by cases he), fun e he => (by cases he), fun e he => (by cases he), .nil⟩ hargs Try.func10 fun B hB a0 hF => ?_
 refine wpN_seq (wpN_of (rg hB TA_ok [0, 1] [] [] hF fun X0 a0 w1 hF => ?_))
 refine wpN_seq (wpN_of (wp_region_lit ?_))
 refine lpr 0 1 hB TA_ok [17, 0, 1] [] [] hF (fun X1 a0 w1 hF => ?_)
 refine man_callM rfl rfl rfl rfl hF rfl rfl (fun _ _ => by kernel_rfl) (tof_m A n c f hn fun i hi => (hN i hi).2.1) (fun _ _ h => h) (fun b hb => by cases hb) (zl) (fun e he => by cases he) rfl rfl (fun y => lmK recV (y.c 0) (treeA f n)) (fun _ _ _ _ _ _ _ _ _ h => h.2) ?_
 intro y a0 w1 hF
 obtain ⟨bT, hbT⟩ := eqv (y.c 0)
 rw [← hbT, ← hT] at hF
 have O1 := SL
 refine lpr 2 2 hB TA_ok [20, 18, 0, 1] [] [(3, .r fun y => labsV (y.A 0) ln (y.c 0) lf)] hF (fun X2 a0 w1 hF => ?_)
 refine man_callM rfl rfl rfl rfl hF rfl rfl (fun _ _ => by kernel_rfl) (nexts_m ((X2 3).A 0) ln ((X2 3).c 0) lf (by omega) hlvo) (fun _ _ _ => trivial) (fun b hb => by cases hb) (zl) (fun e he => by cases he) rfl rfl (fun y => (lmK recV bT T).and (lmK labAV (y.c 0) NX)) (fun _ _ _ _ _ _ _ hk hkb h => ⟨(lmK recV bT T).st hkb.keep hk, by rw [hNX]; exact h.2⟩) ?_
 intro y2 a0 w1 hF
 obtain ⟨bN, hbN⟩ := eqv (y2.c 0)
 rw [← hbN] at hF
 refine lnd 5 hB TA_ok [5, 6, 0, 1] [5] [] hF (fun X3 a0 w1 hF => ?_)
 obtain ⟨bt, hbt⟩ := eqv ((X3 5).b)
 have hF := hF.fz (tm' := [(5, tEp (X3 5).b bT), (6, .raw (.map (some bN))), (0, rowsV A n c f), (1, .int .i64 b)]) ⟨rfl, fz_ptr, rfl, fz_id, rfl, fz_id, rfl, fz_id, trivial⟩
 obtain ⟨e0, he0⟩ := eqv ((getA ⟨0, 0⟩ T).getD zRA)
 obtain ⟨hr, hhr⟩ := eqv ((getA ⟨0, 0⟩ T).isSome)
 have OL := look_tt (K := (lmK recV bT T).and (lmK labAV bN NX)) (el := recV) (fun m w h => h.1) (labOk_is (q := ⟨0, 0⟩) (by decide) ⟨by decide, by decide⟩) mapr_und zRA_run zRA_ok (v := recV e0) (by rw [← he0]) hhr.symm
 simp only [labAV] at OL
 have O1 := OL
 refine wpN_seq (wpN_seq (wpN_of (rg hB TA_ok [8, 5, 6, 0, 1] [] [(2, .r fun _ => .tup [recV e0, .bool (.v hr)])] hF fun X4 a0 w1 hF => ?_)))
 have hroot : (treP (rwsA f n) ⟨0, 0⟩).isSome = hr := by rw [← hTre, hhr]; unfold treF; cases getA (⟨0, 0⟩ : Lab) T <;> rfl
 have O1 := SI
 refine wpN_of (wp_seq (rg hB TA_ok [42, 5, 6, 1] [] [(12, .r fun _ => .bool (.v ir))] hF (fun X5 a0 w1 hF => ?_)))
 refine test_ok hF rfl (fun hbA hF => ?_) (fun hbA hF => ?_)
 ·have h9 : (if (if (if (!hr) = true then true else decide (b < 1)) = true then true else decide (b > 16)) = true then true else !ir) = true := by subst hB; exact hbA
  have hWf : W = false := by
   rw [hW]
   unfold wellP
   rw [hroot, ← hir]
   cases hr <;> cases ir <;> by_cases g1 : b < 1 <;> by_cases g2 : b > 16 <;> simp [g1, g2] at h9 ⊢ <;> omega
  refine wp_seq (rg hB TA_ok [4] [] [] hF fun X6 a0 w1 hF => ?_)
  refine wp_ret (rsN (res := fun _ => .bool (.v W)) hB TA_ok [] (hF.withK (K' := noK.and (marksK [])) ⟨trivial, ⟨fun D hD => (by cases hD), List.nodup_nil⟩⟩) (fun D hD => by cases hD) ⟨0, fun _ => none, fun _ => 0, fun _ => .empty⟩ (he := ?he)).1
  case he => rw [hWf]; subst hB; exact Sim.bool rfl
 have h9 : (if (if (if (!hr) = true then true else decide (b < 1)) = true then true else decide (b > 16)) = true then true else !ir) = false := by subst hB; exact hbA
 have hrt : hr = true := by cases hr <;> first | rfl | (simp at h9)
 have hit : ir = true := by cases ir <;> first | rfl | (simp at h9)
 have hb1 : ¬ b < 1 := fun h => by simp [h] at h9
 have hb2 : ¬ b > 16 := fun h => by simp [h] at h9
 have hWe : W = (entsP (rwsA f n)).all fun p => soundQ (treP (rwsA f n)) (nxP (leavesP (rwsA f n))) b p.1 p.2 := by
  rw [hW]
  unfold wellP
  rw [hroot, ← hir, hrt, hit, decide_eq_true (show 1 ≤ b by omega), decide_eq_true (show b ≤ 16 by omega)]
  rfl
 have hTA : TreA T := by rw [hT]; exact treeA_ok hN hK (by rw [← hir]; exact hit)
 have hTl : T.length ≤ 2000 := by
  have h1 := (newS_is (l := rwsA f n) (by rw [← hir]; exact hit)).1
  rw [listA_len] at h1
  rw [hT]
  exact Nat.le_trans (treeA_len f n) h1
 have hWt : W = T.all fun p => soundQ (treF T) (nxP lv) b p.1 p.2.r.abs := by
  rw [hWe, ← ents_eq, ← hT, ← hTre, ← hlv]
  unfold absT
  rw [List.all_map]
  rfl
 refine wp_skip ?_
 refine wpN_seq (wpN_seq (wpN_of (wp_region_lit ?_)))
 refine lpr 0 1 hB TA_ok [43, 5, 6, 1] [] [] hF (fun X6 a0 w1 hF => ?_)
 obtain ⟨⟨D, hD⟩, hDN⟩ := hF.kept
 have hmapsT := lmK_map (m := St.m _ _) ⟨D, hD⟩
 have hF := hF.withK (K' := (ldK recV D bT T).and (lmK labAV bN NX)) ⟨hD, hDN⟩
 obtain ⟨rr, hrr⟩ := eqv (w1.heap.size)
 refine man_range rfl rfl rfl rfl hF (Nat.le_of_ble_eq_true rfl) rfl labK mapr_und hD.map (wK T NX D bT rr bN (Maps.has D) (Maps.size D)) (fun m w' h1 h2 h3 => ⟨⟨h1.1.keep h2, by rw [hrr]; exact h3⟩, (lmK labAV bN NX).st h2 h1.2⟩) ?_
 rw [← hrr]
 intro a0 w1 hfr hF
 refine wpList_nil ?_
 replace hF := hF.keep [44, 5, 6, 1] []
 have hbTr : bT ≠ rr := by have := lt_heap hmapsT.choose_spec.choose_spec; omega
 have hbNr : bN ≠ rr := by have := lmK_lt hDN; omega
 refine wpN_block (wpN_loop (ι := (Lit → Bool) × Nat × List Nat) (fun p a w1 => Fits ⟨m, w, ats [], p.2.2.map markD, (wK T NX D bT rr bN p.1 p.2.1).and (marksK p.2.2)⟩ ⟨108, [(44, .raw (.pointer (some ⟨rr, 0, none⟩))), (5, tEp (X3 5).b bT), (6, .raw (.map (some bN))), (1, .int .i64 b)], [], [], []⟩ a w1) (fun p => (∀ kl, p.1 kl = true → Maps.has D kl = true) ∧ (∀ q ∈ T, p.1 (keyL q.1) = true ∨ soundQ (treF T) (nxP lv) b q.1 q.2.r.abs = true) ∧ (∀ E ∈ p.2.2, w.heap.size ≤ E)) (fun p => p.2.1) (Maps.has D, Maps.size D, []) ⟨fun _ h => h, fun q hq => .inl ((hD.has _).2 ⟨q, hq, rfl⟩), fun E hE => by cases hE⟩ (hF.withK ⟨hF.kept, ⟨fun D hD => (by cases hD), List.nodup_nil⟩⟩) ?_)
 rintro ⟨left, cnt, Ds⟩ ⟨hlft, hsnd, hDs⟩ a0 w1 hF
 dsimp only at hlft hsnd hDs hF
 have hEne : ∀ E ∈ Ds, bT ≠ E ∧ rr ≠ E ∧ bN ≠ E := by
  intro E hE
  have h1 := hF.kept.2.1 E hE
  obtain ⟨es, cl, h2, _⟩ := hF.kept.1.1.1.map
  obtain ⟨_, _, _, _, _, _, _, _, _, h3, _⟩ := hF.kept.1.1.2
  obtain ⟨es2, cl2, h4⟩ := lmK_map hF.kept.1.2
  refine ⟨?_, ?_, ?_⟩ <;> rintro rfl
  ·rw [h1] at h2; cases h2
  ·rw [h1] at h3; cases h3
  rw [h1] at h4; cases h4
 have hofK : ∀ left cnt, ∀ E ∈ Ds, (wK T NX D bT rr bN left cnt).off E ∧ w.heap.size ≤ E := fun left cnt E hE => ⟨wK_off (hEne E hE).1 (hEne E hE).2.1 (hEne E hE).2.2, hDs E hE⟩
 refine wpN_seq (wpN_of (wp_region_lit ?_))
 refine man_next1 rfl rfl rfl rfl hF (Nat.le_of_ble_eq_true rfl) rfl labK hF.kept.1.1.2 (fun h => absurd h (Nat.not_lt.2 hfr)) (fun bb key v kl cnt' => ((spK recV D bT rr T left bb key v kl cnt').and (lmK labAV bN NX)).and (marksK Ds)) (fun m h _ => ⟨⟨⟨h.1.1.1, fun h => by cases h⟩, h.1.2⟩, h.2⟩) (fun key v kl cnt' m w' h1 h2 h3 h4 => ⟨⟨⟨h1.1.1.1.keepB h2 (fun e => hbTr (by injection e with e; exact e.symm)), fun _ => ⟨h3, h4⟩⟩, lmK_off hbNr h2 h1.1.2⟩, marksK_off (fun hm => (hEne _ hm).2.1 rfl) h2 h1.2⟩) ?_
 intro a0 w1 bb rest' key v kl cnt' hn0 hn1 hF
 refine lnd 1 hB TA_ok [46, 44, 5, 6, 1] [] [] hF (fun X7 a0 w1 hF => ?_)
 refine wpN_seq (ntest_ok hF rfl (fun hbB hF => ?_) (fun hbB hF => ?_))
 ·have hbb : bb = true := by subst hB; exact hbB
  obtain ⟨hnx1, hnx2, hnx3, hnx4⟩ := hn1 hbb
  replace hF := hF.withK (K' := ((etK recV D bT rr T (fun x => left x && !x.sameKey kl) key v cnt').and (lmK labAV bN NX)).and (marksK Ds)) ⟨⟨⟨hF.kept.1.1.1, hF.kept.1.1.2 hbb⟩, hF.kept.1.2⟩, hF.kept.2⟩
  refine wpN_of (wp_skip ?_)
  refine wpN_block (wpN_seq (wpN_of (wp_region_lit ?_)))
  obtain ⟨⟨q, el⟩, hp, hpk, hpkey, hpv⟩ := hF.kept.1.1.1.entry hnx1 (hlft _ hnx2) hnx3
  dsimp only at hpk hpkey hpv
  have hent := hF.kept.1.1.2.2
  rw [hpkey, hpv] at hent
  have hok := hF.kept.1.1.1.ok _ hp
  obtain ⟨hlq, hb0⟩ := hTA.labs _ hp
  obtain ⟨he1, he2⟩ := hTA.recs _ hp
  dsimp only at hlq hb0 he1 he2 hok
  have hTq : treF T q = some el.r.abs := by
   unfold treF
   rw [mem_getA hD.nd hp]; rfl
  refine man_entry rfl rfl rfl rfl hF (Nat.le_of_ble_eq_true rfl) rfl hent (zLab_ok _ _ q) hok ?_
  intro a0 hF
  simp only [labAV] at hF
  replace hF := hF.withK (K' := (wK T NX D bT rr bN (fun x => left x && !x.sameKey kl) cnt').and (marksK Ds)) ⟨⟨⟨hF.kept.1.1.1, hF.kept.1.1.2.1⟩, hF.kept.1.2⟩, hF.kept.2⟩
  obtain ⟨left2, hleft2⟩ := eqv (fun x => left x && !x.sameKey kl)
  rw [← hleft2] at hF
  refine lnd 1 hB TA_ok [9, 10, 44, 5, 6, 1] [9, 10] [] hF (fun X8 a0 w1 hF => ?_)
  have hF := hF.fz (tm' := [(9, .ep (some ⟨(X8 3).b, 0, none⟩) 0 0 0 [.int .i64 q.len, .int .u64 q.bits]), (10, .ptr 10 (X8 4).b 0), (44, .raw (.pointer (some ⟨rr, 0, none⟩))), (5, tEp (X3 5).b bT), (6, .raw (.map (some bN))), (1, .int .i64 b)]) ⟨rfl, fz_ptr, rfl, fz_id, rfl, fz_id, rfl, fz_id, rfl, fz_id, rfl, fz_id, trivial⟩
  have hF := hF.fz (tm' := [(9, .ep (some ⟨(X8 3).b, 0, none⟩) 0 0 0 [.int .i64 q.len, .int .u64 q.bits]), (10, .ep (some ⟨(X8 4).b, 0, none⟩) 0 0 0 (recC el)), (44, .raw (.pointer (some ⟨rr, 0, none⟩))), (5, tEp (X3 5).b bT), (6, .raw (.map (some bN))), (1, .int .i64 b)]) ⟨rfl, fz_id, rfl, fz_ptr, rfl, fz_id, rfl, fz_id, rfl, fz_id, rfl, fz_id, trivial⟩
  -- the round's end
  have hnext : soundQ (treF T) (nxP lv) b q el.r.abs = true → (∀ kl, left2 kl = true → Maps.has D kl = true) ∧ (∀ q ∈ T, left2 (keyL q.1) = true ∨ soundQ (treF T) (nxP lv) b q.1 q.2.r.abs = true) := by
   intro hs
   refine ⟨fun x hx => ?_, fun q' hq' => ?_⟩
   ·rw [hleft2] at hx
    simp only [Bool.and_eq_true] at hx
    exact hlft _ hx.1
   rcases hsnd q' hq' with h1 | h1
   ·by_cases he : q'.1 = q
    ·right
     have e1 := mem_getA hD.nd hq'
     rw [he, mem_getA hD.nd hp] at e1
     injection e1 with e1
     rw [he, ← e1]; exact hs
    left
    rw [hleft2]
    simp only [h1, Bool.true_and, Bool.not_eq_true']
    rw [← hpk, keyL_same (hTA.labs _ hq').1 hlq, decide_eq_false he]
   exact .inr h1
  have hbad : soundQ (treF T) (nxP lv) b q el.r.abs = false → W = false := by
   intro hs
   rw [hWt, List.all_eq_false]
   exact ⟨_, hp, by rw [hs]; decide⟩
  obtain ⟨up, hup⟩ := eqv (parV q)
  obtain ⟨pe, hpe⟩ := eqv (parE q)
  have SP := par_s q hb0
  rw [← hup, ← hpe] at SP
  simp only [labAV] at SP
  have O1 := SP
  refine wpN_seq (wpN_seq (wpN_of (rg hB TA_ok [12, 11, 9, 10, 44, 5, 6, 1] [11] [(1, .r fun _ => .tup [.agg [.int .i64 up.len, .int .u64 up.bits], .int .i64 pe])] hF fun X9 a0 w1 hF => ?_)))
  have hF := hF.fz (tm' := [(12, .int .i64 pe), (11, .ep (some ⟨(X9 5).b, 0, none⟩) 0 0 0 [.int .i64 up.len, .int .u64 up.bits]), (9, .ep (some ⟨(X8 3).b, 0, none⟩) 0 0 0 [.int .i64 q.len, .int .u64 q.bits]), (10, .ep (some ⟨(X8 4).b, 0, none⟩) 0 0 0 (recC el)), (44, .raw (.pointer (some ⟨rr, 0, none⟩))), (5, tEp (X3 5).b bT), (6, .raw (.map (some bN))), (1, .int .i64 b)]) ⟨rfl, fz_id, rfl, fz_ptr, rfl, fz_id, rfl, fz_id, rfl, fz_id, rfl, fz_id, rfl, fz_id, rfl, fz_id, trivial⟩
  obtain ⟨eu, heu⟩ := eqv ((getA up T).getD zRA)
  have OU := look_ff (K := (wK T NX D bT rr bN left2 cnt').and (marksK Ds)) (el := recV) (l := up) (fun m w h => ⟨D, h.1.1.1⟩) (by rw [hup]; exact labOk_par hb0) mapr_und zRA_run zRA_ok (v := recV eu) (by rw [← heu])
  simp only [labAV] at OU
  refine wpN_of (wp_seq (rg hB TA_ok [63, 9, 10, 44, 5, 6, 1] [] [(5, .r fun _ => recV eu)] hF (fun X10 a0 w1 hF => ?_) (hob := ?hob)))
  case hob =>
   intro X; subst hB
   repeat (first | exact trivial | refine ⟨rfl, ?_⟩ | refine ⟨fun _ => rfl, ?_⟩ | refine ⟨fun _ => OU, ?_⟩)
  have hku : kindT (treF T) up = eu.r.kd := by
   unfold kindT treF
   cases hg : getA up T with
   | none => rw [hg] at heu; rw [heu]; rfl
   | some x => rw [hg] at heu; rw [heu]; rfl
  have hhof := hofK left2 cnt'
  have hRET : ∀ {fn : Func} {nt0 tm0 a0 w1}, fn.results = #[.tmp 4] → W = false → Fits ⟨m, w, ats [], Ds.map markD, (wK T NX D bT rr bN left2 cnt').and (marksK Ds)⟩ ⟨nt0, (4, .bool .ff) :: tm0, [], [], []⟩ a0 w1 → bodyPostM Fence.wide 0 Try.prog fn (fun e w' => ∃ x : Atom, e = .returned (AV.bool (.v W)).den ∧ Ok m w' (.bool (.v W)) ∧ Below w.heap.size w w') .ret a0 w1 := by
   intro fn nt0 tm0 a0 w1 hfn hWf hF
   refine (rsN (res := fun _ => .bool (.v W)) (rs := [.tmp 4]) hB TA_ok Ds hF hhof ⟨0, fun _ => none, fun _ => 0, fun _ => .empty⟩ (hfn := hfn) (he := ?he)).1
   case he => rw [hWf]; subst hB; exact Sim.bool rfl
  refine test_ok hF rfl (fun hbC hF => ?_) (fun hbC hF => ?_)
  ·have h9 : pe = 0 ∧ ¬ eu.r.kd = 2 := by subst hB; simpa [std, sC] using hbC
   have hbd : soundQ (treF T) (nxP lv) b q el.r.abs = false := by
    unfold soundQ
    rw [← hpe, ← hup, hku, decide_eq_true h9.1, decide_eq_true h9.2]
    rfl
   refine wp_seq (rg hB TA_ok [4] [] [] hF fun X11 a0 w1 hF => ?_)
   exact wp_ret (hRET rfl (hbad hbd) hF)
  have hp1 : (!(decide (parE q = 0) && decide (kindT (treF T) (parV q) ≠ 2))) = true := by
   have h9 : pe = 0 → eu.r.kd = 2 := by subst hB; simpa [std, sC] using hbC
   rw [← hpe, ← hup, hku]
   by_cases g : pe = 0
   ·rw [h9 g]; simp
   simp [g]
  refine wp_skip ?_
  refine wpN_seq (wpN_of (rg hB TA_ok [65, 9, 10, 44, 5, 6, 1] [] [] hF fun X11 a0 w1 hF => ?_))
  refine wpN_block (wpN_seq (wpN_of (rg hB TA_ok [66, 65, 9, 10, 44, 5, 6, 1] [] [] hF fun X12 a0 w1 hF => ?_)))
  refine ntest_ok hF rfl (fun hbD hF => ?_) (fun hbD hF => ?_)
  ·have hk1 : el.r.kd = 1 := by subst hB; simpa [std, sC] using hbD
   have SCV := tcov_s el.A el.r.n el.c el.r.f (by omega) q hb0 he2
   obtain ⟨CV, hCV⟩ := eqv (covL q (firsts el.r.f el.r.n))
   rw [← hCV] at SCV
   obtain ⟨cf, hcf⟩ := eqv (itF CV)
   obtain ⟨cn, hcn⟩ := eqv (CV.length)
   rw [← hcf, ← hcn] at SCV
   simp only [rowI, labAV] at SCV
   obtain ⟨nq, hnq⟩ := eqv ((getA q NX).getD ⟨0, 0⟩)
   have ON := look_ff (K := (wK T NX D bT rr bN left2 cnt').and (marksK Ds)) (el := labAV) (l := q) (fun m w h => h.1.2) hlq mapl_und zLab_run (fun m w => zLab_ok m w _) (v := labAV nq) (by rw [← hnq])
   simp only [labAV] at ON
   refine wpN_of (wp_seq (drg hB TA_ok [91, 44, 5, 6, 1] [] [(9, .r fun x => .sl none (x.A 0) cn (x.c 0) 2 (fun i => itC (cf i))), (21, .r fun _ => .agg [.int .i64 nq.len, .int .u64 nq.bits])] hF (fun X13 a0 w1 hF => ?_) (hob := ?hob2)))
   case hob2 =>
    intro X; subst hB
    repeat (first | exact trivial | refine ⟨rfl, ?_⟩ | refine ⟨fun _ => rfl, ?_⟩ | refine ⟨fun _ => ⟨fun _ _ => by kernel_rfl, SCV⟩, ?_⟩ | refine ⟨fun _ => ON, ?_⟩ | refine ⟨fun _ => ob_lab (Kk := noK) _ _ _ _, ?_⟩)
   have hcl : (covL q (firsts el.r.f el.r.n)).length = cn := by rw [hcn, hCV]
   have hnq2 : nxP lv q = nq := by unfold nxP; rw [← hlf, ← hln, ← hNX, hnq]
   have hs2 : soundQ (treF T) (nxP lv) b q el.r.abs = (decide ((el.r.n : Int) ≤ b) && decide (el.r.n ≤ cn) && decide (el.r.nx = nq)) := by
    unfold soundQ
    rw [hp1, Bool.true_and]
    refine (if_pos hk1).trans ?_
    show (decide (((firsts el.r.f el.r.n).length : Int) ≤ b) && decide ((firsts el.r.f el.r.n).length ≤ (covL q (firsts el.r.f el.r.n)).length) && decide (el.r.nx = nxP lv q)) = _
    rw [firsts_len, hcl, hnq2]
   refine test_ok hF rfl (fun hbE hF => ?_) (fun hbE hF => ?_)
   ·have h10 : (if (if decide ((el.r.n : Int) > b) = true then true else decide ((cn : Int) < (el.r.n : Int))) = true then true else !(eqL [.int .i64 el.r.nx.len, .int .u64 el.r.nx.bits] [.int .i64 nq.len, .int .u64 nq.bits])) = true := by subst hB; exact hbE
    rw [lab_eqL] at h10
    have h9 : ¬ ((el.r.n : Int) ≤ b ∧ el.r.n ≤ cn ∧ el.r.nx = nq) := by
     rintro ⟨g1, g2, g3⟩
     rw [decide_eq_false (by omega), decide_eq_false (by omega), decide_eq_true g3] at h10
     cases h10
    refine wp_seq (rg hB TA_ok [4] [] [] hF fun X14 a0 w1 hF => ?_)
    refine wp_ret (hRET rfl (hbad ?_) hF)
    rw [hs2]
    rw [← Bool.not_eq_true, Bool.and_eq_true, Bool.and_eq_true, decide_eq_true_eq, decide_eq_true_eq, decide_eq_true_eq]
    exact fun h => h9 ⟨h.1.1, h.1.2, h.2⟩
   have h10 : (if (if decide ((el.r.n : Int) > b) = true then true else decide ((cn : Int) < (el.r.n : Int))) = true then true else !(eqL [.int .i64 el.r.nx.len, .int .u64 el.r.nx.bits] [.int .i64 nq.len, .int .u64 nq.bits])) = false := by subst hB; exact hbE
   rw [lab_eqL] at h10
   have h9 : (el.r.n : Int) ≤ b ∧ el.r.n ≤ cn ∧ el.r.nx = nq := by
    by_cases g1 : (el.r.n : Int) > b
    ·rw [decide_eq_true g1] at h10; cases h10
    by_cases g2 : (cn : Int) < (el.r.n : Int)
    ·rw [decide_eq_false g1, decide_eq_true g2] at h10; cases h10
    by_cases g3 : el.r.nx = nq
    ·exact ⟨by omega, by omega, g3⟩
    rw [decide_eq_false g1, decide_eq_false g2, decide_eq_false g3] at h10; cases h10
   refine wp_skip ?_
   have hsd : soundQ (treF T) (nxP lv) b q el.r.abs = true := by rw [hs2, decide_eq_true h9.1, decide_eq_true h9.2.1, decide_eq_true h9.2.2]; rfl
   exact ⟨(left2, cnt', Ds), ⟨(hnext hsd).1, (hnext hsd).2, hDs⟩, hnx4, hF⟩
  have hk1 : ¬ el.r.kd = 1 := by subst hB; simpa [std, sC] using hbD
  refine wpN_seq (wpN_of (rg hB TA_ok [92, 9, 10, 44, 5, 6, 1] [] [] hF fun X13 a0 w1 hF => ?_))
  refine ntest_ok hF rfl (fun hbE hF => ?_) (fun hbE hF => ?_)
  ·have hk2 : el.r.kd = 2 := by subst hB; simpa [std, sC] using hbE
   have hs2 : soundQ (treF T) (nxP lv) b q el.r.abs = decide (2 ≤ kidsT (treF T) q (if chE q 0 = 0 then 2 else 0)) := by
    unfold soundQ
    rw [hp1, Bool.true_and]
    exact (if_neg hk1).trans (if_pos hk2)
   refine wpN_seq (wpN_of (rg hB TA_ok [13, 9, 44, 5, 6, 1] [13] [] hF fun X14 a0 w1 hF => ?_))
   have SK := kids_s q
   simp only [labAV] at SK
   have O1 := SK
   refine wpN_seq (wpN_seq (wpN_of (rg hB TA_ok [95, 13, 44, 5, 6, 1] [13] [(1, .r fun y => .fn 46 [] [.ep (some ⟨y.b, 0, none⟩) 0 0 0 [.int .i64 q.len, .int .u64 q.bits]])] hF fun X15 a0 w1 hF => ?_)))
   refine wpN_block ?_
   have hself : ∀ Es, (((wK T NX D bT rr bN left2 cnt').and (marksK Es))).self := fun Es => and_self' (and_self' rgK_self lmK_self) marksK_self
   have hKu := hself Ds _ _ hF.kept
   have hfresh : bT < w1.heap.size ∧ rr < w1.heap.size ∧ bN < w1.heap.size ∧ ∀ E ∈ Ds, E < w1.heap.size := ⟨(ranges_lt hF.kept.1.1.2).1, (ranges_lt hF.kept.1.1.2).2, lmK_lt hF.kept.1.2, marks_lt hF.kept.2⟩
   refine rangeI hF rfl enters46 hKu (fun l D2 rc w1 hl hD2 hrc hD0 hsz ha hm1 hlb => ?_)
   subst hrc
   refine (kids_c (l := l) (D := D2) (ntc := 108) (p := 96) Try.func10 (by omega) (by omega) rfl rfl rfl (by decide) ⟨_, ha⟩ q hb0 (fun i K' mem gr => K' = (wK T NX D bT rr bN left2 cnt').and (marksK Ds) ∧ mem = [(13, (⟨(X14 0).b, 3, [.int .i64 (kidsT (treF T) q i : Nat)]⟩ : Blk))] ∧ gr = []) (fun _ _ _ _ => False) ?_ ⟨rfl, rfl, rfl⟩ (hKu.off (by omega)) hm1 (hlb _ (by simp))).mono ?_
   ·intro i hi hce E hE hE2 K' mem gr a w2 ⟨hK', hmem, hgr⟩ hoff hF
    subst hK' hmem hgr
    obtain ⟨hc1, hc2, hc3⟩ := ch_is hb0 hce (i : Nat)
    obtain ⟨cl, hcl⟩ := eqv (chV q (i : Nat))
    obtain ⟨kc, hkc⟩ := eqv (kidsT (treF T) q i)
    have hkcl : kc ≤ 2 := by
     rw [hkc]
     have hle : ∀ j, kidsT (treF T) q j ≤ j := fun j => by
      induction j with
      | zero => exact Nat.le_refl _
      | succ j ih => unfold kidsT hasT; split <;> omega
     have := hle i; omega
    rw [← hcl] at hc1 hc2 hc3 hF
    rw [← hkc] at hF
    simp only [labAV] at hF
    refine rrg hB TA_ok [14, 13, 5] [14, 13] [] hF fun X16 a0 w1 hF => ?_
    have hF := hF.fz (tm' := [(14, .ep (some ⟨(X16 0).b, 0, none⟩) 0 0 0 [.int .i64 cl.len, .int .u64 cl.bits]), (13, .ptr 13 (X14 0).b 0), (5, tEp (X3 5).b bT)]) ⟨rfl, fz_ptr, rfl, fz_id, rfl, fz_id, trivial⟩
    refine ⟨108, _, _, _, hF, fun w2 hF => ?_⟩
    obtain ⟨ei, hei⟩ := eqv ((getA cl T).getD zRA)
    obtain ⟨hi2, hhi2⟩ := eqv ((getA cl T).isSome)
    have OL := fun (Kx : Kn) (hx : ∀ m w, Kx.p m w → (lmK recV bT T).p m w) => look_tt (K := Kx) (el := recV) (b := bT) (L := T) (l := cl) hx (labOk_is hc1 hc2) mapr_und zRA_run zRA_ok (v := recV ei) (by rw [← hei]) hhi2.symm
    simp only [labAV] at OL
    refine wpIn_block (wpIn_seq (rrg hB TA_ok [16, 13] [13] [(2, .r fun _ => .tup [recV ei, .bool (.v hi2)])] hF (fun X17 a0 w1 hF => ?_) (hob := ?hob7)))
    case hob7 =>
     intro X; subst hB
     repeat (first | exact trivial | refine ⟨rfl, ?_⟩ | refine ⟨OL _ (fun m w h => ⟨D, h.1.1.1.1.1.1⟩), ?_⟩)
    refine wpIn_seq (rrg hB TA_ok [103, 13] [13] [] hF fun X18 a0 w1 hF => ?_)
    have hst : kidsT (treF T) q (i + 1) = kc + (if hi2 = true then 1 else 0) := by
     unfold kidsT
     rw [← hkc, ← hcl]
     unfold hasT treF
     rw [hhi2]
     cases getA cl T <;> rfl
    refine rtest_ok hF rfl (fun hbF hF => ?_) (fun hbF hF => ?_)
    ·have ht2 : hi2 = true := by subst hB; exact hbF
     refine rrg hB TA_ok [] [13] [] hF fun X19 a0 w1 hF => ?_
     have e2 : B.arith .add .i64 (kc : Int) 1 = ((kidsT (treF T) q (i + 1) : Nat) : Int) := by
      rw [hst, if_pos ht2]; subst hB; exact wrap_succ (n := 10) (by omega) (by simp only [maxLen]; omega)
     have hF := hF.memS (cells' := [.int .i64 (kidsT (treF T) q (i + 1) : Nat)]) (by rw [← e2]; exact ⟨zr, trivial⟩)
     exact ⟨_, _, [], ⟨rfl, rfl, rfl⟩, hoff, hF.bare⟩
    have ht2 : hi2 = false := by subst hB; exact hbF
    refine wpIn_skip ?_
    have e2 : kc = kidsT (treF T) q (i + 1) := by rw [hst, ht2]; simp
    have hF := hF.memS (cells' := [.int .i64 (kidsT (treF T) q (i + 1) : Nat)]) (by rw [← e2]; exact ⟨zr, trivial⟩)
    exact ⟨_, _, [], ⟨rfl, rfl, rfl⟩, hoff, hF.bare⟩
   rintro e w3 ⟨v, rfl, K', mem', gr', ho, hh⟩
   rcases hh with ⟨hm', rfl, rfl, rfl⟩ | ⟨c, hx, _⟩
   ·refine ⟨v, rfl, _, _, _, ho, .inl ⟨hm', fun a' w' hF => ?_⟩⟩
    have hDf : D2 ∉ Ds := fun hm => by have := hfresh.2.2.2 _ hm; omega
    have hF : Fits ⟨m, w, ats [], (D2 :: Ds).map markD, (wK T NX D bT rr bN left2 cnt').and (marksK (D2 :: Ds))⟩ _ a' w' := hF.withK (K' := (wK T NX D bT rr bN left2 cnt').and (marksK (D2 :: Ds))) (marks_more hF.kept hDf)
    obtain ⟨kn, hkn⟩ := eqv (kidsT (treF T) q (if chE q 0 = 0 then 2 else 0))
    rw [← hkn] at hF hs2
    have hDs2 : ∀ E ∈ D2 :: Ds, w.heap.size ≤ E := fun E hE => by
     rcases List.mem_cons.1 hE with rfl | hE
     ·exact hD0
     exact hDs E hE
    refine wpN_of (wp_seq (rg hB TA_ok [107, 44, 5, 6, 1] [] [] hF fun X16 a0 w1 hF => ?_))
    refine test_ok hF rfl (fun hbF hF => ?_) (fun hbF hF => ?_)
    ·have hlt : kn < 2 := by
      have : (kn : Int) < 2 := by subst hB; simpa [std, sC] using hbF
      omega
     have hsd : soundQ (treF T) (nxP lv) b q el.r.abs = false := by rw [hs2, decide_eq_false (by omega)]
     refine wp_seq (rg hB TA_ok [4] [] [] hF fun X17 a0 w1 hF => ?_)
     refine wp_ret (rsN (res := fun _ => .bool (.v W)) hB TA_ok (D2 :: Ds) hF (fun E hE => ?_) ⟨0, fun _ => none, fun _ => 0, fun _ => .empty⟩ (he := ?he)).1
     ·rcases List.mem_cons.1 hE with rfl | hE
      ·exact ⟨wK_off (by omega) (by omega) (by omega), hD0⟩
      exact hhof E hE
     case he => rw [hbad hsd]; subst hB; exact Sim.bool rfl
    have hlt : ¬ kn < 2 := by
     have : ¬ (kn : Int) < 2 := by subst hB; simpa [std, sC] using hbF
     omega
    have hsd : soundQ (treF T) (nxP lv) b q el.r.abs = true := by rw [hs2, decide_eq_true (by omega)]
    refine wp_skip ?_
    exact ⟨(left2, cnt', D2 :: Ds), ⟨(hnext hsd).1, (hnext hsd).2, hDs2⟩, hnx4, hF⟩
   exact hx.elim
  have hk2 : ¬ el.r.kd = 2 := by subst hB; simpa [std, sC] using hbE
  have hsd : soundQ (treF T) (nxP lv) b q el.r.abs = false := by
   unfold soundQ
   rw [hp1, Bool.true_and]
   exact (if_neg hk1).trans (if_neg hk2)
  refine wpN_of (wp_seq (rg hB TA_ok [4] [] [] hF fun X14 a0 w1 hF => ?_))
  exact wp_ret (hRET rfl (hbad hsd) hF)
 have hbb : bb = false := by subst hB; exact hbB
 have hall := hn0 hbb
 refine wpN_of (wp_exit ?_)
 replace hF := hF.withK (K' := noK.and (marksK Ds)) ⟨trivial, hF.kept.2⟩
 refine wpN_of (wp_seq (rg hB TA_ok [4] [] [] hF fun X8 a0 w1 hF => ?_))
 have hWt2 : W = true := by
  rw [hWt, List.all_eq_true]
  intro p hp
  rcases hsnd p hp with h1 | h1
  ·rw [hall] at h1; cases h1
  exact h1
 refine wp_ret (rsN (res := fun _ => .bool (.v W)) hB TA_ok Ds hF (fun E hE => ⟨fun _ _ => trivial, hDs E hE⟩) ⟨0, fun _ => none, fun _ => 0, fun _ => .empty⟩ (he := ?he)).1
 case he => rw [hWt2]; subst hB; exact Sim.bool rfl
def rwOf (p : Lab × Rec) : Rw := ⟨p.1, 1, p.2⟩
def insE (p : Lab × Rec) : List (Lab × Rec) → List (Lab × Rec)
 | [] => [p]
 | q :: l => if lessL p.1 q.1 = true then p :: q :: l else q :: insE p l
def sortE (l : List (Lab × Rec)) : List (Lab × Rec) := l.foldl (fun o x => insE x o) []
def leE (a b : Lab × Rec) : Prop := leL a.1 b.1
theorem insE_perm (x : Lab × Rec) : ∀ l : List (Lab × Rec), (insE x l).Perm (x :: l)
 | [] => List.Perm.refl _
 | y :: l => by
  unfold insE
  split
  ·exact List.Perm.refl _
  exact (List.Perm.cons _ (insE_perm x l)).trans (List.Perm.swap _ _ _)
theorem insE_sorted (x : Lab × Rec) : ∀ {l : List (Lab × Rec)}, l.Pairwise leE → (insE x l).Pairwise leE
 | [], _ => List.pairwise_singleton _ _
 | y :: l, h => by
  have h' := List.pairwise_cons.1 h
  unfold insE
  split
  ·rename_i hx
   refine List.pairwise_cons.2 ⟨fun z hz => ?_, h⟩
   rcases List.mem_cons.1 hz with rfl | hz
   ·exact less_le hx
   exact leL_trans (less_le hx) (h'.1 z hz)
  rename_i hx
  refine List.pairwise_cons.2 ⟨fun z hz => ?_, insE_sorted x h'.2⟩
  rcases List.mem_cons.1 ((insE_perm x l).mem_iff.1 hz) with rfl | hz
  ·exact (Bool.not_eq_true _).mp hx
  exact h'.1 z hz
theorem sortE_go (l : List (Lab × Rec)) : ∀ (o : List (Lab × Rec)), (l.foldl (fun o x => insE x o) o).Perm (l ++ o) ∧ (o.Pairwise leE → (l.foldl (fun o x => insE x o) o).Pairwise leE) := by
 induction l with
 | nil => exact fun o => ⟨List.Perm.refl _, id⟩
 | cons x l ih =>
  intro o
  obtain ⟨h1, h2⟩ := ih (insE x o)
  exact ⟨h1.trans (((insE_perm x o).append_left l).trans List.perm_middle), fun ho => h2 (insE_sorted x ho)⟩
theorem sortE_perm (l : List (Lab × Rec)) : (sortE l).Perm l := by
 have := (sortE_go l []).1
 rwa [List.append_nil] at this
theorem sortE_sorted (l : List (Lab × Rec)) : (sortE l).Pairwise leE := (sortE_go l []).2 .nil
def fixN (NX : Lab → Lab) (w : Rw) : Rw := if w.r.kind = 1 then { w with r := { w.r with next := NX w.lab } } else w
def growT (n : Nat) (f : Nat → Itm) (b : Int) : Bool × List (Lab × Rec) := growP b 65 (firsts f n) ⟨0, 0⟩ []
def bldE (n : Nat) (f : Nat → Itm) (b : Int) : Int :=
 if b < 1 ∨ b > 16 ∨ oddB n f = true ∨ srtB n f = false ∨ dupB n f = true then 1 else if 500 < n then 2 else if (growT n f b).1 = true then 0 else 2
def bld0 (n : Nat) (f : Nat → Itm) (b : Int) : List Rw := (sortE (growT n f b).2).map rwOf
def bldR (n : Nat) (f : Nat → Itm) (b : Int) : List Rw := if bldE n f b = 0 then (bld0 n f b).map (fixN (nxP (leavesP (bld0 n f b)))) else []
theorem fresh_left {left : Lit → Bool} {p : Lab × RA} : ∀ {L : List (Lab × RA)}, (L.map (·.1)).Nodup → (∀ q ∈ L, LabOk q.1) → p ∈ L → left (keyL p.1) = true →
  (L.filter fun q => left (keyL q.1)).Perm (p :: L.filter fun q => left (keyL q.1) && !(keyL q.1).sameKey (keyL p.1))
 | q :: L, hr, hl, hp, h1 => by
  have hr' := List.nodup_cons.1 hr
  rcases List.mem_cons.1 hp with rfl | hp
  ·rw [List.filter_cons, if_pos h1, List.filter_cons, keyL_same_refl]
   simp only [Bool.not_true, Bool.and_false, Bool.false_eq_true, if_false]
   refine List.Perm.cons _ ?_
   have : ∀ q ∈ L, (left (keyL q.1)) = (left (keyL q.1) && !(keyL q.1).sameKey (keyL p.1)) := by
    intro q hq
    rw [keyL_same (hl q (by simp [hq])) (hl p (by simp)), decide_eq_false (fun e => hr'.1 (List.mem_map.2 ⟨q, hq, e⟩))]
    simp
   rw [List.filter_congr this]
  have hne : q.1 ≠ p.1 := fun e => hr'.1 (List.mem_map.2 ⟨p, hp, e.symm⟩)
  have ih := fresh_left hr'.2 (fun q hq => hl q (by simp [hq])) hp h1
  rw [List.filter_cons, List.filter_cons, keyL_same (hl q (by simp)) (hl p (by simp [hp])), decide_eq_false hne]
  simp only [Bool.not_false, Bool.and_true]
  split
  ·exact (List.Perm.cons _ ih).trans (List.Perm.swap _ _ _)
  exact ih
def rwA (p : Lab × RA) : RowA := ⟨p.1, 1, p.2⟩
theorem build_fin {TA : List (Lab × RA)} (hnd : (TA.map (·.1)).Nodup) {h h' : Nat → RowA} {k : Nat} (hp : (rwsA h k).Perm (TA.map fun p => (rwA p).abs)) (hp' : ((List.range k).map h').Perm ((List.range k).map h)) (hs : ∀ i j, i < j → j < k → labLt (h' j).lab (h' i).lab = false) : rwsA h' k = (sortE (absT TA)).map rwOf := by
 have e1 : (TA.map fun p => (rwA p).abs) = (absT TA).map rwOf := by unfold absT; rw [List.map_map]; rfl
 have hperm : (rwsA h' k).Perm ((sortE (absT TA)).map rwOf) := by
  refine List.Perm.trans ?_ (hp.trans (by rw [e1]; exact ((sortE_perm (absT TA)).map rwOf).symm))
  have := hp'.map RowA.abs
  simp only [List.map_map] at this
  exact this
 have hlabs : ((absT TA).map rwOf).map (·.lab) = TA.map (·.1) := by unfold absT; rw [List.map_map, List.map_map]; rfl
 have hnd2 : (((sortE (absT TA)).map rwOf).map (·.lab)).Nodup := by
  have := ((sortE_perm (absT TA)).map rwOf).map (·.lab)
  exact this.nodup_iff.2 (by rw [hlabs]; exact hnd)
 refine List.Perm.eq_of_pairwise (le := fun a b : Rw => leL a.lab b.lab) ?_ ?_ ?_ hperm
 ·intro a b ha hb h1 h2
  have hl : a.lab = b.lab := leL_anti h1 h2
  have ha' := hperm.mem_iff.1 ha
  have key : ∀ {l : List Rw}, (l.map (·.lab)).Nodup → ∀ {a b : Rw}, a ∈ l → b ∈ l → a.lab = b.lab → a = b := by
   intro l
   induction l with
   | nil => intro _ a b ha; cases ha
   | cons x l ih =>
    intro hn a b ha hb hab
    have hn' := List.nodup_cons.1 hn
    rcases List.mem_cons.1 ha with hax | hax
    ·rcases List.mem_cons.1 hb with hbx | hbx
     ·rw [hax, hbx]
     exact (hn'.1 (List.mem_map.2 ⟨b, hbx, by rw [← hab, hax]⟩)).elim
    rcases List.mem_cons.1 hb with hbx | hbx
    ·exact (hn'.1 (List.mem_map.2 ⟨a, hax, by rw [hab, hbx]⟩)).elim
    exact ih hn'.2 hax hbx hab
  exact key hnd2 ha' hb hl
 ·rw [List.pairwise_iff_getElem]
  intro i j hi hj hij
  have hj' : j < k := by rw [listA_len] at hj; exact hj
  have hi' : i < k := by omega
  have e : ∀ t (g : t < (rwsA h' k).length), t < k → (rwsA h' k)[t] = (h' t).abs := by
   intro t g ht
   have := listA_get RowA.abs h' ht
   rw [List.getElem?_eq_getElem g] at this
   exact Option.some.inj this
  rw [e i hi hi', e j hj hj']
  show lessL (h' j).lab (h' i).lab = false
  rw [← labLt_le]
  exact hs i j hij hj'
 rw [List.pairwise_map]
 exact sortE_sorted _
theorem man_raw {C : Cx} {P : Program} {Q : Exit → Act → World → Prop} {ops : Array Oper} {s : St} {a : Act} {w : World} {L rest : List Oper} {o : Oper} {cl : Call} {g : Operand} {f : FuncId} {l r args : List AV} {d : Nat} (hL : L = o :: rest) (hg : o.guard = none) (hop : o.op = .call cl) (hcal : cl.callee = .value g) (hdst : o.dst = some d) (h : Fits C s a w) (hgv : val s [] g = .fn f l r) (hl : vals s [] cl.args.toList = some args) (hen : Enters P f)
  (R : Value → World → Prop) (hc : Calls P f ((l ++ args ++ r).map AV.den).toArray w fun e w' => ∃ v, e = .returned v ∧ R v w') (K : ∀ v w', R v w' → wpList P ops Q rest (a.put (some d) v) w') : wpList P ops Q L a w := by
 refine man_op hL hg ?_
 obtain ⟨hrun, _⟩ := call_run hop hcal h hgv hl hen
 unfold Oper.wp
 rw [hrun]
 simp only [Oper.upon]
 refine hc.mono ?_
 rintro e w' ⟨v, rfl, h1⟩
 rw [hdst]
 exact K v w' h1
theorem Spec.args' {P : Program} {f : FuncId} {args args' : List AV} {res : Atom → AV} (h : Spec P f args' res) (hs : SimL args args') : Spec P f args res := by
 intro m w hm ha
 rw [hs.map]
 exact h m w hm (hs.ok ha)
theorem clone_own (A : Option Addr) (n c : Nat) (f : Nat → Itm) (hn : n ≤ 1000000) {m : Nat → Nat → Prop} {w : World} (hok : Ok m w (rowI A n c f)) : Calls Try.prog 20 ([rowI A n c f].map AV.den).toArray w fun e w' => ∃ v, e = .returned v ∧ ∃ A' c', v = .slice A' n c' ∧ Own w' w.heap.size 42 2 (.slice A' n c') n (rowFlat (fun t => itC (f t)) n) ∧ Below w.heap.size w w' := by
 have hsim : Sim (rowI A n c f) (rowI A (firsts f n).length c (itF (firsts f n))) := Sim.resl (firsts_len f n).symm fun t ht => by rw [firsts_len] at ht; rw [firsts_get f n t ht]
 have hr := Cl.its_reads (hsim.2.2 _ _ hok)
 have := Cl.clone_c w A c (firsts f n) hr (by rw [firsts_len]; omega)
 rw [firsts_len] at this
 refine this.mono ?_
 rintro e w' ⟨v, rfl, hO, hb⟩
 obtain ⟨A', c', rfl, _, _⟩ := hO.isSlice
 rw [firsts_len] at hO
 refine ⟨_, rfl, A', c', by rw [firsts_len], ?_, hb⟩
 unfold OwnL at hO
 rw [firsts_len] at hO
 have e : rowFlat (fun t => itC (f t)) n = (firsts f n).flatMap Cl.itmE := by
  have := Cl.rowFlat_its (firsts f n)
  rw [firsts_len] at this
  rw [← this]
  unfold rowFlat
  rw [List.flatMap_def, List.flatMap_def]
  congr 1
  apply List.map_congr_left
  intro t ht
  show (itC (f t)).map AV.den = (itC (itF (firsts f n) t)).map AV.den
  rw [firsts_get f n t (List.mem_range.1 ht)]
 rw [e]
 exact hO
theorem noAts : ∀ k, ¬ ats ([] : List (Nat × Blk)) k := fun k ⟨e, he, _⟩ => by cases he
theorem seg_K {m0 : Nat → Nat → Prop} {mem : List (Nat × Blk)} {gr : List (Nat × Gr)} {nt : Nat} {tm : List (Nat × AV)} {w w1 : World} {S : Nat → Prop} {ds : List Deferred} {K K' : Kn} (h : K.p (mT m0 mem gr) w) : K.p (St.m ⟨nt, tm, [], [], []⟩ ⟨mT m0 mem gr, w1, S, ds, K'⟩) w :=
 K.st ⟨fun b o u h1 h2 => ⟨h1, fun h => by
  rcases h with h | ⟨k, e, he, _⟩ | ⟨k, t, ht, _⟩
  ·exact h2 h
  ·cases he
  cases ht⟩, fun _ _ h _ => h⟩ h
theorem grow_len {b : Int} : ∀ (n : Nat) (l : List Itm) (q : Lab) (T : List (Lab × Rec)), T.length ≤ 2000 → (growP b n l q T).2.length ≤ 2000
 | 0, l, q, T, h => h
 | n + 1, l, q, T, h => by
  by_cases h1 : 2000 ≤ T.length
  ·rw [grow_full h1]; exact h
  have hs : ∀ r, (setA q r T).length ≤ 2000 := fun r => by rw [set_len]; split <;> omega
  by_cases h2 : (l.length : Int) ≤ b ∨ q.len = 64
  ·rw [grow_leaf h1 h2]; exact hs _
  by_cases hc : chE q 0 = 0
  ·have e1 : (gT b n l q T 1).length ≤ 2000 := grow_len n _ _ _ (hs innR)
   have e2 : (gT b n l q T 2).length ≤ 2000 := grow_len n _ _ _ e1
   rw [grow_in h1 h2 hc]
   split
   ·exact e2
   exact e1
  rw [grow_none h1 h2 hc]; exact hs innR
theorem old_ok2 {m0 : Nat → Nat → Prop} {w0 w w' : World} {S : Nat → Prop} {ds : List Deferred} {K : Kn} {nt key : Nat} {t : Gr} {l : List (Nat × AV)} {mem : List (Nat × Blk)} {a : Act} (h : Fits ⟨m0, w0, S, ds, K⟩ ⟨nt, l, [], mem, [(key, t)]⟩ a w) (hS : ∀ k, ¬ S k) (hc : Chg (fun x => ownB t.v = some x) w w') {v : AV} (hv : Ok m0 w0 v) : Ok (mG m0 mem [(key, t)]) w' v := by
 refine hv.mono fun b o u hcell hn => ?_
 have hlt := World.block_lt_of_cell? w0 _ hcell
 have hown : ownB t.v ≠ some b := by
  intro hb
  obtain ⟨_, xs, ho⟩ := h.gr key t (by simp [lookM])
  exact absurd hlt (Nat.not_lt.2 (ho.lt b hb).1)
 refine ⟨?_, ?_⟩
 ·have e1 := h.chg.block b hlt (hS b)
  have e2 := hc.block b (Nat.lt_of_lt_of_le hlt h.chg.size) hown
  unfold World.cell? at hcell ⊢
  rw [e2, e1]; exact hcell
 rintro (h1 | ⟨k, e, he, h1⟩ | ⟨k, t', ht, hb, _⟩)
 ·exact hn h1
 ·subst h1
  rcases (h.mem k e he).2.2 with h2 | h2
  ·exact absurd hlt (Nat.not_lt.2 h2)
  exact hS _ h2
 obtain ⟨_, xs, ho⟩ := h.gr k t' ht
 exact absurd hlt (Nat.not_lt.2 (ho.lt b hb).1)
theorem lmL_chg {bN : Nat} {NX : List (Lab × Lab)} {m m' : Nat → Nat → Prop} {w w' : World} (h : (lmK labAV bN NX).p m w) (he : w'.heap[bN]? = w.heap[bN]?) : (lmK labAV bN NX).p m' w' := by
 obtain ⟨D, hD⟩ := h
 exact ⟨D, mapW_heap hD.map he, hD.nd, hD.labs, hD.has, hD.size, hD.at_, fun p hp => zLab_ok _ _ _⟩
theorem recV_cells {m : Nat → Nat → Prop} {w : World} {x : RA} (h : Ok m w (recV x)) (l : Lab) (v : Int) : ∀ u ∈ rowC ⟨l, v, x⟩, u.one = true ∧ Ok m w u := by
 cases h with
 | agg _ h1 h2 =>
  intro u hu
  simp only [rowC, List.mem_cons, List.not_mem_nil, or_false] at hu
  rcases hu with rfl | rfl | rfl | rfl | rfl | rfl | rfl | rfl
  ·exact ⟨rfl, .int _ _⟩
  ·exact ⟨rfl, .int _ _⟩
  ·exact ⟨rfl, .int _ _⟩
  ·exact ⟨rfl, .int _ _⟩
  ·exact ⟨h1 _ (by simp [recC]), h2 _ (by simp [recC])⟩
  ·exact ⟨rfl, .int _ _⟩
  ·exact ⟨rfl, .int _ _⟩
  exact ⟨rfl, .int _ _⟩
def fixA (NX : Lab → Lab) (r : RowA) : RowA := if r.x.r.kd = 1 then ⟨r.lab, r.ver, ⟨r.x.A, r.x.c, { r.x.r with nx := NX r.lab }⟩⟩ else r
theorem fixA_abs (NX : Lab → Lab) (r : RowA) : (fixA NX r).abs = fixN NX r.abs := by
 unfold fixA fixN
 by_cases h : r.x.r.kd = 1
 ·rw [if_pos h, if_pos (show r.abs.r.kind = 1 from h)]; rfl
 rw [if_neg h, if_neg (show ¬ r.abs.r.kind = 1 from h)]
theorem build_s (A : Option Addr) (n c : Nat) (f : Nat → Itm) (hn : n ≤ 1000000) (hki : ∀ i, i < n → U64 (f i).key) (b : Int) : Spec Try.prog 7 [rowI A n c f, .int .i64 b] (fun y => .tup [rowsV (y.A 0) (bldR n f b).length (y.c 0) (rwAt y (bldR n f b)), .int .i64 (bldE n f b)]) := by
 intro m w hm hargs
 have hmx : maxLen = 9223372036854775807 := rfl
 have hok := hargs (rowI A n c f) (by simp)
 have hvs : ∀ i, i < n → (f i).val.size ≤ maxLen := fun i hi => by
  have := ok_cell hok hi (.str (f i).val) (by simp [itC])
  cases this; assumption
 have SO := conO_s A n c f hn
 have SS := srtI_s A n c f hn
 obtain ⟨od, hod⟩ := eqv (oddB n f)
 obtain ⟨sr, hsr⟩ := eqv (srtB n f)
 obtain ⟨du, hdu⟩ := eqv (dupB n f)
 rw [← hod] at SO
 rw [← hsr] at SS
 unfold rowI at hargs SO SS
 refine en 95 hm hargs Try.func7 fun B hB a0 hF => ?_
 refine wp_seq (rg hB TA_ok [0, 1] [] [] hF fun X0 a0 w1 hF => ?_)
 refine wp_seq (rg hB TA_ok [6, 0, 1] [] [] hF fun X1 a0 w1 hF => ?_)
 refine wp_seq (rg hB TA_ok [7, 6, 0, 1] [] [] hF fun X2 a0 w1 hF => ?_)
 refine wp_seq (wp_region_lit ?_)
 refine lpr 0 1 hB TA_ok [16, 7, 6, 0, 1] [] [] hF (fun X3 a0 w1 hF => ?_)
 refine man_raw rfl rfl rfl rfl rfl hF rfl rfl (fun _ _ => by kernel_rfl) _ (clone_own A n c f hn (hF.slot 16 rfl).2) ?_
 rintro v w2 ⟨A2, c2, rfl, hO2, hb2⟩
 have hF2 := (hF.below hb2).put (some 17) (fun t ht => by injection ht with ht; subst ht; exact Nat.le_of_ble_eq_true rfl) (.raw (.slice A2 n c2)) (fun _ => .raw _) _ fun _ => rfl
 have hcc := compact_c hO2 hb2.size hn hvs
 refine man_raw (R := fun v w' => ∃ A m c, v = .slice A m c ∧ decide (m < n) = du ∧ OldB w1.heap.size w2 w') rfl rfl rfl rfl rfl hF2 rfl rfl (fun _ _ => by kernel_rfl) (hcc.mono ?_) ?_
 ·rintro e w' ⟨A3, m3, c3, rfl, h1, h2, h3⟩
  exact ⟨_, rfl, A3, m3, c3, rfl, by rw [hdu]; exact h1, h3⟩
 rintro v w3 ⟨A3, m3, c3, rfl, hm3, hold⟩
 have hb3 : Below w1.heap.size w1 w3 := ⟨hold.os.trans hb2.os, hold.tape.trans hb2.tape, hold.output.trans hb2.output, hold.size, fun k hk => (hold.block k hk).trans (hb2.block k hk)⟩
 have hF3 := (hF.below hb3).put (some 17) (fun t ht => by injection ht with ht; subst ht; exact Nat.le_of_ble_eq_true rfl) (.raw (.slice A2 n c2)) (fun _ => .raw _) (.slice A2 n c2) fun _ => rfl
 have hF3 := hF3.put (some 18) (fun t ht => by injection ht with ht; subst ht; exact Nat.le_of_ble_eq_true rfl) (.raw (.slice A3 m3 c3)) (fun _ => .raw _) (.slice A3 m3 c3) fun _ => rfl
 refine man_val (v := .int .i64 (m3 : Int)) rfl rfl rfl hF3 (Nat.le_of_ble_eq_true rfl) ?_ (.int _ _) fun a0 hF => ?_
 ·have h18 := (hF3.slot 18 rfl).1
  have hu : Try.prog.underlying 22 = some (.slice 42) := by kernel_rfl
  have h18' := (val_ok hF3 (q := []) (fun _ h => by cases h) (x := .tmp 18) rfl).1
  have h18'' : Act.eval ((a0.put (some 17) (.slice A2 n c2)).put (some 18) (.slice A3 m3 c3)) (.tmp 18) = .slice A3 m3 c3 := h18'
  simp [execOp, resolve, invoke, builtin, Builtin.len_, h18'', AV.den, run_underlying hu, goInt]
 refine lnd 4 hB TA_ok [8, 7, 6, 0, 1] [] [] hF (fun X4 a0 w1 hF => ?_)
 have hF := hF.headS (v' := .bool (.v du)) (by subst hB; exact Sim.bool (by rw [← hm3]; show decide ((m3 : Int) < (n : Int)) = decide (m3 < n); rw [decide_eq_decide]; omega)) rfl
 have O1 := SO
 have O2 := SS
 refine wp_seq (wp_block (wp_seq (rg hB TA_ok [23, 0, 1] [] [(9, .r fun _ => .bool (.v od)), (14, .r fun _ => .bool (.v sr))] hF (fun X5 a0 w1 hF => ?_) (hob := ?hob))))
 case hob =>
  intro X; subst hB
  repeat (first | exact trivial | refine ⟨rfl, ?_⟩ | refine ⟨fun _ => rfl, ?_⟩ | refine ⟨fun _ => ⟨fun _ _ => by kernel_rfl, SO⟩, ?_⟩ | refine ⟨fun _ => ⟨fun _ _ => by kernel_rfl, SS⟩, ?_⟩)
 refine test_ok hF rfl (fun hbA hF => ?_) (fun hbA hF => ?_)
 ·have h9 : (if (if (if (if decide (b < 1) = true then true else decide (b > 16)) = true then true else od) = true then true else !sr) = true then true else du) = true := by subst hB; exact hbA
  have hE : bldE n f b = 1 := by
   unfold bldE
   rw [if_pos]
   rw [← hod, ← hsr, ← hdu]
   by_cases g1 : b < 1
   ·exact .inl g1
   by_cases g2 : b > 16
   ·exact .inr (.inl g2)
   cases od
   ·cases sr
    ·exact .inr (.inr (.inr (.inl rfl)))
    cases du
    ·simp [g1, g2] at h9
    exact .inr (.inr (.inr (.inr rfl)))
   exact .inr (.inr (.inl rfl))
  refine wp_seq (rg hB TA_ok [4, 5] [4] [] hF fun X6 a0 w1 hF => ?_)
  refine wp_ret (rsi hB TA_ok hF ⟨0, fun _ => none, fun _ => 0, fun _ => .empty⟩ (he := ?_))
  subst hB
  rw [show bldR n f b = [] by unfold bldR; rw [hE]; rfl, hE]
  exact Sim.tup ⟨sim_nils, zr, trivial⟩
 have hE0 : bldE n f b = if 500 < n then 2 else if (growT n f b).1 = true then 0 else 2 := by
  have h9 : (if (if (if (if decide (b < 1) = true then true else decide (b > 16)) = true then true else od) = true then true else !sr) = true then true else du) = false := by subst hB; exact hbA
  unfold bldE
  rw [if_neg]
  rw [← hod, ← hsr, ← hdu]
  rintro (g | g | g | g | g) <;> simp [g] at h9
 refine wp_seq (rg hB TA_ok [44, 0, 1] [] [] hF fun X6 a0 w1 hF => ?_)
 refine test_ok hF rfl (fun hbB hF => ?_) (fun hbB hF => ?_)
 ·have hbig : 500 < n := by
   have : (500 : Int) < (n : Int) := by subst hB; simpa [std, sC] using hbB
   omega
  rw [if_pos hbig] at hE0
  refine wp_seq (rg hB TA_ok [4, 5] [4] [] hF fun X7 a0 w1 hF => ?_)
  refine wp_ret (rsi hB TA_ok hF ⟨0, fun _ => none, fun _ => 0, fun _ => .empty⟩ (he := ?_))
  subst hB
  rw [show bldR n f b = [] by unfold bldR; rw [hE0]; rfl, hE0]
  exact Sim.tup ⟨sim_nils, zr, trivial⟩
 have hsml : ¬ 500 < n := by
  have : ¬ (500 : Int) < (n : Int) := by subst hB; simpa [std, sC] using hbB
  omega
 rw [if_neg hsml] at hE0
 refine wp_skip (wp_seq (wp_region_lit ?_))
 refine man_makeMap (k := 36) (e := 0) rfl rfl rfl rfl hF (Nat.le_of_ble_eq_true rfl) (lmR w1.heap.size []) (fun m w' _ _ hM => ⟨[], rfl, _, LmD.empty hM⟩) ?_
 obtain ⟨bT, hbT⟩ := eqv (w1.heap.size)
 rw [← hbT]
 intro a0 w1 hfresh hF
 have hbfr : w.heap.size ≤ bT := hfresh
 refine lnd 1 hB TA_ok [9, 0, 1] [] [] hF (fun X7 a0 w1 hF => ?_)
 refine wp_seq (wp_seq (wp_region_lit ?_))
 refine lpr 0 4 hB TA_ok [49, 50, 51, 52, 9] [] [] hF (fun X8 a0 w1 hF => ?_)
 have hGM := grow_m bT b 65 A n c f ⟨0, 0⟩ [] hn hki ⟨by decide, by decide⟩ (by decide) (by decide)
 obtain ⟨gp, hgp⟩ := eqv (growT n f b)
 rw [show growP b 65 (firsts f n) ⟨0, 0⟩ [] = gp from hgp.symm] at hGM
 simp only [rowI, labAV] at hGM
 refine man_callM rfl rfl rfl rfl hF rfl rfl (fun _ _ => by kernel_rfl) hGM (fun _ _ h => h) (fun b' hb' => by cases hb'; exact fun h => absurd h (Nat.not_lt.2 hbfr)) (zl) (fun e he => by cases he) rfl rfl (fun _ => lmR bT gp.2) (fun _ _ _ _ _ _ _ _ _ h => h) ?_
 intro y a0 w1 hF
 obtain ⟨gb, hgb⟩ := eqv (gp.1)
 rw [← hgb] at hF
 refine lnd 5 hB TA_ok [54, 9] [] [] hF (fun X9 a0 w1 hF => ?_)
 refine test_ok hF rfl (fun hbC hF => ?_) (fun hbC hF => ?_)
 ·have hgf : gb = false := by subst hB; cases gb <;> first | rfl | cases hbC
  have hE : bldE n f b = 2 := by rw [hE0, ← hgp, ← hgb, hgf]; rfl
  refine wp_seq (rg hB TA_ok [4, 5] [4] [] hF fun X10 a0 w1 hF => ?_)
  refine wp_ret (rsi hB TA_ok hF ⟨0, fun _ => none, fun _ => 0, fun _ => .empty⟩ (he := ?_))
  subst hB
  rw [show bldR n f b = [] by unfold bldR; rw [hE]; rfl, hE]
  exact Sim.tup ⟨sim_nils, zr, trivial⟩
 have hgt : gb = true := by subst hB; cases gb <;> first | rfl | cases hbC
 have hE : bldE n f b = 0 := by rw [hE0, ← hgp, ← hgb, hgt]; rfl
 have hR : bldR n f b = (bld0 n f b).map (fixN (nxP (leavesP (bld0 n f b)))) := by unfold bldR; rw [if_pos hE]
 have h0 : bld0 n f b = (sortE gp.2).map rwOf := by unfold bld0; rw [← hgp]
 rw [hE, hR]
 refine wp_skip ?_
 -- from here on: a stretch of its own
 obtain ⟨wi, hwi⟩ := eqv (w1)
 have hMi : Mem m w (fun _ => False) noK [] [] wi := by rw [hwi]; exact (hF.withK (K' := noK) trivial).bare
 obtain ⟨TA, hTA, D, hD⟩ := hF.kept
 have hFs := (seg_of hF).withK (K' := ldK recV D bT TA) (seg_K (K := ldK recV D bT TA) hD)
 rw [← hwi] at hFs hD ⊢
 obtain ⟨mS, hmS⟩ := eqv (mT m [] [])
 have hokT : ∀ p ∈ TA, Ok mS wi (recV p.2) := fun p hp => by rw [hmS]; exact hD.ok p hp
 have hrets : ∀ {fn : Func} {nt0 : Nat} {tm0 : List (Nat × AV)} {R : Ending → World → Prop}, True := fun {_ _ _ _} => trivial
 replace hF := hFs
 rw [← hmS] at hF
 have hlabs : ∀ p ∈ TA, LabOk p.1 := hD.labs
 have hnd := hD.nd
 have hmapT : ∃ es cl, wi.heap[bT]? = some (.map es cl) := by obtain ⟨es, cl, h, _⟩ := hD.map; exact ⟨es, cl, h⟩
 refine wp_seq (rg hB TA_ok [10, 9] [10] [] hF fun X10 a0 w1 hF => ?_)
 refine wp_seq (wp_seq (wp_region_lit ?_))
 refine lpr 0 1 hB TA_ok [55, 10] [10] [] hF (fun X11 a0 w1 hF => ?_)
 obtain ⟨rr, hrr⟩ := eqv (w1.heap.size)
 refine man_range rfl rfl rfl rfl hF (Nat.le_of_ble_eq_true rfl) rfl labK mapr_und hF.kept.map (rgK recV D bT rr TA (Maps.has D) (Maps.size D)) (fun m w' h1 h2 h3 => ⟨h1.keep h2, by rw [hrr]; exact h3⟩) ?_
 rw [← hrr]
 intro a0 w1 hfr hF
 refine wpList_nil ?_
 replace hF := hF.keep [10, 56] [10]
 have hbTr : bT ≠ rr := by
  obtain ⟨es, cl, h⟩ := hmapT
  have := lt_heap h
  omega
 have hF := hF.headS (v' := .sl (some 10) none 0 0 8 (fun t => rowC zRow)) (zq0) rfl
 refine wp_block (loop_any (ι := Nat × (Nat → RowA) × Option Addr × Nat × (Lit → Bool) × Nat) (fun p a w1 => Fits ⟨mS, wi, ats [], [], rgK recV D bT rr TA p.2.2.2.2.1 p.2.2.2.2.2⟩ ⟨95, [(10, .sl (some 10) p.2.2.1 p.1 p.2.2.2.1 8 (fun t => rowC (p.2.1 t))), (56, .raw (.pointer (some ⟨rr, 0, none⟩)))], [], [], [(10, ⟨p.2.2.1, p.1, p.2.2.2.1, 8, 40⟩)]⟩ a w1) (fun p => (∀ kl, p.2.2.2.2.1 kl = true → Maps.has D kl = true) ∧ (rwsA p.2.1 p.1 ++ (TA.filter fun q => p.2.2.2.2.1 (keyL q.1)).map fun q => (rwA q).abs).Perm (TA.map fun q => (rwA q).abs) ∧ ∀ t, t < p.1 → ∃ q ∈ TA, p.2.1 t = rwA q) (fun p => p.2.2.2.2.2) (0, fun _ => zRow, none, 0, Maps.has D, Maps.size D) ⟨fun _ h => h, by
  have : TA.filter (fun q => Maps.has D (keyL q.1)) = TA := List.filter_eq_self.2 fun q hq => (hD.has _).2 ⟨q, hq, rfl⟩
  simp only [this]
  exact List.Perm.refl _, fun t ht => absurd ht (Nat.not_lt_zero _)⟩ hF ?_)
 rintro ⟨k1, h, A1, c1, left, cnt⟩ ⟨hlft, hprm, hels⟩ a0 w1 hF
 dsimp only at hlft hprm hels hF
 have hTl : TA.length ≤ 2000 := by
  have := grow_len (b := b) 65 (firsts f n) ⟨0, 0⟩ [] (Nat.zero_le _)
  have e : gp.2 = (growP b 65 (firsts f n) ⟨0, 0⟩ []).2 := by rw [hgp]; rfl
  rw [← e, ← hTA, absT_len] at this
  exact this
 have hk1 : k1 ≤ TA.length := by
  have h9 := hprm.length_eq
  simp only [List.length_append, listA_len, List.length_map] at h9
  omega
 refine wp_seq (wp_region_lit ?_)
 refine man_next1 rfl rfl rfl rfl hF (Nat.le_of_ble_eq_true rfl) rfl labK hF.kept.2 (fun h => absurd h (Nat.not_lt.2 hfr)) (spK recV D bT rr TA left) (fun m h _ => ⟨h.1, fun h => by cases h⟩) (fun key v kl cnt' m w' h1 h2 h3 h4 => ⟨h1.1.keepB h2 (fun e => hbTr (by injection e with e; exact e.symm)), fun _ => ⟨h3, h4⟩⟩) ?_
 intro a0 w1 bb rest' key v kl cnt' hn0 hn1 hF
 refine lnd 1 hB TA_ok [58, 10, 56] [10] [] hF (fun X12 a0 w1 hF => ?_)
 refine wp_seq (test_ok hF rfl (fun hbD hF => ?_) (fun hbD hF => ?_))
 ·have hbb : bb = true := by subst hB; exact hbD
  obtain ⟨hnx1, hnx2, hnx3, hnx4⟩ := hn1 hbb
  replace hF := hF.withK (K' := etK recV D bT rr TA (fun x => left x && !x.sameKey kl) key v cnt') ⟨hF.kept.1, hF.kept.2 hbb⟩
  refine wp_skip (wp_block (wp_seq (wp_region_lit ?_)))
  obtain ⟨⟨q, el⟩, hp, hpk, hpkey, hpv⟩ := hF.kept.1.entry hnx1 (hlft _ hnx2) hnx3
  dsimp only at hpk hpkey hpv
  have hent := hF.kept.2.2
  rw [hpkey, hpv] at hent
  have hok := hF.kept.1.ok _ hp
  refine man_entry rfl rfl rfl rfl hF (Nat.le_of_ble_eq_true rfl) rfl hent (zLab_ok _ _ q) hok ?_
  intro a0 hF
  simp only [labAV] at hF
  replace hF := hF.withK (K' := rgK recV D bT rr TA (fun x => left x && !x.sameKey kl) cnt') ⟨hF.kept.1, hF.kept.2.1⟩
  refine lnd 1 hB TA_ok [11, 12, 10, 56] [11, 12, 10] [] hF (fun X13 a0 w1 hF => ?_)
  refine rg hB TA_ok [10, 56] [10] [] hF (fun X14 a0 w1 hF => ?_) (hob := ?hob2)
  case hob2 =>
   intro X; subst hB
   repeat (first | exact trivial | refine ⟨⟨rfl, rfl, rfl⟩, ?_⟩ | refine ⟨rfl, ?_⟩ | refine ⟨⟨show k1 + 1 ≤ maxLen by omega, show (k1 + 1) * _ ≤ _ by omega⟩, ?_⟩)
  obtain ⟨h2, hh2⟩ : ∃ x : Nat → RowA, x = fun t => if t = k1 then rwA (q, el) else h t := ⟨_, rfl⟩
  have hF := hF.headS (v' := .sl (some 10) ((X14 5).A 0) (B.nadd k1 1) ((X14 5).c 0) 8 (fun t => rowC (h2 t))) (Sim.resl rfl (fun t ht => by
   subst hB
   have ht2 : t < k1 + 1 := ht
   show appC k1 (fun t => rowC (h t)) (chunk 8 (rowC (rwA (q, el)))) t = _
   rw [hh2]
   unfold appC
   dsimp only
   split
   ·rw [if_neg (by omega)]
   have : t = k1 := by omega
   subst this
   rw [if_pos rfl]
   simp [chunk])) rfl
  refine ⟨(k1 + 1, h2, _, _, (fun x => left x && !x.sameKey kl), cnt'), ⟨fun x hx => ?_, ?_, fun t ht => ?_⟩, hnx4, by rw [show k1 + 1 = B.nadd k1 1 by subst hB; rfl]; exact hF⟩
  ·simp only [Bool.and_eq_true] at hx
   exact hlft _ hx.1
  ·have h9 := (fresh_left (left := left) hnd hlabs hp (by rw [hpk]; exact hnx2)).map fun q => (rwA q).abs
   rw [hpk] at h9
   have e9 : rwsA h2 (k1 + 1) = rwsA h k1 ++ [(rwA (q, el)).abs] := by
    show listA RowA.abs _ (k1 + 1) = listA RowA.abs h k1 ++ _
    rw [listA_succ, hh2]
    simp only [if_true]
    congr 1
    unfold listA
    apply List.map_congr_left
    intro t ht
    have h5 := List.mem_range.1 ht
    show RowA.abs (if t = k1 then rwA (q, el) else h t) = _
    rw [if_neg (by omega)]
   simp only
   rw [e9, List.append_assoc]
   refine List.Perm.trans (List.Perm.append_left _ ?_) hprm
   rw [List.map_cons] at h9
   exact h9.symm
  simp only at ht ⊢
  rw [hh2]
  by_cases he : t = k1
  ·exact ⟨_, hp, by simp [he]⟩
  simp only [if_neg he]; exact hels t (by omega)
 have hbb : bb = false := by subst hB; exact hbD
 have hall := hn0 hbb
 have hprm2 : (rwsA h k1).Perm (TA.map fun q => (rwA q).abs) := by
  have e9 : (TA.filter fun q => left (keyL q.1)) = [] := List.filter_eq_nil_iff.2 fun q _ => by rw [hall]; simp
  rw [e9] at hprm
  simpa using hprm
 replace hF := hF.withK (K' := noK) trivial
 refine wp_exit (wp_seq (wp_region_lit ?_))
 refine lpr 0 1 hB TA_ok [68, 10] [10] [] hF (fun X13 a0 w1 hF => ?_)
 have hO := gr_own hF (hF.slot 10 rfl).2
 refine man_sorted rfl rfl rfl rfl rfl hF rfl rfl (fun _ _ => by kernel_rfl) (fun w' => ∃ h' : Nat → RowA, ((List.range k1).map h').Perm ((List.range k1).map h) ∧ (∀ i j, i < j → j < k1 → labLt (h' j).lab (h' i).lab = false) ∧ Own w' wi.heap.size 40 8 (.slice A1 k1 c1) k1 (rowFlat (fun t => rowC (h' t)) k1)) ((sortRow_c hO (by omega)).mono ?_) ?_
 ·rintro e w2 ⟨he, h', g1, g2, g3, g4⟩
  exact ⟨he, ⟨h', g1, g2, g3⟩, g4⟩
 rintro w2 ⟨h', g1, g2, g3⟩ g4
 have hfin := build_fin hnd hprm2 g1 g2
 have hels' : ∀ i, i < k1 → ∃ q ∈ TA, h' i = rwA q := by
  intro i hi
  have hmem := g1.mem_iff.1 (List.mem_map.2 ⟨i, List.mem_range.2 hi, rfl⟩)
  obtain ⟨j, hj, hje⟩ := List.mem_map.1 hmem
  obtain ⟨q, hq, hqe⟩ := hels j (List.mem_range.1 hj)
  exact ⟨q, hq, by rw [← hje, hqe]⟩
 have hgrm : ∀ b', ownB (.slice A1 k1 c1) = some b' → ∀ o, o < k1 * 8 → ¬ mG mS [] [(10, ⟨A1, k1, c1, 8, 40⟩)] b' o := grown_free hF
 have hrow2 : Ok (mG mS [] [(10, ⟨A1, k1, c1, 8, 40⟩)]) w2 (.sl (some 10) A1 k1 c1 8 (fun t => rowC (h' t))) := own_known2 g3 (fun _ _ => rfl) hgrm (fun i hi => by
  obtain ⟨q, hq, e⟩ := hels' i hi
  rw [e]
  exact recV_cells (old_ok2 hF noAts g4 (hokT q hq)) _ _) _
 have hF := Fits.rowset (K' := noK) (l' := [(10, .sl (some 10) A1 k1 c1 8 (fun t => rowC (h' t)))]) hF g4 g3 (hl_cons ⟨(hF.slot 10 rfl).1, hrow2⟩ hl_nil) (fun k e he => by cases he) trivial
 have hF := (hF.put (some 69) (fun t ht => by injection ht with ht; subst ht; exact Nat.le_of_ble_eq_true rfl) (.tup []) (fun _ => .tup _ fun u hu => by cases hu) (.tuple #[]) fun _ => rfl)
 refine wpList_nil ?_
 replace hF := hF.keep [10] [10]
 have hk2000 : k1 ≤ 2000 := by omega
 obtain ⟨lv, hlv⟩ := eqv (leavesP (rwsA h' k1))
 have hlvl : lv.length ≤ k1 := by
  have := leaves_len (rwsA h' k1)
  rw [listA_len, ← hlv] at this
  exact this
 have hlvo := leaves_mem (l := rwsA h' k1) (p := LabOk) (fun x hx => by
  simp only [rwsA, listA, List.mem_map, List.mem_range] at hx
  obtain ⟨i, hi, rfl⟩ := hx
  obtain ⟨q, hq, e⟩ := hels' i hi
  rw [e]
  exact hlabs q hq)
 have SL := (leaves_s A1 k1 c1 h' (by omega)).args' (args := [.sl (some 10) A1 k1 c1 8 (fun t => rowC (h' t))]) ⟨Sim.resl rfl (fun t ht => rfl), trivial⟩
 rw [← hlv] at SL hlvo
 obtain ⟨lf, hlf⟩ := eqv (labF lv)
 obtain ⟨ln, hln⟩ := eqv (lv.length)
 rw [← hlf, ← hln] at SL hlvo
 rw [← hln] at hlvl
 obtain ⟨NX, hNX⟩ := eqv (nexA lf ln ln)
 have O1 := SL
 refine wp_seq (wp_region_lit ?_)
 refine lpr 0 2 hB TA_ok [71, 10] [10] [(1, .r fun y => labsV (y.A 0) ln (y.c 0) lf)] hF (fun X15 a0 w1 hF => ?_)
 refine man_callM rfl rfl rfl rfl hF rfl rfl (fun _ _ => by kernel_rfl) (nexts_m ((X15 1).A 0) ln ((X15 1).c 0) lf (by omega) hlvo) (fun _ _ h => h) (fun b hb => by cases hb) (zl) (fun e he => by cases he) rfl rfl (fun y => lmK labAV (y.c 0) NX) (fun _ _ _ _ _ _ _ _ _ h => by rw [hNX]; exact h.2) ?_
 intro y2 a0 w1 hF
 obtain ⟨bN, hbN⟩ := eqv (y2.c 0)
 rw [← hbN] at hF
 refine lnd 3 hB TA_ok [13, 10] [10] [] hF (fun X16 a0 w1 hF => ?_)
 obtain ⟨nx, hnx⟩ : ∃ x : Lab → Lab, x = fun q => (getA q NX).getD ⟨0, 0⟩ := ⟨_, rfl⟩
 have hnxP : nx = nxP lv := by
  funext q
  rw [hnx, hNX, hlf, hln]
  rfl
 refine wp_seq (wp_seq (rg hB TA_ok [75, 10, 73, 74, 13] [10] [] hF fun X17 a0 w1 hF => ?_))
 have hF0 := hF
 refine wp_block (loop_any (ι := Nat) (fun i a w1 => Fits ⟨mS, wi, ats [], [], lmK labAV bN NX⟩ ⟨95, [(75, .int .i64 (i : Int)), (10, .sl (some 10) A1 k1 c1 8 (fun t => rowC (if t < i then fixA nx (h' t) else h' t))), (73, .sl (some 10) A1 k1 c1 8 (fun t => rowC (if t < i then fixA nx (h' t) else h' t))), (74, .int .i64 (k1 : Int)), (13, .raw (.map (some bN)))], [], [], [(10, ⟨A1, k1, c1, 8, 40⟩)]⟩ a w1) (fun i => i ≤ k1) (fun i => k1 - i) 0 (Nat.zero_le _) (by subst hB; exact hF0) ?_)
 intro i hi a0 w1 hF
 obtain ⟨hc, hhc⟩ : ∃ x : Nat → RowA, x = fun t => if t < i then fixA nx (h' t) else h' t := ⟨_, rfl⟩
 have ehc : (fun t => rowC (if t < i then fixA nx (h' t) else h' t)) = fun t => rowC (hc t) := by rw [hhc]
 rw [ehc] at hF
 have hci : hc i = h' i := by rw [hhc]; simp
 refine wp_seq (rg hB TA_ok [76, 75, 10, 73, 74, 13] [10] [] hF fun X18 a0 w1 hF => ?_)
 refine wp_seq (test_ok hF rfl (fun hbE hF => ?_) (fun hbE hF => ?_))
 ·have hin : i < k1 := by
   have : (i : Int) < (k1 : Int) := by subst hB; simpa [std, sC] using hbE
   omega
  have eI : B.arith .add .i64 (i : Int) 1 = ((i + 1 : Nat) : Int) := by subst hB; exact wrap_succ (n := k1) hin (by omega)
  refine wp_skip (wp_seq (wp_block (wp_seq (rg hB TA_ok [14, 15, 75, 10, 73, 74, 13] [15, 10] [] hF (fun X19 a0 w1 hF => ?_) (hob := ?hob3)))))
  case hob3 =>
   intro X; subst hB
   repeat (first | exact trivial | refine ⟨rfl, ?_⟩ | refine ⟨(show (0 : Int) ≤ (i : Int) ∧ (i : Int) < (k1 : Int) by omega), ?_⟩)
  have hF := hF.memS (cells' := rowC (hc i)) (by subst hB; exact zl)
  refine wp_seq (rg hB TA_ok [83, 14, 15, 75, 10, 73, 74, 13] [15, 10] [] hF fun X20 a0 w1 hF => ?_)
  refine test_ok hF rfl (fun hbF hF => ?_) (fun hbF hF => ?_)
  ·have hk1' : (h' i).x.r.kd = 1 := by rw [← hci]; subst hB; simpa [std, sC] using hbF
   obtain ⟨nq, hnq⟩ := eqv (nx (hc i).lab)
   have hlq : LabOk (hc i).lab := by
    rw [hci]
    obtain ⟨q, hq, e⟩ := hels' i hin
    rw [e]
    exact hlabs q hq
   have ON := look_ff (K := lmK labAV bN NX) (el := labAV) (l := (hc i).lab) (fun m w h => h) hlq mapl_und zLab_run (fun m w => zLab_ok m w _) (v := labAV nq) (by rw [hnq, hnx])
   simp only [labAV] at ON
   refine wp_region_lit ?_
   refine lpr 0 9 hB TA_ok [92, 89, 75, 10, 73, 74, 13] [10] [(5, .r fun _ => .agg [.int .i64 nq.len, .int .u64 nq.bits])] hF (fun X21 a0 w1 hF => ?_) (hob := ?hob4)
   case hob4 =>
    intro X; subst hB
    repeat (first | exact trivial | refine ⟨rfl, ?_⟩ | refine ⟨ON, ?_⟩ | refine ⟨(show (0 : Int) ≤ (i : Int) ∧ (i : Int) < (k1 : Int) by omega), ?_⟩)
   have hF := hF.headS (v' := .ep A1 i 8 5 (rowC (hc i))) (by subst hB; exact zr) rfl
   have hrowk : Ok _ w1 (.sl (some 10) A1 k1 c1 8 (fun t => rowC (hc t))) := (hF.slot 10 rfl).2
   have hbNr : ownB (.slice A1 k1 c1) ≠ some bN := by
    intro e
    obtain ⟨_, xs, ho⟩ := hF.gr 10 ⟨A1, k1, c1, 8, 40⟩ rfl
    obtain ⟨c', t', f', hcl⟩ := ho.isCells e
    obtain ⟨es, cl, hm⟩ := lmK_map hF.kept
    rw [hm] at hcl; cases hcl
   have hKl := hF.kept
   refine man_rstore rfl rfl rfl rfl hF rfl rfl (.inr rfl) TA_ok rfl rfl hrowk (fun _ _ => rfl) hin (show 5 + 2 ≤ 8 from by decide) (fun w2 hO2 hc2 _ => ?_)
   obtain ⟨h2, hh2⟩ : ∃ x : Nat → RowA, x = fun t => if t < i + 1 then fixA nx (h' t) else h' t := ⟨_, rfl⟩
   have efl : wrC (fun t => rowC (hc t)) i 5 [.int .i64 nq.len, .int .u64 nq.bits] = fun t => rowC (h2 t) := by
    funext t
    rw [hh2]
    unfold wrC
    by_cases hti : t = i
    ·subst hti
     rw [if_pos rfl]
     show List.take 5 (rowC (hc t)) ++ [.int .i64 nq.len, .int .u64 nq.bits] ++ List.drop (5 + 2) (rowC (hc t)) = rowC (if t < t + 1 then fixA nx (h' t) else h' t)
     rw [if_pos (Nat.lt_succ_self t), hnq, hci]
     unfold fixA
     rw [if_pos hk1']
     rfl
    rw [if_neg hti, hhc]
    dsimp only
    by_cases ht2 : t < i
    ·rw [if_pos ht2, if_pos (by omega)]
    rw [if_neg ht2, if_neg (by omega)]
   have hO2 : Own w2 wi.heap.size 40 8 (.slice A1 k1 c1) k1 (rowFlat (fun t => rowC (h2 t)) k1) := by rw [← efl]; exact hO2
   have hgrm2 := grown_free hF
   have hrow2 : Ok (mG mS [] [(10, ⟨A1, k1, c1, 8, 40⟩)]) w2 (.sl (some 10) A1 k1 c1 8 (fun t => rowC (h2 t))) := own_known2 hO2 (fun _ _ => rfl) hgrm2 (fun j hj => by
    obtain ⟨q, hq, e⟩ := hels' j hj
    have h5 := old_ok2 hF noAts hc2 (hokT q hq)
    rw [hh2]
    dsimp only
    split
    ·rw [e]
     unfold fixA
     split
     ·have := recV_cells h5 (rwA q).lab (rwA q).ver
      intro u hu
      simp only [rowC, List.mem_cons, List.not_mem_nil, or_false] at hu
      rcases hu with rfl | rfl | rfl | rfl | rfl | rfl | rfl | rfl
      ·exact ⟨rfl, .int _ _⟩
      ·exact ⟨rfl, .int _ _⟩
      ·exact ⟨rfl, .int _ _⟩
      ·exact ⟨rfl, .int _ _⟩
      ·exact this _ (by simp [rowC, rwA])
      ·exact ⟨rfl, .int _ _⟩
      ·exact ⟨rfl, .int _ _⟩
      exact ⟨rfl, .int _ _⟩
     exact recV_cells h5 _ _
    rw [e]; exact recV_cells h5 _ _) _
   have hF := Fits.rowset (K' := lmK labAV bN NX) (l' := [(75, .int .i64 (i : Int)), (10, .sl (some 10) A1 k1 c1 8 (fun t => rowC (h2 t))), (73, .sl (some 10) A1 k1 c1 8 (fun t => rowC (h2 t))), (74, .int .i64 (k1 : Int)), (13, .raw (.map (some bN)))]) hF hc2 hO2 (hl_cons ⟨(hF.slot 75 rfl).1, .int _ _⟩ (hl_cons ⟨(hF.slot 10 rfl).1, hrow2⟩ (hl_cons ⟨(hF.slot 73 rfl).1, hrow2⟩ (hl_cons ⟨(hF.slot 74 rfl).1, .int _ _⟩ (hl_cons ⟨(hF.slot 13 rfl).1, .raw _⟩ hl_nil))))) (fun k e he => by cases he) (lmL_chg hKl (hc2.block bN (lmK_lt hKl) hbNr))
   refine wpList_nil ?_
   refine rg hB TA_ok [75, 10, 73, 74, 13] [10] [] hF fun X22 a0 w1 hF => ?_
   exact ⟨i + 1, by omega, by omega, by rw [← eI]; rw [hh2] at hF; exact hF⟩
  have hk1' : ¬ (h' i).x.r.kd = 1 := by rw [← hci]; subst hB; simpa [std, sC] using hbF
  refine wp_skip (rg hB TA_ok [75, 10, 73, 74, 13] [10] [] hF fun X21 a0 w1 hF => ?_)
  have e2 : hc = fun t => if t < i + 1 then fixA nx (h' t) else h' t := by
   funext t
   rw [hhc]
   dsimp only
   by_cases ht2 : t < i
   ·rw [if_pos ht2, if_pos (by omega)]
   rw [if_neg ht2]
   by_cases hti : t = i
   ·subst hti
    rw [if_pos (by omega)]
    unfold fixA
    rw [if_neg hk1']
   rw [if_neg (by omega)]
  exact ⟨i + 1, by omega, by omega, by rw [← eI]; rw [e2] at hF; exact hF⟩
 have hik : i = k1 := by
  have : ¬ (i : Int) < (k1 : Int) := by subst hB; simpa [std, sC] using hbE
  omega
 refine wp_exit (wp_seq (rg hB TA_ok [4, 5] [10] [] hF fun X19 a0 w1 hF => ?_))
 have hFf := seg_end hMi (by rw [← hmS]; exact hF.withK (K' := noK) trivial)
 have hRf : rwsA hc k1 = (bld0 n f b).map (fixN (nxP (leavesP (bld0 n f b)))) := by
  rw [h0, ← hTA, ← hfin, ← hlv, ← hnxP]
  show listA RowA.abs hc k1 = (listA RowA.abs h' k1).map (fixN nx)
  unfold listA
  rw [List.map_map]
  apply List.map_congr_left
  intro t ht
  have h5 := List.mem_range.1 ht
  rw [hhc]
  simp only [Function.comp]
  rw [if_pos (by omega), fixA_abs]
 refine wp_ret (rsi hB TA_ok hFf (rwY A1 c1 hc 0) (he := ?_))
 subst hB
 exact Sim.tup ⟨rws_sim hRf, zr, trivial⟩
end Go.Proofs.Ytpgjalaldhlcoaa.Sym
namespace Go.Proofs.Ytpgjalaldhlcoaa.Sym
open Go Go.ChangeShapes Go.WideShapes Go.ChangeAt Go.RowKit Go.Deep Cl
abbrev m0 : Nat → Nat → Prop := fun _ _ => False
theorem u64_wf {n : Int} (h : (Lit.int .u64 n).wf = true) : U64 n := by
 simp [Lit.wf, IntKind.min, IntKind.max, IntKind.signed, IntKind.bits] at h
 exact ⟨by omega, by omega⟩
def OkL (w : World) (l : List AV) : Prop := ∀ v ∈ l, v.one = true ∧ Ok m0 w v
theorem OkL.nil {w : World} : OkL w [] := fun v hv => by cases hv
theorem OkL.cons {w : World} {v : AV} {l : List AV} (h1 : v.one = true) (h2 : Ok m0 w v) (h : OkL w l) : OkL w (v :: l) := by
 intro u hu
 rcases List.mem_cons.1 hu with rfl | hu
 ·exact ⟨h1, h2⟩
 exact h u hu
theorem OkL.int {w : World} {k : IntKind} {x : Int} {l : List AV} (h : OkL w l) : OkL w (.int k x :: l) := .cons rfl (.int _ _) h
theorem OkL.bool {w : World} {b : BE} {l : List AV} (h : OkL w l) : OkL w (.bool b :: l) := .cons rfl (.bool _) h
theorem OkL.append {w : World} {l l' : List AV} (h : OkL w l) (h' : OkL w l') : OkL w (l ++ l') := by
 intro u hu
 rcases List.mem_append.1 hu with hu | hu
 ·exact h u hu
 exact h' u hu
theorem OkL.agg {w : World} {l : List AV} (h : OkL w l) : Ok m0 w (.agg l) := .agg _ (fun v hv => (h v hv).1) fun v hv => (h v hv).2
theorem LabOk.u64 {l : Lab} (h : LabOk l) : U64 l.bits := u64_wf h.2
section
variable {H : Type} {enc : TypeId × Value → H} {w : World} {base : Nat} {spare : Nat → Bool} {held : Bool}
theorem dec_itm (n : Nat) (cs : List Value) (y : DataW H × List MemPlace) (h : DataW.trod enc Try.prog w base spare held n 42 cs = some y) : ∃ x : Itm, cs = itmE x ∧ (x.val.size ≤ maxLen ∧ U64 x.key) := by
 obtain ⟨xs, m, rfl, rfl, hlen, hxl, hf⟩ := DataW.trod_struct Try.underlying42 h
 have hC : Try.prog.cellsOf 42 = 2 := by kernel_rfl
 have h0 : DataW.trod enc Try.prog w base spare held m 34 ((cs.drop 0).take (Try.prog.cellsOf 34)) = xs[0]? := hf 0 _ rfl
 have h1 : DataW.trod enc Try.prog w base spare held m 9 ((cs.drop 1).take (Try.prog.cellsOf 9)) = xs[1]? := hf 1 _ rfl
 rw [hC] at hlen
 rw [show Try.prog.cellsOf 34 = 1 by kernel_rfl] at h0
 rw [show Try.prog.cellsOf 9 = 1 by kernel_rfl] at h1
 match cs, hlen with
 | [c0, c1], _ =>
  match xs, hxl with
  | [y0, y1], _ =>
   obtain ⟨a, e0, _, wa⟩ := DataW.trod_int Try.underlying34 h0
   obtain ⟨s, e1, _, ws⟩ := DataW.trod_string Try.underlying9 h1
   simp at e0 e1
   subst e0; subst e1
   exact ⟨⟨a, s⟩, rfl, ws, u64_wf wa⟩
theorem dec_its (n : Nat) (cs : List Value) (y : DataW H × List MemPlace) (h : DataW.trod enc Try.prog w base spare held n 22 cs = some y) : ∃ (A : Option Addr) (c k : Nat) (f : Nat → Itm), cs = [(AV.sl none A k c 2 (fun i => itC (f i))).den] ∧ Ok m0 w (.sl none A k c 2 (fun i => itC (f i))) ∧ k ≤ maxLen ∧ ∀ t, t < k → U64 (f t).key := by
 obtain ⟨A, c, l, e1, hr, hl, hm, hwf⟩ := trod_list (en := itmE) Try.underlying22 (k := 2) (by kernel_rfl) itmE_len (by decide) dec_itm h
 have hrow : Ok m0 w (rowI A l.length c (itF l)) := rows_ok hl hm (fun x hx => (hwf x hx).1) fun hp => by
  obtain ⟨b, off, hA, _, hc⟩ := hr hp
  exact ⟨b, off, hA, fun j u hu => ⟨hc j u hu, id⟩⟩
 exact ⟨A, c, l.length, itF l, e1, hrow, by omega, fun t ht => by unfold itF; rw [List.getD_eq_getElem?_getD, List.getElem?_eq_getElem ht]; exact (hwf _ (List.getElem_mem ht)).2⟩
variable {r : Reach} {b0 : Nat} {v : Value} {d : DataW H} {p : List MemPlace}
def InIts (w : World) (v : Value) : Prop := ∃ (A : Option Addr) (n c : Nat) (f : Nat → Itm), v = (rowI A n c f).den ∧ Ok m0 w (rowI A n c f) ∧ n ≤ maxLen ∧ ∀ i, i < n → U64 (f i).key
def InI (v : Value) : Prop := ∃ n : Int, v = .int .i64 n ∧ (Lit.int .i64 n).wf = true
def InU (v : Value) : Prop := ∃ n : Int, v = .int .u64 n ∧ U64 n
instance : Inhabited RowA := ⟨⟨⟨0, 0⟩, 0, zRA⟩⟩
theorem in_its (hv : Value.okWide Try.prog w r b0 22 v) (h : DataW.Trod enc Try.prog w base spare held 22 v d p) : InIts w v := by
 obtain ⟨a, len, cap, rfl⟩ := okWide_slice Try.underlying22 hv
 obtain ⟨fuel, hf⟩ := h
 obtain ⟨A, c, k, f, e1, hr, hm, hk⟩ := dec_its _ _ _ hf
 simp only [Value.cells, List.cons.injEq, and_true] at e1
 rw [e1]
 exact ⟨A, k, c, f, rfl, hr, hm, hk⟩
theorem in_i (hv : Value.okWide Try.prog w r b0 3 v) (h : DataW.Trod enc Try.prog w base spare held 3 v d p) : InI v := in_int Try.underlying3 hv h
theorem in_u (hv : Value.okWide Try.prog w r b0 34 v) (h : DataW.Trod enc Try.prog w base spare held 34 v d p) : InU v := by
 obtain ⟨n, e, hw⟩ := in_int Try.underlying34 hv h
 exact ⟨n, e, u64_wf hw⟩
end
end Go.Proofs.Ytpgjalaldhlcoaa.Sym
namespace Go.Proofs.Ytpgjalaldhlcoaa.Sym
open Go Go.RowKit
def g3F : Nat → Itm := fun t => match t with | 0 => ⟨1, ⟨#[]⟩⟩ | 1 => ⟨2, ⟨#[]⟩⟩ | _ => ⟨9223372036854775808, ⟨#[]⟩⟩
def g2F : Nat → Itm := fun _ => ⟨1, ⟨#[]⟩⟩
def g3R : List Rw := [⟨⟨0, 0⟩, 1, ⟨2, [], noneL, 0⟩⟩, ⟨⟨1, 0⟩, 1, ⟨1, [⟨1, ⟨#[]⟩⟩, ⟨2, ⟨#[]⟩⟩], ⟨1, 9223372036854775808⟩, 0⟩⟩, ⟨⟨1, 9223372036854775808⟩, 1, ⟨1, [⟨9223372036854775808, ⟨#[]⟩⟩], noneL, 0⟩⟩]
theorem g3_rows : bldR 3 g3F 2 = g3R := by kernel_rfl
theorem g3_err : bldE 3 g3F 2 = 0 := by kernel_rfl
theorem g2_err : bldE 2 g2F 2 = 1 := by kernel_rfl
theorem g3_items : itemsP g3R = firsts g3F 3 := by kernel_rfl
theorem g3_itemsE : itemsE g3R = 0 := by kernel_rfl
theorem g3_well : wellP g3R 2 = true := by kernel_rfl
theorem g3_well1 : wellP g3R 1 = false := by kernel_rfl
theorem g3_is : isRw g3R = true := by kernel_rfl
theorem g3_lv : (leavesP g3R).length = 2 := by kernel_rfl
theorem rw_in {l : List Rw} (h : ∀ w ∈ l, w.r.items.length ≤ 1000000 ∧ LabOk w.lab ∧ U64 w.lab.bits ∧ U64 w.r.next.bits) (y : Atom) : RwN l.length (rwAt y l) := by
 intro i hi
 unfold rwAt
 rw [List.getD_eq_getElem?_getD, List.getElem?_eq_getElem hi]
 exact h _ (List.getElem_mem hi)
theorem rw_inK {l : List Rw} (h : ∀ w ∈ l, ∀ x ∈ w.r.items, U64 x.key) (y : Atom) : RwK l.length (rwAt y l) := by
 intro i hi t ht
 unfold rwAt at ht ⊢
 rw [List.getD_eq_getElem?_getD, List.getElem?_eq_getElem hi] at ht ⊢
 have ht : t < (l[i].r.items).length := ht
 show U64 ((l[i].r.items).getD t zeroItm).key
 rw [List.getD_eq_getElem?_getD, List.getElem?_eq_getElem ht]
 exact h _ (List.getElem_mem hi) _ (List.getElem_mem ht)
theorem g3_n (y : Atom) : RwN 3 (rwAt y g3R) := rw_in (l := g3R) (by
 intro w hw
 simp only [g3R, List.mem_cons, List.not_mem_nil, or_false] at hw
 rcases hw with rfl | rfl | rfl <;> exact ⟨by decide, labOk_is (by decide) ⟨by decide, by decide⟩, ⟨by decide, by decide⟩, ⟨by decide, by decide⟩⟩) y
theorem g3_k (y : Atom) : RwK 3 (rwAt y g3R) := rw_inK (l := g3R) (by
 intro w hw
 simp only [g3R, List.mem_cons, List.not_mem_nil, or_false] at hw
 rcases hw with rfl | rfl | rfl
 ·intro x hx; cases hx
 ·intro x hx
  simp only [List.mem_cons, List.not_mem_nil, or_false] at hx
  rcases hx with rfl | rfl <;> exact ⟨by decide, by decide⟩
 intro x hx
 simp only [List.mem_cons, List.not_mem_nil, or_false] at hx
 rcases hx with rfl; exact ⟨by decide, by decide⟩) y
theorem g3_same {IP : List Itm} (h : IP = firsts g3F 3) : sameF IP.length (itF IP) 3 g3F = true := by
 subst h
 refine sameF_yes (by rw [firsts_len]) fun i hi => ?_
 rw [firsts_len] at hi
 exact firsts_get _ _ i hi
theorem grown_s : Spec Try.prog 8 [] (fun _ => .bool (.v true)) := by
 intro m w hm hargs
 have hmx : maxLen = 9223372036854775807 := rfl
 obtain ⟨f3, hf3⟩ := eqv (g3F)
 obtain ⟨f2, hf2⟩ := eqv (g2F)
 obtain ⟨RF, hRF⟩ : ∃ RF : Atom → Nat → RowA, RF = fun y => rwAt y g3R := ⟨_, rfl⟩
 have hRy : ∀ y, rwAt y g3R = RF y := fun y => by rw [hRF]
 have hRR : ∀ y, rwsA (RF y) 3 = g3R := fun y => by rw [hRF]; exact rwsA_rwAt y g3R
 have SB := fun (A : Option Addr) (c : Nat) => build_s A 3 c g3F (by decide) (fun i hi => by match i, hi with | 0, _ => exact ⟨by decide, by decide⟩ | 1, _ => exact ⟨by decide, by decide⟩ | 2, _ => exact ⟨by decide, by decide⟩) 2
 simp only [g3_rows, g3_err, show g3R.length = 3 from rfl, hRy] at SB
 simp only [← hf3] at SB
 have SB2 := fun (A : Option Addr) (c : Nat) => build_s A 2 c g2F (by decide) (fun i hi => ⟨by show (0 : Int) ≤ 1; decide, by show (1 : Int) < _; decide⟩) 2
 obtain ⟨R2, hR2⟩ := eqv (bldR 2 g2F 2)
 obtain ⟨n2, hn2⟩ := eqv (R2.length)
 obtain ⟨RG, hRG⟩ : ∃ RG : Atom → Nat → RowA, RG = fun y => rwAt y R2 := ⟨_, rfl⟩
 have hRz : ∀ y, rwAt y R2 = RG y := fun y => by rw [hRG]
 simp only [g2_err] at SB2
 simp only [← hR2] at SB2
 simp only [← hn2, hRz] at SB2
 simp only [← hf2] at SB2
 have hN : ∀ y, RwN 3 (RF y) := fun y => by rw [← hRy]; exact g3_n y
 have hK : ∀ y, RwK 3 (RF y) := fun y => by rw [← hRy]; exact g3_k y
 obtain ⟨IP, hIP⟩ := eqv (itemsP g3R)
 obtain ⟨kf, hkf⟩ := eqv (itF IP)
 obtain ⟨kn, hkn⟩ := eqv (IP.length)
 have SI := fun (y : Atom) (A : Option Addr) (c : Nat) => items_s A 3 c (RF y) (by decide) (hN y) (hK y)
 simp only [hRR, ← hIP, g3_itemsE, ← hkf, ← hkn] at SI
 have SW2 := fun (y : Atom) (A : Option Addr) (c : Nat) => well_s A 3 c (RF y) (by decide) (hN y) (hK y) 2
 simp only [hRR, g3_well] at SW2
 have SW1 := fun (y : Atom) (A : Option Addr) (c : Nat) => well_s A 3 c (RF y) (by decide) (hN y) (hK y) 1
 simp only [hRR, g3_well1] at SW1
 have ST := fun (y : Atom) (A : Option Addr) (c : Nat) => tis_s A 3 c (RF y) (by decide) (hN y)
 simp only [hRR, g3_is] at ST
 obtain ⟨lf, hlf⟩ := eqv (labF (leavesP g3R))
 have SL := fun (y : Atom) (A : Option Addr) (c : Nat) => leaves_s A 3 c (RF y) (by decide)
 simp only [hRR, g3_lv, ← hlf] at SL
 have h16 : 16 ≤ maxLen := by decide
 have hkn3 : kn = 3 := by rw [hkn, hIP, g3_items, firsts_len]
 have SS := fun (A A2 : Option Addr) (c c2 : Nat) => same7_s A kn c kf (by omega) A2 3 c2 g3F
 rw [hkn, hkf, g3_same (by rw [hIP, g3_items]), ← hkn, ← hkf] at SS
 simp only [← hf3] at SS
 simp only [rowI] at SB SB2 SI SS
 have v0 : ∀ y, (RF y 0).x.r.kd = 2 := fun y => by rw [← hRy]; rfl
 have v1 : ∀ y, (RF y 1).x.r.n = 2 := fun y => by rw [← hRy]; rfl
 have v2 : ∀ y, (RF y 1).x.r.nx = (RF y 2).lab := fun y => by rw [← hRy]; rfl
 refine en 95 hm hargs Try.func8 fun B hB a0 hF => ?_
 refine wp_seq (rg hB TA_ok [] [] [] hF fun X0 a0 w1 hF => ?_)
 refine wp_seq (rg hB TA_ok [1] [11] [] hF fun X1 a0 w1 hF => ?_)
 replace hF := hF.headS (v' := .sl none _ 3 _ 2 (fun t => itC (f3 t))) (Sim.recell (fun i hi => by subst hB; rw [hf3]; match i, hi with | 0, _ => rfl | 1, _ => rfl | 2, _ => rfl)) rfl
 refine wp_seq (rg hB TA_ok [2, 3, 1] [11] [(1, .r fun y => .tup [.sl none (y.A 0) 3 (y.c 0) 8 (fun i => rowC (RF y i)), .int .i64 0])] hF (hob := ?hob) fun X2 a0 w1 hF => ?_)
 case hob =>
  intro X
  subst hB
  repeat (first | exact trivial | refine ⟨rfl, ?_⟩ | refine ⟨fun _ => rfl, ?_⟩ | refine ⟨⟨fun _ _ => by kernel_rfl, SB _ _⟩, ?_⟩ | refine ⟨fun _ => ⟨fun _ _ => by kernel_rfl, SB _ _⟩, ?_⟩ | refine ⟨fun _ => ob_lab (Kk := noK) _ _ _ _, ?_⟩ | refine ⟨fun _ => ⟨by decide, by decide⟩, ?_⟩)
 refine wp_seq (rg hB TA_ok [5, 2, 3, 1] [11, 20] [(3, .r fun y => .tup [.sl none (y.A 0) n2 (y.c 0) 8 (fun i => rowC (RG y i)), .int .i64 1])] hF (hob := ?hob) fun X3 a0 w1 hF => ?_)
 case hob =>
  intro X
  subst hB
  repeat (first | exact trivial | refine ⟨rfl, ?_⟩ | refine ⟨fun _ => rfl, ?_⟩ | refine ⟨⟨fun _ _ => by kernel_rfl, ((SB2 _ _).args' ⟨Sim.recell (fun i hi => by rw [hf2]; match i, hi with | 0, _ => rfl | 1, _ => rfl), zr, trivial⟩)⟩, ?_⟩ | refine ⟨fun _ => ⟨fun _ _ => by kernel_rfl, ((SB2 _ _).args' ⟨Sim.recell (fun i hi => by rw [hf2]; match i, hi with | 0, _ => rfl | 1, _ => rfl), zr, trivial⟩)⟩, ?_⟩ | refine ⟨fun _ => ob_lab (Kk := noK) _ _ _ _, ?_⟩ | refine ⟨fun _ => ⟨by decide, by decide⟩, ?_⟩)
 refine wp_seq (wp_seq (rg hB TA_ok [42, 2, 1] [11] [] hF (hob := ?hob) fun X4 a0 w1 hF => ?_))
 case hob =>
  intro X
  subst hB
  repeat (first | exact trivial | refine ⟨rfl, ?_⟩ | refine ⟨fun _ => ⟨by decide, by decide⟩, ?_⟩)
 apply test_ok hF rfl <;> intro hb hF
 ·have h9 : (RF (X2 1) 0).x.r.kd ≠ 2 := by subst hB; revert hb; simp [std, sC]
  have hfl : False := h9 (v0 _)
  refine wp_seq (rg hB TA_ok [0] [] [] hF fun X5 a0 w1 hF => ?_)
  refine wp_ret ((rsi hB TA_ok hF nAt (he := ?_)))
  exact hfl.elim
 refine wp_skip (wp_seq (rg hB TA_ok [6, 7, 2, 1] [11] [(1, .r fun y => .tup [.sl none (y.A 0) kn (y.c 0) 2 (fun t => itC (kf t)), .int .i64 0])] hF (hob := ?hob) fun X6 a0 w1 hF => ?_))
 case hob =>
  intro X
  subst hB
  repeat (first | exact trivial | refine ⟨rfl, ?_⟩ | refine ⟨fun _ => rfl, ?_⟩ | refine ⟨⟨fun _ _ => by kernel_rfl, SI _ _ _⟩, ?_⟩ | refine ⟨fun _ => ⟨fun _ _ => by kernel_rfl, SI _ _ _⟩, ?_⟩ | refine ⟨fun _ => ob_lab (Kk := noK) _ _ _ _, ?_⟩ | refine ⟨fun _ => ⟨by decide, by decide⟩, ?_⟩)
 refine wp_seq (drg hB TA_ok [0] [] [(5, .r fun _ => .bool (.v true)), (9, .r fun _ => .bool (.v true)), (13, .r fun _ => .bool (.v false)), (18, .r fun _ => .bool (.v true)), (22, .r fun y => .sl none (y.A 0) 2 (y.c 0) 2 (fun t => labC (lf t)))] hF (hob := ?hob) fun X7 a0 w1 hF => ?_)
 case hob =>
  intro X
  subst hB
  repeat (first | exact trivial | refine ⟨rfl, ?_⟩ | refine ⟨fun _ => rfl, ?_⟩ | refine ⟨⟨fun _ _ => by kernel_rfl, SS _ _ _ _⟩, ?_⟩ | refine ⟨fun _ => ⟨fun _ _ => by kernel_rfl, SS _ _ _ _⟩, ?_⟩ | refine ⟨⟨fun _ _ => by kernel_rfl, SW2 _ _ _⟩, ?_⟩ | refine ⟨fun _ => ⟨fun _ _ => by kernel_rfl, SW2 _ _ _⟩, ?_⟩ | refine ⟨⟨fun _ _ => by kernel_rfl, SW1 _ _ _⟩, ?_⟩ | refine ⟨fun _ => ⟨fun _ _ => by kernel_rfl, SW1 _ _ _⟩, ?_⟩ | refine ⟨⟨fun _ _ => by kernel_rfl, ST _ _ _⟩, ?_⟩ | refine ⟨fun _ => ⟨fun _ _ => by kernel_rfl, ST _ _ _⟩, ?_⟩ | refine ⟨⟨fun _ _ => by kernel_rfl, SL _ _ _⟩, ?_⟩ | refine ⟨fun _ => ⟨fun _ _ => by kernel_rfl, SL _ _ _⟩, ?_⟩ | refine ⟨fun _ => ob_lab (Kk := noK) _ _ _ _, ?_⟩ | refine ⟨fun _ => ⟨by decide, by decide⟩, ?_⟩)
 refine wp_ret ((rsi hB TA_ok hF nAt (he := ?_)))
 subst hB
 refine Sim.bool ?_
 simp [std, sC, v1, v2, eqL_lab, BE.den]
def sumV (f : Nat → Itm) : Nat → Int
 | 0 => 0
 | i + 1 => IntKind.i64.wrap (sumV f i + ((f i).val.size : Int))
def fewB (n : Nat) (f : Nat → Itm) : Bool := if n ≤ 60 then decide (sumV f n ≤ 5000) else false
theorem few_le {n : Nat} {f : Nat → Itm} (h : fewB n f = true) : n ≤ 60 := by
 unfold fewB at h
 split at h
 ·assumption
 cases h
theorem few_s (A : Option Addr) (n c : Nat) (f : Nat → Itm) (hn : n ≤ maxLen) : Spec Try.prog 6 [rowI A n c f] (fun _ => .bool (.v (fewB n f))) := by
 intro m w hm hargs
 have hmx : maxLen = 9223372036854775807 := rfl
 unfold rowI at hargs
 refine en 31 hm hargs Try.func6 fun B hB a0 hF => ?_
 refine wp_seq (rg hB TA_ok [0] [] [] hF fun X0 a0 w1 hF => ?_)
 refine wp_seq (rg hB TA_ok [3, 0] [] [] hF fun X1 a0 w1 hF => ?_)
 refine wp_seq (wp_seq (rg hB TA_ok [3, 4, 0] [] [] hF fun X2 a0 w1 hF => ?_))
 refine wp_block (loop_pre (ι := Nat) (fun p => [(3, .int .i64 (sumV f p)), (4, .int .i64 (p : Int))]) (fun p => []) (fun p => []) (fun p => p ≤ n) (fun p => n - p) 0 (Nat.zero_le _) hF ?_)
 rintro i hi a0 w1 hF
 try dsimp only at hi
 obtain ⟨sv, hsv⟩ := eqv (sumV f i)
 rw [← hsv] at hF
 refine wp_seq (wp_seq (rg hB TA_ok [13, 3, 4, 0] [] [] hF (hob := ?hob) fun X3 a0 w1 hF => ?_))
 case hob =>
  intro X
  subst hB
  repeat (first | exact trivial | refine ⟨rfl, ?_⟩ | refine ⟨fun _ => rfl, ?_⟩)
 apply test_ok hF rfl <;> intro hb hF
 ·have h9 : (i : Int) < (n : Int) ∧ (n : Int) ≤ 60 := by subst hB; simpa [std, sC] using hb
  have hin : i < n := by omega
  refine wp_skip (wp_seq (wp_block ?_))
  refine rg hB TA_ok [3, 4, 0] [] [] hF (hob := by intro X; subst hB; simp only [AO, Ob.holds, BE.den] <;> and_intros <;> repeat first | trivial | rfl | exact (show (0 : Int) ≤ (i : Int) by omega) | exact (show (i : Int) < (n : Int) by omega) | exact (fun _ _ => by kernel_rfl) | refine ⟨?_, ?_⟩ | intro h | exact Int.le_refl _ | decide | omega) fun X5 a0 w1 hF => ?_
  refine rg hB TA_ok [3, 4, 0] [] [] hF fun X4 a0 w1 hF => ?_
  have e : B.arith .add .i64 (i : Int) 1 = ((i + 1 : Nat) : Int) := by subst hB; exact wrap_succ (n := n) hin (by omega)
  have e2 : B.arith .add .i64 sv (B.ofNat (B.slen (f (B.toNat (i : Int))).val)) = sumV f (i + 1) := by subst hB; rw [hsv]; rfl
  refine ⟨i + 1, by omega, by omega, by rw [← e, ← e2]; exact hF⟩
 have h9 : (i : Int) < (n : Int) → ¬ (n : Int) ≤ 60 := by subst hB; simpa [std, sC] using hb
 have hW : fewB n f = (if decide ((n : Int) ≤ 60) = true then decide (sv ≤ 5000) else false) := by
  unfold fewB
  by_cases h : n ≤ 60
  ·have : i = n := by by_cases g : i < n; (· exact absurd (show (n : Int) ≤ 60 by omega) (h9 (by omega))); (· omega)
   subst this
   rw [if_pos h, decide_eq_true (show (i : Int) ≤ 60 by omega), if_pos rfl, hsv]
  rw [if_neg h, decide_eq_false (show ¬ (n : Int) ≤ 60 by omega)]; rfl
 refine wp_exit (wp_seq (rg hB TA_ok [2] [] [] hF (hob := ?hob) fun X6 a0 w1 hF => ?_))
 case hob =>
  intro X
  subst hB
  repeat (first | exact trivial | refine ⟨rfl, ?_⟩ | refine ⟨fun _ => rfl, ?_⟩)
 refine wp_ret ((rsi hB TA_ok hF nAt (he := ?_)))
 subst hB
 rw [hW]
 exact Sim.bool rfl
theorem find_rev {l : List Rw} (h : (l.map (·.lab)).Nodup) (q : Lab) : l.reverse.find? (fun w => decide (w.lab = q)) = l.find? fun w => decide (w.lab = q) := by
 induction l with
 | nil => rfl
 | cons v l ih =>
  rw [List.map_cons, List.nodup_cons] at h
  rw [List.reverse_cons, List.find?_append, ih h.2, List.find?_cons]
  by_cases hv : v.lab = q
  ·subst hv
   rw [show l.find? (fun w => decide (w.lab = v.lab)) = none from by
    rw [List.find?_eq_none]
    intro w hw he
    exact h.1 (List.mem_map.2 ⟨w, hw, of_decide_eq_true he⟩)]
   simp
  simp [hv]
theorem treP_at {l : List Rw} (h : (l.map (·.lab)).Nodup) {w : Rw} (hw : w ∈ l) : treP l w.lab = some w.r := by
 unfold treP
 rw [find_rev h]
 induction l with
 | nil => cases hw
 | cons v l ih =>
  rw [List.map_cons, List.nodup_cons] at h
  rw [List.find?_cons]
  rcases List.mem_cons.1 hw with rfl | hw
  ·simp
  have hne : ¬ v.lab = w.lab := fun he => h.1 (List.mem_map.2 ⟨w, hw, he.symm⟩)
  simp only [decide_eq_false hne]
  exact ih h.2 hw
theorem nexA_get (g : Nat → Lab) (n : Nat) (hd : ∀ i j, i < n → j < n → g i = g j → i = j) : ∀ k, k ≤ n → ∀ i, i < k → getA (g i) (nexA g n k) = some (if i + 1 < n then g (i + 1) else noneL)
 | 0, _, i, hi => absurd hi (Nat.not_lt_zero _)
 | k + 1, hk, i, hi => by
  unfold nexA
  rw [getA_set]
  by_cases h : i = k
  ·subst h; rw [if_pos rfl]
  rw [if_neg (fun e => h (hd k i (by omega) (by omega) e).symm)]
  exact nexA_get g n hd k (by omega) i (by omega)
theorem labF_mem {l : List Lab} {q : Lab} (h : q ∈ l) : ∃ i, i < l.length ∧ labF l i = q := by
 obtain ⟨i, hi, he⟩ := List.mem_iff_getElem.1 h
 exact ⟨i, hi, by unfold labF; rw [List.getD_eq_getElem?_getD, List.getElem?_eq_getElem hi]; exact he⟩
theorem labF_inj {l : List Lab} (h : l.Nodup) : ∀ i j, i < l.length → j < l.length → labF l i = labF l j → i = j := by
 intro i j hi hj he
 unfold labF at he
 rw [List.getD_eq_getElem?_getD, List.getD_eq_getElem?_getD, List.getElem?_eq_getElem hi, List.getElem?_eq_getElem hj] at he
 have hp := List.pairwise_iff_getElem.1 h
 rcases Nat.lt_trichotomy i j with hij | hij | hij
 ·exact absurd he (hp i j hi hj hij)
 ·exact hij
 exact absurd he.symm (hp j i hj hi hij)
structure Und (q k : Lab) : Prop where
 is : isL k = true
 u : U64 k.bits
 len : q.len ≤ k.len
 cov : coverB q k.bits = true
theorem und_self {q : Lab} (hl : isL q = true) (hb : U64 q.bits) : Und q q := ⟨hl, hb, Int.le_refl _, cov_self hl hb⟩
theorem headN_le2 {v n m : Nat} (hnm : n ≤ m) : headN (headN v m) n = headN v n := by
 apply Nat.eq_of_testBit_eq
 intro i
 rw [testBit_head, testBit_head, testBit_head]
 by_cases h : 64 - n ≤ i
 ·rw [decide_eq_true h, decide_eq_true (show 64 - m ≤ i by omega)]; simp
 rw [decide_eq_false h]; simp
theorem cov_in {q k : Lab} (h : Und q k) (hq : isL q = true) {key : Int} (hc : coverB k key = true) : coverB q key = true := by
 obtain ⟨h0, h1, h2⟩ := lab_parts hq
 obtain ⟨g0, g1, g2⟩ := lab_parts h.is
 have hcv := h.cov
 unfold coverB at hc hcv ⊢
 simp only [Bool.and_eq_true, decide_eq_true_eq] at hc hcv ⊢
 refine ⟨hq, ?_⟩
 have e1 : headN key.toNat k.len.toNat = k.bits.toNat := by have := hc.2; omega
 have e2 : headN k.bits.toNat q.len.toNat = q.bits.toNat := by have := hcv.2; omega
 have e3 : headN (headN key.toNat k.len.toNat) q.len.toNat = headN key.toNat q.len.toNat := headN_le2 (by have := h.len; omega)
 rw [e1] at e3
 have := hcv.2
 omega
theorem und_kid {q k : Lab} (hq : isL q = true) (hb : U64 q.bits) (h64 : q.len ≠ 64) {b : Int} (h : Und (childL q b) k) : Und q k ∧ q.len < k.len := by
 have hlen : (childL q b).len = q.len + 1 := rfl
 have := h.len
 exact ⟨⟨h.is, h.u, by omega, cov_up hq hb h64 b h.cov⟩, by omega⟩
theorem und_ge {q k : Lab} (h : Und q k) : q.bits ≤ k.bits := by
 have hc := h.cov
 unfold coverB at hc
 simp only [Bool.and_eq_true, decide_eq_true_eq] at hc
 have h1 := headN_le k.bits.toNat q.len.toNat
 have h2 := hc.2
 have := h.u.1
 omega
theorem und_less {q k : Lab} (h : Und q k) (hlt : q.len < k.len) : lessL q k = true := by
 have := und_ge h
 unfold lessL
 simp only [Bool.or_eq_true, Bool.and_eq_true, decide_eq_true_eq]
 omega
theorem und_mid {q k0 k1 : Lab} (hq : isL q = true) (hb : U64 q.bits) (h64 : q.len ≠ 64) (h0 : Und (childL q 0) k0) (h1 : Und (childL q 1) k1) : k0.bits < k1.bits := by
 have c0 := (child_cov hq hb h64 h0.u (und_kid hq hb h64 h0).1.cov).1
 have c1 := (child_cov hq hb h64 h1.u (und_kid hq hb h64 h1).1.cov).2
 rw [h0.cov] at c0
 rw [h1.cov] at c1
 have a0 := of_decide_eq_true c0.symm
 have a1 := of_decide_eq_true c1.symm
 omega
def nodes (b : Int) : Nat → List Itm → Lab → List (Lab × Rec)
 | 0, _, _ => []
 | n + 1, l, q => if (l.length : Int) ≤ b ∨ q.len = 64 then [(q, leafR l)] else (q, innR) :: (nodes b n (covL (childL q 0) l) (childL q 0) ++ nodes b n (covL (childL q 1) l) (childL q 1))
structure Gro (n : Nat) (q : Lab) : Prop where
 is : isL q = true
 u : U64 q.bits
 fu : 65 ≤ n + q.len
theorem Gro.child {n : Nat} {q : Lab} (h : Gro (n + 1) q) (h64 : q.len ≠ 64) (b : Int) : Gro n (childL q b) :=
 ⟨child_isL h.is h.u h64 b, child_u h.is h.u h64 b, by have := h.fu; show 65 ≤ (n : Int) + (q.len + 1); omega⟩
theorem Gro.pos {q : Lab} (h : Gro 0 q) : False := by
 have := h.fu; have := (lab_parts h.is).2.1; omega
theorem nodes_und {b : Int} : ∀ {n : Nat} {l : List Itm} {q : Lab}, Gro n q → ∀ p ∈ nodes b n l q, Und q p.1
 | 0, l, q, h, p, hp => by cases hp
 | n + 1, l, q, h, p, hp => by
  unfold nodes at hp
  split at hp
  ·simp only [List.mem_cons, List.not_mem_nil, or_false] at hp
   subst hp; exact und_self h.is h.u
  rename_i hn
  have h64 : q.len ≠ 64 := fun e => hn (.inr e)
  rcases List.mem_cons.1 hp with rfl | hp
  ·exact und_self h.is h.u
  rcases List.mem_append.1 hp with hp | hp
  ·exact (und_kid h.is h.u h64 (nodes_und (h.child h64 0) p hp)).1
  exact (und_kid h.is h.u h64 (nodes_und (h.child h64 1) p hp)).1
theorem nodes_sorted {b : Int} : ∀ {n : Nat} {l : List Itm} {q : Lab}, Gro n q → (nodes b n l q).Pairwise fun x y => lessL x.1 y.1 = true
 | 0, l, q, h => .nil
 | n + 1, l, q, h => by
  unfold nodes
  split
  ·exact List.pairwise_singleton _ _
  rename_i hn
  have h64 : q.len ≠ 64 := fun e => hn (.inr e)
  refine List.pairwise_cons.2 ⟨fun p hp => ?_, List.pairwise_append.2 ⟨nodes_sorted (h.child h64 0), nodes_sorted (h.child h64 1), fun x hx y hy => ?_⟩⟩
  ·rcases List.mem_append.1 hp with hp | hp
   ·have := und_kid h.is h.u h64 (nodes_und (h.child h64 0) p hp)
    exact und_less this.1 this.2
   have := und_kid h.is h.u h64 (nodes_und (h.child h64 1) p hp)
   exact und_less this.1 this.2
  have := und_mid h.is h.u h64 (nodes_und (h.child h64 0) x hx) (nodes_und (h.child h64 1) y hy)
  unfold lessL
  rw [decide_eq_true this]; rfl
theorem nodes_dist {b : Int} {n : Nat} {l : List Itm} {q : Lab} (h : Gro n q) : ((nodes b n l q).map (·.1)).Nodup := by
 unfold List.Nodup
 rw [List.pairwise_map]
 exact (nodes_sorted h).imp fun h => less_ne h
theorem nodes_head {b : Int} {n : Nat} {l : List Itm} {q : Lab} : ∃ r, (q, r) ∈ nodes b (n + 1) l q := by
 unfold nodes
 split
 ·exact ⟨_, List.mem_singleton.2 rfl⟩
 exact ⟨_, List.mem_cons_self ..⟩
theorem setA_new {α : Type} {q : Lab} {x : α} : ∀ {T : List (Lab × α)}, q ∉ T.map (·.1) → setA q x T = T ++ [(q, x)]
 | [], _ => rfl
 | p :: T, h => by
  rw [List.map_cons, List.mem_cons, not_or] at h
  unfold setA
  rw [if_neg (fun e => h.1 e.symm), setA_new h.2]; rfl
theorem grow_nodes {b : Int} : ∀ {n : Nat} {l : List Itm} {q : Lab} {T : List (Lab × Rec)}, Gro n q → (∀ p ∈ nodes b n l q, p.1 ∉ T.map (·.1)) →
  if T.length + (nodes b n l q).length ≤ 2000 then growP b n l q T = (true, T ++ nodes b n l q) else (growP b n l q T).1 = false
 | 0, l, q, T, h, _ => h.pos.elim
 | n + 1, l, q, T, h, hT => by
  by_cases hfull : 2000 ≤ T.length
  ·obtain ⟨r, hr⟩ := nodes_head (b := b) (n := n) (l := l) (q := q)
   have := List.length_pos_of_mem hr
   rw [if_neg (by omega), grow_full hfull]
  by_cases h1 : (l.length : Int) ≤ b ∨ q.len = 64
  ·have hN : nodes b (n + 1) l q = [(q, leafR l)] := by unfold nodes; exact if_pos h1
   rw [hN] at hT ⊢
   rw [if_pos (by simp only [List.length_cons, List.length_nil]; omega), grow_leaf hfull h1, setA_new (hT _ (List.mem_singleton.2 rfl))]
  have h64 : q.len ≠ 64 := fun e => h1 (.inr e)
  have hce : chE q 0 = 0 := by unfold chE; rw [h.is]; simp [h64]
  have hcv : ∀ i : Nat, chV q (i : Nat) = childL q (i : Nat) := fun i => (ch_ok hce).2.2 _
  have hN : nodes b (n + 1) l q = (q, innR) :: (nodes b n (covL (childL q 0) l) (childL q 0) ++ nodes b n (covL (childL q 1) l) (childL q 1)) := by rw [nodes.eq_2]; exact if_neg h1
  obtain ⟨N0, hN0⟩ := eqv (nodes b n (covL (childL q 0) l) (childL q 0))
  obtain ⟨N1, hN1⟩ := eqv (nodes b n (covL (childL q 1) l) (childL q 1))
  have hsr := nodes_sorted (b := b) (l := l) h
  rw [hN, ← hN0, ← hN1] at hT hsr
  rw [hN, ← hN0, ← hN1]
  have hs1 := List.pairwise_cons.1 hsr
  have hs2 := List.pairwise_append.1 hs1.2
  have hT0 : gT b n l q T 0 = T ++ [(q, innR)] := setA_new (hT _ (List.mem_cons_self ..))
  have i0 := grow_nodes (b := b) (l := covL (childL q 0) l) (T := T ++ [(q, innR)]) (h.child h64 0) (by
   rw [← hN0]
   intro p hp hm
   rw [List.map_append, List.mem_append] at hm
   rcases hm with hm | hm
   ·exact hT p (List.mem_cons_of_mem _ (List.mem_append_left _ hp)) hm
   simp at hm
   exact less_ne (hs1.1 p (List.mem_append_left _ hp)) hm.symm)
  rw [← hN0] at i0
  rw [grow_in hfull h1 hce]
  have hB0 : gB b n l q T 0 = (growP b n (covL (childL q 0) l) (childL q 0) (T ++ [(q, innR)])).1 := by unfold gB; rw [hT0, hcv]; rfl
  have hT1 : gT b n l q T 1 = (growP b n (covL (childL q 0) l) (childL q 0) (T ++ [(q, innR)])).2 := by
   show (growP b n (covL (chV q ((0 : Nat) : Int)) l) (chV q ((0 : Nat) : Int)) (gT b n l q T 0)).2 = _
   rw [hT0, hcv]; rfl
  have hB1 : gB b n l q T 1 = (growP b n (covL (childL q 1) l) (childL q 1) (gT b n l q T 1)).1 := by unfold gB; rw [hcv]; rfl
  have hT2 : gT b n l q T 2 = (growP b n (covL (childL q 1) l) (childL q 1) (gT b n l q T 1)).2 := by
   show (growP b n (covL (chV q ((1 : Nat) : Int)) l) (chV q ((1 : Nat) : Int)) (gT b n l q T 1)).2 = _
   rw [hcv]; rfl
  simp only [List.length_append, List.length_cons, List.length_nil] at i0 ⊢
  by_cases hl0 : T.length + (0 + 1) + N0.length ≤ 2000
  ·rw [if_pos hl0] at i0
   rw [i0] at hB0 hT1
   rw [hB0, if_pos rfl, hB1, hT2, hT1]
   have i1 := grow_nodes (b := b) (l := covL (childL q 1) l) (T := T ++ [(q, innR)] ++ N0) (h.child h64 1) (by
    rw [← hN1]
    intro p hp hm
    rw [List.map_append, List.map_append, List.mem_append, List.mem_append] at hm
    rcases hm with (hm | hm) | hm
    ·exact hT p (List.mem_cons_of_mem _ (List.mem_append_right _ hp)) hm
    ·simp at hm
     exact less_ne (hs1.1 p (List.mem_append_right _ hp)) hm.symm
    obtain ⟨p0, hp0, he⟩ := List.mem_map.1 hm
    exact less_ne (hs2.2.2 p0 hp0 p hp) he)
   rw [← hN1] at i1
   simp only [List.length_append, List.length_cons, List.length_nil] at i1
   by_cases hl1 : T.length + (0 + 1) + N0.length + N1.length ≤ 2000
   ·rw [if_pos hl1] at i1
    rw [if_pos (by omega), i1]
    simp
   rw [if_neg hl1] at i1
   rw [if_neg (by omega), i1]
  rw [if_neg hl0] at i0
  rw [i0] at hB0
  rw [hB0, if_neg (by omega)]
  rfl
theorem cov_cov {q k : Lab} (h : Und q k) (hq : isL q = true) (l : List Itm) : covL k (covL q l) = covL k l := by
 unfold covL
 rw [List.filter_filter]
 congr 1
 funext x
 cases hc : coverB k x.key with
 | false => rfl
 | true => rw [cov_in h hq hc]; rfl
structure ItsOk (l : List Itm) : Prop where
 keys : ∀ x ∈ l, U64 x.key
 rises : l.Pairwise fun x y => x.key < y.key
theorem ItsOk.cov {l : List Itm} (h : ItsOk l) (q : Lab) : ItsOk (covL q l) :=
 ⟨fun x hx => h.keys x (List.mem_filter.1 hx).1, h.rises.sublist List.filter_sublist⟩
theorem split_rises {l : List Itm} (h : l.Pairwise fun x y => x.key < y.key) (m : Int) : (l.filter fun x => decide (x.key < m)) ++ (l.filter fun x => decide (m ≤ x.key)) = l := by
 induction l with
 | nil => rfl
 | cons x l ih =>
  have h' := List.pairwise_cons.1 h
  by_cases hx : x.key < m
  ·rw [List.filter_cons, if_pos (by simpa using hx), List.filter_cons, if_neg (by simp; omega), List.cons_append, ih h'.2]
  have h1 : (x :: l).filter (fun x => decide (x.key < m)) = [] := by
   rw [List.filter_eq_nil_iff]
   intro y hy
   rcases List.mem_cons.1 hy with rfl | hy
   ·simpa using hx
   have := h'.1 y hy; simp; omega
  have h2 : (x :: l).filter (fun x => decide (m ≤ x.key)) = x :: l := by
   rw [List.filter_eq_self]
   intro y hy
   rcases List.mem_cons.1 hy with rfl | hy
   ·simp; omega
   have := h'.1 y hy; simp; omega
  rw [h1, h2]; rfl
theorem cov_two {q : Lab} (hq : isL q = true) (hb : U64 q.bits) (h64 : q.len ≠ 64) {l : List Itm} (h : ItsOk l) : covL (childL q 0) l ++ covL (childL q 1) l = covL q l := by
 have e : ∀ b, covL (childL q b) l = covL (childL q b) (covL q l) := fun b => (cov_cov (und_kid hq hb h64 (und_self (child_isL hq hb h64 b) (child_u hq hb h64 b))).1 hq l).symm
 have hk := h.cov q
 have h0 : covL (childL q 0) (covL q l) = (covL q l).filter fun x => decide (x.key < (childL q 1).bits) := List.filter_congr fun x hx => (child_cov hq hb h64 (hk.keys x hx) (List.mem_filter.1 hx).2).1
 have h1 : covL (childL q 1) (covL q l) = (covL q l).filter fun x => decide ((childL q 1).bits ≤ x.key) := List.filter_congr fun x hx => (child_cov hq hb h64 (hk.keys x hx) (List.mem_filter.1 hx).2).2
 rw [e, e, h0, h1, split_rises hk.rises]
theorem cov_root {l : List Itm} (h : ∀ x ∈ l, U64 x.key) : covL ⟨0, 0⟩ l = l := by
 unfold covL
 rw [List.filter_eq_self]
 intro x hx
 have := (h x hx).1
 have hu := u64_lt (h x hx)
 unfold coverB
 rw [show isL ⟨0, 0⟩ = true from by decide, Bool.true_and]
 refine decide_eq_true ?_
 show ((headN x.key.toNat 0 : Nat) : Int) = 0
 unfold headN
 rw [Nat.div_eq_of_lt (by simpa using hu)]
 simp
theorem cov_deep {q : Lab} (hq : isL q = true) (h64 : q.len = 64) {l : List Itm} (h : ItsOk l) : (covL q l).length ≤ 1 := by
 have hk := h.cov q
 have key : ∀ x ∈ covL q l, x.key = q.bits := fun x hx => by
  have hc := (List.mem_filter.1 hx).2
  have hu := (hk.keys x hx).1
  unfold coverB at hc
  simp only [Bool.and_eq_true, decide_eq_true_eq] at hc
  have h2 := hc.2
  rw [h64] at h2
  have h3 : ((headN x.key.toNat 64 : Nat) : Int) = q.bits := h2
  unfold headN at h3
  simp at h3
  omega
 match hl : covL q l with
 | [] => simp
 | [x] => simp
 | x :: y :: r =>
  rw [hl] at key hk
  have h1 := (List.pairwise_cons.1 hk.rises).1 y (by simp)
  have := key x (by simp)
  have := key y (by simp)
  omega
theorem nodes_row {b : Int} {L : List Itm} : ∀ {n : Nat} {l : List Itm} {q : Lab}, Gro n q → l = covL q L → ∀ p ∈ nodes b n l q,
  (p.2 = leafR (covL p.1 L) ∧ (((covL p.1 L).length : Int) ≤ b ∨ p.1.len = 64)) ∨ (p.2 = innR ∧ ¬ ((covL p.1 L).length : Int) ≤ b ∧ p.1.len ≠ 64 ∧ (∃ r, (childL p.1 0, r) ∈ nodes b n l q) ∧ ∃ r, (childL p.1 1, r) ∈ nodes b n l q)
 | 0, l, q, h, _, p, hp => by cases hp
 | n + 1, l, q, h, hl, p, hp => by
  have hne : ∀ {k : Nat}, k + 1 ≤ n + 1 → True := fun _ => trivial
  unfold nodes at hp ⊢
  split at hp
  ·rename_i h1
   simp only [List.mem_cons, List.not_mem_nil, or_false] at hp
   subst hp
   rw [← hl]
   exact .inl ⟨rfl, h1⟩
  rename_i h1
  rw [if_neg h1]
  have h64 : q.len ≠ 64 := fun e => h1 (.inr e)
  have g0 := h.child h64 0
  have g1 := h.child h64 1
  have hcc : ∀ b', covL (childL q b') l = covL (childL q b') L := fun b' => by
   rw [hl]; exact cov_cov (und_kid h.is h.u h64 (und_self (child_isL h.is h.u h64 b') (child_u h.is h.u h64 b'))).1 h.is L
  have hn : ∃ m, n = m + 1 := by
   cases n with
   | zero => exact (g0.pos).elim
   | succ m => exact ⟨m, rfl⟩
  obtain ⟨m, rfl⟩ := hn
  rcases List.mem_cons.1 hp with rfl | hp
  ·refine .inr ⟨rfl, ?_, h64, ?_, ?_⟩
   ·show ¬ ((covL q L).length : Int) ≤ b
    rw [← hl]; exact fun h2 => h1 (.inl h2)
   ·obtain ⟨r, hr⟩ := nodes_head (b := b) (n := m) (l := covL (childL q 0) l) (q := childL q 0)
    exact ⟨r, List.mem_cons_of_mem _ (List.mem_append_left _ hr)⟩
   obtain ⟨r, hr⟩ := nodes_head (b := b) (n := m) (l := covL (childL q 1) l) (q := childL q 1)
   exact ⟨r, List.mem_cons_of_mem _ (List.mem_append_right _ hr)⟩
  rcases List.mem_append.1 hp with hp | hp
  ·rcases nodes_row g0 (hcc 0) p hp with h2 | ⟨h2, h3, h4, ⟨r0, h5⟩, ⟨r1, h6⟩⟩
   ·exact .inl h2
   exact .inr ⟨h2, h3, h4, ⟨r0, List.mem_cons_of_mem _ (List.mem_append_left _ h5)⟩, ⟨r1, List.mem_cons_of_mem _ (List.mem_append_left _ h6)⟩⟩
  rcases nodes_row g1 (hcc 1) p hp with h2 | ⟨h2, h3, h4, ⟨r0, h5⟩, ⟨r1, h6⟩⟩
  ·exact .inl h2
  exact .inr ⟨h2, h3, h4, ⟨r0, List.mem_cons_of_mem _ (List.mem_append_right _ h5)⟩, ⟨r1, List.mem_cons_of_mem _ (List.mem_append_right _ h6)⟩⟩
theorem gro_root : Gro 65 ⟨0, 0⟩ := ⟨by decide, ⟨by decide, by decide⟩, by decide⟩
structure Blt (b : Int) (L : List Itm) (R : List Rw) : Prop where
 ok : ItsOk L
 vals : ∀ x ∈ L, x.val.size ≤ 64
 b1 : 1 ≤ b
 b16 : b ≤ 16
 len : (nodes b 65 L ⟨0, 0⟩).length ≤ 2000
 rows : R = ((nodes b 65 L ⟨0, 0⟩).map rwOf).map (fixN (nxP (leavesP ((nodes b 65 L ⟨0, 0⟩).map rwOf))))
theorem srt_pair {n : Nat} {f : Nat → Itm} (hs : srtB n f = true) (hd : dupB n f = false) : (firsts f n).Pairwise fun x y => x.key < y.key := by
 have step : ∀ t, t + 1 < n → (f t).key < (f (t + 1)).key := fun t ht => by
  have h1 := List.all_eq_true.1 hs t (List.mem_range.2 (by omega))
  have h2 := List.any_eq_false.1 hd t (List.mem_range.2 (by omega))
  have h1 : ¬ (f (t + 1)).key < (f t).key := of_decide_eq_true h1
  have h2 : ¬ (f (t + 1)).key = (f t).key := by simpa using h2
  omega
 have far : ∀ d t, t + d + 1 < n → (f t).key < (f (t + d + 1)).key := fun d => by
  induction d with
  | zero => exact fun t ht => step t ht
  | succ d ih =>
   intro t ht
   have h1 := ih t (by omega)
   have h2 := step (t + d + 1) (by omega)
   rw [show t + (d + 1) + 1 = t + d + 1 + 1 by omega]
   omega
 unfold firsts
 rw [List.pairwise_map]
 refine List.Pairwise.imp_of_mem ?_ (List.pairwise_lt_range (n := n))
 intro i j hi hj hij
 have hj := List.mem_range.1 hj
 have := far (j - i - 1) i (by omega)
 rw [show i + (j - i - 1) + 1 = j by omega] at this
 exact this
theorem sortE_id {N : List (Lab × Rec)} (h : N.Pairwise fun x y => lessL x.1 y.1 = true) : sortE N = N := by
 refine List.Perm.eq_of_pairwise (le := leE) (fun a b ha hb h1 h2 => ?_) (sortE_sorted N) (h.imp fun h => less_le h) (sortE_perm N)
 have e : a.1 = b.1 := leL_anti h1 h2
 have ha := (sortE_perm N).mem_iff.1 ha
 have hnd : (N.map (·.1)).Nodup := by
  unfold List.Nodup
  rw [List.pairwise_map]
  exact h.imp fun h => less_ne h
 have g1 := mem_getA hnd ha
 have g2 := mem_getA hnd hb
 rw [e, g2] at g1
 injection g1 with g1
 exact Prod.ext e g1.symm
theorem bld_yes {n : Nat} {f : Nat → Itm} {b : Int} (hk : ∀ i, i < n → U64 (f i).key) (h : bldE n f b = 0) : Blt b (firsts f n) (bldR n f b) := by
 have hR : bldR n f b = (bld0 n f b).map (fixN (nxP (leavesP (bld0 n f b)))) := by unfold bldR; rw [if_pos h]
 unfold bldE at h
 split at h
 ·cases h
 rename_i h1
 split at h
 ·cases h
 split at h
 ·rename_i hg
  simp only [not_or, Bool.not_eq_true, Bool.not_eq_false] at h1
  obtain ⟨g1, g2, g3, g4, g5⟩ := h1
  have hgn := grow_nodes (b := b) (n := 65) (l := firsts f n) (q := ⟨0, 0⟩) (T := []) gro_root (by simp)
  have hlen : (nodes b 65 (firsts f n) ⟨0, 0⟩).length ≤ 2000 := by
   by_cases hl : ([] : List (Lab × Rec)).length + (nodes b 65 (firsts f n) ⟨0, 0⟩).length ≤ 2000
   ·simpa using hl
   rw [if_neg hl] at hgn
   unfold growT at hg
   rw [hgn] at hg; cases hg
  rw [if_pos (by simpa using hlen)] at hgn
  have hb0 : bld0 n f b = (nodes b 65 (firsts f n) ⟨0, 0⟩).map rwOf := by
   unfold bld0 growT
   rw [hgn, List.nil_append, sortE_id (nodes_sorted gro_root)]
  refine ⟨⟨firsts_mem hk, srt_pair g4 g5⟩, ?_, by omega, by omega, hlen, by rw [hR, hb0]⟩
  intro x hx
  unfold firsts at hx
  obtain ⟨i, hi, rfl⟩ := List.mem_map.1 hx
  have := List.any_eq_false.1 g3 i hi
  simpa using this
 cases h
theorem bld_no {n : Nat} {f : Nat → Itm} {b : Int} (h : bldE n f b ≠ 0) : bldR n f b = [] := by unfold bldR; rw [if_neg h]
abbrev nodR (b : Int) (L : List Itm) : List (Lab × Rec) := nodes b 65 L ⟨0, 0⟩
abbrev lvR (b : Int) (L : List Itm) : List Lab := leavesP ((nodR b L).map rwOf)
def recR (NX : Lab → Lab) (p : Lab × Rec) : Rec := if p.2.kind = 1 then { p.2 with next := NX p.1 } else p.2
def rowR (NX : Lab → Lab) (p : Lab × Rec) : Rw := ⟨p.1, 1, recR NX p⟩
theorem fix_row (NX : Lab → Lab) (p : Lab × Rec) : fixN NX (rwOf p) = rowR NX p := by
 unfold fixN rowR recR rwOf
 split <;> rfl
theorem recR_kind (NX : Lab → Lab) (p : Lab × Rec) : (recR NX p).kind = p.2.kind := by unfold recR; split <;> rfl
theorem recR_items (NX : Lab → Lab) (p : Lab × Rec) : (recR NX p).items = p.2.items := by unfold recR; split <;> rfl
section
variable {b : Int} {L : List Itm} {R : List Rw}
theorem Blt.rows' (h : Blt b L R) : R = (nodR b L).map (rowR (nxP (lvR b L))) := by
 rw [h.rows, List.map_map]
 exact List.map_congr_left fun p _ => fix_row _ p
theorem Blt.labs (h : Blt b L R) : R.map (·.lab) = (nodR b L).map (·.1) := by
 rw [h.rows', List.map_map]; rfl
theorem Blt.dist (h : Blt b L R) : (R.map (·.lab)).Nodup := by
 rw [h.labs]; exact nodes_dist gro_root
theorem Blt.mem (h : Blt b L R) {w : Rw} : w ∈ R ↔ ∃ p ∈ nodR b L, w = rowR (nxP (lvR b L)) p := by
 rw [h.rows', List.mem_map]
 exact ⟨fun ⟨p, h1, h2⟩ => ⟨p, h1, h2.symm⟩, fun ⟨p, h1, h2⟩ => ⟨p, h1, h2.symm⟩⟩
theorem Blt.at_ (h : Blt b L R) {p : Lab × Rec} (hp : p ∈ nodR b L) : treP R p.1 = some (recR (nxP (lvR b L)) p) :=
 treP_at h.dist (h.mem.2 ⟨p, hp, rfl⟩)
theorem leafs_rows (NX : Lab → Lab) (N : List (Lab × Rec)) : leafs (N.map (rowR NX)) = leafs (N.map rwOf) := by
 unfold leafs
 induction N with
 | nil => rfl
 | cons p N ih =>
  rw [List.map_cons, List.map_cons, List.filter_cons, List.filter_cons]
  have e : (rowR NX p).r.kind = p.2.kind := recR_kind NX p
  have e2 : (rwOf p).r.kind = p.2.kind := rfl
  rw [e, e2]
  by_cases hk : p.2.kind = 1
  ·rw [if_pos (by simpa using hk), if_pos (by simpa using hk), List.map_cons, List.map_cons, ih]; rfl
  rw [if_neg (by simpa using hk), if_neg (by simpa using hk), ih]
theorem Blt.leaves (h : Blt b L R) : leavesP R = lvR b L := by
 rw [h.rows']
 show sortL (leafs _) = sortL (leafs _)
 rw [leafs_rows]
theorem lv_sorted : (leafs ((nodR b L).map rwOf)).Pairwise fun x y => lessL x y = true := by
 unfold leafs
 rw [List.pairwise_map]
 refine List.Pairwise.sublist List.filter_sublist ?_
 rw [List.pairwise_map]
 exact nodes_sorted gro_root
theorem lv_eq : lvR b L = leafs ((nodR b L).map rwOf) := sortL_eq (List.Perm.refl _) (lv_sorted.imp fun h => less_le h)
theorem lv_mem {k : Lab} : k ∈ lvR b L ↔ ∃ p ∈ nodR b L, p.2.kind = 1 ∧ p.1 = k := by
 rw [lv_eq]
 unfold leafs
 constructor
 ·intro hm
  obtain ⟨w, hw, rfl⟩ := List.mem_map.1 hm
  obtain ⟨h1, h2⟩ := List.mem_filter.1 hw
  obtain ⟨p, hp, rfl⟩ := List.mem_map.1 h1
  exact ⟨p, hp, of_decide_eq_true h2, rfl⟩
 rintro ⟨p, hp, hk, rfl⟩
 exact List.mem_map.2 ⟨rwOf p, List.mem_filter.2 ⟨List.mem_map.2 ⟨p, hp, rfl⟩, decide_eq_true hk⟩, rfl⟩
theorem lv_dist : (lvR b L).Nodup := by
 rw [lv_eq]
 exact lv_sorted.imp fun h => less_ne h
theorem nx_is {k : Lab} (hk : k ∈ lvR b L) : nxP (lvR b L) k = noneL ∨ nxP (lvR b L) k ∈ lvR b L := by
 obtain ⟨i, hi, rfl⟩ := labF_mem hk
 have hj := labF_inj (lv_dist (b := b) (L := L))
 unfold nxP
 rw [nexA_get (labF (lvR b L)) (lvR b L).length hj (lvR b L).length (Nat.le_refl _) i hi]
 show (if i + 1 < (lvR b L).length then labF (lvR b L) (i + 1) else noneL) = noneL ∨ (if i + 1 < (lvR b L).length then labF (lvR b L) (i + 1) else noneL) ∈ lvR b L
 by_cases h1 : i + 1 < (lvR b L).length
 ·rw [if_pos h1]
  right
  unfold labF
  rw [List.getD_eq_getElem?_getD, List.getElem?_eq_getElem h1]
  exact List.getElem_mem h1
 rw [if_neg h1]; exact .inl rfl
theorem nod_row (hk : ∀ x ∈ L, U64 x.key) {p : Lab × Rec} (hp : p ∈ nodR b L) :
  (p.2 = leafR (covL p.1 L) ∧ (((covL p.1 L).length : Int) ≤ b ∨ p.1.len = 64)) ∨ (p.2 = innR ∧ ¬ ((covL p.1 L).length : Int) ≤ b ∧ p.1.len ≠ 64 ∧ (∃ r, (childL p.1 0, r) ∈ nodR b L) ∧ ∃ r, (childL p.1 1, r) ∈ nodR b L) :=
 nodes_row (b := b) (L := L) gro_root (cov_root hk).symm p hp
theorem nod_und {p : Lab × Rec} (hp : p ∈ nodR b L) : Und ⟨0, 0⟩ p.1 := nodes_und gro_root p hp
theorem lv_is {k : Lab} (hk : k ∈ lvR b L) : isL k = true ∧ U64 k.bits := by
 obtain ⟨p, hp, _, rfl⟩ := lv_mem.1 hk
 exact ⟨(nod_und hp).is, (nod_und hp).u⟩
theorem newL_some : ∀ {l : List Rw} {M : Shf}, (l.map (·.lab)).Nodup → (∀ w ∈ l, findL w.lab M = none) → (∀ w ∈ l, isL w.lab = true ∧ isR w.r = true) → (newL l M).isSome = true
 | [], M, _, _, _ => rfl
 | v :: l, M, hd, hn, hr => by
  rw [List.map_cons, List.nodup_cons] at hd
  unfold newL
  rw [hn v (by simp), (hr v (by simp)).1, (hr v (by simp)).2]
  simp only [Option.isSome_none, Bool.not_true, Bool.or_self, Bool.false_eq_true, if_false]
  refine newL_some hd.2 (fun w hw => ?_) fun w hw => hr w (by simp [hw])
  rw [find_put, if_neg (fun e => hd.1 (List.mem_map.2 ⟨w, hw, e.symm⟩))]
  exact hn w (by simp [hw])
theorem okF_its {l : List Itm} (h : ItsOk l) (hv : ∀ x ∈ l, x.val.size ≤ 64) : okF (itF l) l.length = true := by
 unfold okF
 rw [List.all_eq_true]
 intro i hi
 have hi := List.mem_range.1 hi
 have e : ∀ j (hj : j < l.length), itF l j = l[j] := fun j hj => by unfold itF; rw [List.getD_eq_getElem?_getD, List.getElem?_eq_getElem hj]; rfl
 unfold okAt
 rw [e i hi, decide_eq_true (hv _ (List.getElem_mem hi)), Bool.true_and]
 by_cases h0 : i = 0
 ·subst h0; rfl
 rw [e (i - 1) (by omega), decide_eq_true (List.pairwise_iff_getElem.1 h.rises (i - 1) i (by omega) hi (by omega))]
 simp
theorem leaf_few (h : Blt b L R) {p : Lab × Rec} (hp : p ∈ nodR b L) (hc : ((covL p.1 L).length : Int) ≤ b ∨ p.1.len = 64) : ((covL p.1 L).length : Int) ≤ b := by
 rcases hc with hc | hc
 ·exact hc
 have := cov_deep (nod_und hp).is hc h.ok
 have := h.b1
 omega
theorem Blt.right (h : Blt b L R) : isRw R = true := by
 unfold isRw newS
 rw [if_neg (by rw [h.rows', List.length_map]; exact Nat.not_lt.2 h.len)]
 refine newL_some h.dist (fun w _ => rfl) fun w hw => ?_
 obtain ⟨p, hp, rfl⟩ := h.mem.1 hw
 refine ⟨(nod_und hp).is, ?_⟩
 show isR (recR _ p) = true
 rcases nod_row h.ok.keys hp with ⟨h1, h2⟩ | ⟨h1, _⟩
 ·have hk : p.2.kind = 1 := by rw [h1]; rfl
  have hlv : p.1 ∈ lvR b L := lv_mem.2 ⟨p, hp, hk, rfl⟩
  have hfew := leaf_few h hp h2
  have h16 := h.b16
  unfold recR
  rw [if_pos hk, h1]
  show isRF 1 (covL p.1 L).length (itF (covL p.1 L)) (nxP (lvR b L) p.1) 0 = true
  unfold isRF rowF bareK
  rw [okF_its (h.ok.cov p.1) fun x hx => h.vals x (List.mem_filter.1 hx).1, decide_eq_true (show (covL p.1 L).length ≤ 16 by omega)]
  rcases nx_is hlv with e | e
  ·rw [e]; simp
  rw [(lv_is e).1]; simp
 unfold recR
 rw [if_neg (by rw [h1]; decide), h1]
 decide
theorem Blt.isR_small (h : Blt b L R) {w : Rw} (hw : w ∈ R) : w.r.items.length ≤ 16 ∧ isL w.lab = true ∧ U64 w.lab.bits ∧ U64 w.r.next.bits ∧ ∀ x ∈ w.r.items, U64 x.key := by
 obtain ⟨p, hp, rfl⟩ := h.mem.1 hw
 have hi : (rowR (nxP (lvR b L)) p).r.items = p.2.items := recR_items _ p
 refine ⟨?_, (nod_und hp).is, (nod_und hp).u, ?_, ?_⟩
 ·rw [hi]
  rcases nod_row h.ok.keys hp with ⟨h1, h2⟩ | ⟨h1, _⟩
  ·rw [h1]
   have := leaf_few h hp h2
   have := h.b16
   show (covL p.1 L).length ≤ 16
   omega
  rw [h1]; exact Nat.zero_le _
 ·show U64 (recR _ p).next.bits
  rcases nod_row h.ok.keys hp with ⟨h1, h2⟩ | ⟨h1, _⟩
  ·have hk : p.2.kind = 1 := by rw [h1]; rfl
   unfold recR
   rw [if_pos hk]
   rcases nx_is (lv_mem.2 ⟨p, hp, hk, rfl⟩) with e | e
   ·show U64 (nxP (lvR b L) p.1).bits
    rw [e]; exact ⟨by decide, by decide⟩
   exact (lv_is e).2
  unfold recR
  rw [if_neg (by rw [h1]; decide), h1]
  exact ⟨by decide, by decide⟩
 rw [hi]
 rcases nod_row h.ok.keys hp with ⟨h1, h2⟩ | ⟨h1, _⟩
 ·rw [h1]
  intro x hx
  exact h.ok.keys x (List.mem_filter.1 hx).1
 rw [h1]; intro x hx; cases hx
theorem ch_yes {q : Lab} (hq : isL q = true) (h64 : q.len ≠ 64) : chE q 0 = 0 ∧ ∀ i : Int, chV q i = childL q i := by
 have hce : chE q 0 = 0 := by unfold chE; rw [hq]; simp [h64]
 exact ⟨hce, fun i => (ch_ok hce).2.2 i⟩
theorem Blt.means (h : Blt b L R) : ∀ (fu : Nat) (p : Lab × Rec), p ∈ nodR b L → 65 ≤ fu + p.1.len → meansP (treP R) fu p.1 = covL p.1 L
 | 0, p, hp, h65 => by have := (lab_parts (nod_und hp).is).2.1; omega
 | fu + 1, p, hp, h65 => by
  unfold meansP
  rw [h.at_ hp]
  simp only
  rw [recR_kind, recR_items]
  have hu := nod_und hp
  rcases nod_row h.ok.keys hp with ⟨h1, h2⟩ | ⟨h1, h2, h3, ⟨r0, h4⟩, ⟨r1, h5⟩⟩
  ·have hk : p.2.kind = 1 := by rw [h1]; rfl
   rw [if_pos (.inl hk), h1]; rfl
  have hk : p.2.kind = 2 := by rw [h1]; rfl
  obtain ⟨hce, hcv⟩ := ch_yes hu.is h3
  rw [if_neg (by rw [hk]; decide), hce, if_pos rfl, hcv, hcv]
  have k : ∀ c, kidP (treP R) (meansP (treP R) fu) (recR (nxP (lvR b L)) p) c = meansP (treP R) fu c := fun c => by
   unfold kidP
   rw [recR_kind, if_neg (fun h => by rw [hk] at h; exact absurd h.1 (by decide))]
  rw [k, k]
  have hl0 : (childL p.1 0).len = p.1.len + 1 := rfl
  have hl1 : (childL p.1 1).len = p.1.len + 1 := rfl
  rw [h.means fu _ h4 (by show 65 ≤ (fu : Int) + (childL p.1 0).len; rw [hl0]; omega), h.means fu _ h5 (by show 65 ≤ (fu : Int) + (childL p.1 1).len; rw [hl1]; omega)]
  exact cov_two hu.is hu.u h3 h.ok
theorem Blt.items (h : Blt b L R) : itemsP R = L ∧ itemsE R = 0 := by
 unfold itemsP itemsE
 rw [if_pos h.right, if_pos h.right]
 obtain ⟨r, hr⟩ := nodes_head (b := b) (n := 64) (l := L) (q := ⟨0, 0⟩)
 have := h.means 65 _ hr (by show (65 : Int) ≤ 65 + 0; decide)
 simp only at this
 rw [this, cov_root h.ok.keys]
 exact ⟨rfl, rfl⟩
theorem Blt.kind (h : Blt b L R) {w : Rw} (hw : w ∈ R) : (w.r.kind = 2 ↔ b < ((covL w.lab L).length : Int)) ∧ w.ver = 1 ∧ (w.r.kind = 1 ∨ w.r.kind = 2) := by
 obtain ⟨p, hp, rfl⟩ := h.mem.1 hw
 show ((recR _ p).kind = 2 ↔ b < ((covL p.1 L).length : Int)) ∧ 1 = 1 ∧ ((recR _ p).kind = 1 ∨ (recR _ p).kind = 2)
 rw [recR_kind]
 rcases nod_row h.ok.keys hp with ⟨h1, h2⟩ | ⟨h1, h2, _⟩
 ·have hfew := leaf_few h hp h2
  have hk : p.2.kind = 1 := by rw [h1]; rfl
  rw [hk]
  exact ⟨⟨fun e => absurd e (by decide), fun e => by omega⟩, rfl, .inl rfl⟩
 have hk : p.2.kind = 2 := by rw [h1]; rfl
 rw [hk]
 exact ⟨⟨fun _ => by omega, fun _ => rfl⟩, rfl, .inr rfl⟩
end
theorem bld_n {n : Nat} {f : Nat → Itm} {b : Int} (hk : ∀ i, i < n → U64 (f i).key) (y : Atom) : RwN (bldR n f b).length (rwAt y (bldR n f b)) := by
 refine rw_in (fun w hw => ?_) y
 by_cases he : bldE n f b = 0
 ·obtain ⟨h1, h2, h3, h4, _⟩ := (bld_yes hk he).isR_small hw
  exact ⟨by omega, labOk_is h2 h3, h3, h4⟩
 rw [bld_no he] at hw; cases hw
theorem bld_k {n : Nat} {f : Nat → Itm} {b : Int} (hk : ∀ i, i < n → U64 (f i).key) (y : Atom) : RwK (bldR n f b).length (rwAt y (bldR n f b)) := by
 refine rw_inK (fun w hw => ?_) y
 by_cases he : bldE n f b = 0
 ·exact ((bld_yes hk he).isR_small hw).2.2.2.2
 rw [bld_no he] at hw; cases hw
theorem bld_len {n : Nat} {f : Nat → Itm} {b : Int} (hk : ∀ i, i < n → U64 (f i).key) : (bldR n f b).length ≤ 2000 := by
 by_cases he : bldE n f b = 0
 ·have h := bld_yes hk he
  rw [h.rows', List.length_map]; exact h.len
 rw [bld_no he]; exact Nat.zero_le _
theorem rows_mem {n : Nat} {f : Nat → RowA} {R : List Rw} (h : rwsA f n = R) {i : Nat} (hi : i < n) : RowA.abs (f i) ∈ R := by
 rw [← h]
 exact List.mem_map.2 ⟨i, List.mem_range.2 hi, rfl⟩
def szL (l : Lab) : Int := ((2 ^ (64 - l.len.toNat) : Nat) : Int)
theorem sz_child {q : Lab} (hq : isL q = true) (h64 : q.len ≠ 64) (b : Int) : szL q = szL (childL q b) + szL (childL q b) := by
 obtain ⟨h0, h1, _⟩ := lab_parts hq
 have hn : q.len.toNat < 64 := by omega
 have hl : (childL q b).len.toNat = q.len.toNat + 1 := by show (q.len + 1).toNat = _; omega
 unfold szL
 rw [hl, half_pow hn, show 64 - (q.len.toNat + 1) = 63 - q.len.toNat by omega]
 omega
theorem child_bits {q : Lab} (hq : isL q = true) (h64 : q.len ≠ 64) : (childL q 0).bits = q.bits ∧ (childL q 1).bits = q.bits + szL (childL q 0) := by
 obtain ⟨h0, h1, _⟩ := lab_parts hq
 have hl : (childL q 0).len.toNat = q.len.toNat + 1 := by show (q.len + 1).toNat = _; omega
 refine ⟨rfl, ?_⟩
 unfold szL
 rw [hl, show 64 - (q.len.toNat + 1) = 63 - q.len.toNat by omega]
 rfl
def Tile : Int → Int → List Lab → Prop
 | lo, hi, [] => lo = hi
 | lo, hi, k :: r => k.bits = lo ∧ Tile (lo + szL k) hi r
theorem tile_app : ∀ {a b : List Lab} {lo mid hi : Int}, Tile lo mid a → Tile mid hi b → Tile lo hi (a ++ b)
 | [], b, lo, mid, hi, h1, h2 => by have : lo = mid := h1; subst this; exact h2
 | k :: a, b, lo, mid, hi, h1, h2 => ⟨h1.1, tile_app h1.2 h2⟩
theorem tile_at : ∀ {l : List Lab} {lo hi : Int} {i : Nat} (h : Tile lo hi l) (hi : i + 1 < l.length), (l[i + 1]).bits = (l[i]).bits + szL (l[i])
 | [], _, _, _, _, h => absurd h (by simp)
 | [k], _, _, _, _, h => absurd h (by simp)
 | k :: k2 :: r, lo, hi, 0, h, _ => by
  obtain ⟨h1, h2, _⟩ := h
  show k2.bits = k.bits + szL k
  rw [h2, h1]
 | k :: k2 :: r, lo, hi, i + 1, h, hl => tile_at (l := k2 :: r) (i := i) h.2 (by simpa using hl)
def lfs (N : List (Lab × Rec)) : List Lab := leafs (N.map rwOf)
theorem lfs_app (a b : List (Lab × Rec)) : lfs (a ++ b) = lfs a ++ lfs b := by unfold lfs leafs; simp
theorem lfs_inner (q : Lab) (N : List (Lab × Rec)) : lfs ((q, innR) :: N) = lfs N := by
 unfold lfs leafs
 rw [List.map_cons, List.filter_cons, if_neg (by show ¬ decide ((2 : Int) = 1) = true; decide)]
theorem lfs_leaf (q : Lab) (l : List Itm) : lfs [(q, leafR l)] = [q] := by
 unfold lfs leafs
 rw [List.map_cons, List.filter_cons, if_pos (by show decide ((1 : Int) = 1) = true; decide)]
 rfl
theorem nodes_tile {b : Int} : ∀ {n : Nat} {l : List Itm} {q : Lab}, Gro n q → Tile q.bits (q.bits + szL q) (lfs (nodes b n l q))
 | 0, l, q, h => h.pos.elim
 | n + 1, l, q, h => by
  unfold nodes
  split
  ·rw [lfs_leaf]; exact ⟨rfl, rfl⟩
  rename_i hn
  have h64 : q.len ≠ 64 := fun e => hn (.inr e)
  rw [lfs_inner, lfs_app]
  obtain ⟨b0, b1⟩ := child_bits h.is h64
  have t0 := nodes_tile (b := b) (l := covL (childL q 0) l) (h.child h64 0)
  have t1 := nodes_tile (b := b) (l := covL (childL q 1) l) (h.child h64 1)
  rw [b0] at t0
  have hs : szL (childL q 1) = szL (childL q 0) := rfl
  have h2 := sz_child h.is h64 0
  rw [b1, hs] at t1
  rw [h2, ← Int.add_assoc]
  exact tile_app t0 t1
theorem nodes_one {b : Int} {key : Int} (hk : U64 key) : ∀ {n : Nat} {l : List Itm} {q : Lab}, Gro n q → (lfs (nodes b n l q)).countP (fun k => coverB k key) = if coverB q key = true then 1 else 0
 | 0, l, q, h => h.pos.elim
 | n + 1, l, q, h => by
  unfold nodes
  split
  ·rw [lfs_leaf]
   by_cases hc : coverB q key = true
   ·simp [hc]
   simp [hc]
  rename_i hn
  have h64 : q.len ≠ 64 := fun e => hn (.inr e)
  rw [lfs_inner, lfs_app, List.countP_append, nodes_one hk (h.child h64 0), nodes_one hk (h.child h64 1)]
  by_cases hc : coverB q key = true
  ·obtain ⟨c0, c1⟩ := child_cov h.is h.u h64 hk hc
   rw [c0, c1, if_pos hc]
   by_cases hm : key < (childL q 1).bits
   ·rw [decide_eq_true hm, decide_eq_false (by omega)]; simp
   rw [decide_eq_false hm, decide_eq_true (by omega)]; simp
  have no : ∀ b', ¬ coverB (childL q b') key = true := fun b' h' => hc (cov_up h.is h.u h64 b' h')
  rw [if_neg (no 0), if_neg (no 1), if_neg hc]
section
variable {b : Int} {L : List Itm} {R : List Rw}
theorem lv_tile : Tile 0 18446744073709551616 (lvR b L) := by
 rw [lv_eq]
 have := nodes_tile (b := b) (l := L) gro_root
 exact this
theorem root_cov {key : Int} (hk : U64 key) : coverB ⟨0, 0⟩ key = true := by
 have := cov_root (l := [⟨key, .empty⟩]) (fun x hx => by simp at hx; subst hx; exact hk)
 unfold covL at this
 rw [List.filter_eq_self] at this
 exact this ⟨key, .empty⟩ (by simp)
theorem lv_one {key : Int} (hk : U64 key) : (lvR b L).countP (fun k => coverB k key) = 1 := by
 rw [lv_eq]
 have := nodes_one (b := b) (l := L) hk gro_root
 rw [if_pos (root_cov hk)] at this
 exact this
theorem Blt.own (h : Blt b L R) {w : Rw} (hw : w ∈ R) {x : Itm} (hx : x ∈ L) : x ∈ w.r.items ↔ (w.r.kind = 1 ∧ coverB w.lab x.key = true) := by
 obtain ⟨p, hp, rfl⟩ := h.mem.1 hw
 show x ∈ (recR _ p).items ↔ ((recR _ p).kind = 1 ∧ coverB p.1 x.key = true)
 rw [recR_kind, recR_items]
 rcases nod_row h.ok.keys hp with ⟨h1, _⟩ | ⟨h1, _⟩
 ·rw [h1]
  constructor
  ·intro hm; exact ⟨rfl, (List.mem_filter.1 hm).2⟩
  rintro ⟨_, hc⟩; exact List.mem_filter.2 ⟨hx, hc⟩
 rw [h1]
 constructor
 ·intro hm; cases hm
 rintro ⟨hc, _⟩; exact absurd hc (by show ¬ (2 : Int) = 1; decide)
end
theorem span_or {l : Lab} (hL : isL l = true) (hb : U64 l.bits) : sAr .or .u64 l.bits (stdShift .shr .u64 18446744073709551615 l.len) = l.bits + szL l - 1 := by
 obtain ⟨h0, h1, h2⟩ := lab_parts hL
 rw [shr_all h0 h1]
 obtain ⟨m, hm⟩ : ∃ m : Nat, l.bits = (m : Int) := ⟨l.bits.toNat, by have := hb.1; omega⟩
 have hp : 0 < 2 ^ (64 - l.len.toNat) := Nat.pow_pos (by decide)
 have hmod : m % 2 ^ (64 - l.len.toNat) = 0 := by
  have e : headN m l.len.toNat = m := by
   have h3 := h2
   rw [hm] at h3
   have h4 : ((headN m l.len.toNat : Nat) : Int) = (m : Int) := h3
   omega
  rw [← e]
  unfold headN
  exact Nat.mul_mod_left _ _
 have hsum : m + (2 ^ (64 - l.len.toNat) - 1) < 2 ^ 64 := by
  by_cases h64 : l.len = 64
  ·have e : 64 - l.len.toNat = 0 := by omega
   rw [e]
   have := hb.2
   rw [hm] at this
   have h5 : (m : Int) < 18446744073709551616 := this
   omega
  obtain ⟨q, g1, g2⟩ := lab_mul hL hb h64
  rw [← half_pow (by omega)] at g1 g2
  rw [hm] at g1
  have g3 : m = q * 2 ^ (64 - l.len.toNat) := by omega
  rw [← g3] at g2
  omega
 rw [hm, or_u64 (a := m) (b := 2 ^ (64 - l.len.toNat) - 1) (k := 64 - l.len.toNat) hmod (by omega) hsum]
 unfold szL
 omega
theorem span_s (l : Lab) (hL : isL l = true) (hb0 : U64 l.bits) : Spec Try.prog 14 [labAV l] (fun _ => .tup [.int .u64 l.bits, .int .u64 (l.bits + szL l - 1), .int .i64 0]) := by
 intro m w hm hargs
 have S := isL_s l hb0
 rw [hL] at S
 simp only [labAV] at S hargs
 have hll := lab_parts hL
 refine en 16 hm hargs Try.func14 fun B hB a0 hF => ?_
 refine wp_seq (rg hB TA_ok [1] [1] [] hF fun X0 a0 w1 hF => ?_)
 refine wp_seq (wp_seq (rg hB TA_ok [7, 1] [1] [(1, .r fun _ => .bool (.v true))] hF (hob := ?hob) fun X1 a0 w1 hF => ?_))
 case hob =>
  intro X
  subst hB
  repeat (first | exact trivial | refine ⟨rfl, ?_⟩ | refine ⟨fun _ => rfl, ?_⟩ | refine ⟨⟨fun _ _ => by kernel_rfl, S⟩, ?_⟩ | refine ⟨fun _ => ⟨fun _ _ => by kernel_rfl, S⟩, ?_⟩)
 apply test_ok hF rfl <;> intro hb hF
 ·have hfl : False := by subst hB; cases hb
  refine wp_seq (rg hB TA_ok [2, 3, 4] [] [] hF fun X2 a0 w1 hF => ?_)
  refine wp_ret ((rsi hB TA_ok hF nAt (he := ?_)))
  exact hfl.elim
 refine wp_skip (wp_seq (drg hB TA_ok [2, 3, 4] [] [] hF (hob := ?hob) fun X3 a0 w1 hF => ?_))
 case hob =>
  intro X
  subst hB
  repeat (first | exact trivial | refine ⟨rfl, ?_⟩ | refine ⟨hll.1, ?_⟩)
 refine wp_ret ((rsi hB TA_ok hF nAt (he := ?_)))
 subst hB
 rw [← span_or hL hb0]
 exact zr
theorem next_s (l : Lab) (hL : isL l = true) (hb0 : U64 l.bits) (hlt : l.bits + szL l < 18446744073709551616) : Spec Try.prog 15 [labAV l] (fun _ => .tup [.int .u64 (l.bits + szL l), .bool (.v true)]) := by
 intro m w hm hargs
 have S := span_s l hL hb0
 obtain ⟨hv, hhv⟩ := eqv (l.bits + szL l - 1)
 rw [← hhv] at S
 have hsz : 0 < szL l := by unfold szL; have : 0 < 2 ^ (64 - l.len.toNat) := Nat.pow_pos (by decide); omega
 have hhl : 0 ≤ hv ∧ hv < 18446744073709551615 := by have := hb0.1; omega
 simp only [labAV] at S hargs
 refine en 21 hm hargs Try.func15 fun B hB a0 hF => ?_
 refine wp_seq (rg hB TA_ok [1] [1] [] hF fun X0 a0 w1 hF => ?_)
 refine wp_seq (rg hB TA_ok [5, 6] [] [(1, .r fun _ => .tup [.int .u64 l.bits, .int .u64 hv, .int .i64 0])] hF (hob := ?hob) fun X1 a0 w1 hF => ?_)
 case hob =>
  intro X
  subst hB
  repeat (first | exact trivial | refine ⟨rfl, ?_⟩ | refine ⟨fun _ => rfl, ?_⟩ | refine ⟨⟨fun _ _ => by kernel_rfl, S⟩, ?_⟩ | refine ⟨fun _ => ⟨fun _ _ => by kernel_rfl, S⟩, ?_⟩)
 refine wp_seq (wp_seq (rg hB TA_ok [18, 5] [] [] hF (hob := ?hob) fun X2 a0 w1 hF => ?_))
 case hob =>
  intro X
  subst hB
  repeat (first | exact trivial | refine ⟨rfl, ?_⟩ | refine ⟨fun _ => rfl, ?_⟩)
 apply test_ok hF rfl <;> intro hb hF
 ·have hfl : False := by
   subst hB
   have h9 : hv = 18446744073709551615 := by revert hb; simp [std, sC]
   omega
  refine wp_seq (rg hB TA_ok [2, 3] [] [] hF fun X3 a0 w1 hF => ?_)
  refine wp_ret ((rsi hB TA_ok hF nAt (he := ?_)))
  exact hfl.elim
 refine wp_skip (wp_seq (rg hB TA_ok [2, 3] [] [] hF fun X4 a0 w1 hF => ?_))
 refine wp_ret ((rsi hB TA_ok hF nAt (he := ?_)))
 subst hB
 have e : std.arith .add .u64 hv 1 = l.bits + szL l := by
  show IntKind.u64.wrap (hv + 1) = _
  obtain ⟨m, hm⟩ : ∃ m : Nat, hv + 1 = (m : Int) := ⟨(hv + 1).toNat, by omega⟩
  rw [hm, wrap_u64 (h := ⟨by omega, by omega⟩)]
  omega
 show Sim (.tup [.int .u64 (std.arith .add .u64 hv 1), _]) _
 rw [e]
 exact Sim.tup ⟨zr, zr, trivial⟩
def hasF (g : Nat → Itm) (m : Nat) (x : Itm) : Bool := (List.range m).any fun t => decide (g t = x)
theorem hasF_succ (g : Nat → Itm) (m : Nat) (x : Itm) : hasF g (m + 1) x = (hasF g m x || decide (g m = x)) := by
 unfold hasF
 simp [List.range_succ]
theorem hasF_in {g : Nat → Itm} {m : Nat} {x : Itm} : hasF g m x = true ↔ x ∈ firsts g m := by
 unfold hasF firsts
 rw [List.any_eq_true, List.mem_map]
 constructor
 ·rintro ⟨t, ht, h⟩; exact ⟨t, ht, of_decide_eq_true h⟩
 rintro ⟨t, ht, h⟩; exact ⟨t, ht, decide_eq_true h⟩
theorem labF_all (l : List Lab) : (List.range l.length).map (labF l) = l := by
 apply List.ext_getElem
 ·simp
 intro i h1 h2
 simp [labF, List.getD_eq_getElem?_getD, h2]
def cntC (lf : Nat → Lab) (key : Int) (i : Nat) : Nat := ((List.range i).map lf).countP fun k => coverB k key
theorem cntC_succ (lf : Nat → Lab) (key : Int) (i : Nat) : cntC lf key (i + 1) = cntC lf key i + (if coverB (lf i) key = true then 1 else 0) := by
 unfold cntC
 rw [List.range_succ, List.map_append, List.countP_append]
 congr 1
 by_cases h : coverB (lf i) key = true <;> simp [h]
theorem cntC_le (lf : Nat → Lab) (key : Int) (i : Nat) : cntC lf key i ≤ i := by
 have := List.countP_le_length (p := fun k => coverB k key) (l := (List.range i).map lf)
 rw [List.length_map, List.length_range] at this
 exact this
theorem lawCov_s (A : Option Addr) (n c : Nat) (f : Nat → Itm) (hn : n ≤ maxLen) (hki : ∀ i, i < n → U64 (f i).key) (b key : Int) (hkey : U64 key) : Spec Try.prog 5 [rowI A n c f, .int .i64 b, .int .u64 key] (fun _ => .bool .tt) := by
 intro m w hm hargs
 have hmx : maxLen = 9223372036854775807 := rfl
 have SF := few_s A n c f hn
 obtain ⟨fb, hfb⟩ := eqv (fewB n f)
 rw [← hfb] at SF
 have SG := grown_s
 unfold rowI at hargs SF
 refine en 147 hm hargs Try.func5 fun B hB a0 hF => ?_
 refine wp_seq (rg hB TA_ok [0, 1, 2] [] [] hF fun X0 a0 w1 hF => ?_)
 refine wp_seq (wp_seq (rg hB TA_ok [24, 0, 1, 2] [] [(1, .r fun _ => .bool (.v fb))] hF (hob := ?hob) fun X1 a0 w1 hF => ?_))
 case hob =>
  intro X
  subst hB
  repeat (first | exact trivial | refine ⟨rfl, ?_⟩ | refine ⟨fun _ => rfl, ?_⟩ | refine ⟨⟨fun _ _ => by kernel_rfl, SF⟩, ?_⟩ | refine ⟨fun _ => ⟨fun _ _ => by kernel_rfl, SF⟩, ?_⟩)
 apply test_ok hF rfl <;> intro hb hF
 ·refine wp_seq (rg hB TA_ok [6] [] [] hF fun X2 a0 w1 hF => ?_)
  refine wp_ret ((rsi hB TA_ok hF nAt (he := ?_)))
  subst hB
  exact zr
 have hb0 : fb = true := by subst hB; cases fb <;> first | rfl | cases hb
 rw [hb0] at hfb
 have hn6 := few_le hfb.symm
 have SB := build_s A n c f (by omega) hki b
 have hbn := bld_n (b := b) hki
 have hbk := bld_k (b := b) hki
 have hbl := bld_len (b := b) hki
 have hby := bld_yes (b := b) hki
 have hbno := bld_no (n := n) (f := f) (b := b)
 obtain ⟨R, hR⟩ := eqv (bldR n f b)
 obtain ⟨be, hbe⟩ := eqv (bldE n f b)
 rw [← hR, ← hbe] at SB hbno
 rw [← hR] at hbl
 simp only [← hR] at hbn hbk
 rw [← hR, ← hbe] at hby
 have hRR : ∀ y, rwsA (rwAt y R) R.length = R := fun y => rwsA_rwAt y R
 obtain ⟨rn, hrn⟩ := eqv (R.length)
 obtain ⟨RF, hRF⟩ : ∃ RF : Atom → Nat → RowA, RF = fun y => rwAt y R := ⟨_, rfl⟩
 have hRy : ∀ y, rwAt y R = RF y := fun y => by rw [hRF]
 simp only [← hrn, hRy] at SB hbn hbk hRR
 rw [← hrn] at hbl
 simp only [rowI] at SB
 refine wp_skip (wp_seq (rg hB TA_ok [8, 7, 0, 2] [] [(2, .r fun y => .tup [.sl none (y.A 0) rn (y.c 0) 8 (fun i => rowC (RF y i)), .int .i64 be])] hF (hob := ?hob) fun X3 a0 w1 hF => ?_))
 case hob =>
  intro X
  subst hB
  repeat (first | exact trivial | refine ⟨rfl, ?_⟩ | refine ⟨fun _ => rfl, ?_⟩ | refine ⟨⟨fun _ _ => by kernel_rfl, SB⟩, ?_⟩ | refine ⟨fun _ => ⟨fun _ _ => by kernel_rfl, SB⟩, ?_⟩)
 refine wp_seq (wp_seq (rg hB TA_ok [32, 7, 0, 2] [] [] hF fun X4 a0 w1 hF => ?_))
 apply test_ok hF rfl <;> intro hb hF
 ·refine wp_seq (rg hB TA_ok [6] [] [(0, .r fun _ => .bool (.v true))] hF (hob := ?hob) fun X5 a0 w1 hF => ?_)
  case hob =>
   intro X
   subst hB
   repeat (first | exact trivial | refine ⟨rfl, ?_⟩ | refine ⟨fun _ => rfl, ?_⟩ | refine ⟨⟨fun _ _ => by kernel_rfl, SG⟩, ?_⟩ | refine ⟨fun _ => ⟨fun _ _ => by kernel_rfl, SG⟩, ?_⟩)
  refine wp_ret ((rsi hB TA_ok hF nAt (he := ?_)))
  subst hB
  exact Sim.bool rfl
 have heq : be = 0 := by subst hB; simpa [std, sC] using hb
 have hT := hby heq
 have SL := fun (y : Atom) (A2 : Option Addr) (c2 : Nat) => leaves_s A2 rn c2 (RF y) (by omega)
 simp only [hRR, hT.leaves] at SL
 have hll := leaves_len R
 rw [hT.leaves, ← hrn] at hll
 have htl := lv_tile (b := b) (L := firsts f n)
 have hon := lv_one (b := b) (L := firsts f n) hkey
 have hli := fun k => lv_is (b := b) (L := firsts f n) (k := k)
 obtain ⟨LV, hLV⟩ := eqv (lvR b (firsts f n))
 rw [← hLV] at htl hon hll
 simp only [← hLV] at SL hli
 obtain ⟨lf, hlf⟩ := eqv (labF LV)
 obtain ⟨ln, hln⟩ := eqv (LV.length)
 rw [← hln] at hll
 simp only [← hlf, ← hln] at SL
 have hlg : ∀ t (h : t < LV.length), lf t = LV[t] := fun t h => by rw [hlf]; unfold labF; rw [List.getD_eq_getElem?_getD, List.getElem?_eq_getElem h]; rfl
 have hlis : ∀ t, t < ln → isL (lf t) = true ∧ U64 (lf t).bits := fun t ht => by
  rw [hlg t (by omega)]; exact hli _ (List.getElem_mem _)
 have hadj : ∀ t, t + 1 < ln → (lf (t + 1)).bits = (lf t).bits + szL (lf t) := fun t ht => by
  rw [hlg t (by omega), hlg (t + 1) (by omega)]; exact tile_at htl (by omega)
 have hcn1 : cntC lf key ln = 1 := by
  unfold cntC; rw [hlf, hln, labF_all]; exact hon
 have hmem : ∀ y i, i < rn → RowA.abs (RF y i) ∈ R := fun y i hi => rows_mem (hRR y) hi
 refine wp_skip (wp_seq (rg hB TA_ok [9, 7, 0, 2] [] [(1, .r fun y => .sl none (y.A 0) ln (y.c 0) 2 (fun t => labC (lf t)))] hF (hob := ?hob) fun X6 a0 w1 hF => ?_))
 case hob =>
  intro X
  subst hB
  repeat (first | exact trivial | refine ⟨rfl, ?_⟩ | refine ⟨fun _ => rfl, ?_⟩ | refine ⟨⟨fun _ _ => by kernel_rfl, SL _ _ _⟩, ?_⟩ | refine ⟨fun _ => ⟨fun _ _ => by kernel_rfl, SL _ _ _⟩, ?_⟩)
 refine wp_seq (rg hB TA_ok [10, 9, 7, 0, 2] [] [] hF fun X7 a0 w1 hF => ?_)
 refine wp_seq (wp_seq (rg hB TA_ok [10, 11, 9, 7, 0, 2] [] [] hF fun X8 a0 w1 hF => ?_))
 refine wp_block (loop_pre (ι := Nat × Nat) (fun p => [(10, .int .i64 (p.2 : Int)), (11, .int .i64 (p.1 : Int))]) (fun p => []) (fun p => []) (fun p => p.1 ≤ ln ∧ p.2 = cntC lf key p.1) (fun p => ln - p.1) (0, 0) ⟨Nat.zero_le _, rfl⟩ hF ?_)
 rintro ⟨i, j⟩ ⟨hi, hj⟩ a0 w1 hF
 try dsimp only at hi
 try dsimp only at hj
 have hji : j ≤ i := by rw [hj]; exact cntC_le _ _ _
 refine wp_seq (wp_seq (rg hB TA_ok [39, 10, 11, 9, 7, 0, 2] [] [] hF fun X9 a0 w1 hF => ?_))
 apply test_ok hF rfl <;> intro hb hF
 ·have hin : i < ln := by
   have : (i : Int) < (ln : Int) := by subst hB; simpa [std, sC] using hb
   omega
  have SC := cov_s (lf i) (hlis i hin).2 key hkey
  obtain ⟨cq, hcq⟩ := eqv (coverB (lf i) key)
  rw [← hcq] at SC
  simp only [labAV] at SC
  refine wp_skip (wp_seq (wp_block (wp_seq (wp_seq (rg hB TA_ok [47, 10, 11, 9, 7, 0, 2] [] [(5, .r fun _ => .bool (.v cq))] hF (hob := ?hob) fun X11 a0 w1 hF => ?_)))))
  case hob =>
   intro X
   subst hB
   repeat (first | exact trivial | refine ⟨rfl, ?_⟩ | refine ⟨fun _ => rfl, ?_⟩ | refine ⟨(show (0 : Int) ≤ (i : Int) ∧ (i : Int) < (ln : Int) by omega), ?_⟩ | refine ⟨⟨fun _ _ => by kernel_rfl, SC⟩, ?_⟩ | refine ⟨fun _ => ⟨fun _ _ => by kernel_rfl, SC⟩, ?_⟩)
  refine cut_one (ι := Nat) (S0 := [(47, _), (10, _)]) (M0 := []) (G0 := []) (fun p => [(10, .int .i64 (p : Int))]) (fun p => []) (fun p => []) (fun p => p = j + (if cq = true then 1 else 0)) hF ?_ ?_
  ·apply test_ok hF rfl <;> intro hb hF
   ·have hct : cq = true := hb
    refine rg hB TA_ok [10, 11, 9, 7, 0, 2] [] [] hF fun X12 a0 w1 hF => ?_
    have e3 : B.arith .add .i64 (j : Int) 1 = ((j + 1 : Nat) : Int) := by subst hB; exact wrap_succ (n := ln) (by omega) (by omega)
    exact ⟨j + 1, by rw [hct]; rfl, by rw [← e3]; exact hF⟩
   have hcf : cq = false := hb
   exact wp_skip (⟨j, by rw [hcf]; rfl, hF⟩)
  rintro jj hjj a0 w1 hF
  try dsimp only at hjj
  refine wp_seq (rg hB TA_ok [51, 10, 11, 9, 7, 0, 2] [] [] hF fun X13 a0 w1 hF => ?_)
  apply test_ok hF rfl <;> intro hb hF
  ·have hi0 : 0 < i := by
    have : (0 : Int) < (i : Int) := by subst hB; simpa [std, sC] using hb
    omega
   have hjs : jj ≤ ln := by rw [hjj]; split <;> omega
   have SS := span_s (lf i) (hlis i hin).1 (hlis i hin).2
   have had := hadj (i - 1) (by omega)
   rw [show i - 1 + 1 = i by omega] at had
   have SN := next_s (lf (i - 1)) (hlis (i - 1) (by omega)).1 (hlis (i - 1) (by omega)).2 (by rw [← had]; exact (hlis i hin).2.2)
   rw [← had] at SN
   obtain ⟨sb, hsb⟩ := eqv ((lf i).bits)
   obtain ⟨sh, hsh⟩ := eqv ((lf i).bits + szL (lf i) - 1)
   rw [← hsh] at SS
   simp only [labAV] at SS SN
   rw [← hsb] at SN
   have SS : Spec Try.prog 14 [.agg [.int .i64 (lf i).len, .int .u64 (lf i).bits]] (fun _ => .tup [.int .u64 sb, .int .u64 sh, .int .i64 0]) := by rw [hsb]; exact SS
   refine wp_seq (rg hB TA_ok [12, 14, 10, 11, 9, 7, 0, 2] [] [(4, .r fun _ => .tup [.int .u64 sb, .int .u64 sh, .int .i64 0])] hF (hob := ?hob) fun X14 a0 w1 hF => ?_)
   case hob =>
    intro X
    subst hB
    repeat (first | exact trivial | refine ⟨rfl, ?_⟩ | refine ⟨fun _ => rfl, ?_⟩ | refine ⟨(show (0 : Int) ≤ (i : Int) ∧ (i : Int) < (ln : Int) by omega), ?_⟩ | refine ⟨⟨fun _ _ => by kernel_rfl, SS⟩, ?_⟩ | refine ⟨fun _ => ⟨fun _ _ => by kernel_rfl, SS⟩, ?_⟩)
   refine wp_seq (rg hB TA_ok [12, 14, 15, 16, 10, 11, 9, 7, 0, 2] [] [(5, .r fun _ => .tup [.int .u64 sb, .bool (.v true)])] hF (hob := ?hob) fun X15 a0 w1 hF => ?_)
   case hob =>
    intro X
    subst hB
    have e3 : std.toNat (std.arith .sub .i64 (i : Int) 1) = i - 1 := by show (IntKind.i64.wrap ((i : Int) - 1)).toNat = i - 1; rw [wrap_in (by omega) (by omega)]; omega
    have e4 : (0 : Int) ≤ std.arith .sub .i64 (i : Int) 1 ∧ std.arith .sub .i64 (i : Int) 1 < (ln : Int) := by show (0 : Int) ≤ IntKind.i64.wrap ((i : Int) - 1) ∧ IntKind.i64.wrap ((i : Int) - 1) < (ln : Int); rw [wrap_in (by omega) (by omega)]; omega
    have SN2 := SN
    rw [← e3] at SN2
    repeat (first | exact trivial | refine ⟨rfl, ?_⟩ | refine ⟨fun _ => rfl, ?_⟩ | refine ⟨e4, ?_⟩ | refine ⟨⟨fun _ _ => by kernel_rfl, SN2⟩, ?_⟩ | refine ⟨fun _ => ⟨fun _ _ => by kernel_rfl, SN2⟩, ?_⟩)
   refine wp_seq (rg hB TA_ok [80, 10, 11, 9, 7, 0, 2] [] [] hF (hob := ?hob) fun X16 a0 w1 hF => ?_)
   case hob =>
    intro X
    subst hB
    repeat (first | exact trivial | refine ⟨rfl, ?_⟩ | refine ⟨fun _ => rfl, ?_⟩)
   apply test_ok hF rfl <;> intro hb hF
   ·have hfl : False := by subst hB; revert hb; simp [std, sC]
    refine wp_seq (rg hB TA_ok [6] [] [] hF fun X17 a0 w1 hF => ?_)
    refine wp_ret ((rsi hB TA_ok hF nAt (he := ?_)))
    exact hfl.elim
   refine wp_skip (rg hB TA_ok [10, 11, 9, 7, 0, 2] [] [] hF fun X10 a0 w1 hF => ?_)
   have e : B.arith .add .i64 (i : Int) 1 = ((i + 1 : Nat) : Int) := by subst hB; exact wrap_succ (n := ln) hin (by omega)
   refine ⟨(i + 1, jj), ⟨by simp only; omega, ?_⟩, by simp only; omega, by rw [← e]; exact hF⟩
   simp only
   rw [hjj, cntC_succ, ← hj, ← hcq]
  have hjs : jj ≤ ln := by rw [hjj]; split <;> omega
  refine wp_skip (rg hB TA_ok [10, 11, 9, 7, 0, 2] [] [] hF fun X10 a0 w1 hF => ?_)
  have e : B.arith .add .i64 (i : Int) 1 = ((i + 1 : Nat) : Int) := by subst hB; exact wrap_succ (n := ln) hin (by omega)
  refine ⟨(i + 1, jj), ⟨by simp only; omega, ?_⟩, by simp only; omega, by rw [← e]; exact hF⟩
  simp only
  rw [hjj, cntC_succ, ← hj, ← hcq]
 have hout : i = ln := by
  have : ¬ (i : Int) < (ln : Int) := by subst hB; simpa [std, sC] using hb
  omega
 have hj1 : j = 1 := by rw [hj, hout]; exact hcn1
 refine wp_exit (wp_seq (wp_seq (rg hB TA_ok [82, 7, 0] [] [] hF fun X18 a0 w1 hF => ?_)))
 apply test_ok hF rfl <;> intro hb hF
 ·have hfl : False := by subst hB; rw [hj1] at hb; revert hb; simp [std, sC]
  refine wp_seq (rg hB TA_ok [6] [] [] hF fun X19 a0 w1 hF => ?_)
  refine wp_ret ((rsi hB TA_ok hF nAt (he := ?_)))
  exact hfl.elim
 refine wp_skip (wp_seq (wp_seq (rg hB TA_ok [17, 7, 0] [] [] hF fun X20 a0 w1 hF => ?_)))
 refine wp_block (loop_pre (ι := Nat) (fun p => [(17, .int .i64 (p : Int))]) (fun p => []) (fun p => []) (fun p => p ≤ rn) (fun p => rn - p) 0 (Nat.zero_le _) hF ?_)
 rintro i hi a0 w1 hF
 try dsimp only at hi
 refine wp_seq (wp_seq (rg hB TA_ok [86, 17, 7, 0] [] [] hF fun X21 a0 w1 hF => ?_))
 apply test_ok hF rfl <;> intro hb hF
 ·have hin : i < rn := by
   have : (i : Int) < (rn : Int) := by subst hB; simpa [std, sC] using hb
   omega
  have hw := hmem (X3 2) i hin
  have hsm := hT.isR_small hw
  have hin16 : (RF (X3 2) i).x.r.n ≤ 16 := by have := hsm.1; rw [show (RowA.abs (RF (X3 2) i)).r.items = firsts (RF (X3 2) i).x.r.f (RF (X3 2) i).x.r.n from rfl, firsts_len] at this; exact this
  refine wp_skip (wp_seq (wp_block (wp_seq (rg hB TA_ok [18, 17, 7, 0] [] [] hF fun X23 a0 w1 hF => ?_))))
  refine wp_block (loop_pre (ι := Nat) (fun p => [(18, .int .i64 (p : Int))]) (fun p => []) (fun p => []) (fun p => p ≤ n) (fun p => n - p) 0 (Nat.zero_le _) hF ?_)
  rintro k hk a0 w1 hF
  try dsimp only at hk
  refine wp_seq (wp_seq (rg hB TA_ok [92, 18, 17, 7, 0] [] [] hF fun X24 a0 w1 hF => ?_))
  apply test_ok hF rfl <;> intro hb hF
  ·have hkn : k < n := by
    have : (k : Int) < (n : Int) := by subst hB; simpa [std, sC] using hb
    omega
   have SC := cov_s (RF (X3 2) i).lab hsm.2.2.1 (f k).key (hki k hkn)
   obtain ⟨cq, hcq⟩ := eqv (coverB (RF (X3 2) i).lab (f k).key)
   rw [← hcq] at SC
   simp only [labAV] at SC
   obtain ⟨ow, how⟩ := eqv ((decide ((RF (X3 2) i).x.r.kd = 1) && cq))
   have hown : ow = hasF (RF (X3 2) i).x.r.f (RF (X3 2) i).x.r.n (f k) := by
    rw [how, hcq, Bool.eq_iff_iff, hasF_in, Bool.and_eq_true, decide_eq_true_eq]
    exact (hT.own hw (x := f k) (List.mem_map.2 ⟨k, List.mem_range.2 hkn, rfl⟩)).symm
   refine wp_skip (wp_seq (wp_block (wp_seq (drg hB TA_ok [19, 18, 17, 7, 0] [] [(18, .r fun _ => .bool (.v cq))] hF (hob := ?hob) fun X26 a0 w1 hF => ?_))))
   case hob =>
    intro X
    subst hB
    repeat (first | exact trivial | refine ⟨rfl, ?_⟩ | refine ⟨fun _ => rfl, ?_⟩ | refine ⟨(show (0 : Int) ≤ (i : Int) ∧ (i : Int) < (rn : Int) by omega), ?_⟩ | refine ⟨fun _ => (show (0 : Int) ≤ (i : Int) ∧ (i : Int) < (rn : Int) by omega), ?_⟩ | refine ⟨(show (0 : Int) ≤ (k : Int) ∧ (k : Int) < (n : Int) by omega), ?_⟩ | refine ⟨fun _ => (show (0 : Int) ≤ (k : Int) ∧ (k : Int) < (n : Int) by omega), ?_⟩ | refine ⟨⟨fun _ _ => by kernel_rfl, SC⟩, ?_⟩ | refine ⟨fun _ => ⟨fun _ _ => by kernel_rfl, SC⟩, ?_⟩)
   replace hF := hF.headS (v' := .bool (.v ow)) (Sim.bool (by subst hB; rw [how]; by_cases g : (RF (X3 2) i).x.r.kd = 1 <;> cases cq <;> simp [std, sC, BE.den, g] <;> rfl)) rfl
   refine wp_seq (rg hB TA_ok [20, 19, 18, 17, 7, 0] [] [] hF fun X27 a0 w1 hF => ?_)
   refine wp_seq (wp_seq (rg hB TA_ok [20, 21, 19, 18, 17, 7, 0] [] [] hF fun X28 a0 w1 hF => ?_))
   replace hF := hF.headS (v' := .bool (.v (hasF (RF (X3 2) i).x.r.f 0 (f k)))) (Sim.bool rfl) rfl
   refine wp_block (loop_pre (ι := Nat) (fun p => [(20, .bool (.v (hasF (RF (X3 2) i).x.r.f p (f k)))), (21, .int .i64 (p : Int))]) (fun p => []) (fun p => []) (fun p => p ≤ (RF (X3 2) i).x.r.n) (fun p => (RF (X3 2) i).x.r.n - p) 0 (Nat.zero_le _) hF ?_)
   rintro m hm5 a0 w1 hF
   try dsimp only at hm5
   obtain ⟨hs, hhs⟩ := eqv (hasF (RF (X3 2) i).x.r.f m (f k))
   rw [← hhs] at hF
   refine wp_seq (wp_seq (rg hB TA_ok [123, 20, 21, 19, 18, 17, 7, 0] [] [] hF (hob := ?hob) fun X29 a0 w1 hF => ?_))
   case hob =>
    intro X
    subst hB
    repeat (first | exact trivial | refine ⟨rfl, ?_⟩ | refine ⟨fun _ => rfl, ?_⟩ | refine ⟨(show (0 : Int) ≤ (i : Int) ∧ (i : Int) < (rn : Int) by omega), ?_⟩ | refine ⟨fun _ => (show (0 : Int) ≤ (i : Int) ∧ (i : Int) < (rn : Int) by omega), ?_⟩ | refine ⟨(show (0 : Int) ≤ (k : Int) ∧ (k : Int) < (n : Int) by omega), ?_⟩ | refine ⟨fun _ => (show (0 : Int) ≤ (k : Int) ∧ (k : Int) < (n : Int) by omega), ?_⟩ | refine ⟨⟨fun _ _ => by kernel_rfl, SG⟩, ?_⟩ | refine ⟨fun _ => ⟨fun _ _ => by kernel_rfl, SG⟩, ?_⟩)
   apply test_ok hF rfl <;> intro hb hF
   ·have hmn : m < (RF (X3 2) i).x.r.n := by
     have : (m : Int) < ((RF (X3 2) i).x.r.n : Int) := by subst hB; simpa [std, sC] using hb
     omega
    refine wp_skip (wp_seq (wp_block (drg hB TA_ok [20, 21, 19, 18, 17, 7, 0] [] [] hF (hob := ?hob) fun X31 a0 w1 hF => ?_)))
    case hob =>
     intro X
     subst hB
     repeat (first | exact trivial | refine ⟨rfl, ?_⟩ | refine ⟨fun _ => rfl, ?_⟩ | refine ⟨(show (0 : Int) ≤ (i : Int) ∧ (i : Int) < (rn : Int) by omega), ?_⟩ | refine ⟨fun _ => (show (0 : Int) ≤ (i : Int) ∧ (i : Int) < (rn : Int) by omega), ?_⟩ | refine ⟨(show (0 : Int) ≤ (k : Int) ∧ (k : Int) < (n : Int) by omega), ?_⟩ | refine ⟨fun _ => (show (0 : Int) ≤ (k : Int) ∧ (k : Int) < (n : Int) by omega), ?_⟩ | refine ⟨fun _ => (show (0 : Int) ≤ (m : Int) ∧ (m : Int) < ((RF (X3 2) i).x.r.n : Int) by omega), ?_⟩ | refine ⟨fun _ => ob_itm (Kk := noK) _ _ _ _, ?_⟩ | refine ⟨⟨fun _ _ => by kernel_rfl, SG⟩, ?_⟩ | refine ⟨fun _ => ⟨fun _ _ => by kernel_rfl, SG⟩, ?_⟩)
    obtain ⟨h2, hh2⟩ := eqv (hasF (RF (X3 2) i).x.r.f (m + 1) (f k))
    replace hF := hF.headS (v' := .bool (.v h2)) (Sim.bool (by subst hB; rw [hh2, hasF_succ, ← hhs, ← eqL_itm]; cases hs <;> simp [std, sC, BE.den, itC] <;> rfl)) rfl
    refine rg hB TA_ok [20, 21, 19, 18, 17, 7, 0] [] [] hF fun X30 a0 w1 hF => ?_
    have e : B.arith .add .i64 (m : Int) 1 = ((m + 1 : Nat) : Int) := by subst hB; exact wrap_succ (n := (RF (X3 2) i).x.r.n) hmn (by omega)
    refine ⟨m + 1, by omega, by omega, by rw [← e, ← hh2]; exact hF⟩
   have hmo : m = (RF (X3 2) i).x.r.n := by
    have : ¬ (m : Int) < ((RF (X3 2) i).x.r.n : Int) := by subst hB; simpa [std, sC] using hb
    omega
   have hsw : ow = hs := by rw [hown, hhs, hmo]
   refine wp_exit (wp_seq (rg hB TA_ok [145, 18, 17, 7, 0] [] [] hF fun X32 a0 w1 hF => ?_))
   apply test_ok hF rfl <;> intro hb hF
   ·have hfl : False := by subst hB; rw [hsw] at hb; revert hb; cases hs <;> simp [std, sC]
    refine wp_seq (rg hB TA_ok [6] [] [] hF fun X33 a0 w1 hF => ?_)
    refine wp_ret ((rsi hB TA_ok hF nAt (he := ?_)))
    exact hfl.elim
   refine wp_skip (rg hB TA_ok [18, 17, 7, 0] [] [] hF fun X25 a0 w1 hF => ?_)
   have e : B.arith .add .i64 (k : Int) 1 = ((k + 1 : Nat) : Int) := by subst hB; exact wrap_succ (n := n) hkn (by omega)
   refine ⟨k + 1, by omega, by omega, by rw [← e]; exact hF⟩
  have hko : k = n := by
   have : ¬ (k : Int) < (n : Int) := by subst hB; simpa [std, sC] using hb
   omega
  refine wp_exit (rg hB TA_ok [17, 7, 0] [] [] hF fun X22 a0 w1 hF => ?_)
  have e : B.arith .add .i64 (i : Int) 1 = ((i + 1 : Nat) : Int) := by subst hB; exact wrap_succ (n := rn) hin (by omega)
  refine ⟨i + 1, by omega, by omega, by rw [← e]; exact hF⟩
 have hout : i = rn := by
  have : ¬ (i : Int) < (rn : Int) := by subst hB; simpa [std, sC] using hb
  omega
 refine wp_exit (wp_seq (rg hB TA_ok [6] [] [(0, .r fun _ => .bool (.v true))] hF (hob := ?hob) fun X34 a0 w1 hF => ?_))
 case hob =>
  intro X
  subst hB
  repeat (first | exact trivial | refine ⟨rfl, ?_⟩ | refine ⟨fun _ => rfl, ?_⟩ | refine ⟨⟨fun _ _ => by kernel_rfl, SG⟩, ?_⟩ | refine ⟨fun _ => ⟨fun _ _ => by kernel_rfl, SG⟩, ?_⟩)
 refine wp_ret ((rsi hB TA_ok hF nAt (he := ?_)))
 subst hB
 exact Sim.bool rfl
end Go.Proofs.Ytpgjalaldhlcoaa.Sym
namespace Go.Proofs.Ytpgjalaldhlcoaa
open Go Go.RowKit
theorem walkTrieCovers (W : World) (v0 v1 v2 : Value) (i0 : Sym.InIts W v0) (i1 : Sym.InI v1) (i2 : Sym.InU v2) : Calls Try.prog 5 #[v0, v1, v2] W fun e w' => e = .returned (.bool true) ∧ Below W.heap.size W w' := by
 obtain ⟨A, n, c, f, rfl, h0, hn, hf⟩ := i0
 obtain ⟨b, rfl, _⟩ := i1
 obtain ⟨k, rfl, hk⟩ := i2
 have S := Sym.lawCov_s A n c f hn hf b k hk
 refine (S (fun _ _ => False) W (fun _ _ h => h.elim) (fun v hv => ?_)).mono ?_
 ·simp only [List.mem_cons, List.not_mem_nil, or_false] at hv
  rcases hv with rfl | rfl | rfl
  ·exact h0
  ·exact .int _ _
  exact .int _ _
 rintro e w' ⟨x, rfl, _, hb⟩
 exact ⟨rfl, hb⟩
end Go.Proofs.Ytpgjalaldhlcoaa
