/-
  No cell of these rows narrows 'for every input' (looked for: loops, veiled, ifaces, maps, wideKeys, modest, calm, conditions, laid).
  DERIVED. THE GIVEN ROWS OF THIS SEAT. 10 by the template 'for every input the law returns true; each argument reads behind the call as it read before'; 0 by the template 'total and deterministic' (their statements: YtfddpcmlmcohjaaTotals.lean).
  GIVEN WITH THE SEED: the statements are not yours to turn. If you find one false, say at which input.
  Laid BY PROGRAM, IN A SANDBOX (cutbox-rows.mjs): the forced cells as the released guide's own fill.sh prints them over the translation 806ebff2420a5275… (all of the seat's roots in one cut). By AI agents, Wed Nov 11 2026. No macro, syntax, notation, axiom, sorry.
-/
import Derived.Test.YtfddpcmlmcohjaaChecked
import GoSem.Claim
import GoSem.ClaimJoined
import GoSem.ClaimMapViews
import Derived.JoinedTies
import Derived.KernelRfl
namespace Go.Proofs.Ytfddpcmlmcohjaa
/- THE CELL 'sum', in the pinned program and in every row, IS THE sha256 OF THE DUMP (.gsa) THAT YtfddpcmlmcohjaaProg.lean LOADS. Nothing in Lean hashes anything: it is a label: what it is worth is what the hold of that sum in a sandbox is worth. -/
noncomputable def Try.pinned : Pinned := { name := "ytfddpcmlmcohjaa", sum := "806ebff2420a5275768622bd5bdba6809090dc2db44ce8eb1d5045abcc851edb", checked := Try.checked }
namespace Rows
def none {H : Type} : Left H := { results := [], args := [] }

/-- 'espalierlaw07.SortedSplits': WHATEVER THE INPUT: true; the input reads as it did. -/
def sortedSplitsSpec : ChangeSpec := { name := "sortedSplits", fn := fun _ => fun
  | [d1, d2, d3, d4, d5] => { results := [.lit (.bool true)], args := [d1, d2, d3, d4, d5] }
  | _ => none }
def sortedSplitsRow : OpenClaim := { program := "ytfddpcmlmcohjaa", sum := "806ebff2420a5275768622bd5bdba6809090dc2db44ce8eb1d5045abcc851edb", func := "espalier/espalierlaw07.SortedSplits", spec := "sortedSplits", inPlace := ["slices.overlaps[espalier/sorted.entry]"], unfollowed := true, recurses := true, apart := false }
def SortedSplitsSaid : Prop := sortedSplitsRow.holds Try.pinned (OpenSpec.ofChange sortedSplitsSpec)

/-- ITS FALSE NEIGHBOUR: 'it returns false'. Refute it at one input. -/
def sortedSplitsWrong : ChangeSpec := { name := "sortedSplits", fn := fun _ => fun
  | [d1, d2, d3, d4, d5] => { results := [.lit (.bool false)], args := [d1, d2, d3, d4, d5] }
  | _ => none }
def SortedSplitsWrongFalsely : Prop := sortedSplitsRow.holds Try.pinned (OpenSpec.ofChange sortedSplitsWrong)

/-- 'espalierlaw07.SortedEnds': WHATEVER THE INPUT: true; the input reads as it did. -/
def sortedEndsSpec : ChangeSpec := { name := "sortedEnds", fn := fun _ => fun
  | [d] => { results := [.lit (.bool true)], args := [d] }
  | _ => none }
def sortedEndsRow : OpenClaim := { program := "ytfddpcmlmcohjaa", sum := "806ebff2420a5275768622bd5bdba6809090dc2db44ce8eb1d5045abcc851edb", func := "espalier/espalierlaw07.SortedEnds", spec := "sortedEnds", inPlace := ["slices.overlaps[espalier/sorted.entry]"], unfollowed := true, recurses := true, apart := false }
def SortedEndsSaid : Prop := sortedEndsRow.holds Try.pinned (OpenSpec.ofChange sortedEndsSpec)

/-- ITS FALSE NEIGHBOUR: 'it returns false'. Refute it at one input. -/
def sortedEndsWrong : ChangeSpec := { name := "sortedEnds", fn := fun _ => fun
  | [d] => { results := [.lit (.bool false)], args := [d] }
  | _ => none }
def SortedEndsWrongFalsely : Prop := sortedEndsRow.holds Try.pinned (OpenSpec.ofChange sortedEndsWrong)

/-- 'espalierlaw17.CellDoes': WHATEVER THE INPUT: true; the input reads as it did. -/
def cellDoesSpec : ChangeSpec := { name := "cellDoes", fn := fun _ => fun
  | [d1, d2] => { results := [.lit (.bool true)], args := [d1, d2] }
  | _ => none }
def cellDoesRow : OpenClaim := { program := "ytfddpcmlmcohjaa", sum := "806ebff2420a5275768622bd5bdba6809090dc2db44ce8eb1d5045abcc851edb", func := "espalier/espalierlaw17.CellDoes", spec := "cellDoes", inPlace := ["slices.overlaps[espalier/api.Mark]"], unfollowed := true, recurses := true, apart := false }
def CellDoesSaid : Prop := cellDoesRow.holds Try.pinned (OpenSpec.ofChange cellDoesSpec)

/-- ITS FALSE NEIGHBOUR: 'it returns false'. Refute it at one input. -/
def cellDoesWrong : ChangeSpec := { name := "cellDoes", fn := fun _ => fun
  | [d1, d2] => { results := [.lit (.bool false)], args := [d1, d2] }
  | _ => none }
def CellDoesWrongFalsely : Prop := cellDoesRow.holds Try.pinned (OpenSpec.ofChange cellDoesWrong)

/-- 'espalierlaw17.CellTwice': WHATEVER THE INPUT: true; the input reads as it did. -/
def cellTwiceSpec : ChangeSpec := { name := "cellTwice", fn := fun _ => fun
  | [d1, d2, d3] => { results := [.lit (.bool true)], args := [d1, d2, d3] }
  | _ => none }
def cellTwiceRow : OpenClaim := { program := "ytfddpcmlmcohjaa", sum := "806ebff2420a5275768622bd5bdba6809090dc2db44ce8eb1d5045abcc851edb", func := "espalier/espalierlaw17.CellTwice", spec := "cellTwice", inPlace := ["slices.overlaps[espalier/api.Mark]"], unfollowed := true, recurses := true, apart := false }
def CellTwiceSaid : Prop := cellTwiceRow.holds Try.pinned (OpenSpec.ofChange cellTwiceSpec)

/-- ITS FALSE NEIGHBOUR: 'it returns false'. Refute it at one input. -/
def cellTwiceWrong : ChangeSpec := { name := "cellTwice", fn := fun _ => fun
  | [d1, d2, d3] => { results := [.lit (.bool false)], args := [d1, d2, d3] }
  | _ => none }
def CellTwiceWrongFalsely : Prop := cellTwiceRow.holds Try.pinned (OpenSpec.ofChange cellTwiceWrong)

/-- 'espalierlaw17.CellRises': WHATEVER THE INPUT: true; the input reads as it did. -/
def cellRisesSpec : ChangeSpec := { name := "cellRises", fn := fun _ => fun
  | [d1, d2] => { results := [.lit (.bool true)], args := [d1, d2] }
  | _ => none }
def cellRisesRow : OpenClaim := { program := "ytfddpcmlmcohjaa", sum := "806ebff2420a5275768622bd5bdba6809090dc2db44ce8eb1d5045abcc851edb", func := "espalier/espalierlaw17.CellRises", spec := "cellRises", inPlace := ["slices.overlaps[espalier/api.Mark]"], unfollowed := true, recurses := true, apart := false }
def CellRisesSaid : Prop := cellRisesRow.holds Try.pinned (OpenSpec.ofChange cellRisesSpec)

/-- ITS FALSE NEIGHBOUR: 'it returns false'. Refute it at one input. -/
def cellRisesWrong : ChangeSpec := { name := "cellRises", fn := fun _ => fun
  | [d1, d2] => { results := [.lit (.bool false)], args := [d1, d2] }
  | _ => none }
def CellRisesWrongFalsely : Prop := cellRisesRow.holds Try.pinned (OpenSpec.ofChange cellRisesWrong)

/-- 'espalierlaw17.CellMerges': WHATEVER THE INPUT: true; the input reads as it did. -/
def cellMergesSpec : ChangeSpec := { name := "cellMerges", fn := fun _ => fun
  | [d1, d2] => { results := [.lit (.bool true)], args := [d1, d2] }
  | _ => none }
def cellMergesRow : OpenClaim := { program := "ytfddpcmlmcohjaa", sum := "806ebff2420a5275768622bd5bdba6809090dc2db44ce8eb1d5045abcc851edb", func := "espalier/espalierlaw17.CellMerges", spec := "cellMerges", inPlace := ["slices.overlaps[espalier/api.Mark]"], unfollowed := true, recurses := true, apart := false }
def CellMergesSaid : Prop := cellMergesRow.holds Try.pinned (OpenSpec.ofChange cellMergesSpec)

/-- ITS FALSE NEIGHBOUR: 'it returns false'. Refute it at one input. -/
def cellMergesWrong : ChangeSpec := { name := "cellMerges", fn := fun _ => fun
  | [d1, d2] => { results := [.lit (.bool false)], args := [d1, d2] }
  | _ => none }
def CellMergesWrongFalsely : Prop := cellMergesRow.holds Try.pinned (OpenSpec.ofChange cellMergesWrong)

/-- 'espalierlaw17.CellOnce': WHATEVER THE INPUT: true; the input reads as it did. -/
def cellOnceSpec : ChangeSpec := { name := "cellOnce", fn := fun _ => fun
  | [d1, d2] => { results := [.lit (.bool true)], args := [d1, d2] }
  | _ => none }
def cellOnceRow : OpenClaim := { program := "ytfddpcmlmcohjaa", sum := "806ebff2420a5275768622bd5bdba6809090dc2db44ce8eb1d5045abcc851edb", func := "espalier/espalierlaw17.CellOnce", spec := "cellOnce", inPlace := ["slices.overlaps[espalier/api.Mark]"], unfollowed := true, recurses := true, apart := false }
def CellOnceSaid : Prop := cellOnceRow.holds Try.pinned (OpenSpec.ofChange cellOnceSpec)

/-- ITS FALSE NEIGHBOUR: 'it returns false'. Refute it at one input. -/
def cellOnceWrong : ChangeSpec := { name := "cellOnce", fn := fun _ => fun
  | [d1, d2] => { results := [.lit (.bool false)], args := [d1, d2] }
  | _ => none }
def CellOnceWrongFalsely : Prop := cellOnceRow.holds Try.pinned (OpenSpec.ofChange cellOnceWrong)

/-- 'espalierlaw07.SortedKeeps': WHATEVER THE INPUT: true; the input reads as it did. -/
def sortedKeepsSpec : ChangeSpec := { name := "sortedKeeps", fn := fun _ => fun
  | [d1, d2, d3, d4] => { results := [.lit (.bool true)], args := [d1, d2, d3, d4] }
  | _ => none }
def sortedKeepsRow : OpenClaim := { program := "ytfddpcmlmcohjaa", sum := "806ebff2420a5275768622bd5bdba6809090dc2db44ce8eb1d5045abcc851edb", func := "espalier/espalierlaw07.SortedKeeps", spec := "sortedKeeps", inPlace := ["slices.overlaps[espalier/sorted.entry]"], unfollowed := true, recurses := true, apart := false }
def SortedKeepsSaid : Prop := sortedKeepsRow.holds Try.pinned (OpenSpec.ofChange sortedKeepsSpec)

/-- ITS FALSE NEIGHBOUR: 'it returns false'. Refute it at one input. -/
def sortedKeepsWrong : ChangeSpec := { name := "sortedKeeps", fn := fun _ => fun
  | [d1, d2, d3, d4] => { results := [.lit (.bool false)], args := [d1, d2, d3, d4] }
  | _ => none }
def SortedKeepsWrongFalsely : Prop := sortedKeepsRow.holds Try.pinned (OpenSpec.ofChange sortedKeepsWrong)

/-- 'espalierlaw07.SortedDoes': WHATEVER THE INPUT: true; the input reads as it did. -/
def sortedDoesSpec : ChangeSpec := { name := "sortedDoes", fn := fun _ => fun
  | [d] => { results := [.lit (.bool true)], args := [d] }
  | _ => none }
def sortedDoesRow : OpenClaim := { program := "ytfddpcmlmcohjaa", sum := "806ebff2420a5275768622bd5bdba6809090dc2db44ce8eb1d5045abcc851edb", func := "espalier/espalierlaw07.SortedDoes", spec := "sortedDoes", inPlace := ["slices.overlaps[espalier/sorted.entry]"], unfollowed := true, recurses := true, apart := false }
def SortedDoesSaid : Prop := sortedDoesRow.holds Try.pinned (OpenSpec.ofChange sortedDoesSpec)

/-- ITS FALSE NEIGHBOUR: 'it returns false'. Refute it at one input. -/
def sortedDoesWrong : ChangeSpec := { name := "sortedDoes", fn := fun _ => fun
  | [d] => { results := [.lit (.bool false)], args := [d] }
  | _ => none }
def SortedDoesWrongFalsely : Prop := sortedDoesRow.holds Try.pinned (OpenSpec.ofChange sortedDoesWrong)

/-- 'espalierlaw07.SortedNil': WHATEVER THE INPUT: true; the input reads as it did. -/
def sortedNilSpec : ChangeSpec := { name := "sortedNil", fn := fun _ => fun
  | [d1, d2] => { results := [.lit (.bool true)], args := [d1, d2] }
  | _ => none }
def sortedNilRow : OpenClaim := { program := "ytfddpcmlmcohjaa", sum := "806ebff2420a5275768622bd5bdba6809090dc2db44ce8eb1d5045abcc851edb", func := "espalier/espalierlaw07.SortedNil", spec := "sortedNil", inPlace := ["slices.overlaps[espalier/sorted.entry]"], unfollowed := true, recurses := true, apart := false }
def SortedNilSaid : Prop := sortedNilRow.holds Try.pinned (OpenSpec.ofChange sortedNilSpec)

/-- ITS FALSE NEIGHBOUR: 'it returns false'. Refute it at one input. -/
def sortedNilWrong : ChangeSpec := { name := "sortedNil", fn := fun _ => fun
  | [d1, d2] => { results := [.lit (.bool false)], args := [d1, d2] }
  | _ => none }
def SortedNilWrongFalsely : Prop := sortedNilRow.holds Try.pinned (OpenSpec.ofChange sortedNilWrong)

/- THE SECOND FORM. 'bulk': how many values and letters a reading holds, each counted each time it is reached (what is shared counts as often as it is met; a slice's spare places count too). A statement '..UptoSaid' is the law's where the arguments, and the package variables that the reading takes, are together of bulk at most 1048576: NARROWER than '..Said'. Prove '..Said' where nothing that the law and all that it calls make is longer than what came in: it says more and counts as full. Else prove '..UptoSaid'. A law counts once. -/
mutual
def uptoBulk {H : Type} : DataW H → Nat
  | .lit (.string bytes) => bytes.length + 1
  | .lit _ => 1
  | .nil => 1
  | .ptr d => uptoBulk d + 1
  | .slice elems spare => uptoBulkAll elems + uptoBulkAll spare + 1
  | .agg parts => uptoBulkAll parts + 1
  | .iface _ d => uptoBulk d + 1
  | .map entries => uptoBulkEntries entries + 1
  | .held _ => 1
def uptoBulkAll {H : Type} : List (DataW H) → Nat
  | [] => 0
  | d :: r => uptoBulk d + uptoBulkAll r
def uptoBulkEntries {H : Type} : List (Lit × DataW H) → Nat
  | [] => 0
  | x :: r => uptoBulkEntry x + uptoBulkEntries r
def uptoBulkEntry {H : Type} : Lit × DataW H → Nat
  | (.string bytes, d) => bytes.length + uptoBulk d + 1
  | (_, d) => uptoBulk d + 1
 end
def uptoSmall : (H : Type) → List (DataW H) → Bool := fun _ ds => decide (uptoBulkAll ds ≤ 1048576)
def OpenSpec.upto (s : _root_.Go.ChangeSpec) : _root_.Go.OpenSpec := { _root_.Go.OpenSpec.ofChange s with cond := some uptoSmall }

/-- 'espalierlaw07.SortedSplits', WHERE WHAT IT READS IS OF BULK AT MOST 1048576: true; the input reads as it did. -/
def sortedSplitsUptoRow : OpenClaim := { program := "ytfddpcmlmcohjaa", sum := "806ebff2420a5275768622bd5bdba6809090dc2db44ce8eb1d5045abcc851edb", func := "espalier/espalierlaw07.SortedSplits", spec := "sortedSplits", inPlace := ["slices.overlaps[espalier/sorted.entry]"], unfollowed := true, recurses := true, apart := false, narrowed := true }
def SortedSplitsUptoSaid : Prop := sortedSplitsUptoRow.holds Try.pinned (OpenSpec.upto sortedSplitsSpec)

/-- 'espalierlaw07.SortedEnds', WHERE WHAT IT READS IS OF BULK AT MOST 1048576: true; the input reads as it did. -/
def sortedEndsUptoRow : OpenClaim := { program := "ytfddpcmlmcohjaa", sum := "806ebff2420a5275768622bd5bdba6809090dc2db44ce8eb1d5045abcc851edb", func := "espalier/espalierlaw07.SortedEnds", spec := "sortedEnds", inPlace := ["slices.overlaps[espalier/sorted.entry]"], unfollowed := true, recurses := true, apart := false, narrowed := true }
def SortedEndsUptoSaid : Prop := sortedEndsUptoRow.holds Try.pinned (OpenSpec.upto sortedEndsSpec)

/-- 'espalierlaw17.CellDoes', WHERE WHAT IT READS IS OF BULK AT MOST 1048576: true; the input reads as it did. -/
def cellDoesUptoRow : OpenClaim := { program := "ytfddpcmlmcohjaa", sum := "806ebff2420a5275768622bd5bdba6809090dc2db44ce8eb1d5045abcc851edb", func := "espalier/espalierlaw17.CellDoes", spec := "cellDoes", inPlace := ["slices.overlaps[espalier/api.Mark]"], unfollowed := true, recurses := true, apart := false, narrowed := true }
def CellDoesUptoSaid : Prop := cellDoesUptoRow.holds Try.pinned (OpenSpec.upto cellDoesSpec)

/-- 'espalierlaw17.CellTwice', WHERE WHAT IT READS IS OF BULK AT MOST 1048576: true; the input reads as it did. -/
def cellTwiceUptoRow : OpenClaim := { program := "ytfddpcmlmcohjaa", sum := "806ebff2420a5275768622bd5bdba6809090dc2db44ce8eb1d5045abcc851edb", func := "espalier/espalierlaw17.CellTwice", spec := "cellTwice", inPlace := ["slices.overlaps[espalier/api.Mark]"], unfollowed := true, recurses := true, apart := false, narrowed := true }
def CellTwiceUptoSaid : Prop := cellTwiceUptoRow.holds Try.pinned (OpenSpec.upto cellTwiceSpec)

/-- 'espalierlaw17.CellRises', WHERE WHAT IT READS IS OF BULK AT MOST 1048576: true; the input reads as it did. -/
def cellRisesUptoRow : OpenClaim := { program := "ytfddpcmlmcohjaa", sum := "806ebff2420a5275768622bd5bdba6809090dc2db44ce8eb1d5045abcc851edb", func := "espalier/espalierlaw17.CellRises", spec := "cellRises", inPlace := ["slices.overlaps[espalier/api.Mark]"], unfollowed := true, recurses := true, apart := false, narrowed := true }
def CellRisesUptoSaid : Prop := cellRisesUptoRow.holds Try.pinned (OpenSpec.upto cellRisesSpec)

/-- 'espalierlaw17.CellMerges', WHERE WHAT IT READS IS OF BULK AT MOST 1048576: true; the input reads as it did. -/
def cellMergesUptoRow : OpenClaim := { program := "ytfddpcmlmcohjaa", sum := "806ebff2420a5275768622bd5bdba6809090dc2db44ce8eb1d5045abcc851edb", func := "espalier/espalierlaw17.CellMerges", spec := "cellMerges", inPlace := ["slices.overlaps[espalier/api.Mark]"], unfollowed := true, recurses := true, apart := false, narrowed := true }
def CellMergesUptoSaid : Prop := cellMergesUptoRow.holds Try.pinned (OpenSpec.upto cellMergesSpec)

/-- 'espalierlaw17.CellOnce', WHERE WHAT IT READS IS OF BULK AT MOST 1048576: true; the input reads as it did. -/
def cellOnceUptoRow : OpenClaim := { program := "ytfddpcmlmcohjaa", sum := "806ebff2420a5275768622bd5bdba6809090dc2db44ce8eb1d5045abcc851edb", func := "espalier/espalierlaw17.CellOnce", spec := "cellOnce", inPlace := ["slices.overlaps[espalier/api.Mark]"], unfollowed := true, recurses := true, apart := false, narrowed := true }
def CellOnceUptoSaid : Prop := cellOnceUptoRow.holds Try.pinned (OpenSpec.upto cellOnceSpec)

/-- 'espalierlaw07.SortedKeeps', WHERE WHAT IT READS IS OF BULK AT MOST 1048576: true; the input reads as it did. -/
def sortedKeepsUptoRow : OpenClaim := { program := "ytfddpcmlmcohjaa", sum := "806ebff2420a5275768622bd5bdba6809090dc2db44ce8eb1d5045abcc851edb", func := "espalier/espalierlaw07.SortedKeeps", spec := "sortedKeeps", inPlace := ["slices.overlaps[espalier/sorted.entry]"], unfollowed := true, recurses := true, apart := false, narrowed := true }
def SortedKeepsUptoSaid : Prop := sortedKeepsUptoRow.holds Try.pinned (OpenSpec.upto sortedKeepsSpec)

/-- 'espalierlaw07.SortedDoes', WHERE WHAT IT READS IS OF BULK AT MOST 1048576: true; the input reads as it did. -/
def sortedDoesUptoRow : OpenClaim := { program := "ytfddpcmlmcohjaa", sum := "806ebff2420a5275768622bd5bdba6809090dc2db44ce8eb1d5045abcc851edb", func := "espalier/espalierlaw07.SortedDoes", spec := "sortedDoes", inPlace := ["slices.overlaps[espalier/sorted.entry]"], unfollowed := true, recurses := true, apart := false, narrowed := true }
def SortedDoesUptoSaid : Prop := sortedDoesUptoRow.holds Try.pinned (OpenSpec.upto sortedDoesSpec)

/-- 'espalierlaw07.SortedNil', WHERE WHAT IT READS IS OF BULK AT MOST 1048576: true; the input reads as it did. -/
def sortedNilUptoRow : OpenClaim := { program := "ytfddpcmlmcohjaa", sum := "806ebff2420a5275768622bd5bdba6809090dc2db44ce8eb1d5045abcc851edb", func := "espalier/espalierlaw07.SortedNil", spec := "sortedNil", inPlace := ["slices.overlaps[espalier/sorted.entry]"], unfollowed := true, recurses := true, apart := false, narrowed := true }
def SortedNilUptoSaid : Prop := sortedNilUptoRow.holds Try.pinned (OpenSpec.upto sortedNilSpec)

end Rows
end Go.Proofs.Ytfddpcmlmcohjaa
