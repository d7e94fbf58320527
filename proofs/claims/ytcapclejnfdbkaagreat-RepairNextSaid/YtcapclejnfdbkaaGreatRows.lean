/-
  No cell of these rows narrows 'for every input' (looked for: loops, veiled, ifaces, maps, wideKeys, modest, calm, conditions, laid).
  DERIVED. THE GIVEN ROWS OF THIS SEAT. 4 by the template 'for every input the law returns true; each argument reads behind the call as it read before'; 0 by the template 'total and deterministic' (their statements: YtcapclejnfdbkaaGreatTotals.lean).
  GIVEN WITH THE SEED: the statements are not yours to turn. If you find one false, say at which input.
  Laid BY PROGRAM, IN A SANDBOX (cutbox-rows.mjs): the forced cells as the released guide's own fill.sh prints them over the translation f377680507ba915d… (all of the seat's roots in one cut). By AI agents, Wed Nov 11 2026. No macro, syntax, notation, axiom, sorry.
-/
import Derived.Test.YtcapclejnfdbkaaGreatChecked
import GoSem.Claim
import GoSem.ClaimJoined
import GoSem.ClaimMapViews
import Derived.JoinedTies
import Derived.KernelRfl
namespace Go.Proofs.YtcapclejnfdbkaaGreat
/- THE CELL 'sum', in the pinned program and in every row, IS THE sha256 OF THE DUMP (.gsa) THAT YtcapclejnfdbkaaGreatProg.lean LOADS. Nothing in Lean hashes anything: it is a label: what it is worth is what the hold of that sum in a sandbox is worth. -/
noncomputable def Tryz.pinned : Pinned := { name := "ytcapclejnfdbkaagreat", sum := "f377680507ba915d6b6bfbcc4caac40fa954c88522919a17e9d0607c4fe02ad9", checked := Tryz.checked }
namespace Rows
def none {H : Type} : Left H := { results := [], args := [] }

/-- 'espalierlaw27.EditNext': WHATEVER THE INPUT: true; the input reads as it did. -/
def editNextSpec : ChangeSpec := { name := "editNext", fn := fun _ => fun
  | [d1, d2] => { results := [.lit (.bool true)], args := [d1, d2] }
  | _ => none }
def editNextRow : OpenClaim := { program := "ytcapclejnfdbkaagreat", sum := "f377680507ba915d6b6bfbcc4caac40fa954c88522919a17e9d0607c4fe02ad9", func := "espalier/espalierlaw27.EditNext", spec := "editNext", inPlace := ["slices.overlaps[espalier/api.Item]"], unfollowed := true, recurses := true, plainKeys := false, apart := false }
def EditNextSaid : Prop := editNextRow.holds Tryz.pinned (OpenSpec.ofChange editNextSpec)

/-- ITS FALSE NEIGHBOUR: 'it returns false'. Refute it at one input. -/
def editNextWrong : ChangeSpec := { name := "editNext", fn := fun _ => fun
  | [d1, d2] => { results := [.lit (.bool false)], args := [d1, d2] }
  | _ => none }
def EditNextWrongFalsely : Prop := editNextRow.holds Tryz.pinned (OpenSpec.ofChange editNextWrong)

/-- 'espalierlaw27.EditSteps': WHATEVER THE INPUT: true; the input reads as it did. -/
def editStepsSpec : ChangeSpec := { name := "editSteps", fn := fun _ => fun
  | [d1, d2, d3] => { results := [.lit (.bool true)], args := [d1, d2, d3] }
  | _ => none }
def editStepsRow : OpenClaim := { program := "ytcapclejnfdbkaagreat", sum := "f377680507ba915d6b6bfbcc4caac40fa954c88522919a17e9d0607c4fe02ad9", func := "espalier/espalierlaw27.EditSteps", spec := "editSteps", inPlace := ["slices.overlaps[espalier/api.Item]"], unfollowed := true, recurses := true, plainKeys := false, apart := false }
def EditStepsSaid : Prop := editStepsRow.holds Tryz.pinned (OpenSpec.ofChange editStepsSpec)

/-- ITS FALSE NEIGHBOUR: 'it returns false'. Refute it at one input. -/
def editStepsWrong : ChangeSpec := { name := "editSteps", fn := fun _ => fun
  | [d1, d2, d3] => { results := [.lit (.bool false)], args := [d1, d2, d3] }
  | _ => none }
def EditStepsWrongFalsely : Prop := editStepsRow.holds Tryz.pinned (OpenSpec.ofChange editStepsWrong)

/-- 'espalierlaw28.RepairNext': WHATEVER THE INPUT: true; the input reads as it did. -/
def repairNextSpec : ChangeSpec := { name := "repairNext", fn := fun _ => fun
  | [d1, d2] => { results := [.lit (.bool true)], args := [d1, d2] }
  | _ => none }
def repairNextRow : OpenClaim := { program := "ytcapclejnfdbkaagreat", sum := "f377680507ba915d6b6bfbcc4caac40fa954c88522919a17e9d0607c4fe02ad9", func := "espalier/espalierlaw28.RepairNext", spec := "repairNext", inPlace := ["slices.overlaps[espalier/api.Item]"], unfollowed := true, recurses := true, plainKeys := false, apart := false }
def RepairNextSaid : Prop := repairNextRow.holds Tryz.pinned (OpenSpec.ofChange repairNextSpec)

/-- ITS FALSE NEIGHBOUR: 'it returns false'. Refute it at one input. -/
def repairNextWrong : ChangeSpec := { name := "repairNext", fn := fun _ => fun
  | [d1, d2] => { results := [.lit (.bool false)], args := [d1, d2] }
  | _ => none }
def RepairNextWrongFalsely : Prop := repairNextRow.holds Tryz.pinned (OpenSpec.ofChange repairNextWrong)

/-- 'espalierlaw28.RepairSteps': WHATEVER THE INPUT: true; the input reads as it did. -/
def repairStepsSpec : ChangeSpec := { name := "repairSteps", fn := fun _ => fun
  | [d1, d2, d3] => { results := [.lit (.bool true)], args := [d1, d2, d3] }
  | _ => none }
def repairStepsRow : OpenClaim := { program := "ytcapclejnfdbkaagreat", sum := "f377680507ba915d6b6bfbcc4caac40fa954c88522919a17e9d0607c4fe02ad9", func := "espalier/espalierlaw28.RepairSteps", spec := "repairSteps", inPlace := ["slices.overlaps[espalier/api.Item]"], unfollowed := true, recurses := true, plainKeys := false, apart := false }
def RepairStepsSaid : Prop := repairStepsRow.holds Tryz.pinned (OpenSpec.ofChange repairStepsSpec)

/-- ITS FALSE NEIGHBOUR: 'it returns false'. Refute it at one input. -/
def repairStepsWrong : ChangeSpec := { name := "repairSteps", fn := fun _ => fun
  | [d1, d2, d3] => { results := [.lit (.bool false)], args := [d1, d2, d3] }
  | _ => none }
def RepairStepsWrongFalsely : Prop := repairStepsRow.holds Tryz.pinned (OpenSpec.ofChange repairStepsWrong)

/- THE SECOND FORM. 'bulk': how many values and letters a reading holds, each counted each time it is reached (what is shared counts as often as it is met; a slice's spare places count too). A statement '..UptoSaid' is the law's where the arguments, and the package variables that the reading takes, are together of bulk at most 1048576: NARROWER than '..Said'. Prove '..Said' where nothing that the law and all that it calls make is longer than what came in: it says more and counts as full. Else prove '..UptoSaid'. A law counts once. -/
mutual
def uptoBulk {H : Type} : DataW H → Nat
  | .lit (.string bytes) => bytes.length + 1
  | .lit _ => 1
  | .nil => 1
  | .ptr d => uptoBulk d + 1
  | .slice elems spare => uptoBulkAll elems + uptoBulkAll spare + 1
  | .agg parts => uptoBulkAll parts + 1
  | .iface _ d => uptoBulk d + 1
  | .map entries => uptoBulkEntries entries + 1
  | .held _ => 1
def uptoBulkAll {H : Type} : List (DataW H) → Nat
  | [] => 0
  | d :: r => uptoBulk d + uptoBulkAll r
def uptoBulkEntries {H : Type} : List (Lit × DataW H) → Nat
  | [] => 0
  | x :: r => uptoBulkEntry x + uptoBulkEntries r
def uptoBulkEntry {H : Type} : Lit × DataW H → Nat
  | (.string bytes, d) => bytes.length + uptoBulk d + 1
  | (_, d) => uptoBulk d + 1
 end
def uptoSmall : (H : Type) → List (DataW H) → Bool := fun _ ds => decide (uptoBulkAll ds ≤ 1048576)
def OpenSpec.upto (s : _root_.Go.ChangeSpec) : _root_.Go.OpenSpec := { _root_.Go.OpenSpec.ofChange s with cond := some uptoSmall }

/-- 'espalierlaw27.EditNext', WHERE WHAT IT READS IS OF BULK AT MOST 1048576: true; the input reads as it did. -/
def editNextUptoRow : OpenClaim := { program := "ytcapclejnfdbkaagreat", sum := "f377680507ba915d6b6bfbcc4caac40fa954c88522919a17e9d0607c4fe02ad9", func := "espalier/espalierlaw27.EditNext", spec := "editNext", inPlace := ["slices.overlaps[espalier/api.Item]"], unfollowed := true, recurses := true, plainKeys := false, apart := false, narrowed := true }
def EditNextUptoSaid : Prop := editNextUptoRow.holds Tryz.pinned (OpenSpec.upto editNextSpec)

/-- 'espalierlaw27.EditSteps', WHERE WHAT IT READS IS OF BULK AT MOST 1048576: true; the input reads as it did. -/
def editStepsUptoRow : OpenClaim := { program := "ytcapclejnfdbkaagreat", sum := "f377680507ba915d6b6bfbcc4caac40fa954c88522919a17e9d0607c4fe02ad9", func := "espalier/espalierlaw27.EditSteps", spec := "editSteps", inPlace := ["slices.overlaps[espalier/api.Item]"], unfollowed := true, recurses := true, plainKeys := false, apart := false, narrowed := true }
def EditStepsUptoSaid : Prop := editStepsUptoRow.holds Tryz.pinned (OpenSpec.upto editStepsSpec)

/-- 'espalierlaw28.RepairNext', WHERE WHAT IT READS IS OF BULK AT MOST 1048576: true; the input reads as it did. -/
def repairNextUptoRow : OpenClaim := { program := "ytcapclejnfdbkaagreat", sum := "f377680507ba915d6b6bfbcc4caac40fa954c88522919a17e9d0607c4fe02ad9", func := "espalier/espalierlaw28.RepairNext", spec := "repairNext", inPlace := ["slices.overlaps[espalier/api.Item]"], unfollowed := true, recurses := true, plainKeys := false, apart := false, narrowed := true }
def RepairNextUptoSaid : Prop := repairNextUptoRow.holds Tryz.pinned (OpenSpec.upto repairNextSpec)

/-- 'espalierlaw28.RepairSteps', WHERE WHAT IT READS IS OF BULK AT MOST 1048576: true; the input reads as it did. -/
def repairStepsUptoRow : OpenClaim := { program := "ytcapclejnfdbkaagreat", sum := "f377680507ba915d6b6bfbcc4caac40fa954c88522919a17e9d0607c4fe02ad9", func := "espalier/espalierlaw28.RepairSteps", spec := "repairSteps", inPlace := ["slices.overlaps[espalier/api.Item]"], unfollowed := true, recurses := true, plainKeys := false, apart := false, narrowed := true }
def RepairStepsUptoSaid : Prop := repairStepsUptoRow.holds Tryz.pinned (OpenSpec.upto repairStepsSpec)

end Rows
end Go.Proofs.YtcapclejnfdbkaaGreat
