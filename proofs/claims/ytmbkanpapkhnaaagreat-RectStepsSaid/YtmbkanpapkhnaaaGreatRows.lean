/-
  No cell of these rows narrows 'for every input' (looked for: loops, veiled, ifaces, maps, wideKeys, modest, calm, conditions, laid).
  DERIVED. THE GIVEN ROWS OF THIS SEAT. 8 by the template 'for every input the law returns true; each argument reads behind the call as it read before'; 0 by the template 'total and deterministic' (their statements: YtmbkanpapkhnaaaGreatTotals.lean).
  GIVEN WITH THE SEED: the statements are not yours to turn. If you find one false, say at which input.
  Laid BY PROGRAM, IN A SANDBOX (cutbox-rows.mjs): the forced cells as the released guide's own fill.sh prints them over the translation fab289101dc9be49… (all of the seat's roots in one cut). By AI agents, Wed Nov 11 2026. No macro, syntax, notation, axiom, sorry.
-/
import Derived.Test.YtmbkanpapkhnaaaGreatChecked
import GoSem.Claim
import GoSem.ClaimJoined
import GoSem.ClaimMapViews
import Derived.JoinedTies
import Derived.KernelRfl
namespace Go.Proofs.YtmbkanpapkhnaaaGreat
/- THE CELL 'sum', in the pinned program and in every row, IS THE sha256 OF THE DUMP (.gsa) THAT YtmbkanpapkhnaaaGreatProg.lean LOADS. Nothing in Lean hashes anything: it is a label: what it is worth is what the hold of that sum in a sandbox is worth. -/
noncomputable def Tryz.pinned : Pinned := { name := "ytmbkanpapkhnaaagreat", sum := "fab289101dc9be4986364ca956a385dd7aefc2e2204c8c7b5bac8b5073d51ca6", checked := Tryz.checked }
namespace Rows
def none {H : Type} : Left H := { results := [], args := [] }

/-- 'espalierlaw30.RectNext': WHATEVER THE INPUT: true; the input reads as it did. -/
def rectNextSpec : ChangeSpec := { name := "rectNext", fn := fun _ => fun
  | [d1, d2] => { results := [.lit (.bool true)], args := [d1, d2] }
  | _ => none }
def rectNextRow : OpenClaim := { program := "ytmbkanpapkhnaaagreat", sum := "fab289101dc9be4986364ca956a385dd7aefc2e2204c8c7b5bac8b5073d51ca6", func := "espalier/espalierlaw30.RectNext", spec := "rectNext", unfollowed := true, recurses := true, plainKeys := false, apart := false }
def RectNextSaid : Prop := rectNextRow.holds Tryz.pinned (OpenSpec.ofChange rectNextSpec)

/-- ITS FALSE NEIGHBOUR: 'it returns false'. Refute it at one input. -/
def rectNextWrong : ChangeSpec := { name := "rectNext", fn := fun _ => fun
  | [d1, d2] => { results := [.lit (.bool false)], args := [d1, d2] }
  | _ => none }
def RectNextWrongFalsely : Prop := rectNextRow.holds Tryz.pinned (OpenSpec.ofChange rectNextWrong)

/-- 'espalierlaw30.RectSteps': WHATEVER THE INPUT: true; the input reads as it did. -/
def rectStepsSpec : ChangeSpec := { name := "rectSteps", fn := fun _ => fun
  | [d1, d2, d3] => { results := [.lit (.bool true)], args := [d1, d2, d3] }
  | _ => none }
def rectStepsRow : OpenClaim := { program := "ytmbkanpapkhnaaagreat", sum := "fab289101dc9be4986364ca956a385dd7aefc2e2204c8c7b5bac8b5073d51ca6", func := "espalier/espalierlaw30.RectSteps", spec := "rectSteps", unfollowed := true, recurses := true, plainKeys := false, apart := false }
def RectStepsSaid : Prop := rectStepsRow.holds Tryz.pinned (OpenSpec.ofChange rectStepsSpec)

/-- ITS FALSE NEIGHBOUR: 'it returns false'. Refute it at one input. -/
def rectStepsWrong : ChangeSpec := { name := "rectSteps", fn := fun _ => fun
  | [d1, d2, d3] => { results := [.lit (.bool false)], args := [d1, d2, d3] }
  | _ => none }
def RectStepsWrongFalsely : Prop := rectStepsRow.holds Tryz.pinned (OpenSpec.ofChange rectStepsWrong)

/-- 'espalierlaw30.RectRises': WHATEVER THE INPUT: true; the input reads as it did. -/
def rectRisesSpec : ChangeSpec := { name := "rectRises", fn := fun _ => fun
  | [d1, d2, d3] => { results := [.lit (.bool true)], args := [d1, d2, d3] }
  | _ => none }
def rectRisesRow : OpenClaim := { program := "ytmbkanpapkhnaaagreat", sum := "fab289101dc9be4986364ca956a385dd7aefc2e2204c8c7b5bac8b5073d51ca6", func := "espalier/espalierlaw30.RectRises", spec := "rectRises", unfollowed := true, recurses := true, plainKeys := false, apart := false }
def RectRisesSaid : Prop := rectRisesRow.holds Tryz.pinned (OpenSpec.ofChange rectRisesSpec)

/-- ITS FALSE NEIGHBOUR: 'it returns false'. Refute it at one input. -/
def rectRisesWrong : ChangeSpec := { name := "rectRises", fn := fun _ => fun
  | [d1, d2, d3] => { results := [.lit (.bool false)], args := [d1, d2, d3] }
  | _ => none }
def RectRisesWrongFalsely : Prop := rectRisesRow.holds Tryz.pinned (OpenSpec.ofChange rectRisesWrong)

/-- 'espalierlaw27.EditSteps': WHATEVER THE INPUT: true; the input reads as it did. -/
def editStepsSpec : ChangeSpec := { name := "editSteps", fn := fun _ => fun
  | [d1, d2, d3] => { results := [.lit (.bool true)], args := [d1, d2, d3] }
  | _ => none }
def editStepsRow : OpenClaim := { program := "ytmbkanpapkhnaaagreat", sum := "fab289101dc9be4986364ca956a385dd7aefc2e2204c8c7b5bac8b5073d51ca6", func := "espalier/espalierlaw27.EditSteps", spec := "editSteps", inPlace := ["slices.overlaps[espalier/api.Item]"], unfollowed := true, recurses := true, plainKeys := false, apart := false }
def EditStepsSaid : Prop := editStepsRow.holds Tryz.pinned (OpenSpec.ofChange editStepsSpec)

/-- ITS FALSE NEIGHBOUR: 'it returns false'. Refute it at one input. -/
def editStepsWrong : ChangeSpec := { name := "editSteps", fn := fun _ => fun
  | [d1, d2, d3] => { results := [.lit (.bool false)], args := [d1, d2, d3] }
  | _ => none }
def EditStepsWrongFalsely : Prop := editStepsRow.holds Tryz.pinned (OpenSpec.ofChange editStepsWrong)

/-- 'espalierlaw29.ScanNext': WHATEVER THE INPUT: true; the input reads as it did. -/
def scanNextSpec : ChangeSpec := { name := "scanNext", fn := fun _ => fun
  | [d1, d2] => { results := [.lit (.bool true)], args := [d1, d2] }
  | _ => none }
def scanNextRow : OpenClaim := { program := "ytmbkanpapkhnaaagreat", sum := "fab289101dc9be4986364ca956a385dd7aefc2e2204c8c7b5bac8b5073d51ca6", func := "espalier/espalierlaw29.ScanNext", spec := "scanNext", inPlace := ["slices.overlaps[espalier/api.Label]"], unfollowed := true, recurses := true, plainKeys := false, apart := false }
def ScanNextSaid : Prop := scanNextRow.holds Tryz.pinned (OpenSpec.ofChange scanNextSpec)

/-- ITS FALSE NEIGHBOUR: 'it returns false'. Refute it at one input. -/
def scanNextWrong : ChangeSpec := { name := "scanNext", fn := fun _ => fun
  | [d1, d2] => { results := [.lit (.bool false)], args := [d1, d2] }
  | _ => none }
def ScanNextWrongFalsely : Prop := scanNextRow.holds Tryz.pinned (OpenSpec.ofChange scanNextWrong)

/-- 'espalierlaw29.ScanSteps': WHATEVER THE INPUT: true; the input reads as it did. -/
def scanStepsSpec : ChangeSpec := { name := "scanSteps", fn := fun _ => fun
  | [d1, d2, d3] => { results := [.lit (.bool true)], args := [d1, d2, d3] }
  | _ => none }
def scanStepsRow : OpenClaim := { program := "ytmbkanpapkhnaaagreat", sum := "fab289101dc9be4986364ca956a385dd7aefc2e2204c8c7b5bac8b5073d51ca6", func := "espalier/espalierlaw29.ScanSteps", spec := "scanSteps", inPlace := ["slices.overlaps[espalier/api.Label]"], unfollowed := true, recurses := true, plainKeys := false, apart := false }
def ScanStepsSaid : Prop := scanStepsRow.holds Tryz.pinned (OpenSpec.ofChange scanStepsSpec)

/-- ITS FALSE NEIGHBOUR: 'it returns false'. Refute it at one input. -/
def scanStepsWrong : ChangeSpec := { name := "scanSteps", fn := fun _ => fun
  | [d1, d2, d3] => { results := [.lit (.bool false)], args := [d1, d2, d3] }
  | _ => none }
def ScanStepsWrongFalsely : Prop := scanStepsRow.holds Tryz.pinned (OpenSpec.ofChange scanStepsWrong)

/-- 'espalierlaw29.ScanRises': WHATEVER THE INPUT: true; the input reads as it did. -/
def scanRisesSpec : ChangeSpec := { name := "scanRises", fn := fun _ => fun
  | [d1, d2, d3] => { results := [.lit (.bool true)], args := [d1, d2, d3] }
  | _ => none }
def scanRisesRow : OpenClaim := { program := "ytmbkanpapkhnaaagreat", sum := "fab289101dc9be4986364ca956a385dd7aefc2e2204c8c7b5bac8b5073d51ca6", func := "espalier/espalierlaw29.ScanRises", spec := "scanRises", inPlace := ["slices.overlaps[espalier/api.Label]"], unfollowed := true, recurses := true, plainKeys := false, apart := false }
def ScanRisesSaid : Prop := scanRisesRow.holds Tryz.pinned (OpenSpec.ofChange scanRisesSpec)

/-- ITS FALSE NEIGHBOUR: 'it returns false'. Refute it at one input. -/
def scanRisesWrong : ChangeSpec := { name := "scanRises", fn := fun _ => fun
  | [d1, d2, d3] => { results := [.lit (.bool false)], args := [d1, d2, d3] }
  | _ => none }
def ScanRisesWrongFalsely : Prop := scanRisesRow.holds Tryz.pinned (OpenSpec.ofChange scanRisesWrong)

/-- 'espalierlaw29.ScanCosts': WHATEVER THE INPUT: true; the input reads as it did. -/
def scanCostsSpec : ChangeSpec := { name := "scanCosts", fn := fun _ => fun
  | [d1, d2, d3, d4] => { results := [.lit (.bool true)], args := [d1, d2, d3, d4] }
  | _ => none }
def scanCostsRow : OpenClaim := { program := "ytmbkanpapkhnaaagreat", sum := "fab289101dc9be4986364ca956a385dd7aefc2e2204c8c7b5bac8b5073d51ca6", func := "espalier/espalierlaw29.ScanCosts", spec := "scanCosts", inPlace := ["slices.overlaps[espalier/api.Label]"], unfollowed := true, recurses := true, plainKeys := false, apart := false }
def ScanCostsSaid : Prop := scanCostsRow.holds Tryz.pinned (OpenSpec.ofChange scanCostsSpec)

/-- ITS FALSE NEIGHBOUR: 'it returns false'. Refute it at one input. -/
def scanCostsWrong : ChangeSpec := { name := "scanCosts", fn := fun _ => fun
  | [d1, d2, d3, d4] => { results := [.lit (.bool false)], args := [d1, d2, d3, d4] }
  | _ => none }
def ScanCostsWrongFalsely : Prop := scanCostsRow.holds Tryz.pinned (OpenSpec.ofChange scanCostsWrong)

/- THE SECOND FORM. 'bulk': how many values and letters a reading holds, each counted each time it is reached (what is shared counts as often as it is met; a slice's spare places count too). A statement '..UptoSaid' is the law's where the arguments, and the package variables that the reading takes, are together of bulk at most 1048576: NARROWER than '..Said'. Prove '..Said' where nothing that the law and all that it calls make is longer than what came in: it says more and counts as full. Else prove '..UptoSaid'. A law counts once. -/
mutual
def uptoBulk {H : Type} : DataW H → Nat
  | .lit (.string bytes) => bytes.length + 1
  | .lit _ => 1
  | .nil => 1
  | .ptr d => uptoBulk d + 1
  | .slice elems spare => uptoBulkAll elems + uptoBulkAll spare + 1
  | .agg parts => uptoBulkAll parts + 1
  | .iface _ d => uptoBulk d + 1
  | .map entries => uptoBulkEntries entries + 1
  | .held _ => 1
def uptoBulkAll {H : Type} : List (DataW H) → Nat
  | [] => 0
  | d :: r => uptoBulk d + uptoBulkAll r
def uptoBulkEntries {H : Type} : List (Lit × DataW H) → Nat
  | [] => 0
  | x :: r => uptoBulkEntry x + uptoBulkEntries r
def uptoBulkEntry {H : Type} : Lit × DataW H → Nat
  | (.string bytes, d) => bytes.length + uptoBulk d + 1
  | (_, d) => uptoBulk d + 1
 end
def uptoSmall : (H : Type) → List (DataW H) → Bool := fun _ ds => decide (uptoBulkAll ds ≤ 1048576)
def OpenSpec.upto (s : _root_.Go.ChangeSpec) : _root_.Go.OpenSpec := { _root_.Go.OpenSpec.ofChange s with cond := some uptoSmall }

/-- 'espalierlaw30.RectNext', WHERE WHAT IT READS IS OF BULK AT MOST 1048576: true; the input reads as it did. -/
def rectNextUptoRow : OpenClaim := { program := "ytmbkanpapkhnaaagreat", sum := "fab289101dc9be4986364ca956a385dd7aefc2e2204c8c7b5bac8b5073d51ca6", func := "espalier/espalierlaw30.RectNext", spec := "rectNext", unfollowed := true, recurses := true, plainKeys := false, apart := false, narrowed := true }
def RectNextUptoSaid : Prop := rectNextUptoRow.holds Tryz.pinned (OpenSpec.upto rectNextSpec)

/-- 'espalierlaw30.RectSteps', WHERE WHAT IT READS IS OF BULK AT MOST 1048576: true; the input reads as it did. -/
def rectStepsUptoRow : OpenClaim := { program := "ytmbkanpapkhnaaagreat", sum := "fab289101dc9be4986364ca956a385dd7aefc2e2204c8c7b5bac8b5073d51ca6", func := "espalier/espalierlaw30.RectSteps", spec := "rectSteps", unfollowed := true, recurses := true, plainKeys := false, apart := false, narrowed := true }
def RectStepsUptoSaid : Prop := rectStepsUptoRow.holds Tryz.pinned (OpenSpec.upto rectStepsSpec)

/-- 'espalierlaw30.RectRises', WHERE WHAT IT READS IS OF BULK AT MOST 1048576: true; the input reads as it did. -/
def rectRisesUptoRow : OpenClaim := { program := "ytmbkanpapkhnaaagreat", sum := "fab289101dc9be4986364ca956a385dd7aefc2e2204c8c7b5bac8b5073d51ca6", func := "espalier/espalierlaw30.RectRises", spec := "rectRises", unfollowed := true, recurses := true, plainKeys := false, apart := false, narrowed := true }
def RectRisesUptoSaid : Prop := rectRisesUptoRow.holds Tryz.pinned (OpenSpec.upto rectRisesSpec)

/-- 'espalierlaw27.EditSteps', WHERE WHAT IT READS IS OF BULK AT MOST 1048576: true; the input reads as it did. -/
def editStepsUptoRow : OpenClaim := { program := "ytmbkanpapkhnaaagreat", sum := "fab289101dc9be4986364ca956a385dd7aefc2e2204c8c7b5bac8b5073d51ca6", func := "espalier/espalierlaw27.EditSteps", spec := "editSteps", inPlace := ["slices.overlaps[espalier/api.Item]"], unfollowed := true, recurses := true, plainKeys := false, apart := false, narrowed := true }
def EditStepsUptoSaid : Prop := editStepsUptoRow.holds Tryz.pinned (OpenSpec.upto editStepsSpec)

/-- 'espalierlaw29.ScanNext', WHERE WHAT IT READS IS OF BULK AT MOST 1048576: true; the input reads as it did. -/
def scanNextUptoRow : OpenClaim := { program := "ytmbkanpapkhnaaagreat", sum := "fab289101dc9be4986364ca956a385dd7aefc2e2204c8c7b5bac8b5073d51ca6", func := "espalier/espalierlaw29.ScanNext", spec := "scanNext", inPlace := ["slices.overlaps[espalier/api.Label]"], unfollowed := true, recurses := true, plainKeys := false, apart := false, narrowed := true }
def ScanNextUptoSaid : Prop := scanNextUptoRow.holds Tryz.pinned (OpenSpec.upto scanNextSpec)

/-- 'espalierlaw29.ScanSteps', WHERE WHAT IT READS IS OF BULK AT MOST 1048576: true; the input reads as it did. -/
def scanStepsUptoRow : OpenClaim := { program := "ytmbkanpapkhnaaagreat", sum := "fab289101dc9be4986364ca956a385dd7aefc2e2204c8c7b5bac8b5073d51ca6", func := "espalier/espalierlaw29.ScanSteps", spec := "scanSteps", inPlace := ["slices.overlaps[espalier/api.Label]"], unfollowed := true, recurses := true, plainKeys := false, apart := false, narrowed := true }
def ScanStepsUptoSaid : Prop := scanStepsUptoRow.holds Tryz.pinned (OpenSpec.upto scanStepsSpec)

/-- 'espalierlaw29.ScanRises', WHERE WHAT IT READS IS OF BULK AT MOST 1048576: true; the input reads as it did. -/
def scanRisesUptoRow : OpenClaim := { program := "ytmbkanpapkhnaaagreat", sum := "fab289101dc9be4986364ca956a385dd7aefc2e2204c8c7b5bac8b5073d51ca6", func := "espalier/espalierlaw29.ScanRises", spec := "scanRises", inPlace := ["slices.overlaps[espalier/api.Label]"], unfollowed := true, recurses := true, plainKeys := false, apart := false, narrowed := true }
def ScanRisesUptoSaid : Prop := scanRisesUptoRow.holds Tryz.pinned (OpenSpec.upto scanRisesSpec)

/-- 'espalierlaw29.ScanCosts', WHERE WHAT IT READS IS OF BULK AT MOST 1048576: true; the input reads as it did. -/
def scanCostsUptoRow : OpenClaim := { program := "ytmbkanpapkhnaaagreat", sum := "fab289101dc9be4986364ca956a385dd7aefc2e2204c8c7b5bac8b5073d51ca6", func := "espalier/espalierlaw29.ScanCosts", spec := "scanCosts", inPlace := ["slices.overlaps[espalier/api.Label]"], unfollowed := true, recurses := true, plainKeys := false, apart := false, narrowed := true }
def ScanCostsUptoSaid : Prop := scanCostsUptoRow.holds Tryz.pinned (OpenSpec.upto scanCostsSpec)

end Rows
end Go.Proofs.YtmbkanpapkhnaaaGreat
