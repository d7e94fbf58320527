/-
  NARROWER THAN 'FOR EVERY INPUT', by the rows' own cells (each row's printed sentence says how): ParcelPuts: laid · ParcelGets: laid · ParcelBack: laid · ParcelCut: laid · ParcelCells: laid.
  DERIVED. THE GIVEN ROWS OF THIS SEAT. 5 by the template 'for every input the law returns true; each argument reads behind the call as it read before'; 0 by the template 'total and deterministic' (their statements: YtkamdppnnhjajaaDoorTotals.lean).
  GIVEN WITH THE SEED: the statements are not yours to turn. If you find one false, say at which input.
  Laid BY PROGRAM, IN A SANDBOX (cutbox-rows.mjs): the forced cells as the released guide's own fill.sh prints them over the translation 7d797e5eca607c38… (all of the seat's roots in one cut). By AI agents, Wed Nov 11 2026. No macro, syntax, notation, axiom, sorry.
-/
import Derived.Test.YtkamdppnnhjajaaDoorChecked
import GoSem.Claim
import GoSem.ClaimJoined
import GoSem.ClaimMapViews
import Derived.JoinedTies
import Derived.KernelRfl
namespace Go.Proofs.YtkamdppnnhjajaaDoor
/- THE CELL 'sum', in the pinned program and in every row, IS THE sha256 OF THE DUMP (.gsa) THAT YtkamdppnnhjajaaDoorProg.lean LOADS. Nothing in Lean hashes anything: it is a label: what it is worth is what the hold of that sum in a sandbox is worth. -/
noncomputable def Tryd.pinned : Pinned := { name := "ytkamdppnnhjajaadoor", sum := "7d797e5eca607c38d9fee9feaaed3668c7230f1789f28e5f26f8bd904582a9d1", checked := Tryd.checked }
namespace Rows
def none {H : Type} : Left H := { results := [], args := [] }

/- WHAT THE LISTED PACKAGE-LEVEL VARIABLES READ AS WHEN THE CALL BEGINS. Each datum BY PROGRAM (the guide's laid-datum.mjs) off the statement by which the dump's own 'gosem.cut.vars' lays the variable. In a bare row this is a premise. The card (YtkamdppnnhjajaaDoorCards.lean) ties it to the program's text. -/
def laid_errors_errorType {H : Type} : DataW H := .iface "internal/reflectlite.rtype" (.agg [.ptr (.lit (.string [101, 114, 114, 111, 114]))])

/-- 'espalierlaw18.ParcelPuts': WHATEVER THE INPUT: true; the input reads as it did. -/
def parcelPutsSpec : ChangeSpec := { name := "parcelPuts", fn := fun _ => fun
  | [d] => { results := [.lit (.bool true)], args := [d] }
  | _ => none }
def parcelPutsRow : OpenClaim := { program := "ytkamdppnnhjajaadoor", sum := "7d797e5eca607c38d9fee9feaaed3668c7230f1789f28e5f26f8bd904582a9d1", func := "espalier/espalierlaw18.ParcelPuts", spec := "parcelPuts", inPlace := ["internal/reflectlite.ValueOf", "(internal/reflectlite.Value).Type", "(internal/reflectlite.Value).IsNil", "internal/reflectlite.TypeOf", "(internal/reflectlite.Value).Elem", "(internal/reflectlite.Value).Set"], unfollowed := true, recurses := true, named := ["errors.errorType"], apart := false, laid := [("errors.errorType", laid_errors_errorType)] }
def ParcelPutsSaid : Prop := parcelPutsRow.holds Tryd.pinned (OpenSpec.ofChange parcelPutsSpec)

/-- ITS FALSE NEIGHBOUR: 'it returns false'. Refute it at one input. -/
def parcelPutsWrong : ChangeSpec := { name := "parcelPuts", fn := fun _ => fun
  | [d] => { results := [.lit (.bool false)], args := [d] }
  | _ => none }
def ParcelPutsWrongFalsely : Prop := parcelPutsRow.holds Tryd.pinned (OpenSpec.ofChange parcelPutsWrong)

/-- 'espalierlaw18.ParcelGets': WHATEVER THE INPUT: true; the input reads as it did. -/
def parcelGetsSpec : ChangeSpec := { name := "parcelGets", fn := fun _ => fun
  | [d] => { results := [.lit (.bool true)], args := [d] }
  | _ => none }
def parcelGetsRow : OpenClaim := { program := "ytkamdppnnhjajaadoor", sum := "7d797e5eca607c38d9fee9feaaed3668c7230f1789f28e5f26f8bd904582a9d1", func := "espalier/espalierlaw18.ParcelGets", spec := "parcelGets", inPlace := ["internal/reflectlite.ValueOf", "(internal/reflectlite.Value).Type", "(internal/reflectlite.Value).IsNil", "internal/reflectlite.TypeOf", "(internal/reflectlite.Value).Elem", "(internal/reflectlite.Value).Set"], unfollowed := true, recurses := true, named := ["errors.errorType"], apart := false, laid := [("errors.errorType", laid_errors_errorType)] }
def ParcelGetsSaid : Prop := parcelGetsRow.holds Tryd.pinned (OpenSpec.ofChange parcelGetsSpec)

/-- ITS FALSE NEIGHBOUR: 'it returns false'. Refute it at one input. -/
def parcelGetsWrong : ChangeSpec := { name := "parcelGets", fn := fun _ => fun
  | [d] => { results := [.lit (.bool false)], args := [d] }
  | _ => none }
def ParcelGetsWrongFalsely : Prop := parcelGetsRow.holds Tryd.pinned (OpenSpec.ofChange parcelGetsWrong)

/-- 'espalierlaw18.ParcelBack': WHATEVER THE INPUT: true; the input reads as it did. -/
def parcelBackSpec : ChangeSpec := { name := "parcelBack", fn := fun _ => fun
  | [d1, d2] => { results := [.lit (.bool true)], args := [d1, d2] }
  | _ => none }
def parcelBackRow : OpenClaim := { program := "ytkamdppnnhjajaadoor", sum := "7d797e5eca607c38d9fee9feaaed3668c7230f1789f28e5f26f8bd904582a9d1", func := "espalier/espalierlaw18.ParcelBack", spec := "parcelBack", inPlace := ["internal/reflectlite.ValueOf", "(internal/reflectlite.Value).Type", "(internal/reflectlite.Value).IsNil", "internal/reflectlite.TypeOf", "(internal/reflectlite.Value).Elem", "(internal/reflectlite.Value).Set"], unfollowed := true, recurses := true, named := ["errors.errorType"], apart := false, laid := [("errors.errorType", laid_errors_errorType)] }
def ParcelBackSaid : Prop := parcelBackRow.holds Tryd.pinned (OpenSpec.ofChange parcelBackSpec)

/-- ITS FALSE NEIGHBOUR: 'it returns false'. Refute it at one input. -/
def parcelBackWrong : ChangeSpec := { name := "parcelBack", fn := fun _ => fun
  | [d1, d2] => { results := [.lit (.bool false)], args := [d1, d2] }
  | _ => none }
def ParcelBackWrongFalsely : Prop := parcelBackRow.holds Tryd.pinned (OpenSpec.ofChange parcelBackWrong)

/-- 'espalierlaw18.ParcelCut': WHATEVER THE INPUT: true; the input reads as it did. -/
def parcelCutSpec : ChangeSpec := { name := "parcelCut", fn := fun _ => fun
  | [d1, d2, d3] => { results := [.lit (.bool true)], args := [d1, d2, d3] }
  | _ => none }
def parcelCutRow : OpenClaim := { program := "ytkamdppnnhjajaadoor", sum := "7d797e5eca607c38d9fee9feaaed3668c7230f1789f28e5f26f8bd904582a9d1", func := "espalier/espalierlaw18.ParcelCut", spec := "parcelCut", inPlace := ["internal/reflectlite.ValueOf", "(internal/reflectlite.Value).Type", "(internal/reflectlite.Value).IsNil", "internal/reflectlite.TypeOf", "(internal/reflectlite.Value).Elem", "(internal/reflectlite.Value).Set"], unfollowed := true, recurses := true, named := ["errors.errorType"], apart := false, laid := [("errors.errorType", laid_errors_errorType)] }
def ParcelCutSaid : Prop := parcelCutRow.holds Tryd.pinned (OpenSpec.ofChange parcelCutSpec)

/-- ITS FALSE NEIGHBOUR: 'it returns false'. Refute it at one input. -/
def parcelCutWrong : ChangeSpec := { name := "parcelCut", fn := fun _ => fun
  | [d1, d2, d3] => { results := [.lit (.bool false)], args := [d1, d2, d3] }
  | _ => none }
def ParcelCutWrongFalsely : Prop := parcelCutRow.holds Tryd.pinned (OpenSpec.ofChange parcelCutWrong)

/-- 'espalierlaw18.ParcelCells': WHATEVER THE INPUT: true; the input reads as it did. -/
def parcelCellsSpec : ChangeSpec := { name := "parcelCells", fn := fun _ => fun
  | [d1, d2, d3] => { results := [.lit (.bool true)], args := [d1, d2, d3] }
  | _ => none }
def parcelCellsRow : OpenClaim := { program := "ytkamdppnnhjajaadoor", sum := "7d797e5eca607c38d9fee9feaaed3668c7230f1789f28e5f26f8bd904582a9d1", func := "espalier/espalierlaw18.ParcelCells", spec := "parcelCells", inPlace := ["slices.overlaps[espalier/api.Mark]", "internal/reflectlite.ValueOf", "(internal/reflectlite.Value).Type", "(internal/reflectlite.Value).IsNil", "internal/reflectlite.TypeOf", "(internal/reflectlite.Value).Elem", "(internal/reflectlite.Value).Set"], unfollowed := true, recurses := true, named := ["errors.errorType"], apart := false, laid := [("errors.errorType", laid_errors_errorType)] }
def ParcelCellsSaid : Prop := parcelCellsRow.holds Tryd.pinned (OpenSpec.ofChange parcelCellsSpec)

/-- ITS FALSE NEIGHBOUR: 'it returns false'. Refute it at one input. -/
def parcelCellsWrong : ChangeSpec := { name := "parcelCells", fn := fun _ => fun
  | [d1, d2, d3] => { results := [.lit (.bool false)], args := [d1, d2, d3] }
  | _ => none }
def ParcelCellsWrongFalsely : Prop := parcelCellsRow.holds Tryd.pinned (OpenSpec.ofChange parcelCellsWrong)

/- THE SECOND FORM. 'bulk': how many values and letters a reading holds, each counted each time it is reached (what is shared counts as often as it is met; a slice's spare places count too). A statement '..UptoSaid' is the law's where the arguments, and the package variables that the reading takes, are together of bulk at most 1048576: NARROWER than '..Said'. Prove '..Said' where nothing that the law and all that it calls make is longer than what came in: it says more and counts as full. Else prove '..UptoSaid'. A law counts once. -/
mutual
def uptoBulk {H : Type} : DataW H → Nat
  | .lit (.string bytes) => bytes.length + 1
  | .lit _ => 1
  | .nil => 1
  | .ptr d => uptoBulk d + 1
  | .slice elems spare => uptoBulkAll elems + uptoBulkAll spare + 1
  | .agg parts => uptoBulkAll parts + 1
  | .iface _ d => uptoBulk d + 1
  | .map entries => uptoBulkEntries entries + 1
  | .held _ => 1
def uptoBulkAll {H : Type} : List (DataW H) → Nat
  | [] => 0
  | d :: r => uptoBulk d + uptoBulkAll r
def uptoBulkEntries {H : Type} : List (Lit × DataW H) → Nat
  | [] => 0
  | x :: r => uptoBulkEntry x + uptoBulkEntries r
def uptoBulkEntry {H : Type} : Lit × DataW H → Nat
  | (.string bytes, d) => bytes.length + uptoBulk d + 1
  | (_, d) => uptoBulk d + 1
 end
def uptoSmall : (H : Type) → List (DataW H) → Bool := fun _ ds => decide (uptoBulkAll ds ≤ 1048576)
def OpenSpec.upto (s : _root_.Go.ChangeSpec) : _root_.Go.OpenSpec := { _root_.Go.OpenSpec.ofChange s with cond := some uptoSmall }

/-- 'espalierlaw18.ParcelPuts', WHERE WHAT IT READS IS OF BULK AT MOST 1048576: true; the input reads as it did. -/
def parcelPutsUptoRow : OpenClaim := { program := "ytkamdppnnhjajaadoor", sum := "7d797e5eca607c38d9fee9feaaed3668c7230f1789f28e5f26f8bd904582a9d1", func := "espalier/espalierlaw18.ParcelPuts", spec := "parcelPuts", inPlace := ["internal/reflectlite.ValueOf", "(internal/reflectlite.Value).Type", "(internal/reflectlite.Value).IsNil", "internal/reflectlite.TypeOf", "(internal/reflectlite.Value).Elem", "(internal/reflectlite.Value).Set"], unfollowed := true, recurses := true, named := ["errors.errorType"], apart := false, laid := [("errors.errorType", laid_errors_errorType)], narrowed := true }
def ParcelPutsUptoSaid : Prop := parcelPutsUptoRow.holds Tryd.pinned (OpenSpec.upto parcelPutsSpec)

/-- 'espalierlaw18.ParcelGets', WHERE WHAT IT READS IS OF BULK AT MOST 1048576: true; the input reads as it did. -/
def parcelGetsUptoRow : OpenClaim := { program := "ytkamdppnnhjajaadoor", sum := "7d797e5eca607c38d9fee9feaaed3668c7230f1789f28e5f26f8bd904582a9d1", func := "espalier/espalierlaw18.ParcelGets", spec := "parcelGets", inPlace := ["internal/reflectlite.ValueOf", "(internal/reflectlite.Value).Type", "(internal/reflectlite.Value).IsNil", "internal/reflectlite.TypeOf", "(internal/reflectlite.Value).Elem", "(internal/reflectlite.Value).Set"], unfollowed := true, recurses := true, named := ["errors.errorType"], apart := false, laid := [("errors.errorType", laid_errors_errorType)], narrowed := true }
def ParcelGetsUptoSaid : Prop := parcelGetsUptoRow.holds Tryd.pinned (OpenSpec.upto parcelGetsSpec)

/-- 'espalierlaw18.ParcelBack', WHERE WHAT IT READS IS OF BULK AT MOST 1048576: true; the input reads as it did. -/
def parcelBackUptoRow : OpenClaim := { program := "ytkamdppnnhjajaadoor", sum := "7d797e5eca607c38d9fee9feaaed3668c7230f1789f28e5f26f8bd904582a9d1", func := "espalier/espalierlaw18.ParcelBack", spec := "parcelBack", inPlace := ["internal/reflectlite.ValueOf", "(internal/reflectlite.Value).Type", "(internal/reflectlite.Value).IsNil", "internal/reflectlite.TypeOf", "(internal/reflectlite.Value).Elem", "(internal/reflectlite.Value).Set"], unfollowed := true, recurses := true, named := ["errors.errorType"], apart := false, laid := [("errors.errorType", laid_errors_errorType)], narrowed := true }
def ParcelBackUptoSaid : Prop := parcelBackUptoRow.holds Tryd.pinned (OpenSpec.upto parcelBackSpec)

/-- 'espalierlaw18.ParcelCut', WHERE WHAT IT READS IS OF BULK AT MOST 1048576: true; the input reads as it did. -/
def parcelCutUptoRow : OpenClaim := { program := "ytkamdppnnhjajaadoor", sum := "7d797e5eca607c38d9fee9feaaed3668c7230f1789f28e5f26f8bd904582a9d1", func := "espalier/espalierlaw18.ParcelCut", spec := "parcelCut", inPlace := ["internal/reflectlite.ValueOf", "(internal/reflectlite.Value).Type", "(internal/reflectlite.Value).IsNil", "internal/reflectlite.TypeOf", "(internal/reflectlite.Value).Elem", "(internal/reflectlite.Value).Set"], unfollowed := true, recurses := true, named := ["errors.errorType"], apart := false, laid := [("errors.errorType", laid_errors_errorType)], narrowed := true }
def ParcelCutUptoSaid : Prop := parcelCutUptoRow.holds Tryd.pinned (OpenSpec.upto parcelCutSpec)

/-- 'espalierlaw18.ParcelCells', WHERE WHAT IT READS IS OF BULK AT MOST 1048576: true; the input reads as it did. -/
def parcelCellsUptoRow : OpenClaim := { program := "ytkamdppnnhjajaadoor", sum := "7d797e5eca607c38d9fee9feaaed3668c7230f1789f28e5f26f8bd904582a9d1", func := "espalier/espalierlaw18.ParcelCells", spec := "parcelCells", inPlace := ["slices.overlaps[espalier/api.Mark]", "internal/reflectlite.ValueOf", "(internal/reflectlite.Value).Type", "(internal/reflectlite.Value).IsNil", "internal/reflectlite.TypeOf", "(internal/reflectlite.Value).Elem", "(internal/reflectlite.Value).Set"], unfollowed := true, recurses := true, named := ["errors.errorType"], apart := false, laid := [("errors.errorType", laid_errors_errorType)], narrowed := true }
def ParcelCellsUptoSaid : Prop := parcelCellsUptoRow.holds Tryd.pinned (OpenSpec.upto parcelCellsSpec)

end Rows
end Go.Proofs.YtkamdppnnhjajaaDoor
