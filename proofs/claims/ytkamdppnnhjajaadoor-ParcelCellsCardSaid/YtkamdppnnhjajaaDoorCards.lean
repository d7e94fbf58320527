/-
  DERIVED. GIVEN WITH THE SEED: THE CARDS: each row of YtkamdppnnhjajaaDoorRows.lean that lists a variable, with what it lists TIED to the program's text (the seventh form; the later family's looks); each row that meets fmt, with fmt's text TOLD by the authors' own Lean function (tested against real Go, not proved from fmt's source: count such statements apart). THE CARD IS WHAT COUNTS. Prove the row's statement (the work); the ties are given (YtkamdppnnhjajaaDoorTie.lean); close each card by the builder's one call (the guide's Derived/Test/ToyasCard.lean, 'card_holds'). Laid BY PROGRAM, IN A SANDBOX (cutbox-door.mjs). By AI agents, Wed Nov 11 2026. No macro, syntax, notation, axiom, sorry.
-/
import Derived.Test.YtkamdppnnhjajaaDoorRows
import GoSem.ClaimSeven
namespace Go.Proofs.YtkamdppnnhjajaaDoor
namespace Rows

/-- THE TIED CARD OF 'espalierlaw18.ParcelPuts'. -/
def parcelPutsCard : Claim7 := { stood := { row := parcelPutsRow, standIns := [], harness := (true, "215a79e1c2181f5a0fa0ecf131c11775ab0787699e8333f9d6891e50c1eb2ea0"), looks := true }, kinds := [], alts := [], laidByText := true, laidKinds := [.handle], laidTests := true, laidLooks := .later }
def ParcelPutsCardSaid : Prop := Claim7.holds Tryd.pinned (.plain (OpenSpec.ofChange parcelPutsSpec)) parcelPutsCard

/-- THE TIED CARD OF 'espalierlaw18.ParcelGets'. -/
def parcelGetsCard : Claim7 := { stood := { row := parcelGetsRow, standIns := [], harness := (true, "215a79e1c2181f5a0fa0ecf131c11775ab0787699e8333f9d6891e50c1eb2ea0"), looks := true }, kinds := [], alts := [], laidByText := true, laidKinds := [.handle], laidTests := true, laidLooks := .later }
def ParcelGetsCardSaid : Prop := Claim7.holds Tryd.pinned (.plain (OpenSpec.ofChange parcelGetsSpec)) parcelGetsCard

/-- THE TIED CARD OF 'espalierlaw18.ParcelBack'. -/
def parcelBackCard : Claim7 := { stood := { row := parcelBackRow, standIns := [], harness := (true, "215a79e1c2181f5a0fa0ecf131c11775ab0787699e8333f9d6891e50c1eb2ea0"), looks := true }, kinds := [], alts := [], laidByText := true, laidKinds := [.handle], laidTests := true, laidLooks := .later }
def ParcelBackCardSaid : Prop := Claim7.holds Tryd.pinned (.plain (OpenSpec.ofChange parcelBackSpec)) parcelBackCard

/-- THE TIED CARD OF 'espalierlaw18.ParcelCut'. -/
def parcelCutCard : Claim7 := { stood := { row := parcelCutRow, standIns := [], harness := (true, "215a79e1c2181f5a0fa0ecf131c11775ab0787699e8333f9d6891e50c1eb2ea0"), looks := true }, kinds := [], alts := [], laidByText := true, laidKinds := [.handle], laidTests := true, laidLooks := .later }
def ParcelCutCardSaid : Prop := Claim7.holds Tryd.pinned (.plain (OpenSpec.ofChange parcelCutSpec)) parcelCutCard

/-- THE TIED CARD OF 'espalierlaw18.ParcelCells'. -/
def parcelCellsCard : Claim7 := { stood := { row := parcelCellsRow, standIns := [], harness := (true, "215a79e1c2181f5a0fa0ecf131c11775ab0787699e8333f9d6891e50c1eb2ea0"), looks := true }, kinds := [], alts := [], laidByText := true, laidKinds := [.handle], laidTests := true, laidLooks := .later }
def ParcelCellsCardSaid : Prop := Claim7.holds Tryd.pinned (.plain (OpenSpec.ofChange parcelCellsSpec)) parcelCellsCard

/-- THE SECOND FORM's CARD OF 'espalierlaw18.ParcelPuts'. -/
def parcelPutsUptoCard : Claim7 := { stood := { row := parcelPutsUptoRow, standIns := [], harness := (true, "215a79e1c2181f5a0fa0ecf131c11775ab0787699e8333f9d6891e50c1eb2ea0"), looks := true }, kinds := [], alts := [], laidByText := true, laidKinds := [.handle], laidTests := true, laidLooks := .later }
def ParcelPutsUptoCardSaid : Prop := Claim7.holds Tryd.pinned (.plain (OpenSpec.upto parcelPutsSpec)) parcelPutsUptoCard

/-- THE SECOND FORM's CARD OF 'espalierlaw18.ParcelGets'. -/
def parcelGetsUptoCard : Claim7 := { stood := { row := parcelGetsUptoRow, standIns := [], harness := (true, "215a79e1c2181f5a0fa0ecf131c11775ab0787699e8333f9d6891e50c1eb2ea0"), looks := true }, kinds := [], alts := [], laidByText := true, laidKinds := [.handle], laidTests := true, laidLooks := .later }
def ParcelGetsUptoCardSaid : Prop := Claim7.holds Tryd.pinned (.plain (OpenSpec.upto parcelGetsSpec)) parcelGetsUptoCard

/-- THE SECOND FORM's CARD OF 'espalierlaw18.ParcelBack'. -/
def parcelBackUptoCard : Claim7 := { stood := { row := parcelBackUptoRow, standIns := [], harness := (true, "215a79e1c2181f5a0fa0ecf131c11775ab0787699e8333f9d6891e50c1eb2ea0"), looks := true }, kinds := [], alts := [], laidByText := true, laidKinds := [.handle], laidTests := true, laidLooks := .later }
def ParcelBackUptoCardSaid : Prop := Claim7.holds Tryd.pinned (.plain (OpenSpec.upto parcelBackSpec)) parcelBackUptoCard

/-- THE SECOND FORM's CARD OF 'espalierlaw18.ParcelCut'. -/
def parcelCutUptoCard : Claim7 := { stood := { row := parcelCutUptoRow, standIns := [], harness := (true, "215a79e1c2181f5a0fa0ecf131c11775ab0787699e8333f9d6891e50c1eb2ea0"), looks := true }, kinds := [], alts := [], laidByText := true, laidKinds := [.handle], laidTests := true, laidLooks := .later }
def ParcelCutUptoCardSaid : Prop := Claim7.holds Tryd.pinned (.plain (OpenSpec.upto parcelCutSpec)) parcelCutUptoCard

/-- THE SECOND FORM's CARD OF 'espalierlaw18.ParcelCells'. -/
def parcelCellsUptoCard : Claim7 := { stood := { row := parcelCellsUptoRow, standIns := [], harness := (true, "215a79e1c2181f5a0fa0ecf131c11775ab0787699e8333f9d6891e50c1eb2ea0"), looks := true }, kinds := [], alts := [], laidByText := true, laidKinds := [.handle], laidTests := true, laidLooks := .later }
def ParcelCellsUptoCardSaid : Prop := Claim7.holds Tryd.pinned (.plain (OpenSpec.upto parcelCellsSpec)) parcelCellsUptoCard
end Rows
end Go.Proofs.YtkamdppnnhjajaaDoor
