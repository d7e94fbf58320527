/-
  No cell of these rows narrows 'for every input' (looked for: loops, veiled, ifaces, maps, wideKeys, modest, calm, conditions, laid).
  DERIVED. THE GIVEN ROWS OF THIS SEAT. 3 by the template 'for every input the law returns true; each argument reads behind the call as it read before'; 0 by the template 'total and deterministic' (their statements: YtpgjalaldhlcoaaTotals.lean).
  GIVEN WITH THE SEED: the statements are not yours to turn. If you find one false, say at which input.
  Laid BY PROGRAM, IN A SANDBOX (cutbox-rows.mjs): the forced cells as the released guide's own fill.sh prints them over the translation 37c25e4b7f70a6db… (all of the seat's roots in one cut). By AI agents, Wed Nov 11 2026. No macro, syntax, notation, axiom, sorry.
-/
import Derived.Test.YtpgjalaldhlcoaaChecked
import GoSem.Claim
import GoSem.ClaimJoined
import GoSem.ClaimMapViews
import Derived.JoinedTies
import Derived.KernelRfl
namespace Go.Proofs.Ytpgjalaldhlcoaa
/- THE CELL 'sum', in the pinned program and in every row, IS THE sha256 OF THE DUMP (.gsa) THAT YtpgjalaldhlcoaaProg.lean LOADS. Nothing in Lean hashes anything: it is a label: what it is worth is what the hold of that sum in a sandbox is worth. -/
noncomputable def Try.pinned : Pinned := { name := "ytpgjalaldhlcoaa", sum := "37c25e4b7f70a6db8311ec7ba688e3c3d2ecdd2c8c2c7bd044ef8391bd1adf9a", checked := Try.checked }
namespace Rows
def none {H : Type} : Left H := { results := [], args := [] }

/-- 'espalierlaw24.TrieBuilt': WHATEVER THE INPUT: true; the input reads as it did. -/
def trieBuiltSpec : ChangeSpec := { name := "trieBuilt", fn := fun _ => fun
  | [d1, d2] => { results := [.lit (.bool true)], args := [d1, d2] }
  | _ => none }
def trieBuiltRow : OpenClaim := { program := "ytpgjalaldhlcoaa", sum := "37c25e4b7f70a6db8311ec7ba688e3c3d2ecdd2c8c2c7bd044ef8391bd1adf9a", func := "espalier/espalierlaw24.TrieBuilt", spec := "trieBuilt", unfollowed := true, recurses := true, plainKeys := false, apart := false }
def TrieBuiltSaid : Prop := trieBuiltRow.holds Try.pinned (OpenSpec.ofChange trieBuiltSpec)

/-- ITS FALSE NEIGHBOUR: 'it returns false'. Refute it at one input. -/
def trieBuiltWrong : ChangeSpec := { name := "trieBuilt", fn := fun _ => fun
  | [d1, d2] => { results := [.lit (.bool false)], args := [d1, d2] }
  | _ => none }
def TrieBuiltWrongFalsely : Prop := trieBuiltRow.holds Try.pinned (OpenSpec.ofChange trieBuiltWrong)

/-- 'espalierlaw24.TrieWithout': WHATEVER THE INPUT: true; the input reads as it did. -/
def trieWithoutSpec : ChangeSpec := { name := "trieWithout", fn := fun _ => fun
  | [d1, d2, d3, d4] => { results := [.lit (.bool true)], args := [d1, d2, d3, d4] }
  | _ => none }
def trieWithoutRow : OpenClaim := { program := "ytpgjalaldhlcoaa", sum := "37c25e4b7f70a6db8311ec7ba688e3c3d2ecdd2c8c2c7bd044ef8391bd1adf9a", func := "espalier/espalierlaw24.TrieWithout", spec := "trieWithout", unfollowed := true, recurses := true, plainKeys := false, apart := false }
def TrieWithoutSaid : Prop := trieWithoutRow.holds Try.pinned (OpenSpec.ofChange trieWithoutSpec)

/-- ITS FALSE NEIGHBOUR: 'it returns false'. Refute it at one input. -/
def trieWithoutWrong : ChangeSpec := { name := "trieWithout", fn := fun _ => fun
  | [d1, d2, d3, d4] => { results := [.lit (.bool false)], args := [d1, d2, d3, d4] }
  | _ => none }
def TrieWithoutWrongFalsely : Prop := trieWithoutRow.holds Try.pinned (OpenSpec.ofChange trieWithoutWrong)

/-- 'espalierlaw24.TrieCovers': WHATEVER THE INPUT: true; the input reads as it did. -/
def trieCoversSpec : ChangeSpec := { name := "trieCovers", fn := fun _ => fun
  | [d1, d2, d3] => { results := [.lit (.bool true)], args := [d1, d2, d3] }
  | _ => none }
def trieCoversRow : OpenClaim := { program := "ytpgjalaldhlcoaa", sum := "37c25e4b7f70a6db8311ec7ba688e3c3d2ecdd2c8c2c7bd044ef8391bd1adf9a", func := "espalier/espalierlaw24.TrieCovers", spec := "trieCovers", unfollowed := true, recurses := true, plainKeys := false, apart := false }
def TrieCoversSaid : Prop := trieCoversRow.holds Try.pinned (OpenSpec.ofChange trieCoversSpec)

/-- ITS FALSE NEIGHBOUR: 'it returns false'. Refute it at one input. -/
def trieCoversWrong : ChangeSpec := { name := "trieCovers", fn := fun _ => fun
  | [d1, d2, d3] => { results := [.lit (.bool false)], args := [d1, d2, d3] }
  | _ => none }
def TrieCoversWrongFalsely : Prop := trieCoversRow.holds Try.pinned (OpenSpec.ofChange trieCoversWrong)

/- THE SECOND FORM. 'bulk': how many values and letters a reading holds, each counted each time it is reached (what is shared counts as often as it is met; a slice's spare places count too). A statement '..UptoSaid' is the law's where the arguments, and the package variables that the reading takes, are together of bulk at most 1048576: NARROWER than '..Said'. Prove '..Said' where nothing that the law and all that it calls make is longer than what came in: it says more and counts as full. Else prove '..UptoSaid'. A law counts once. -/
mutual
def uptoBulk {H : Type} : DataW H → Nat
  | .lit (.string bytes) => bytes.length + 1
  | .lit _ => 1
  | .nil => 1
  | .ptr d => uptoBulk d + 1
  | .slice elems spare => uptoBulkAll elems + uptoBulkAll spare + 1
  | .agg parts => uptoBulkAll parts + 1
  | .iface _ d => uptoBulk d + 1
  | .map entries => uptoBulkEntries entries + 1
  | .held _ => 1
def uptoBulkAll {H : Type} : List (DataW H) → Nat
  | [] => 0
  | d :: r => uptoBulk d + uptoBulkAll r
def uptoBulkEntries {H : Type} : List (Lit × DataW H) → Nat
  | [] => 0
  | x :: r => uptoBulkEntry x + uptoBulkEntries r
def uptoBulkEntry {H : Type} : Lit × DataW H → Nat
  | (.string bytes, d) => bytes.length + uptoBulk d + 1
  | (_, d) => uptoBulk d + 1
 end
def uptoSmall : (H : Type) → List (DataW H) → Bool := fun _ ds => decide (uptoBulkAll ds ≤ 1048576)
def OpenSpec.upto (s : _root_.Go.ChangeSpec) : _root_.Go.OpenSpec := { _root_.Go.OpenSpec.ofChange s with cond := some uptoSmall }

/-- 'espalierlaw24.TrieBuilt', WHERE WHAT IT READS IS OF BULK AT MOST 1048576: true; the input reads as it did. -/
def trieBuiltUptoRow : OpenClaim := { program := "ytpgjalaldhlcoaa", sum := "37c25e4b7f70a6db8311ec7ba688e3c3d2ecdd2c8c2c7bd044ef8391bd1adf9a", func := "espalier/espalierlaw24.TrieBuilt", spec := "trieBuilt", unfollowed := true, recurses := true, plainKeys := false, apart := false, narrowed := true }
def TrieBuiltUptoSaid : Prop := trieBuiltUptoRow.holds Try.pinned (OpenSpec.upto trieBuiltSpec)

/-- 'espalierlaw24.TrieWithout', WHERE WHAT IT READS IS OF BULK AT MOST 1048576: true; the input reads as it did. -/
def trieWithoutUptoRow : OpenClaim := { program := "ytpgjalaldhlcoaa", sum := "37c25e4b7f70a6db8311ec7ba688e3c3d2ecdd2c8c2c7bd044ef8391bd1adf9a", func := "espalier/espalierlaw24.TrieWithout", spec := "trieWithout", unfollowed := true, recurses := true, plainKeys := false, apart := false, narrowed := true }
def TrieWithoutUptoSaid : Prop := trieWithoutUptoRow.holds Try.pinned (OpenSpec.upto trieWithoutSpec)

/-- 'espalierlaw24.TrieCovers', WHERE WHAT IT READS IS OF BULK AT MOST 1048576: true; the input reads as it did. -/
def trieCoversUptoRow : OpenClaim := { program := "ytpgjalaldhlcoaa", sum := "37c25e4b7f70a6db8311ec7ba688e3c3d2ecdd2c8c2c7bd044ef8391bd1adf9a", func := "espalier/espalierlaw24.TrieCovers", spec := "trieCovers", unfollowed := true, recurses := true, plainKeys := false, apart := false, narrowed := true }
def TrieCoversUptoSaid : Prop := trieCoversUptoRow.holds Try.pinned (OpenSpec.upto trieCoversSpec)

end Rows
end Go.Proofs.Ytpgjalaldhlcoaa
