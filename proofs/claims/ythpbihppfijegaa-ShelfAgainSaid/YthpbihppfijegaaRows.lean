/-
  No cell of these rows narrows 'for every input' (looked for: loops, veiled, ifaces, maps, wideKeys, modest, calm, conditions, laid).
  DERIVED. THE GIVEN ROWS OF THIS SEAT. 5 by the template 'for every input the law returns true; each argument reads behind the call as it read before'; 0 by the template 'total and deterministic' (their statements: YthpbihppfijegaaTotals.lean).
  GIVEN WITH THE SEED: the statements are not yours to turn. If you find one false, say at which input.
  Laid BY PROGRAM, IN A SANDBOX (cutbox-rows.mjs): the forced cells as the released guide's own fill.sh prints them over the translation 28d3f0e8bac846fe… (all of the seat's roots in one cut). By AI agents, Wed Nov 11 2026. No macro, syntax, notation, axiom, sorry.
-/
import Derived.Test.YthpbihppfijegaaChecked
import GoSem.Claim
import GoSem.ClaimJoined
import GoSem.ClaimMapViews
import Derived.JoinedTies
import Derived.KernelRfl
namespace Go.Proofs.Ythpbihppfijegaa
/- THE CELL 'sum', in the pinned program and in every row, IS THE sha256 OF THE DUMP (.gsa) THAT YthpbihppfijegaaProg.lean LOADS. Nothing in Lean hashes anything: it is a label: what it is worth is what the hold of that sum in a sandbox is worth. -/
noncomputable def Try.pinned : Pinned := { name := "ythpbihppfijegaa", sum := "28d3f0e8bac846fe897a23f440a9d2fbea6d1da2052db38b593cdf476b5b7917", checked := Try.checked }
namespace Rows
def none {H : Type} : Left H := { results := [], args := [] }

/-- 'espalierlaw23.ShelfDoes': WHATEVER THE INPUT: true; the input reads as it did. -/
def shelfDoesSpec : ChangeSpec := { name := "shelfDoes", fn := fun _ => fun
  | [d1, d2] => { results := [.lit (.bool true)], args := [d1, d2] }
  | _ => none }
def shelfDoesRow : OpenClaim := { program := "ythpbihppfijegaa", sum := "28d3f0e8bac846fe897a23f440a9d2fbea6d1da2052db38b593cdf476b5b7917", func := "espalier/espalierlaw23.ShelfDoes", spec := "shelfDoes", unfollowed := true, recurses := true, plainKeys := false, apart := false }
def ShelfDoesSaid : Prop := shelfDoesRow.holds Try.pinned (OpenSpec.ofChange shelfDoesSpec)

/-- ITS FALSE NEIGHBOUR: 'it returns false'. Refute it at one input. -/
def shelfDoesWrong : ChangeSpec := { name := "shelfDoes", fn := fun _ => fun
  | [d1, d2] => { results := [.lit (.bool false)], args := [d1, d2] }
  | _ => none }
def ShelfDoesWrongFalsely : Prop := shelfDoesRow.holds Try.pinned (OpenSpec.ofChange shelfDoesWrong)

/-- 'espalierlaw23.ShelfOnce': WHATEVER THE INPUT: true; the input reads as it did. -/
def shelfOnceSpec : ChangeSpec := { name := "shelfOnce", fn := fun _ => fun
  | [d1, d2, d3, d4] => { results := [.lit (.bool true)], args := [d1, d2, d3, d4] }
  | _ => none }
def shelfOnceRow : OpenClaim := { program := "ythpbihppfijegaa", sum := "28d3f0e8bac846fe897a23f440a9d2fbea6d1da2052db38b593cdf476b5b7917", func := "espalier/espalierlaw23.ShelfOnce", spec := "shelfOnce", unfollowed := true, recurses := true, plainKeys := false, apart := false }
def ShelfOnceSaid : Prop := shelfOnceRow.holds Try.pinned (OpenSpec.ofChange shelfOnceSpec)

/-- ITS FALSE NEIGHBOUR: 'it returns false'. Refute it at one input. -/
def shelfOnceWrong : ChangeSpec := { name := "shelfOnce", fn := fun _ => fun
  | [d1, d2, d3, d4] => { results := [.lit (.bool false)], args := [d1, d2, d3, d4] }
  | _ => none }
def ShelfOnceWrongFalsely : Prop := shelfOnceRow.holds Try.pinned (OpenSpec.ofChange shelfOnceWrong)

/-- 'espalierlaw23.ShelfKeeps': WHATEVER THE INPUT: true; the input reads as it did. -/
def shelfKeepsSpec : ChangeSpec := { name := "shelfKeeps", fn := fun _ => fun
  | [d1, d2] => { results := [.lit (.bool true)], args := [d1, d2] }
  | _ => none }
def shelfKeepsRow : OpenClaim := { program := "ythpbihppfijegaa", sum := "28d3f0e8bac846fe897a23f440a9d2fbea6d1da2052db38b593cdf476b5b7917", func := "espalier/espalierlaw23.ShelfKeeps", spec := "shelfKeeps", unfollowed := true, recurses := true, plainKeys := false, apart := false }
def ShelfKeepsSaid : Prop := shelfKeepsRow.holds Try.pinned (OpenSpec.ofChange shelfKeepsSpec)

/-- ITS FALSE NEIGHBOUR: 'it returns false'. Refute it at one input. -/
def shelfKeepsWrong : ChangeSpec := { name := "shelfKeeps", fn := fun _ => fun
  | [d1, d2] => { results := [.lit (.bool false)], args := [d1, d2] }
  | _ => none }
def ShelfKeepsWrongFalsely : Prop := shelfKeepsRow.holds Try.pinned (OpenSpec.ofChange shelfKeepsWrong)

/-- 'espalierlaw23.ShelfAgain': WHATEVER THE INPUT: true; the input reads as it did. -/
def shelfAgainSpec : ChangeSpec := { name := "shelfAgain", fn := fun _ => fun
  | [d1, d2, d3] => { results := [.lit (.bool true)], args := [d1, d2, d3] }
  | _ => none }
def shelfAgainRow : OpenClaim := { program := "ythpbihppfijegaa", sum := "28d3f0e8bac846fe897a23f440a9d2fbea6d1da2052db38b593cdf476b5b7917", func := "espalier/espalierlaw23.ShelfAgain", spec := "shelfAgain", unfollowed := true, recurses := true, plainKeys := false, apart := false }
def ShelfAgainSaid : Prop := shelfAgainRow.holds Try.pinned (OpenSpec.ofChange shelfAgainSpec)

/-- ITS FALSE NEIGHBOUR: 'it returns false'. Refute it at one input. -/
def shelfAgainWrong : ChangeSpec := { name := "shelfAgain", fn := fun _ => fun
  | [d1, d2, d3] => { results := [.lit (.bool false)], args := [d1, d2, d3] }
  | _ => none }
def ShelfAgainWrongFalsely : Prop := shelfAgainRow.holds Try.pinned (OpenSpec.ofChange shelfAgainWrong)

/-- 'espalierlaw23.ShelfNil': WHATEVER THE INPUT: true; the input reads as it did. -/
def shelfNilSpec : ChangeSpec := { name := "shelfNil", fn := fun _ => fun
  | [d] => { results := [.lit (.bool true)], args := [d] }
  | _ => none }
def shelfNilRow : OpenClaim := { program := "ythpbihppfijegaa", sum := "28d3f0e8bac846fe897a23f440a9d2fbea6d1da2052db38b593cdf476b5b7917", func := "espalier/espalierlaw23.ShelfNil", spec := "shelfNil", unfollowed := true, recurses := true, plainKeys := false, apart := false }
def ShelfNilSaid : Prop := shelfNilRow.holds Try.pinned (OpenSpec.ofChange shelfNilSpec)

/-- ITS FALSE NEIGHBOUR: 'it returns false'. Refute it at one input. -/
def shelfNilWrong : ChangeSpec := { name := "shelfNil", fn := fun _ => fun
  | [d] => { results := [.lit (.bool false)], args := [d] }
  | _ => none }
def ShelfNilWrongFalsely : Prop := shelfNilRow.holds Try.pinned (OpenSpec.ofChange shelfNilWrong)

/- THE SECOND FORM. 'bulk': how many values and letters a reading holds, each counted each time it is reached (what is shared counts as often as it is met; a slice's spare places count too). A statement '..UptoSaid' is the law's where the arguments, and the package variables that the reading takes, are together of bulk at most 1048576: NARROWER than '..Said'. Prove '..Said' where nothing that the law and all that it calls make is longer than what came in: it says more and counts as full. Else prove '..UptoSaid'. A law counts once. -/
mutual
def uptoBulk {H : Type} : DataW H → Nat
  | .lit (.string bytes) => bytes.length + 1
  | .lit _ => 1
  | .nil => 1
  | .ptr d => uptoBulk d + 1
  | .slice elems spare => uptoBulkAll elems + uptoBulkAll spare + 1
  | .agg parts => uptoBulkAll parts + 1
  | .iface _ d => uptoBulk d + 1
  | .map entries => uptoBulkEntries entries + 1
  | .held _ => 1
def uptoBulkAll {H : Type} : List (DataW H) → Nat
  | [] => 0
  | d :: r => uptoBulk d + uptoBulkAll r
def uptoBulkEntries {H : Type} : List (Lit × DataW H) → Nat
  | [] => 0
  | x :: r => uptoBulkEntry x + uptoBulkEntries r
def uptoBulkEntry {H : Type} : Lit × DataW H → Nat
  | (.string bytes, d) => bytes.length + uptoBulk d + 1
  | (_, d) => uptoBulk d + 1
 end
def uptoSmall : (H : Type) → List (DataW H) → Bool := fun _ ds => decide (uptoBulkAll ds ≤ 1048576)
def OpenSpec.upto (s : _root_.Go.ChangeSpec) : _root_.Go.OpenSpec := { _root_.Go.OpenSpec.ofChange s with cond := some uptoSmall }

/-- 'espalierlaw23.ShelfDoes', WHERE WHAT IT READS IS OF BULK AT MOST 1048576: true; the input reads as it did. -/
def shelfDoesUptoRow : OpenClaim := { program := "ythpbihppfijegaa", sum := "28d3f0e8bac846fe897a23f440a9d2fbea6d1da2052db38b593cdf476b5b7917", func := "espalier/espalierlaw23.ShelfDoes", spec := "shelfDoes", unfollowed := true, recurses := true, plainKeys := false, apart := false, narrowed := true }
def ShelfDoesUptoSaid : Prop := shelfDoesUptoRow.holds Try.pinned (OpenSpec.upto shelfDoesSpec)

/-- 'espalierlaw23.ShelfOnce', WHERE WHAT IT READS IS OF BULK AT MOST 1048576: true; the input reads as it did. -/
def shelfOnceUptoRow : OpenClaim := { program := "ythpbihppfijegaa", sum := "28d3f0e8bac846fe897a23f440a9d2fbea6d1da2052db38b593cdf476b5b7917", func := "espalier/espalierlaw23.ShelfOnce", spec := "shelfOnce", unfollowed := true, recurses := true, plainKeys := false, apart := false, narrowed := true }
def ShelfOnceUptoSaid : Prop := shelfOnceUptoRow.holds Try.pinned (OpenSpec.upto shelfOnceSpec)

/-- 'espalierlaw23.ShelfKeeps', WHERE WHAT IT READS IS OF BULK AT MOST 1048576: true; the input reads as it did. -/
def shelfKeepsUptoRow : OpenClaim := { program := "ythpbihppfijegaa", sum := "28d3f0e8bac846fe897a23f440a9d2fbea6d1da2052db38b593cdf476b5b7917", func := "espalier/espalierlaw23.ShelfKeeps", spec := "shelfKeeps", unfollowed := true, recurses := true, plainKeys := false, apart := false, narrowed := true }
def ShelfKeepsUptoSaid : Prop := shelfKeepsUptoRow.holds Try.pinned (OpenSpec.upto shelfKeepsSpec)

/-- 'espalierlaw23.ShelfAgain', WHERE WHAT IT READS IS OF BULK AT MOST 1048576: true; the input reads as it did. -/
def shelfAgainUptoRow : OpenClaim := { program := "ythpbihppfijegaa", sum := "28d3f0e8bac846fe897a23f440a9d2fbea6d1da2052db38b593cdf476b5b7917", func := "espalier/espalierlaw23.ShelfAgain", spec := "shelfAgain", unfollowed := true, recurses := true, plainKeys := false, apart := false, narrowed := true }
def ShelfAgainUptoSaid : Prop := shelfAgainUptoRow.holds Try.pinned (OpenSpec.upto shelfAgainSpec)

/-- 'espalierlaw23.ShelfNil', WHERE WHAT IT READS IS OF BULK AT MOST 1048576: true; the input reads as it did. -/
def shelfNilUptoRow : OpenClaim := { program := "ythpbihppfijegaa", sum := "28d3f0e8bac846fe897a23f440a9d2fbea6d1da2052db38b593cdf476b5b7917", func := "espalier/espalierlaw23.ShelfNil", spec := "shelfNil", unfollowed := true, recurses := true, plainKeys := false, apart := false, narrowed := true }
def ShelfNilUptoSaid : Prop := shelfNilUptoRow.holds Try.pinned (OpenSpec.upto shelfNilSpec)

end Rows
end Go.Proofs.Ythpbihppfijegaa
