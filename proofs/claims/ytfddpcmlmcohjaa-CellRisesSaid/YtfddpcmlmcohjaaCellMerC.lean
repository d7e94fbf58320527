/-
  The program's cell.Merge, whole. Conditions: fewer marks than 2^31.
-/
import Derived.Test.YtfddpcmlmcohjaaCellMerB
namespace Go.Proofs.Ytfddpcmlmcohjaa
open Go.RowKit
set_option linter.unusedVariables false

theorem mer_c (w : World) (A1 A2 : Option Addr) (k1 k2 : Nat) (a b : Cel) (ha : CelR w A1 k1 a) (hb : CelR w A2 k2 b) :
    Calls Try.prog 31 #[CelV a A1 k1, CelV b A2 k2] w (MerP w (mergeC a b)) := by
  by_cases h1 : IsC a
  · by_cases h2 : IsC b
    · by_cases hv : a.version < b.version
      · have := mer_okb w A1 A2 k1 k2 a b ha hb h1 h2 hv
        simpa [mergeC, h1, h2, hv] using this
      · have := mer_oka w A1 A2 k1 k2 a b ha hb h1 h2 hv
        simpa [mergeC, h1, h2, hv] using this
    · have := mer_bad2 w A1 A2 k1 k2 a b ha hb h1 h2
      simpa [mergeC, h2] using this
  · have := mer_bad1 w A1 A2 k1 k2 a b ha hb h1
    simpa [mergeC, h1] using this
end Go.Proofs.Ytfddpcmlmcohjaa
