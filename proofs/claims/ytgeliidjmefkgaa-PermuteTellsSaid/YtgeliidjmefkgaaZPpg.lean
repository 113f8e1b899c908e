/-
  PolyMeets. No conditions.
-/
import Derived.Test.YtgeliidjmefkgaaZPpd
namespace Go.Sx
open Go.Proofs Go.Num
-- SY
-- TY: TYX, UX
set_option maxRecDepth 100000
set_option linter.unusedSimpArgs false
set_option pp.deepTerms true
set_option pp.maxSteps 100000
def vals (s : Int) (a xs : List Nat) : List Nat := xs.map fun x => evp (md s) x a
end Go.Sx
