/-
  Zeros of poly and of the reference. No conditions.
-/
import Derived.Test.YtgeliidjmefkgaaZPpb
namespace Go.Sx
open Go.Proofs Go.Num
-- SY
-- TY: TYX, UX
set_option maxRecDepth 100000
set_option linter.unusedSimpArgs false
set_option pp.deepTerms true
set_option pp.maxSteps 100000
/-- The factor that is nothing at x. -/
def fac (s : Int) (x : Nat) : List Nat := [(md s - x % md s) % md s, 1]
end Go.Sx
