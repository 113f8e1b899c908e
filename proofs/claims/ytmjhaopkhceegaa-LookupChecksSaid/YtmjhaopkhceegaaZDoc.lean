/-
  Lagrange of domain and of the reference. No conditions.
-/
import Derived.Test.YtmjhaopkhceegaaZDoa
namespace Go.Sx
open Go.Proofs Go.Num
-- SY
-- TY: TYX, UX
set_option maxRecDepth 100000
set_option linter.unusedSimpArgs false
set_option pp.deepTerms true
set_option pp.maxSteps 100000
/-- A point. -/
def pt (s k : Int) (i : Nat) : Nat := pw s 1 (rk s k) i
end Go.Sx
