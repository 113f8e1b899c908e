/-
  Divide, of poly and of the reference. No conditions.
-/
import Derived.Test.YtmjhaopkhceegaaZPop
namespace Go.Sx
open Go.Proofs Go.Num
-- SY
-- TY: TYX, UX
set_option maxRecDepth 100000
set_option linter.unusedSimpArgs false
set_option pp.deepTerms true
set_option pp.maxSteps 100000
/-! ### the steps of a division -/
/-- A difference. -/
def sb (m x y : Nat) : Nat := (x + (m - y % m) % m) % m
/-! ### what is answered -/
end Go.Sx
