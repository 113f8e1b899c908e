/-
  Reversed bits. No conditions.
-/
import Derived.Test.YtmjhaopkhceegaaZDoh
namespace Go.Sx
open Go.Proofs Go.Num
-- SY
-- TY: TYX, UX
set_option maxRecDepth 100000
set_option linter.unusedSimpArgs false
set_option pp.deepTerms true
set_option pp.maxSteps 100000
/-- The bits of a number below 2^k, turned round. -/
def br : Nat → Nat → Nat
  | 0, _ => 0
  | k + 1, i => i % 2 * 2 ^ k + br k (i / 2)
end Go.Sx
