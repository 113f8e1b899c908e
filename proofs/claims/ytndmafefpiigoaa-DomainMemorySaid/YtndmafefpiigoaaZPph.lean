/-
  Through of the reference, as a law. No conditions.
-/
import Derived.Test.YtndmafefpiigoaaZPpg
namespace Go.Sx
open Go.Proofs Go.Num
-- SY
-- TY: TYX, UX
set_option maxRecDepth 100000
set_option linter.unusedSimpArgs false
set_option pp.deepTerms true
set_option pp.maxSteps 100000
end Go.Sx
