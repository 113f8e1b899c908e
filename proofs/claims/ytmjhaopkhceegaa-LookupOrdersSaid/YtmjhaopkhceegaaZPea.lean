/-
  Place of permute and of the reference. No conditions.
-/
import Derived.Test.YtmjhaopkhceegaaZDop
import Derived.Test.YtmjhaopkhceegaaZPop
import Derived.Test.YtmjhaopkhceegaaZPow
namespace Go.Sx
open Go.Proofs Go.Num
-- SY
-- TY: TYX, UX
set_option maxRecDepth 100000
set_option linter.unusedSimpArgs false
set_option pp.deepTerms true
set_option pp.maxSteps 100000
theorem L0_0 : L0 0 = 0 := rfl
theorem L1_0 : L1 0 = 0 := rfl
theorem L2_0 : L2 0 = 0 := rfl
theorem L3_0 : L3 0 = 0 := rfl
end Go.Sx
