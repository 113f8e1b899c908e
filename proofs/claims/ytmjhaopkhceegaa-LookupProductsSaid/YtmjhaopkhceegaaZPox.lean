/-
  PolyProducts. No conditions.
-/
import Derived.Test.YtmjhaopkhceegaaZPop
import Derived.Test.YtmjhaopkhceegaaZPow
namespace Go.Sx
open Go.Proofs Go.Num
-- SY
-- TY: TYX, UX
set_option maxRecDepth 100000
set_option linter.unusedSimpArgs false
set_option pp.deepTerms true
set_option pp.maxSteps 100000
theorem same_of (l : List Nat) (h1 : l.length ≤ 2000) (h2 : ∀ y ∈ l, y < W256) : Contract Try.prog 14 [.sl l.length 4 (LC eC l), .sl l.length 4 (LC eC l)] [.val (.bool true)] := by
  have := c_SameElems l l h2 h2 (by omega)
  rwa [beq_self_eq_true] at this
end Go.Sx
