/-
  Place of permute and of the reference. What the laws of layer 16 begin with; PermutePlaces. Helpers of permute's Checks, here and in the reference. Checks of permute. Checks of the reference. PermuteChecks. No conditions.
-/
import Derived.Test.YtmjhaopkhceegaaZDop
import Derived.Test.YtmjhaopkhceegaaZPox
import Derived.Test.YtmjhaopkhceegaaZStq
namespace Go.Sx
open Go.Proofs Go.Num
-- SY
-- TY: TYX, UX
set_option maxRecDepth 100000
set_option linter.unusedSimpArgs false
set_option pp.deepTerms true
set_option pp.maxSteps 100000
theorem L0_0 : L0 0 = 0 := rfl
theorem L1_0 : L1 0 = 0 := rfl
theorem L2_0 : L2 0 = 0 := rfl
theorem L3_0 : L3 0 = 0 := rfl
end Go.Sx
namespace Go.Sx
open Go.Proofs Go.Num
-- SY
-- TY: TYX, UX
set_option maxRecDepth 100000
set_option linter.unusedSimpArgs false
set_option pp.deepTerms true
set_option pp.maxSteps 100000
end Go.Sx
namespace Go.Sx
open Go.Proofs Go.Num
-- SY
-- TY: TYX, UX
set_option maxRecDepth 100000
set_option linter.unusedSimpArgs false
set_option pp.deepTerms true
set_option pp.maxSteps 100000
/-- What makes the factors. -/
def TN (s : Int) (β γ : Nat) : Value := Value.agg [.int .i64 s, u64 (L0 β), u64 (L1 β), u64 (L2 β), u64 (L3 β), u64 (L0 γ), u64 (L1 γ), u64 (L2 γ), u64 (L3 γ)].toArray
end Go.Sx
namespace Go.Sx
open Go.Proofs Go.Num
-- SY
-- TY: TYX, UX
set_option maxRecDepth 100000
set_option linter.unusedSimpArgs false
set_option pp.deepTerms true
set_option pp.maxSteps 100000
end Go.Sx
namespace Go.Sx
open Go.Proofs Go.Num
-- SY
-- TY: TYX, UX
set_option maxRecDepth 100000
set_option linter.unusedSimpArgs false
set_option pp.deepTerms true
set_option pp.maxSteps 100000
end Go.Sx
namespace Go.Sx
open Go.Proofs Go.Num
-- SY
-- TY: TYX, UX, guard_un
set_option maxRecDepth 100000
set_option linter.unusedSimpArgs false
set_option pp.deepTerms true
set_option pp.maxSteps 100000
end Go.Sx
