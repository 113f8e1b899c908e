/-
  LookupHolds walked. No conditions.
-/
import Derived.Test.YtmjhaopkhceegaaZLkp
import Derived.Test.YtmjhaopkhceegaaZLkv
import Derived.Test.YtmjhaopkhceegaaZLkw
namespace Go.Sx
open Go.Proofs Go.Num
-- SY
-- TY: TYX, UX, guard_un, IOX, mv_fa, plain_s, plain_r, plain_p
set_option maxRecDepth 100000
set_option linter.unusedSimpArgs false
set_option pp.deepTerms true
set_option pp.maxSteps 100000
theorem mv_fa {x : AV} {v : Value} {F : World → Prop} {l : List AV} {az : List Arg} : movedE (x :: l) (.fa v F :: az) = movedE l az := by cases x with | o a => cases a <;> rfl | t l => rfl
end Go.Sx
