/-
  Divide of the reference. No conditions.
-/
import Derived.Test.YtgeliidjmefkgaaZPov
namespace Go.Sx
open Go.Proofs Go.Num
-- SY
-- TY: TYX, UX
set_option maxRecDepth 100000
set_option linter.unusedSimpArgs false
set_option pp.deepTerms true
set_option pp.maxSteps 100000
theorem pr_of {s : Int} (hk : kn s = true) : PR (md s) := by
  cases srt s with
  | yes _ _ _ _ _ _ _ P => exact P
  | no h => rw [hk] at h; cases h
end Go.Sx
