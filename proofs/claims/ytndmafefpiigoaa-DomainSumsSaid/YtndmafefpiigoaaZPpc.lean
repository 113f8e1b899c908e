/-
  PolyLaws. No conditions.
-/
import Derived.Test.YtndmafefpiigoaaZPpb
namespace Go.Sx
open Go.Proofs Go.Num
-- SY
-- TY: TYX, UX
set_option maxRecDepth 100000
set_option linter.unusedSimpArgs false
set_option pp.deepTerms true
set_option pp.maxSteps 100000
theorem evp_md (s : Int) (x : Nat) (l : List Nat) : evp (md s) x l < md s := by
  cases l with
  | nil => exact md_pos s
  | cons c l => exact Nat.mod_lt _ (md_pos s)
end Go.Sx
