/-
  PolyLaws. No conditions.
-/
import Derived.Test.YtndmafefpiigoaaZPpb
namespace Go.Sx
open Go.Proofs Go.Num
-- SY
-- TY: TYX, UX
set_option maxRecDepth 100000
set_option linter.unusedSimpArgs false
set_option pp.deepTerms true
set_option pp.maxSteps 100000
theorem tp_nrm (s : Int) (l : List Nat) : Nrm (md s) (tp (md s) l) := nrm_tp (md_pos s) l
end Go.Sx
