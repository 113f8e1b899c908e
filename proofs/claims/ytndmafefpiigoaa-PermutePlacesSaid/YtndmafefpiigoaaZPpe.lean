/-
  PolyRests. No conditions.
-/
import Derived.Test.YtndmafefpiigoaaZPpd
namespace Go.Sx
open Go.Proofs Go.Num
-- SY
-- TY: TYX, UX
set_option maxRecDepth 100000
set_option linter.unusedSimpArgs false
set_option pp.deepTerms true
set_option pp.maxSteps 100000
theorem evk_fac {s : Int} {x : Nat} : evk (κ (md s) x) (fac s x) = 0 := by
  simp only [fac, evk]
  rw [κ_mod, κ_neg, κ_one]; grind
end Go.Sx
