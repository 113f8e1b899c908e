/-
  DomainSums. No conditions.
-/
import Derived.Test.YtgeliidjmefkgaaZDop
import Derived.Test.YtgeliidjmefkgaaZPop
import Derived.Test.YtgeliidjmefkgaaZPow
namespace Go.Sx
open Go.Proofs Go.Num
-- SY
-- TY: TYX, UX
set_option maxRecDepth 100000
set_option linter.unusedSimpArgs false
set_option pp.deepTerms true
set_option pp.maxSteps 100000
/-- A sum, one by one. -/
def sumN (s : Int) (g : Nat → Nat) : Nat → Nat
  | 0 => 0
  | i + 1 => (sumN s g i + g i) % md s
theorem sumN_w (s : Int) (g : Nat → Nat) : ∀ i, sumN s g i < W256
  | 0 => by show 0 < W256; decide
  | _ + 1 => md_w s _
section
variable {s : Int} {n : Nat} {a b : List Nat}
end
end Go.Sx
