/-
  Division, as a law. No conditions.
-/
import Derived.Test.YtgeliidjmefkgaaZPpa
import Derived.Test.YtgeliidjmefkgaaZPop
import Derived.Test.YtgeliidjmefkgaaZPow
namespace Go.Sx
open Go.Proofs Go.Num
set_option maxRecDepth 100000
set_option linter.unusedSimpArgs false
theorem κ_sb {m : Nat} [NeZero m] (x y : Nat) : κ m (sb m x y) = κ m x - κ m y := by
  unfold sb
  rw [κ_mod, κ_add, κ_sub]; grind
section
variable {s : Int} {B : List Nat} {lead la : Nat} {f0 : Nat → Nat}
end
end Go.Sx
