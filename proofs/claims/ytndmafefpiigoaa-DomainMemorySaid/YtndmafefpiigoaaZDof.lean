/-
  Lagrange's polynomials by one formula. No conditions.
-/
import Derived.Test.YtndmafefpiigoaaZDoe
namespace Go.Sx
open Go.Proofs Go.Num
set_option maxRecDepth 100000
set_option linter.unusedSimpArgs false
section
variable {m : Nat} [NeZero m]
end
section
variable {s : Int}
end
section
variable {s k : Int}
end
end Go.Sx
