/-
  Values of the reference; what is asked before a transform. No conditions.
-/
import Derived.Test.YtmjhaopkhceegaaZDog
namespace Go.Sx
open Go.Proofs Go.Num
-- SY
-- TY: TYX, UX
set_option maxRecDepth 100000
set_option linter.unusedSimpArgs false
set_option pp.deepTerms true
set_option pp.maxSteps 100000
def vaF (s k : Int) (sh : Nat) (l : List Nat) (i : Nat) : Nat := evp (md s) (sh * pt s k i % md s) l
def coB (s k : Int) (sh : Nat) : Nat → Nat := pw s (inv s (iN s ((2 ^ k.toNat : Nat) : Int))) (inv s sh)
def coF (s k : Int) (sh : Nat) (l : List Nat) (j : Nat) : Nat := evp (md s) (pt s k ((2 ^ k.toNat - j) % 2 ^ k.toNat)) l * coB s k sh j % md s
end Go.Sx
