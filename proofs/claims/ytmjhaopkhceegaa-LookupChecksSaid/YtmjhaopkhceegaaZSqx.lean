/-
  Root of both; the laws FieldRoots and FieldSquares. No conditions.
-/
import Derived.Test.YtmjhaopkhceegaaZSqv
namespace Go.Sx
open Go.Proofs Go.Num
-- SY
-- TY: TYX, cellsNV, foldNV
set_option maxRecDepth 100000
set_option linter.unusedSimpArgs false
set_option pp.deepTerms true
set_option pp.maxSteps 100000
/-- Is there a root of the order 2^k? -/
def rkO (s k : Int) : Prop := 0 ≤ k ∧ k ≤ adc s
instance (s k : Int) : Decidable (rkO s k) := by unfold rkO; infer_instance
def rk (s k : Int) : Nat := if kn s = true ∧ rkO s k then 5 ^ ((md s - 1) / 2 ^ k.toNat) % md s else 0
end Go.Sx
