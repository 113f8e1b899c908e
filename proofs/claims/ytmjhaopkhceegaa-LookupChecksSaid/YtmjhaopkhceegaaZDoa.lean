/-
  Layer 6: sizes, points, what vanishes, of domain and of the reference. No conditions.
-/
import Derived.Test.YtmjhaopkhceegaaZPpj
import Derived.Test.YtmjhaopkhceegaaZSqx
namespace Go.Sx
open Go.Proofs Go.Num
-- SY
-- TY: TYX, UX
set_option maxRecDepth 100000
set_option linter.unusedSimpArgs false
set_option pp.deepTerms true
set_option pp.maxSteps 100000
/-- Is it a size? -/
def szO (k : Int) : Bool := decide (0 ≤ k) && decide (k ≤ 9)
/-! ### powers -/
def pw (s : Int) (a x : Nat) : Nat → Nat
  | 0 => a
  | i + 1 => pw s a x i * x % md s
/-! ### points -/
def ptO (s k : Int) : Bool := kn s && szO k
theorem ptO_iff {s k : Int} : ptO s k = true ↔ kn s = true ∧ 0 ≤ k ∧ k ≤ 9 := by simp [ptO, szO]
theorem adc9 {s : Int} (h : kn s = true) : 9 ≤ adc s := by
  rcases sort_cases s with rfl | rfl | rfl | rfl | ⟨h0, h1, h2, h3⟩
  · decide
  · decide
  · decide
  · decide
  · exfalso; simp [kn, h0, h1, h2, h3] at h
/-! ### what vanishes at all points -/
end Go.Sx
