/-
  Polynomials over a prime field: products, values, division, roots. No conditions.
-/
import Derived.Test.YtgeliidjmefkgaaZPow
namespace Go.Sx
open Go.Proofs Go.Num
set_option maxRecDepth 100000
set_option linter.unusedSimpArgs false
section
variable {m : Nat} [NeZero m]
/-- A coefficient. -/
def co (m : Nat) [NeZero m] (l : List Nat) (i : Nat) : Fin m := κ m (l.getD i 0)
theorem co_0 (x : Nat) (l : List Nat) : co m (x :: l) 0 = κ m x := by simp [co]
theorem co_s (x : Nat) (l : List Nat) (i : Nat) : co m (x :: l) (i + 1) = co m l i := by simp [co]
theorem co_out {l : List Nat} {i : Nat} (h : l.length ≤ i) : co m l i = 0 := by unfold co; rw [getD_out h, κ_zero]
/-- The value at x. -/
def evk (x : Fin m) : List Nat → Fin m
  | [] => 0
  | c :: l => κ m c + x * evk x l
theorem κ_evp (x : Nat) : ∀ l : List Nat, κ m (evp m x l) = evk (κ m x) l
  | [] => κ_zero
  | c :: l => by
    unfold evp evk
    rw [κ_mod, κ_add, κ_mod, κ_mul, κ_evp x l]; grind
/-! ### products -/
/-- One coefficient alone. -/
def one (low : Nat) (c : Fin m) (i : Nat) : Fin m := if i = low then c else 0
/-! ### no divisors of nothing -/
/-! ### roots -/
end
end Go.Sx
