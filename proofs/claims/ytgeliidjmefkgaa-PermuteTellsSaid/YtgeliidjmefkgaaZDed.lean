/-
  Decode of both; the law FieldRound. No conditions.
-/
import Derived.Test.YtgeliidjmefkgaaZSqrA
namespace Go.Sx
open Go.Proofs Go.Num
-- SY
-- TY: TYX, cellsNV, foldNV, BY
set_option maxRecDepth 100000
set_option linter.unusedSimpArgs false
set_option pp.deepTerms true
set_option pp.maxSteps 100000
theorem ord5 {s : Int} (hk : kn s = true) : ∀ n, 0 < n → n < md s - 1 → 5 ^ n % md s ≠ 1 := by
  rcases kn_or s hk with rfl | rfl | rfl | rfl
  · exact fermat0_ord
  · exact fermat1_ord
  · exact fermat2_ord
  · exact fermat3_ord
/-- A root's powers: none before the last is 1. -/
theorem rk_ord {s : Int} (hk : kn s = true) {j : Nat} (hj : j ≤ sS s + 1) {r : Nat} (hr : r = 5 ^ ((md s - 1) / 2 ^ j) % md s) : (∀ i, i < j → r ^ 2 ^ i % md s ≠ 1) ∧ r ^ 2 ^ j % md s = 1 := by
  have G := sqf s hk
  have hq := G.qodd
  have e : (md s - 1) / 2 ^ j = 2 ^ (sS s + 1 - j) * qS s := by
    rw [G.fac, show sS s + 1 = j + (sS s + 1 - j) by omega, Nat.pow_add, Nat.mul_assoc, Nat.mul_div_cancel_left _ (Nat.pos_of_ne_zero (by simp)), show j + (sS s + 1 - j) - j = sS s + 1 - j by omega]
  have key : ∀ i, i ≤ j → r ^ 2 ^ i % md s = 5 ^ (2 ^ (sS s + 1 - (j - i)) * qS s) % md s := by
    intro i hi
    rw [hr, ← Nat.pow_mod, e, ← Nat.pow_mul, Nat.mul_right_comm, ← Nat.pow_add, show sS s + 1 - j + i = sS s + 1 - (j - i) by omega]
  have hp : ∀ k, 0 < 2 ^ k := fun k => Nat.pos_of_ne_zero (by simp)
  refine ⟨fun i hi => ?_, ?_⟩
  · rw [key i (by omega)]
    refine ord5 hk _ (Nat.mul_pos (hp _) (by omega)) ?_
    rw [G.fac]
    refine Nat.mul_lt_mul_of_pos_right (Nat.pow_lt_pow_right (by decide) (by omega)) (by omega)
  · rw [key j (Nat.le_refl _), Nat.sub_self, Nat.sub_zero, ← G.fac, ← κ_eq1 G.P.1, κ_pow]
    refine f_fermat G.P ?_
    rw [ne_eq, κ_eq0]
    rcases kn_or s hk with rfl | rfl | rfl | rfl <;> decide
end Go.Sx
