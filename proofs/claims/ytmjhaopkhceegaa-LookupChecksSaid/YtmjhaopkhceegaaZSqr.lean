/-
  Squares and roots in a prime field with a known power of two. No conditions.
-/
import Derived.Test.YtmjhaopkhceegaaZFieldD
namespace Go.Num
section
variable {m : Nat} [NeZero m]
/-- m - 1 is 2^(S+1) q; g's power to 2^S q is -1. -/
structure SqF (m : Nat) [NeZero m] (S q : Nat) (g : Fin m) : Prop where
  P : PR m
  odd : m % 2 = 1
  fac : m - 1 = 2 ^ (S + 1) * q
  qodd : q % 2 = 1
  gen : g ^ (2 ^ S * q) = -1
theorem f_sq (x : Fin m) : x ^ 2 = x * x := by grind
theorem f_pow_two_succ (x : Fin m) (k : Nat) : x ^ (2 ^ (k + 1)) = x ^ (2 ^ k) * x ^ (2 ^ k) := by
  rw [Nat.pow_succ, f_pow_mul, f_sq]
theorem f_pow_two_succ' (x : Fin m) (k : Nat) : x ^ (2 ^ (k + 1)) = (x * x) ^ (2 ^ k) := by
  rw [f_pow_two_succ, f_mul_pow]
theorem f_pow_one (x : Fin m) : x ^ 1 = x := by grind
theorem f_pow_comm (x : Fin m) (i j : Nat) : (x ^ i) ^ j = (x ^ j) ^ i := by rw [← f_pow_mul, ← f_pow_mul, Nat.mul_comm]
variable {S q : Nat} {g : Fin m}
theorem SqF.z (F : SqF m S q g) : (g ^ q) ^ (2 ^ S) = -1 := by rw [← f_pow_mul, Nat.mul_comm]; exact F.gen
theorem SqF.full (F : SqF m S q g) {x : Fin m} (h : x ≠ 0) : (x ^ q) ^ (2 ^ (S + 1)) = 1 := by
  rw [← f_pow_mul, Nat.mul_comm, ← F.fac]; exact f_fermat F.P h
theorem SqF.root (F : SqF m S q g) (x : Fin m) : ∀ (k : Nat), k ≤ S → ∀ X T : Fin m, X * X = x * T → T ^ (2 ^ k) = 1 → ∃ r, r * r = x
  | 0, _, X, T, h1, h2 => ⟨X, by rw [Nat.pow_zero, f_pow_one] at h2; grind⟩
  | k + 1, hk, X, T, h1, h2 => by
    rw [f_pow_two_succ] at h2
    rcases f_sq1 F.P h2 with h3 | h3
    · exact F.root x k (by omega) X T h1 h3
    · let b := (g ^ q) ^ (2 ^ (S - (k + 1)))
      have hb : b ^ (2 ^ (k + 1)) = -1 := by
        show ((g ^ q) ^ (2 ^ (S - (k + 1)))) ^ (2 ^ (k + 1)) = -1
        rw [← f_pow_mul, ← Nat.pow_add, show S - (k + 1) + (k + 1) = S by omega]
        exact F.z
      refine F.root x k (by omega) (X * b) (T * (b * b)) (by grind) ?_
      rw [f_mul_pow, h3, ← f_pow_two_succ', hb]
      grind
theorem SqF.start (F : SqF m S q g) (x : Fin m) : x ^ ((q + 1) / 2) * x ^ ((q + 1) / 2) = x * x ^ q := by
  have := F.qodd
  rw [← f_pow_add, show (q + 1) / 2 + (q + 1) / 2 = q + 1 by omega, f_pow_succ]
  grind
/-- Euler: x is a square just if that power is 1. -/
theorem SqF.euler (F : SqF m S q g) {x : Fin m} (h : x ≠ 0) : (∃ r, r * r = x) ↔ (x ^ q) ^ (2 ^ S) = 1 := by
  constructor
  · rintro ⟨r, rfl⟩
    have hr : r ≠ 0 := by intro h0; exact h (by rw [h0]; grind)
    rw [f_mul_pow, ← f_pow_two_succ']
    exact F.full hr
  · intro h1
    exact F.root x S (Nat.le_refl _) _ _ (F.start x) h1
end
end Go.Num
