/-
  A prime field as numbers below a modulus: laws, inverses. No conditions.
-/
import Derived.Test.YtmgheellmllfpaaNuma
namespace Go.Num
section
variable {m : Nat} [NeZero m]
theorem f_pow_succ (x : Fin m) (i : Nat) : x^(i+1) = x^i * x := by grind
theorem f_pow_zero (x : Fin m) : x^0 = 1 := by grind
theorem f_mul_pow (x y : Fin m) : ∀ i : Nat, (x * y)^i = x^i * y^i
  | 0 => by rw [f_pow_zero, f_pow_zero, f_pow_zero]; grind
  | i+1 => by rw [f_pow_succ, f_pow_succ, f_pow_succ, f_mul_pow x y i]; grind
theorem f_pow_add (x : Fin m) (i j : Nat) : x^(i+j) = x^i * x^j := by grind
theorem f_pow_mul (x : Fin m) (i : Nat) : ∀ j : Nat, x^(i*j) = (x^i)^j
  | 0 => by rw [Nat.mul_zero, f_pow_zero, f_pow_zero]
  | j+1 => by rw [Nat.mul_add, Nat.mul_one, f_pow_add, f_pow_mul x i j, f_pow_succ]
theorem f_one_pow : ∀ i : Nat, (1 : Fin m)^i = 1
  | 0 => f_pow_zero _
  | i+1 => by rw [f_pow_succ, f_one_pow i]; grind
def κ (m : Nat) [NeZero m] (a : Nat) : Fin m := Fin.ofNat m a
theorem κ_mul (a b : Nat) : κ m (a * b) = κ m a * κ m b := by apply Fin.ext; simp [κ, Fin.val_mul]
theorem κ_add (a b : Nat) : κ m (a + b) = κ m a + κ m b := by apply Fin.ext; simp [κ, Fin.val_add]
theorem κ_mod (a : Nat) : κ m (a % m) = κ m a := by apply Fin.ext; simp [κ]
theorem κ_val (a : Nat) : (κ m a).val = a % m := by simp [κ]
theorem κ_pow (a : Nat) : ∀ i, κ m (a ^ i) = κ m a ^ i
  | 0 => by rw [Nat.pow_zero, f_pow_zero]; apply Fin.ext; simp [κ]; rfl
  | i+1 => by rw [Nat.pow_succ, κ_mul, κ_pow a i, f_pow_succ]
theorem κ_inj {a b : Nat} : κ m a = κ m b ↔ a % m = b % m := by rw [Fin.ext_iff, κ_val, κ_val]
theorem κ_zero : κ m 0 = 0 := by apply Fin.ext; simp [κ]
theorem κ_one : κ m 1 = 1 := by apply Fin.ext; simp [κ]; rfl
theorem κ_neg (a : Nat) : κ m (m - a % m) = - κ m a := by
  have h : κ m (m - a % m) + κ m a = 0 := by
    rw [← κ_add, ← κ_zero, κ_inj]
    have := Nat.mod_lt a (Nat.pos_of_ne_zero (NeZero.ne m))
    have h2 := Nat.div_add_mod a m
    have e : m - a % m + a = m * (a / m + 1) := by rw [Nat.mul_add, Nat.mul_one]; omega
    rw [e]; simp
  grind

theorem κ_small {a : Nat} (h : a < m) : (κ m a).val = a := by rw [κ_val, Nat.mod_eq_of_lt h]
theorem κ_self (x : Fin m) : κ m x.val = x := by apply Fin.ext; rw [κ_val, Nat.mod_eq_of_lt x.isLt]
theorem κ_eq0 {a : Nat} : κ m a = 0 ↔ a % m = 0 := by rw [← κ_zero (m := m), κ_inj, Nat.zero_mod]
theorem κ_eq1 {a : Nat} (h : 1 < m) : κ m a = 1 ↔ a % m = 1 := by rw [← κ_one (m := m), κ_inj, Nat.mod_eq_of_lt h]
theorem κ_sub (a : Nat) : κ m ((m - a % m) % m) = - κ m a := by rw [κ_mod, κ_neg]
/-- The inverse. -/
def ι (x : Fin m) : Fin m := x ^ (m - 2)
theorem ι_mul (P : PR m) {x : Fin m} (h : x ≠ 0) : x * ι x = 1 := by
  have h1 := P.2 x.val (by rw [Nat.mod_eq_of_lt x.isLt]; intro h2; exact h (Fin.ext (by rw [h2]; rfl)))
  have h2 : κ m (x.val ^ (m - 1)) = κ m 1 := by rw [κ_inj, h1, Nat.mod_eq_of_lt P.1]
  rw [κ_pow, κ_self, κ_one] at h2
  have e : m - 1 = (m - 2) + 1 := by have := P.1; omega
  unfold ι
  rw [e, f_pow_succ] at h2
  grind
theorem f_nzd (P : PR m) {x y : Fin m} (h : x * y = 0) : x = 0 ∨ y = 0 := by
  by_cases hx : x = 0
  · exact .inl hx
  · have := ι_mul P hx
    exact .inr (by grind)
theorem f_one_ne (P : PR m) : (1 : Fin m) ≠ 0 := by
  intro h
  have h1 := congrArg Fin.val h
  rw [← κ_one (m := m), κ_val, Nat.mod_eq_of_lt P.1] at h1
  simp at h1
theorem ι_uniq (P : PR m) {x y : Fin m} (h : x * y = 1) : y = ι x := by
  have hx : x ≠ 0 := by
    intro h0
    have := f_one_ne P
    grind
  have := ι_mul P hx
  grind
theorem ι_ne (P : PR m) {x : Fin m} (h : x ≠ 0) : ι x ≠ 0 := by
  intro h0
  have := ι_mul P h
  have := f_one_ne P
  grind
theorem f_sq1 (P : PR m) {x : Fin m} (h : x * x = 1) : x = 1 ∨ x = -1 := by
  have h2 : (x - 1) * (x + 1) = 0 := by grind
  rcases f_nzd P h2 with h3 | h3
  · exact .inl (by grind)
  · exact .inr (by grind)
theorem f_pow_ne (P : PR m) {x : Fin m} (h : x ≠ 0) : ∀ i : Nat, x ^ i ≠ 0
  | 0 => by rw [f_pow_zero]; exact f_one_ne P
  | i + 1 => by
    rw [f_pow_succ]
    intro h0
    rcases f_nzd P h0 with h1 | h1
    · exact f_pow_ne P h i h1
    · exact h h1
theorem f_fermat (P : PR m) {x : Fin m} (h : x ≠ 0) : x ^ (m - 1) = 1 := by
  have := ι_mul P h
  have e : m - 1 = (m - 2) + 1 := by have := P.1; omega
  unfold ι at this
  rw [e, f_pow_succ]
  grind
end
end Go.Num
