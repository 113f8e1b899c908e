/-
  Roots of unity: points, what vanishes, Lagrange's polynomials. No conditions.
-/
import Derived.Test.YtndmafefpiigoaaZDoc
import Derived.Test.YtndmafefpiigoaaZDed
namespace Go.Sx
open Go.Proofs Go.Num
set_option maxRecDepth 100000
set_option linter.unusedSimpArgs false
section
variable {m : Nat} [NeZero m]
end
theorem κ_pw {s : Int} {x : Nat} : ∀ i, κ (md s) (pw s 1 x i) = κ (md s) x ^ i
  | 0 => by rw [f_pow_zero]; exact κ_one
  | i + 1 => by
    show κ (md s) (pw s 1 x i * x % md s) = _
    rw [κ_mod, κ_mul, κ_pw i, f_pow_succ]
theorem ptk {s k : Int} (i : Nat) : κ (md s) (pt s k i) = κ (md s) (rk s k) ^ i := κ_pw i
section
variable {s k : Int}
theorem sS9 (h : kn s = true) : 8 ≤ sS s := by
  rcases sort_cases s with rfl | rfl | rfl | rfl | ⟨h0, h1, h2, h3⟩
  · decide
  · decide
  · decide
  · decide
  · exfalso; simp [kn, h0, h1, h2, h3] at h
theorem rk_facts (h : ptO s k = true) : (∀ i, i < k.toNat → κ (md s) (rk s k) ^ 2 ^ i ≠ 1) ∧ κ (md s) (rk s k) ^ 2 ^ k.toNat = 1 := by
  obtain ⟨h1, h2, h3⟩ := ptO_iff.1 h
  have P := pr_of h1
  have h9 := sS9 h1
  have ha := adc9 h1
  have hr : rk s k = 5 ^ ((md s - 1) / 2 ^ k.toNat) % md s := by
    unfold rk
    have hr : rkO s k := ⟨h2, by omega⟩
    rw [if_pos ⟨h1, hr⟩]
  obtain ⟨g1, g2⟩ := rk_ord h1 (j := k.toNat) (by omega) hr
  constructor
  · intro i hi
    rw [← κ_pow, Ne, κ_eq1 P.1]
    exact g1 i hi
  · rw [← κ_pow, κ_eq1 P.1]
    exact g2
theorem rk_ne (h : ptO s k = true) : κ (md s) (rk s k) ≠ 0 := by
  have P := pr_of (ptO_iff.1 h).1
  obtain ⟨_, h2⟩ := rk_facts h
  intro h0
  rw [h0] at h2
  have hp : 0 < 2 ^ k.toNat := Nat.two_pow_pos _
  obtain ⟨c, hc⟩ : ∃ c, 2 ^ k.toNat = c + 1 := ⟨2 ^ k.toNat - 1, by omega⟩
  rw [hc, f_pow_succ] at h2
  exact f_one_ne P (by rw [← h2]; grind)
end
end Go.Sx
