/-
  Roots of unity: points, what vanishes, Lagrange's polynomials. No conditions.
-/
import Derived.Test.YtmjhaopkhceegaaZDoc
import Derived.Test.YtmjhaopkhceegaaZDed
namespace Go.Sx
open Go.Proofs Go.Num
set_option maxRecDepth 100000
set_option linter.unusedSimpArgs false
section
variable {m : Nat} [NeZero m]
/-- An order that is a power of two divides. -/
theorem ord_dvd : ∀ (k : Nat) {w : Fin m} {d : Nat}, (∀ i, i < k → w ^ 2 ^ i ≠ 1) → w ^ 2 ^ k = 1 → w ^ d = 1 → 2 ^ k ∣ d
  | 0, _, d, _, _, _ => by simp
  | k + 1, w, d, h1, h2, h3 => by
    have e : ∀ j, (w * w) ^ j = w ^ (2 * j) := fun j => by
      rw [f_pow_mul w 2 j]; congr 1; grind
    have hd : 2 ^ k ∣ d := by
      refine ord_dvd k (w := w * w) (d := d) (fun i hi => ?_) ?_ ?_
      · rw [e, show 2 * 2 ^ i = 2 ^ (i + 1) by rw [Nat.pow_succ]; omega]; exact h1 (i + 1) (by omega)
      · rw [e, show 2 * 2 ^ k = 2 ^ (k + 1) by rw [Nat.pow_succ]; omega]; exact h2
      · rw [e, Nat.mul_comm, f_pow_mul, h3, f_one_pow]
    rcases Nat.mod_two_eq_zero_or_one d with hd2 | hd2
    · obtain ⟨c, rfl⟩ : ∃ c, d = 2 * c := ⟨d / 2, by omega⟩
      have : 2 ^ k ∣ c := by
        refine ord_dvd k (w := w * w) (d := c) (fun i hi => ?_) ?_ ?_
        · rw [e, show 2 * 2 ^ i = 2 ^ (i + 1) by rw [Nat.pow_succ]; omega]; exact h1 (i + 1) (by omega)
        · rw [e, show 2 * 2 ^ k = 2 ^ (k + 1) by rw [Nat.pow_succ]; omega]; exact h2
        · rw [e]; exact h3
      rw [Nat.pow_succ, Nat.mul_comm]
      exact Nat.mul_dvd_mul_left 2 this
    · exfalso
      cases k with
      | succ k =>
        have : 2 ∣ d := Nat.dvd_trans ⟨2 ^ k, by rw [Nat.pow_succ]; omega⟩ hd
        omega
      | zero =>
        obtain ⟨c, rfl⟩ : ∃ c, d = 2 * c + 1 := ⟨d / 2, by omega⟩
        have h4 : w ^ (2 * c) = 1 := by
          rw [f_pow_mul]
          have : w ^ 2 = 1 := h2
          rw [this, f_one_pow]
        rw [f_pow_add, h4] at h3
        refine h1 0 (by omega) ?_
        rw [← h3]
        grind
end
theorem κ_pw {s : Int} {x : Nat} : ∀ i, κ (md s) (pw s 1 x i) = κ (md s) x ^ i
  | 0 => by rw [f_pow_zero]; exact κ_one
  | i + 1 => by
    show κ (md s) (pw s 1 x i * x % md s) = _
    rw [κ_mod, κ_mul, κ_pw i, f_pow_succ]
theorem ptk {s k : Int} (i : Nat) : κ (md s) (pt s k i) = κ (md s) (rk s k) ^ i := κ_pw i
section
variable {s k : Int}
theorem sS9 (h : kn s = true) : 8 ≤ sS s := by
  rcases sort_cases s with rfl | rfl | rfl | rfl | ⟨h0, h1, h2, h3⟩
  · decide
  · decide
  · decide
  · decide
  · exfalso; simp [kn, h0, h1, h2, h3] at h
theorem rk_facts (h : ptO s k = true) : (∀ i, i < k.toNat → κ (md s) (rk s k) ^ 2 ^ i ≠ 1) ∧ κ (md s) (rk s k) ^ 2 ^ k.toNat = 1 := by
  obtain ⟨h1, h2, h3⟩ := ptO_iff.1 h
  have P := pr_of h1
  have h9 := sS9 h1
  have ha := adc9 h1
  have hr : rk s k = 5 ^ ((md s - 1) / 2 ^ k.toNat) % md s := by
    unfold rk
    have hr : rkO s k := ⟨h2, by omega⟩
    rw [if_pos ⟨h1, hr⟩]
  obtain ⟨g1, g2⟩ := rk_ord h1 (j := k.toNat) (by omega) hr
  constructor
  · intro i hi
    rw [← κ_pow, Ne, κ_eq1 P.1]
    exact g1 i hi
  · rw [← κ_pow, κ_eq1 P.1]
    exact g2
theorem rk_ne (h : ptO s k = true) : κ (md s) (rk s k) ≠ 0 := by
  have P := pr_of (ptO_iff.1 h).1
  obtain ⟨_, h2⟩ := rk_facts h
  intro h0
  rw [h0] at h2
  have hp : 0 < 2 ^ k.toNat := Nat.two_pow_pos _
  obtain ⟨c, hc⟩ : ∃ c, 2 ^ k.toNat = c + 1 := ⟨2 ^ k.toNat - 1, by omega⟩
  rw [hc, f_pow_succ] at h2
  exact f_one_ne P (by rw [← h2]; grind)
/-- The points are no two the same. -/
theorem pt_inj (h : ptO s k = true) {i j : Nat} (hi : i < 2 ^ k.toNat) (hj : j < 2 ^ k.toNat) (e : κ (md s) (pt s k i) = κ (md s) (pt s k j)) : i = j := by
  have P := pr_of (ptO_iff.1 h).1
  obtain ⟨h1, h2⟩ := rk_facts h
  have key : ∀ i j, i ≤ j → j < 2 ^ k.toNat → κ (md s) (rk s k) ^ i = κ (md s) (rk s k) ^ j → i = j := by
    intro i j hij hj e
    obtain ⟨d, rfl⟩ : ∃ d, j = i + d := ⟨j - i, by omega⟩
    rw [f_pow_add] at e
    have hne := f_pow_ne P (rk_ne h) i
    have h3 : κ (md s) (rk s k) ^ i * (κ (md s) (rk s k) ^ d - 1) = 0 := by grind
    have h4 : κ (md s) (rk s k) ^ d = 1 := by
      have := (f_nzd P h3).resolve_left hne
      grind
    have h5 := ord_dvd _ h1 h2 h4
    rcases Nat.eq_zero_or_pos d with h6 | h6
    · omega
    · have := Nat.le_of_dvd h6 h5
      omega
  rw [ptk, ptk] at e
  rcases Nat.le_total i j with hij | hij
  · exact key i j hij hj e
  · exact (key j i hij hi e.symm).symm
end
end Go.Sx
