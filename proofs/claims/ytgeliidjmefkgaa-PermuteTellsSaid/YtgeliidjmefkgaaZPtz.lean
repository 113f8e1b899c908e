/-
  The selectors at the points. No conditions.
-/
import Derived.Test.YtgeliidjmefkgaaZPermA
import Derived.Test.YtgeliidjmefkgaaZDop
namespace Go.Sx
open Go.Proofs Go.Num
section
variable {s : Int} {n : Nat}
theorem us_pt (h : ptO s n = true) {r : Nat} (hr : r < 2 ^ n) : ∀ u, u ≤ 2 ^ n → usN s n (pt s n r) u = if r < u then 1 else 0
  | 0, _ => rfl
  | u + 1, hu => by
    have P := pr_of (ptO_iff.1 h).1
    show (usN s n (pt s n r) u + lgU s n (u : Nat) (pt s n r)) % md s = _
    rw [us_pt h hr u (by omega), lg_pt h (i := u) (j := r) (by omega) hr]
    have h1 : 1 % md s = 1 := Nat.mod_eq_of_lt P.1
    by_cases h2 : r < u
    · rw [if_pos h2, if_neg (by omega), if_pos (by omega)]; exact h1
    · by_cases h3 : u = r
      · rw [if_neg h2, if_pos h3, if_pos (by omega)]; exact h1
      · rw [if_neg h2, if_neg h3, if_neg (by omega)]; exact Nat.zero_mod _
/-- The selectors at a point. -/
theorem pl_pt (h : ptO s n = true) (h3 : 3 ≤ n) (h5 : n ≤ 5) {r : Nat} (hr : r < 2 ^ n) : plS s n (pt s n r) = SN (pt s n r) (if r = 0 then 1 else 0) (if r = 2 ^ n - 4 then 1 else 0) (if r < 2 ^ n - 4 then 1 else 0) := by
  have hk := (ptO_iff.1 h).1
  have e0 : plE s n = 0 := plE_0.2 ⟨hk, by omega, by omega⟩
  unfold plS
  have h8 : 4 ≤ 2 ^ n := by
    have : 2 ^ 3 ≤ 2 ^ n := Nat.pow_le_pow_right (by decide) (by omega)
    omega
  have l0 := lg_pt h (i := 0) (j := r) (by omega) hr
  rw [if_pos e0, Int.toNat_natCast, us_pt h hr _ (by omega), lg_pt h (i := 2 ^ n - 4) (j := r) (by omega) hr]
  rw [show ((0 : Nat) : Int) = 0 from rfl] at l0
  rw [l0]
  have e1 : pt s n r % md s = pt s n r := by
    unfold pt
    cases r with
    | zero => exact Nat.mod_eq_of_lt (pr_of hk).1
    | succ r => exact Nat.mod_mod _ _
  rw [e1]
  simp only [eq_comm]
end
theorem md0 {s : Int} {a : Nat} (h : κ (md s) a = 0) : a % md s = 0 := κ_eq0.1 h
end Go.Sx
