/-
  Roots by the sort: what Sqrt answers. No conditions.
-/
import Derived.Test.YtmjhaopkhceegaaZInv
import Derived.Test.YtmjhaopkhceegaaZSqr
namespace Go.Sx
open Go.Proofs Go.Num
def sS (s : Int) : Nat := if s = 0 then 8 else if s = 1 then 10 else 31
def qS (s : Int) : Nat := (md s - 1) / 2 ^ (sS s + 1)
theorem sqf_of {m S q : Nat} [NeZero m] (P : PR m) (odd : m % 2 = 1) (fac : m - 1 = 2 ^ (S + 1) * q) (qodd : q % 2 = 1) (ord : ∀ n, 0 < n → n < m - 1 → 5 ^ n % m ≠ 1) (h5 : 5 % m ≠ 0) : SqF m S q (κ m 5) := by
  refine ⟨P, odd, fac, qodd, ?_⟩
  have h0 : κ m 5 ≠ 0 := by rw [ne_eq, κ_eq0]; exact h5
  have h1 : κ m 5 ^ (2 ^ S * q) * κ m 5 ^ (2 ^ S * q) = 1 := by
    rw [← f_pow_add, ← Nat.two_mul, ← Nat.mul_assoc, Nat.mul_comm 2, ← Nat.pow_succ, ← fac]
    exact f_fermat P h0
  rcases f_sq1 P h1 with h2 | h2
  · rw [← κ_pow, κ_eq1 P.1] at h2
    have hq : 0 < q := by omega
    have hp : 0 < 2 ^ S := Nat.pos_of_ne_zero (by simp)
    refine absurd h2 (ord _ (Nat.mul_pos hp hq) ?_)
    rw [fac, Nat.pow_succ, Nat.mul_comm (2 ^ S) 2, Nat.mul_assoc]
    have := Nat.mul_pos hp hq
    omega
  · exact h2
theorem sqf (s : Int) (hk : kn s = true) : SqF (md s) (sS s) (qS s) (κ (md s) 5) := by
  rcases kn_or s hk with rfl | rfl | rfl | rfl
  · exact sqf_of fermat0 (by decide) (by decide) (by decide) fermat0_ord (by decide)
  · exact sqf_of fermat1 (by decide) (by decide) (by decide) fermat1_ord (by decide)
  · exact sqf_of fermat2 (by decide) (by decide) (by decide) fermat2_ord (by decide)
  · exact sqf_of fermat3 (by decide) (by decide) (by decide) fermat3_ord (by decide)
/-- a is a square. -/
def SqP (s : Int) (a : Nat) : Prop := ∃ r : Fin (md s), r * r = κ (md s) a
end Go.Sx
