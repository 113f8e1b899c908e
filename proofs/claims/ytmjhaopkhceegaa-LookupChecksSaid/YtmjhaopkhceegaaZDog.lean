/-
  Both Lagranges are one. No conditions.
-/
import Derived.Test.YtmjhaopkhceegaaZDoe
namespace Go.Sx
open Go.Proofs Go.Num
set_option maxRecDepth 100000
set_option linter.unusedSimpArgs false
section
variable {s k : Int}
theorem two_ne (h : kn s = true) : κ (md s) 2 ≠ 0 := by
  cases srt s with
  | no hk => rw [h] at hk; cases hk
  | yes _ _ _ _ _ _ _ _ h2 => rw [Ne, κ_eq0, Nat.mod_eq_of_lt h2]; decide
theorem n_ne (h : ptO s k = true) : κ (md s) (2 ^ k.toNat) ≠ 0 := by
  have hk := (ptO_iff.1 h).1
  rw [κ_pow]
  exact f_pow_ne (pr_of hk) (two_ne hk) _
end
end Go.Sx
