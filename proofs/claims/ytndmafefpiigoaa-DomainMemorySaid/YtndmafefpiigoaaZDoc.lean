/-
  Lagrange of domain and of the reference. No conditions.
-/
import Derived.Test.YtndmafefpiigoaaZDob
namespace Go.Sx
open Go.Proofs Go.Num
-- SY
-- TY: TYX, UX
set_option maxRecDepth 100000
set_option linter.unusedSimpArgs false
set_option pp.deepTerms true
set_option pp.maxSteps 100000
/-- A point. -/
def pt (s k : Int) (i : Nat) : Nat := pw s 1 (rk s k) i
theorem pt_w (s k : Int) (i : Nat) : pt s k i < W256 := pw_w (by decide) i
theorem ptL_at {s k : Int} (h : ptO s k = true) {i : Nat} (hi : i < 2 ^ k.toNat) : (ptL s k).getD i 0 = pt s k i := by
  unfold ptL; rw [if_pos h, tab_at hi]; rfl
end Go.Sx
