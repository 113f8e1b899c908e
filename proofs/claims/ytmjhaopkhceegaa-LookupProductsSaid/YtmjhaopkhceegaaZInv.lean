/-
  Invert, of the field and of the reference. No conditions.
-/
import Derived.Test.YtmjhaopkhceegaaZHel
import Derived.Test.YtmjhaopkhceegaaZFieldD
namespace Go.Sx
open Go.Proofs Go.Num
-- SY
-- TY: TYX, cellsNV, foldNV
set_option maxRecDepth 100000
set_option linter.unusedSimpArgs false
set_option pp.deepTerms true
set_option pp.maxSteps 100000
instance mdNe (s : Int) : NeZero (md s) := ⟨by have := md_pos s; omega⟩
/-! ### lists by their places -/
def tab (n : Nat) (f : Nat → Nat) : List Nat := (List.range n).map f
theorem tab_len {n : Nat} {f : Nat → Nat} : (tab n f).length = n := by simp [tab]
theorem tab_at {n : Nat} {f : Nat → Nat} {j : Nat} (h : j < n) : (tab n f).getD j 0 = f j := by simp [tab, List.getD, h]
/-! ### inverses -/
theorem κ_inv {s : Int} {a : Nat} : κ (md s) (inv s a) = ι (κ (md s) a) := by unfold inv ι; rw [κ_mod, κ_pow]
end Go.Sx
