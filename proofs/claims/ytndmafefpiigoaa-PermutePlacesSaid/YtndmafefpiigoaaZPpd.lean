/-
  Zeros of poly and of the reference. No conditions.
-/
import Derived.Test.YtndmafefpiigoaaZPpc
namespace Go.Sx
open Go.Proofs Go.Num
-- SY
-- TY: TYX, UX
set_option maxRecDepth 100000
set_option linter.unusedSimpArgs false
set_option pp.deepTerms true
set_option pp.maxSteps 100000
/-- The factor that is nothing at x. -/
def fac (s : Int) (x : Nat) : List Nat := [(md s - x % md s) % md s, 1]
theorem fac_len {s : Int} {x : Nat} : (fac s x).length = 2 := rfl
theorem fac_nrm {s : Int} (P : PR (md s)) (x : Nat) : Nrm (md s) (fac s x) := by
  refine ⟨fun y hy => ?_, .inr (by simp [fac])⟩
  simp only [fac, List.mem_cons, List.not_mem_nil, or_false] at hy
  rcases hy with rfl | rfl
  · exact Nat.mod_lt _ (md_pos s)
  · exact P.1
end Go.Sx
