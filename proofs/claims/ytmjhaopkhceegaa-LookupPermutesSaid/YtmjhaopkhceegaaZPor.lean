/-
  What the laws of layer 7 begin with; PolySums, PolyProducts' first half. No conditions.
-/
import Derived.Test.YtmjhaopkhceegaaZPop
namespace Go.Sx
open Go.Proofs Go.Num
-- SY
-- TY: TYX, UX
set_option maxRecDepth 100000
set_option linter.unusedSimpArgs false
set_option pp.deepTerms true
set_option pp.maxSteps 100000
theorem spareW {l : List Nat} (hl : ∀ x ∈ l, x < W256) : ∀ x ∈ l ++ [901, 902, 903, 904], x < W256 := by
  intro x hx
  rcases List.mem_append.1 hx with h | h
  · exact hl x h
  · have : x < 905 := by simp at h; omega
    unfold W256; omega
end Go.Sx
