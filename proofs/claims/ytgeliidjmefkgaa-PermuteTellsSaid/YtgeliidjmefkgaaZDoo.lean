/-
  DomainValues. No conditions.
-/
import Derived.Test.YtgeliidjmefkgaaZDomA
import Derived.Test.YtgeliidjmefkgaaZPpg
namespace Go.Sx
open Go.Proofs Go.Num
-- SY
-- TY: TYX, UX
set_option maxRecDepth 100000
set_option linter.unusedSimpArgs false
set_option pp.deepTerms true
set_option pp.maxSteps 100000
theorem tab_w {n : Nat} {f : Nat → Nat} (h : ∀ i, f i < W256) : ∀ x ∈ tab n f, x < W256 := by
  intro x hx
  simp only [tab, List.mem_map, List.mem_range] at hx
  obtain ⟨i, _, rfl⟩ := hx
  exact h i
end Go.Sx
