/-
  Products, of poly and of the reference. No conditions.
-/
import Derived.Test.YtgeliidjmefkgaaZPolyA
namespace Go.Sx
open Go.Proofs Go.Num
-- SY
-- TY: TYX, UX
set_option maxRecDepth 100000
set_option linter.unusedSimpArgs false
set_option pp.deepTerms true
set_option pp.maxSteps 100000
/-! ### what is trimmed already -/
/-- A polynomial over m. -/
structure Nrm (m : Nat) (l : List Nat) : Prop where
  lt : ∀ x ∈ l, x < m
  last : l = [] ∨ l.getD (l.length - 1) 0 ≠ 0
theorem Nrm.tp {m : Nat} {l : List Nat} (h : Nrm m l) : tp m l = l := tp_norm h.lt h.last
theorem Nrm.w {s : Int} {l : List Nat} (h : Nrm (md s) l) : ∀ x ∈ l, x < W256 := fun x hx => md_w2 (h.lt x hx)
end Go.Sx
