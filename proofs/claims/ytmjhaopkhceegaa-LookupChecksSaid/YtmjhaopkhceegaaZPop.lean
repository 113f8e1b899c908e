/-
  Products, of poly and of the reference. No conditions.
-/
import Derived.Test.YtmjhaopkhceegaaZPolyA
namespace Go.Sx
open Go.Proofs Go.Num
-- SY
-- TY: TYX, UX
set_option maxRecDepth 100000
set_option linter.unusedSimpArgs false
set_option pp.deepTerms true
set_option pp.maxSteps 100000
/-- A product's coefficient, of the first n of a. -/
def cS (a b : List Nat) : Nat → Nat → Nat
  | 0, _ => 0
  | n + 1, k => cS a b n k + (if n ≤ k then a.getD n 0 * b.getD (k - n) 0 else 0)
/-- What the loops have made when i rows and j columns are through. -/
def cv (m : Nat) (a b : List Nat) (i j k : Nat) : Nat := (cS a b i k + (if i ≤ k ∧ k < i + j then a.getD i 0 * b.getD (k - i) 0 else 0)) % m
/-! ### what is trimmed already -/
/-- A polynomial over m. -/
structure Nrm (m : Nat) (l : List Nat) : Prop where
  lt : ∀ x ∈ l, x < m
  last : l = [] ∨ l.getD (l.length - 1) 0 ≠ 0
theorem Nrm.w {s : Int} {l : List Nat} (h : Nrm (md s) l) : ∀ x ∈ l, x < W256 := fun x hx => md_w2 (h.lt x hx)
end Go.Sx
