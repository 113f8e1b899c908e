/-
  DomainRound. No conditions.
-/
import Derived.Test.YtndmafefpiigoaaZDop
namespace Go.Sx
open Go.Proofs Go.Num
-- SY
-- TY: TYX, UX
set_option maxRecDepth 100000
set_option linter.unusedSimpArgs false
set_option pp.deepTerms true
set_option pp.maxSteps 100000
theorem vaE_0 {s k : Int} {sh : Nat} {l : List Nat} : vaE s k sh l = 0 ↔ ptO s k = true ∧ sh % md s ≠ 0 ∧ l.length ≤ 2 ^ k.toNat := by
  unfold vaE
  cases h : ptO s k with
  | false =>
    have e3 : eK s k ≠ 0 := fun e => by rw [eK_0.1 e] at h; cases h
    simp [e3]
  | true =>
    by_cases hz : sh % md s = 0
    · simp [hz]
    · by_cases hl : l.length ≤ 2 ^ k.toNat
      · simp [hz, hl]
      · simp [hz, hl]
end Go.Sx
