/-
  Walks of the reference: half, halves, Sqrt; Root of both. No conditions.
-/
import Derived.Test.YtmjhaopkhceegaaZSqw
namespace Go.Sx
open Go.Proofs Go.Num
-- SY
-- TY: TYX, cellsNV, foldNV
set_option maxRecDepth 100000
set_option linter.unusedSimpArgs false
set_option pp.deepTerms true
set_option pp.maxSteps 100000
/-- What the reference's search keeps. -/
structure Vns (s : Int) (a : Nat) (g : Nat × Nat × Nat × Nat) : Prop where
  hi : g.1 ≤ sS s
  x : g.2.1 < md s
  b : g.2.2.1 < md s
  z : g.2.2.2 < md s
  sq : κ (md s) g.2.1 * κ (md s) g.2.1 = κ (md s) a * κ (md s) g.2.2.1
  zo : κ (md s) g.2.2.2 ^ (2 ^ g.1) = -1
  bo : κ (md s) g.2.2.1 ^ (2 ^ g.1) = 1
theorem Vns.start {s : Int} {a : Nat} (G : SqF (md s) (sS s) (qS s) (κ (md s) 5)) (h : κ (md s) a ≠ 0) (hq : SqP s a) : Vns s a (sS s, a ^ ((qS s + 1) / 2) % md s, a ^ qS s % md s, 5 ^ qS s % md s) := by
  refine ⟨Nat.le_refl _, md_mod _ _, md_mod _ _, md_mod _ _, ?_, ?_, ?_⟩ <;> (try dsimp only)
  · rw [κ_mod, κ_mod, κ_pow, κ_pow]; exact G.start _
  · rw [κ_mod, κ_pow]; exact G.z
  · rw [κ_mod, κ_pow]; exact (G.euler h).1 hq
end Go.Sx
