/-
  The references' helpers over lists of elements: CopyElems, SpareElems, SameElems; the reference's Inv. No conditions.
-/
import Derived.Test.YtgeliidjmefkgaaZFieldD
namespace Go.Sx
open Go.Proofs
-- SY
-- TY: TYX
set_option maxRecDepth 100000
set_option linter.unusedSimpArgs false
set_option pp.deepTerms true
set_option pp.maxSteps 100000
theorem getD_lt {l : List Nat} {B : Nat} (h : ∀ x ∈ l, x < B) {i : Nat} (hi : i < l.length) : l.getD i 0 < B := by
  have : l.getD i 0 = l[i] := by simp [List.getD, hi]
  rw [this]
  exact h _ (List.getElem_mem hi)
theorem c_CopyElems (l : List Nat) (h : l.length * 32 ≤ 140737488355328) : Contract Try.prog 22 [.sl l.length 4 (LC eC l)] [.row 25 4 l.length (LC eC l)] := by
  refine contract_of (N := _) (vars := _) (c := bodyOf Try.f22) Try.func22 (body_eq rfl) rfl rfl (by rfl) mixed _ _ trivial 1000 ?_
  simp only [bodyOf, Try.f22, Option.getD_some, argA, argE, List.length_cons, List.length_nil, Nat.reduceAdd, Nat.reduceSub, List.replicate, List.cons_append, List.nil_append]
  simp only [↓PX, SX, SYX, EY, simprocAttr, TYX]
  exact ⟨⟨h, by omega⟩, by simp⟩
end Go.Sx
