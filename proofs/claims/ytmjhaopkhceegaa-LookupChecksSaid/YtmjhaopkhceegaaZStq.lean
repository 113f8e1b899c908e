/-
  Structs of elements compared. No conditions.
-/
import Derived.Test.YtmjhaopkhceegaaZFieldA
import Derived.Laws.StructEq
namespace Go.Sx
open Go.Proofs
def fldsB : List Field → Nat → Bool
  | [], _ => true
  | f :: fs, i => f.type == 24 && f.offset == i * 4 && f.name != "_" && fldsB fs (i + 1)
theorem fldsB_E : ∀ {fs : List Field} {i : Nat}, fldsB fs i = true → ∀ j f, fs[j]? = some f → f.type = 24 ∧ f.offset = (i + j) * 4 ∧ f.name ≠ "_"
  | [], _, _, j, f, h => by simp at h
  | g :: fs, i, h, j, f, hf => by
    simp only [fldsB, Bool.and_eq_true, beq_iff_eq, bne_iff_ne] at h
    cases j with
    | zero =>
      simp at hf
      subst hf
      exact ⟨h.1.1.1, by rw [h.1.1.2]; rfl, h.1.2⟩
    | succ j =>
      have := fldsB_E h.2 j f (by simpa using hf)
      refine ⟨this.1, ?_, this.2.2⟩
      rw [this.2.1]; congr 1; omega
theorem b_agg {P : Program} {T : Nat → AV} {bop : BinOp} {x y : Operand} {ty ty' : TypeId} {xs ys : Array Value} : binOn P T bop ty x y ty' (.o (.v (.agg xs))) (.o (.v (.agg ys))) = .ex (pureOp P T (.binOp bop ty x y ty')) := rfl
end Go.Sx
