/-
  LookupOrders. No conditions.
-/
import Derived.Test.YtmjhaopkhceegaaZLkv
import Derived.Test.YtmjhaopkhceegaaZLkw
namespace Go.Sx
open Go.Proofs Go.Num
-- SY
-- TY: TYX, UX, guard_un
set_option maxRecDepth 100000
set_option linter.unusedSimpArgs false
set_option pp.deepTerms true
set_option pp.maxSteps 100000
/-! ### the order -/
theorem pm_ok {s : Int} {x y : List Nat} (h : (pm s x y).2.2 = 0) : ∃ L, x.length = y.length ∧ lft none (asc (rsd s x)) (asc (rsd s y)) = some L ∧ pm s x y = (asc (rsd s x), mtc none (asc (rsd s x)) L, 0) ∧ x.length ≤ 64 := by
  unfold pm at h ⊢
  split at h
  · split at h
    · rename_i h1 h2
      cases hf : lft none (asc (rsd s x)) (asc (rsd s y)) with
      | none => rw [hf] at h; cases h
      | some L => exact ⟨L, h2.1, rfl, by rw [if_pos h1, if_pos h2], h2.2⟩
    · cases h
  · cases h
theorem rsd_len {s : Int} {l : List Nat} : (rsd s l).length = l.length := List.length_map _
theorem pm_perm {s : Int} {x y L : List Nat} (hxy : x.length = y.length) (h : lft none (asc (rsd s x)) (asc (rsd s y)) = some L) : (mtc none (asc (rsd s x)) L).Perm (rsd s y) := by
  have h1 := lft_perm h
  have h2 := h1.length_eq
  rw [List.length_append, asc_len, rsd_len] at h2
  have h3 := mtc_perm (a := asc (rsd s x)) (p := none) (l := L) (by rw [asc_len, rsd_len]; omega)
  exact h3.trans (h1.symm.trans (asc_perm _))
end Go.Sx
