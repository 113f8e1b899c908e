/-
  Invert, of the field and of the reference. No conditions.
-/
import Derived.Test.YtgeliidjmefkgaaZHel
import Derived.Test.YtgeliidjmefkgaaZFieldD
namespace Go.Sx
open Go.Proofs Go.Num
-- SY
-- TY: TYX, cellsNV, foldNV
set_option maxRecDepth 100000
set_option linter.unusedSimpArgs false
set_option pp.deepTerms true
set_option pp.maxSteps 100000
instance mdNe (s : Int) : NeZero (md s) := ⟨by have := md_pos s; omega⟩
/-! ### lists by their places -/
def tab (n : Nat) (f : Nat → Nat) : List Nat := (List.range n).map f
theorem tab_len {n : Nat} {f : Nat → Nat} : (tab n f).length = n := by simp [tab]
theorem tab_at {n : Nat} {f : Nat → Nat} {j : Nat} (h : j < n) : (tab n f).getD j 0 = f j := by simp [tab, List.getD, h]
theorem tab_set {n : Nat} {f : Nat → Nat} {i v : Nat} : (tab n f).set i v = tab n (fun j => if j = i then v else f j) := by
  apply List.ext_getElem
  · simp [tab]
  · intro j h1 h2
    simp only [tab, List.length_map, List.length_range, List.length_set] at h1
    simp only [tab, List.getElem_set, List.getElem_map, List.getElem_range]
    by_cases h : i = j
    · simp [h]
    · have : ¬ j = i := fun e => h e.symm
      simp [h, this]
theorem tab_congr {n : Nat} {f g : Nat → Nat} (h : ∀ j, j < n → f j = g j) : tab n f = tab n g := by
  unfold tab
  apply List.map_congr_left
  intro j hj
  exact h j (by simpa using hj)
theorem tab_rep {n z : Nat} : List.replicate n z = tab n (fun _ => z) := by
  unfold tab
  apply List.ext_getElem <;> simp
/-! ### inverses -/
theorem κ_inv {s : Int} {a : Nat} : κ (md s) (inv s a) = ι (κ (md s) a) := by unfold inv ι; rw [κ_mod, κ_pow]
end Go.Sx
