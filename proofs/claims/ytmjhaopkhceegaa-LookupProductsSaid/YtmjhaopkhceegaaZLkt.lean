/-
  Permute of the reference. No conditions.
-/
import Derived.Test.YtmjhaopkhceegaaZLkP
namespace Go.Sx
open Go.Proofs Go.Num
-- SY
-- TY: TYX, UX, guard_un, IOX
set_option maxRecDepth 100000
set_option linter.unusedSimpArgs false
set_option pp.deepTerms true
set_option pp.maxSteps 100000
/-- What the first loop keeps. -/
structure VmI (n : Nat) (a b : List Nat) (p : Nat × List Nat) : Prop where
  i : p.1 ≤ n
  l : lft (ahd a p.1) (a.drop p.1) p.2 = lft none a b
  w : ∀ z ∈ p.2, z < W256
  n : p.2.length ≤ b.length
/-- What the second loop keeps. -/
structure VbI (n : Nat) (a L : List Nat) (p : Nat × Nat × List Nat) : Prop where
  i : p.1 ≤ n
  l : p.2.2 ++ mtc (ahd a p.1) (a.drop p.1) (L.drop p.2.1) = mtc none a L
  r : p.2.1 + (rps (ahd a p.1) (a.drop p.1) p.1).length = L.length
  n : p.2.2.length = p.1
theorem mtc_cons {p : Option Nat} {v : Nat} {a l : List Nat} : mtc p (v :: a) l = if p = some v then l.headD 0 :: mtc (some v) a l.tail else v :: mtc (some v) a l := rfl
theorem rps_cons' {p : Option Nat} {v k : Nat} {a : List Nat} : rps p (v :: a) k = if p = some v then k :: rps (some v) a (k + 1) else rps (some v) a (k + 1) := rfl
theorem VbI.rep {n i t : Nat} {a L out : List Nat} (h : VbI n a L (i, t, out)) (hi : i < n) (hn : a.length = n) (hrep : ahd a i = some (a.getD i 0)) : t < L.length ∧ VbI n a L (i + 1, t + 1, out ++ [L.getD t 0]) := by
  have hl := h.l
  have hr := h.r
  have hz := h.n
  simp only at hl hr hz
  rw [drop_at (by omega)] at hl hr
  rw [mtc_cons, if_pos hrep] at hl
  rw [rps_cons', if_pos hrep, List.length_cons] at hr
  have ht : t < L.length := by omega
  refine ⟨ht, hi, ?_, ?_, ?_⟩
  · show (out ++ [L.getD t 0]) ++ mtc (ahd a (i + 1)) _ (L.drop (t + 1)) = _
    rw [ahd_succ, List.append_assoc]
    rw [drop_at ht, List.headD_cons, List.tail_cons] at hl
    exact hl
  · show t + 1 + (rps (ahd a (i + 1)) (a.drop (i + 1)) (i + 1)).length = L.length
    rw [ahd_succ]; omega
  · show (out ++ [_]).length = i + 1
    rw [List.length_append, hz]; rfl
theorem VbI.new {n i t : Nat} {a L out : List Nat} (h : VbI n a L (i, t, out)) (hi : i < n) (hn : a.length = n) (hrep : ¬ ahd a i = some (a.getD i 0)) : VbI n a L (i + 1, t, out ++ [a.getD i 0]) := by
  have hl := h.l
  have hr := h.r
  have hz := h.n
  simp only at hl hr hz
  rw [drop_at (by omega)] at hl hr
  rw [mtc_cons, if_neg hrep] at hl
  rw [rps_cons', if_neg hrep] at hr
  refine ⟨hi, ?_, ?_, ?_⟩
  · show (out ++ [a.getD i 0]) ++ mtc (ahd a (i + 1)) _ (L.drop t) = _
    rw [ahd_succ, List.append_assoc]
    exact hl
  · show t + (rps (ahd a (i + 1)) (a.drop (i + 1)) (i + 1)).length = L.length
    rw [ahd_succ]; omega
  · show (out ++ [_]).length = i + 1
    rw [List.length_append, hz]; rfl
end Go.Sx
