/-
  slices.Backward over elements: its closure's contract, for every loop body. The machine: a range over slices.Backward of elements. Lists of numbers as polynomials: the noughts at the end struck out. Trim, of poly and of the reference. Clone; Add and Scale of poly; Trim, Add and Scale of the reference. Eval, of poly and of the reference. No conditions.
-/
import Derived.RangeFuncNested
import Derived.RangeFuncBound
import Derived.RangeFuncCalls
import Derived.RangeFuncLeaves
import Derived.Shelf.Abstract
import Derived.Shelf.RegionOpen
import Derived.WalkKit
import Derived.OwnWalkIn
import Derived.TacticsInMore
import Derived.LoopNIn
import Derived.LoopIn
import Derived.Test.YtgeliidjmefkgaaZFieldA
import Derived.Test.YtgeliidjmefkgaaZMachC
import Derived.Test.YtgeliidjmefkgaaZInv
namespace Go.Sx
open Go.Proofs Go.RowKit Go.Shelf
attribute [local go_sem] Oper.semAt_some
set_option maxRecDepth 100000
end Go.Sx
namespace Go.Sx
open Go.Proofs
set_option maxRecDepth 100000
end Go.Sx
namespace Go.Sx
/-- How many coefficients a polynomial has. -/
def dg : List Nat → Nat
  | [] => 0
  | x :: l => if dg l = 0 ∧ x = 0 then 0 else dg l + 1
theorem dg_zero : ∀ {l : List Nat} {i : Nat}, dg l ≤ i → l.getD i 0 = 0
  | [], i, _ => by simp
  | x :: l, 0, h => by
    simp only [dg] at h
    split at h
    · rename_i h0; simp [h0.2]
    · omega
  | x :: l, i + 1, h => by
    have : dg l ≤ i := by
      simp only [dg] at h
      split at h
      · rename_i h0; omega
      · omega
    simpa using dg_zero this
theorem dg_last : ∀ {l : List Nat}, 0 < dg l → l.getD (dg l - 1) 0 ≠ 0
  | [], h => by simp [dg] at h
  | x :: l, h => by
    simp only [dg] at h ⊢
    split at h
    · omega
    · rename_i hn
      rw [if_neg hn]
      by_cases h0 : dg l = 0
      · simp [h0] at hn ⊢
        exact hn
      · have := dg_last (l := l) (by omega)
        have e : dg l + 1 - 1 = (dg l - 1) + 1 := by omega
        rw [e]
        simpa using this
theorem dg_uniq {l : List Nat} {n : Nat} (hn : n = 0 ∨ l.getD (n - 1) 0 ≠ 0) (h : ∀ i, n ≤ i → l.getD i 0 = 0) : dg l = n := by
  rcases Nat.lt_trichotomy (dg l) n with h1 | h1 | h1
  · rcases hn with h2 | h2
    · omega
    · exact absurd (dg_zero (by omega)) h2
  · exact h1
  · have := dg_last (l := l) (by omega)
    exact absurd (h _ (by omega)) this
def trm (l : List Nat) : List Nat := l.take (dg l)
/-- A polynomial over a modulus. -/
def tp (m : Nat) (l : List Nat) : List Nat := trm (l.map (· % m))
/-- A list that is a polynomial already. -/
theorem tp_norm {m : Nat} {l : List Nat} (hl : ∀ x ∈ l, x < m) (h : l = [] ∨ l.getD (l.length - 1) 0 ≠ 0) : tp m l = l := by
  have hmap : l.map (· % m) = l := by
    conv => rhs; rw [← List.map_id l]
    exact List.map_congr_left fun x hx => Nat.mod_eq_of_lt (hl x hx)
  unfold tp
  rw [hmap]
  unfold trm
  have : dg l = l.length := by
    refine dg_uniq ?_ (fun i hi => by simp [List.getD, hi])
    rcases h with rfl | h
    · exact .inl rfl
    · exact .inr h
  rw [this, List.take_length]
theorem getD_out {l : List Nat} {i : Nat} (h : l.length ≤ i) : l.getD i 0 = 0 := by simp [List.getD, List.getElem?_eq_none h]
theorem tab_snoc {n : Nat} {f : Nat → Nat} : tab n f ++ [f n] = tab (n + 1) f := by simp [tab, List.range_succ]
theorem tab_0 {f : Nat → Nat} : tab 0 f = [] := rfl
end Go.Sx
namespace Go.Sx
open Go.Proofs
-- SY
-- TY: TYX, UX
set_option maxRecDepth 100000
set_option linter.unusedSimpArgs false
set_option pp.deepTerms true
set_option pp.maxSteps 100000
end Go.Sx
namespace Go.Sx
open Go.Proofs
-- SY
-- TY: TYX, UX
set_option maxRecDepth 100000
set_option linter.unusedSimpArgs false
set_option pp.deepTerms true
set_option pp.maxSteps 100000
theorem u_Clone (l : List Nat) (hb : l.length * 32 ≤ 140737488355328) : Contract Try.prog 70 [.sl l.length 4 (LC eC l)] [.row 25 4 l.length (LC eC l)] := by
  refine contract_of (N := _) (vars := _) (c := bodyOf Try.f70) Try.func70 (body_eq rfl) rfl rfl (by rfl) mixed _ _ trivial 1000 ?_
  simp only [bodyOf, Try.f70, Option.getD_some, argA, argE, List.length_cons, List.length_nil, Nat.reduceAdd, Nat.reduceSub, List.replicate, List.cons_append, List.nil_append]
  simp only [↓PX, SX, SYX, EY, simprocAttr, TYX, UX]
  refine NdVC.intro rfl (fun b h0 => ?_)
  cases b
  · simp only [↓PX, SX, SYX, EY, simprocAttr, TYX, UX]
    exact ⟨hb, by omega⟩
  · simp only [↓PX, SX, SYX, EY, simprocAttr, TYX, UX]
    have h0 := h0 rfl
    exact ⟨h0, by rw [List.eq_nil_of_length_eq_zero h0]; rfl⟩
/-! ### the reference -/
end Go.Sx
namespace Go.Sx
open Go.Proofs
-- SY
-- TY: TYX, UX
set_option maxRecDepth 100000
set_option linter.unusedSimpArgs false
set_option pp.deepTerms true
set_option pp.maxSteps 100000
/-- The value at x. -/
def evp (m x : Nat) : List Nat → Nat
  | [] => 0
  | c :: l => (evp m x l * x % m + c) % m
end Go.Sx
