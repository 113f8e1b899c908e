/-
  slices.Backward over elements: its closure's contract, for every loop body. The machine: a range over slices.Backward of elements. Lists of numbers as polynomials: the noughts at the end struck out. Trim, of poly and of the reference. Clone; Add and Scale of poly; Trim, Add and Scale of the reference. Eval, of poly and of the reference. No conditions.
-/
import Derived.RangeFuncNested
import Derived.RangeFuncBound
import Derived.RangeFuncCalls
import Derived.RangeFuncLeaves
import Derived.Shelf.Abstract
import Derived.Shelf.RegionOpen
import Derived.WalkKit
import Derived.OwnWalkIn
import Derived.TacticsInMore
import Derived.LoopNIn
import Derived.LoopIn
import Derived.Test.YtndmafefpiigoaaZFieldA
import Derived.Test.YtndmafefpiigoaaZMachC
import Derived.Test.YtndmafefpiigoaaZInv
namespace Go.Sx
open Go.Proofs Go.RowKit Go.Shelf
attribute [local go_sem] Oper.semAt_some
set_option maxRecDepth 100000
end Go.Sx
namespace Go.Sx
open Go.Proofs
set_option maxRecDepth 100000
end Go.Sx
namespace Go.Sx
/-- How many coefficients a polynomial has. -/
def dg : List Nat → Nat
  | [] => 0
  | x :: l => if dg l = 0 ∧ x = 0 then 0 else dg l + 1
theorem dg_le : ∀ l : List Nat, dg l ≤ l.length
  | [] => Nat.le_refl _
  | x :: l => by
    have := dg_le l
    simp only [dg, List.length_cons]
    split <;> omega
theorem dg_zero : ∀ {l : List Nat} {i : Nat}, dg l ≤ i → l.getD i 0 = 0
  | [], i, _ => by simp
  | x :: l, 0, h => by
    simp only [dg] at h
    split at h
    · rename_i h0; simp [h0.2]
    · omega
  | x :: l, i + 1, h => by
    have : dg l ≤ i := by
      simp only [dg] at h
      split at h
      · rename_i h0; omega
      · omega
    simpa using dg_zero this
theorem dg_last : ∀ {l : List Nat}, 0 < dg l → l.getD (dg l - 1) 0 ≠ 0
  | [], h => by simp [dg] at h
  | x :: l, h => by
    simp only [dg] at h ⊢
    split at h
    · omega
    · rename_i hn
      rw [if_neg hn]
      by_cases h0 : dg l = 0
      · simp [h0] at hn ⊢
        exact hn
      · have := dg_last (l := l) (by omega)
        have e : dg l + 1 - 1 = (dg l - 1) + 1 := by omega
        rw [e]
        simpa using this
theorem dg_uniq {l : List Nat} {n : Nat} (hn : n = 0 ∨ l.getD (n - 1) 0 ≠ 0) (h : ∀ i, n ≤ i → l.getD i 0 = 0) : dg l = n := by
  rcases Nat.lt_trichotomy (dg l) n with h1 | h1 | h1
  · rcases hn with h2 | h2
    · omega
    · exact absurd (dg_zero (by omega)) h2
  · exact h1
  · have := dg_last (l := l) (by omega)
    exact absurd (h _ (by omega)) this
def trm (l : List Nat) : List Nat := l.take (dg l)
theorem trm_len (l : List Nat) : (trm l).length = dg l := by simp [trm, dg_le]
theorem trm_getD (l : List Nat) (i : Nat) : (trm l).getD i 0 = l.getD i 0 := by
  unfold trm
  by_cases h : i < dg l
  · simp [List.getD, List.getElem?_take, h]
  · rw [dg_zero (l := l) (by omega)]
    simp [List.getD, List.getElem?_take, h]
theorem getD_ext {l l' : List Nat} (hl : l.length = l'.length) (h : ∀ i, l.getD i 0 = l'.getD i 0) : l = l' := by
  apply List.ext_getElem hl
  intro i h1 h2
  have := h i
  simpa [List.getD, h1, h2] using this
theorem getD_map {l : List Nat} {f : Nat → Nat} (hf : f 0 = 0) (i : Nat) : (l.map f).getD i 0 = f (l.getD i 0) := by
  simp only [List.getD_eq_getElem?_getD, List.getElem?_map]
  cases l[i]? with
  | none => simp [hf]
  | some x => rfl
/-- A polynomial over a modulus. -/
def tp (m : Nat) (l : List Nat) : List Nat := trm (l.map (· % m))
theorem tp_getD (m : Nat) (l : List Nat) (i : Nat) : (tp m l).getD i 0 = l.getD i 0 % m := by
  unfold tp; rw [trm_getD, getD_map (Nat.zero_mod m)]
theorem tp_lt {m : Nat} (hm : 0 < m) (l : List Nat) : ∀ x ∈ tp m l, x < m := by
  intro x hx
  unfold tp trm at hx
  obtain ⟨y, _, rfl⟩ := List.mem_map.1 (List.mem_of_mem_take hx)
  exact Nat.mod_lt _ hm
theorem tp_last {m : Nat} {l : List Nat} (h : tp m l ≠ []) : l.getD ((tp m l).length - 1) 0 % m ≠ 0 := by
  have h0 : 0 < (tp m l).length := List.length_pos_iff.2 h
  unfold tp at h0 ⊢
  rw [trm_len] at h0 ⊢
  have := dg_last h0
  rwa [getD_map (Nat.zero_mod m)] at this
/-- A list that is a polynomial already. -/
theorem tp_norm {m : Nat} {l : List Nat} (hl : ∀ x ∈ l, x < m) (h : l = [] ∨ l.getD (l.length - 1) 0 ≠ 0) : tp m l = l := by
  have hmap : l.map (· % m) = l := by
    conv => rhs; rw [← List.map_id l]
    exact List.map_congr_left fun x hx => Nat.mod_eq_of_lt (hl x hx)
  unfold tp
  rw [hmap]
  unfold trm
  have : dg l = l.length := by
    refine dg_uniq ?_ (fun i hi => by simp [List.getD, hi])
    rcases h with rfl | h
    · exact .inl rfl
    · exact .inr h
  rw [this, List.take_length]
theorem tp_len_le {m : Nat} {l : List Nat} {n : Nat} (h : ∀ i, n ≤ i → l.getD i 0 % m = 0) : (tp m l).length ≤ n := by
  rcases Nat.lt_or_ge n (tp m l).length with h1 | h1
  · exfalso
    have := tp_last (m := m) (l := l) (by intro e; rw [e] at h1; simp at h1)
    exact this (h _ (by omega))
  · exact h1
theorem tp_len_eq {m : Nat} {l : List Nat} {n : Nat} (h : ∀ i, n ≤ i → l.getD i 0 % m = 0) (h1 : n = 0 ∨ l.getD (n - 1) 0 % m ≠ 0) : (tp m l).length = n := by
  refine Nat.le_antisymm (tp_len_le h) ?_
  rcases h1 with rfl | h1
  · exact Nat.zero_le _
  · rcases Nat.lt_or_ge (tp m l).length n with h2 | h2
    · exfalso
      rw [← tp_getD] at h1
      exact h1 (by simp [List.getD, List.getElem?_eq_none (show (tp m l).length ≤ n - 1 by omega)])
    · exact h2
theorem getD_out {l : List Nat} {i : Nat} (h : l.length ≤ i) : l.getD i 0 = 0 := by simp [List.getD, List.getElem?_eq_none h]
theorem tab_out {n i : Nat} {f : Nat → Nat} (h : n ≤ i) : (tab n f).getD i 0 = 0 := getD_out (by rw [tab_len]; exact h)
theorem tab_snoc {n : Nat} {f : Nat → Nat} : tab n f ++ [f n] = tab (n + 1) f := by simp [tab, List.range_succ]
theorem tab_0 {f : Nat → Nat} : tab 0 f = [] := rfl
end Go.Sx
namespace Go.Sx
open Go.Proofs
-- SY
-- TY: TYX, UX
set_option maxRecDepth 100000
set_option linter.unusedSimpArgs false
set_option pp.deepTerms true
set_option pp.maxSteps 100000
end Go.Sx
namespace Go.Sx
open Go.Proofs
-- SY
-- TY: TYX, UX
set_option maxRecDepth 100000
set_option linter.unusedSimpArgs false
set_option pp.deepTerms true
set_option pp.maxSteps 100000
def pScale (a : List Nat) (k : Nat) : List Nat := a.map (· * k)
/-! ### the reference -/
end Go.Sx
namespace Go.Sx
open Go.Proofs
-- SY
-- TY: TYX, UX
set_option maxRecDepth 100000
set_option linter.unusedSimpArgs false
set_option pp.deepTerms true
set_option pp.maxSteps 100000
/-- The value at x. -/
def evp (m x : Nat) : List Nat → Nat
  | [] => 0
  | c :: l => (evp m x l * x % m + c) % m
end Go.Sx
