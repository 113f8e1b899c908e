/-
  slices.Backward over elements: its closure's contract, for every loop body. The machine: a range over slices.Backward of elements. Lists of numbers as polynomials: the noughts at the end struck out. Trim, of poly and of the reference. Clone; Add and Scale of poly; Trim, Add and Scale of the reference. Eval, of poly and of the reference. No conditions.
-/
import Derived.RangeFuncNested
import Derived.RangeFuncBound
import Derived.RangeFuncCalls
import Derived.RangeFuncLeaves
import Derived.Shelf.Abstract
import Derived.Shelf.RegionOpen
import Derived.WalkKit
import Derived.OwnWalkIn
import Derived.TacticsInMore
import Derived.LoopNIn
import Derived.LoopIn
import Derived.Test.YtmjhaopkhceegaaZFieldA
import Derived.Test.YtmjhaopkhceegaaZMachC
import Derived.Test.YtmjhaopkhceegaaZInv
namespace Go.Sx
open Go.Proofs Go.RowKit Go.Shelf
attribute [local go_sem] Oper.semAt_some
set_option maxRecDepth 100000
end Go.Sx
namespace Go.Sx
open Go.Proofs
set_option maxRecDepth 100000
end Go.Sx
namespace Go.Sx
theorem getD_out {l : List Nat} {i : Nat} (h : l.length ≤ i) : l.getD i 0 = 0 := by simp [List.getD, List.getElem?_eq_none h]
theorem tab_snoc {n : Nat} {f : Nat → Nat} : tab n f ++ [f n] = tab (n + 1) f := by simp [tab, List.range_succ]
end Go.Sx
namespace Go.Sx
open Go.Proofs
-- SY
-- TY: TYX, UX
set_option maxRecDepth 100000
set_option linter.unusedSimpArgs false
set_option pp.deepTerms true
set_option pp.maxSteps 100000
end Go.Sx
namespace Go.Sx
open Go.Proofs
-- SY
-- TY: TYX, UX
set_option maxRecDepth 100000
set_option linter.unusedSimpArgs false
set_option pp.deepTerms true
set_option pp.maxSteps 100000
theorem u_Clone (l : List Nat) (hb : l.length * 32 ≤ 140737488355328) : Contract Try.prog 32 [.sl l.length 4 (LC eC l)] [.row 24 4 l.length (LC eC l)] := by
  refine contract_of (N := _) (vars := _) (c := bodyOf Try.f32) Try.func32 (body_eq rfl) rfl rfl (by rfl) mixed _ _ trivial 1000 ?_
  simp only [bodyOf, Try.f32, Option.getD_some, argA, argE, List.length_cons, List.length_nil, Nat.reduceAdd, Nat.reduceSub, List.replicate, List.cons_append, List.nil_append]
  simp only [↓PX, SX, SYX, EY, simprocAttr, TYX, UX]
  refine NdVC.intro rfl (fun b h0 => ?_)
  cases b
  · simp only [↓PX, SX, SYX, EY, simprocAttr, TYX, UX]
    exact ⟨hb, by omega⟩
  · simp only [↓PX, SX, SYX, EY, simprocAttr, TYX, UX]
    have h0 := h0 rfl
    exact ⟨h0, by rw [List.eq_nil_of_length_eq_zero h0]; rfl⟩
/-! ### the reference -/
end Go.Sx
namespace Go.Sx
open Go.Proofs
-- SY
-- TY: TYX, UX
set_option maxRecDepth 100000
set_option linter.unusedSimpArgs false
set_option pp.deepTerms true
set_option pp.maxSteps 100000
/-- The value at x. -/
def evp (m x : Nat) : List Nat → Nat
  | [] => 0
  | c :: l => (evp m x l * x % m + c) % m
end Go.Sx
