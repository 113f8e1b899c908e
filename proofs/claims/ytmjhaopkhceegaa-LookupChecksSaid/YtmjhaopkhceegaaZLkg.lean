/-
  slices.Clone at elements. No conditions.
-/
import Derived.Test.YtmjhaopkhceegaaZLkf
namespace Go.Sx
open Go.Proofs Go.Num
-- SY
-- TY: TYX
set_option maxRecDepth 100000
set_option linter.unusedSimpArgs false
set_option pp.deepTerms true
set_option pp.maxSteps 100000
theorem u_Clone (l : List Nat) (hl : l.length * 32 ≤ 140737488355328) : Contract Try.prog 32 [.sl l.length 4 (LC eC l)] [.row 24 4 l.length (LC eC l)] := by
  refine contract_of (N := _) (vars := _) (c := bodyOf Try.f32) Try.func32 (body_eq rfl) rfl rfl (by rfl) mixed _ _ trivial 1000 ?_
  simp only [bodyOf, Try.f32, Option.getD_some, argA, argE, List.length_cons, List.length_nil, Nat.reduceAdd, Nat.reduceSub, List.replicate, List.cons_append, List.nil_append]
  simp only [↓PX, SX, SYX, EY, simprocAttr, TYX]
  refine NdVC.intro rfl (fun b h0 => ?_)
  cases b with
  | true =>
    obtain rfl : l = [] := List.length_eq_zero_iff.1 (h0 rfl)
    simp only [↓PX, SX, SYX, EY, simprocAttr, TYX]
  | false =>
    simp only [↓PX, SX, SYX, EY, simprocAttr, TYX]
    repeat (first | refine DrawVC.intro (by kernel_rfl) ?_ | refine And.intro (by omega) ?_ | exact trivial)
    simp
end Go.Sx
