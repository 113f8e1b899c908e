/-
  Through of the reference, as a law. No conditions.
-/
import Derived.Test.YtmjhaopkhceegaaZPpg
namespace Go.Sx
open Go.Proofs Go.Num
-- SY
-- TY: TYX, UX
set_option maxRecDepth 100000
set_option linter.unusedSimpArgs false
set_option pp.deepTerms true
set_option pp.maxSteps 100000
theorem v_By (s : Int) (a b : Nat) (ha : a < W256) (hb : b < W256) : Contract Try.prog 49 [.val (.int .i64 s), .val (EN a), .val (EN b)] [.val (EN (a * inv s b % md s))] := by
  refine contract_of (N := _) (vars := _) (c := bodyOf Try.f49) Try.func49 (body_eq rfl) rfl rfl (by rfl) mixed _ _ trivial 1000 ?_
  simp only [bodyOf, Try.f49, Option.getD_some, argA, argE, List.length_cons, List.length_nil, Nat.reduceAdd, Nat.reduceSub, List.replicate, List.cons_append, List.nil_append]
  simp only [↓PX, SX, SYX, EY, simprocAttr, TYX, UX]
  refine CallVC.intro (v_Inv s b hb) ⟨rfl, rfl, trivial⟩ rfl rfl ?_
  simp only [↓PX, SX, SYX, EY, simprocAttr, TYX, UX]
  refine CallVC.intro (v_Mul s a (inv s b) ha (md_w2 (inv_lt _ _))) ⟨rfl, rfl, rfl, trivial⟩ rfl rfl ?_
  simp only [↓PX, SX, SYX, EY, simprocAttr, TYX, UX]
end Go.Sx
