/-
  Checks, of lookup and of the reference. No conditions.
-/
import Derived.Test.YtmjhaopkhceegaaZLkP
namespace Go.Sx
open Go.Proofs Go.Num
-- SY
-- TY: TYX, UX, guard_un, IOX
set_option maxRecDepth 100000
set_option linter.unusedSimpArgs false
set_option pp.deepTerms true
set_option pp.maxSteps 100000
/-- (a + beta)(b + gamma). -/
def prN (s : Int) (β γ a b : Nat) : Nat := (a + β) % md s * ((b + γ) % md s) % md s
theorem prN_w (s : Int) (β γ a b : Nat) : prN s β γ a b < W256 := md_w s _
theorem u_pof (s : Int) (β γ a b : Nat) (hβ : β < W256) (hγ : γ < W256) (ha : a < W256) (hb : b < W256) : Contract Try.prog 45 [.val (TN s β γ), .val (EN a), .val (EN b)] [.val (EN (prN s β γ a b))] := by
  unfold TN
  refine contract_of (N := _) (vars := _) (c := bodyOf Try.f45) Try.func45 (body_eq rfl) rfl rfl (by rfl) mixed _ _ trivial 1000 ?_
  simp only [bodyOf, Try.f45, Option.getD_some, argA, argE, List.length_cons, List.length_nil, Nat.reduceAdd, Nat.reduceSub, List.replicate, List.cons_append, List.nil_append]
  simp only [↓PX, SX, SYX, EY, simprocAttr, TYX, UX, guard_un, IOX]
  repeat (first | refine DrawVC.intro (by kernel_rfl) ?_ | refine And.intro (by omega) ?_ | exact trivial)
  refine CallVC.intro (u_Add s a β ha hβ) ⟨rfl, rfl, rfl, trivial⟩ rfl rfl ?_
  simp only [↓PX, SX, SYX, EY, simprocAttr, TYX, UX, guard_un, IOX]
  refine CallVC.intro (u_Add s b γ hb hγ) ⟨rfl, rfl, rfl, trivial⟩ rfl rfl ?_
  simp only [↓PX, SX, SYX, EY, simprocAttr, TYX, UX, guard_un, IOX]
  refine CallVC.intro (u_Mul s _ _ (md_w s _) (md_w s _)) ⟨rfl, rfl, rfl, trivial⟩ rfl rfl ?_
  simp only [↓PX, SX, SYX, EY, simprocAttr, TYX, UX, guard_un, IOX]
  rfl
theorem v_two (s : Int) (β γ a b : Nat) (hβ : β < W256) (hγ : γ < W256) (ha : a < W256) (hb : b < W256) : Contract Try.prog 47 [.val (.int .i64 s), .val (EN a), .val (EN β), .val (EN b), .val (EN γ)] [.val (EN (prN s β γ a b))] := by
  refine contract_of (N := _) (vars := _) (c := bodyOf Try.f47) Try.func47 (body_eq rfl) rfl rfl (by rfl) mixed _ _ trivial 1000 ?_
  simp only [bodyOf, Try.f47, Option.getD_some, argA, argE, List.length_cons, List.length_nil, Nat.reduceAdd, Nat.reduceSub, List.replicate, List.cons_append, List.nil_append]
  simp only [↓PX, SX, SYX, EY, simprocAttr, TYX, UX, guard_un, IOX]
  repeat (first | refine DrawVC.intro (by kernel_rfl) ?_ | refine And.intro (by omega) ?_ | exact trivial)
  refine CallVC.intro (v_Add s a β ha hβ) ⟨rfl, rfl, rfl, trivial⟩ rfl rfl ?_
  simp only [↓PX, SX, SYX, EY, simprocAttr, TYX, UX, guard_un, IOX]
  refine CallVC.intro (v_Add s b γ hb hγ) ⟨rfl, rfl, rfl, trivial⟩ rfl rfl ?_
  simp only [↓PX, SX, SYX, EY, simprocAttr, TYX, UX, guard_un, IOX]
  refine CallVC.intro (v_Mul s _ _ (md_w s _) (md_w s _)) ⟨rfl, rfl, rfl, trivial⟩ rfl rfl ?_
  simp only [↓PX, SX, SYX, EY, simprocAttr, TYX, UX, guard_un, IOX]
  rfl
end Go.Sx
