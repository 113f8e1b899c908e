/-
  LookupChecks, LookupCompress, LookupOrders. No conditions.
-/
import Derived.Test.YtmjhaopkhceegaaZLkv
import Derived.Test.YtmjhaopkhceegaaZLkw
namespace Go.Sx
open Go.Proofs Go.Num
-- SY
-- TY: TYX, UX, guard_un
set_option maxRecDepth 100000
set_option linter.unusedSimpArgs false
set_option pp.deepTerms true
set_option pp.maxSteps 100000
theorem lcL_len {s : Int} {F L U I T S B M A N β γ : Nat} : (lcL s F L U I T S B M A N β γ).length ≤ 5 := by
  unfold lcL; split <;> simp
theorem c_LookupChecks (s : Int) (X F L U I T S B M A N β γ : Nat) (hF : F < W256) (hL : L < W256) (hU : U < W256) (hI : I < W256) (hT : T < W256) (hS : S < W256) (hB : B < W256) (hM : M < W256) (hA : A < W256) (hN : N < W256) (hβ : β < W256) (hγ : γ < W256) :
    Contract Try.prog 6 [.val (.int .i64 s), .val (SN X F L U), .val (KN I T S B M A N), .val (EN β), .val (EN γ)] [.val (.bool true)] := by
  have cu := u_LChecks s X F L U I T S B M A N β γ hF hL hU hI hT hS hB hM hA hN hβ hγ
  have cv := v_LChecks s X F L U I T S B M A N β γ hF hL hU hI hT hS hB hM hA hN hβ hγ
  have l1 := lcL_len (s := s) (F := F) (L := L) (U := U) (I := I) (T := T) (S := S) (B := B) (M := M) (A := A) (N := N) (β := β) (γ := γ)
  have ss := same_of _ (by omega) (lcL_w (s := s) (F := F) (L := L) (U := U) (I := I) (T := T) (S := S) (B := B) (M := M) (A := A) (N := N) (β := β) (γ := γ))
  unfold SN KN at *
  refine contract_of (N := _) (vars := _) (c := bodyOf Try.f6) Try.func6 (body_eq rfl) rfl rfl (by rfl) mixed _ _ trivial 1000 ?_
  simp only [bodyOf, Try.f6, Option.getD_some, argA, argE, List.length_cons, List.length_nil, Nat.reduceAdd, Nat.reduceSub, List.replicate, List.cons_append, List.nil_append]
  simp only [↓PX, SX, SYX, EY, simprocAttr, TYX, UX, guard_un]
  refine CallVC.intro (c_alive17) trivial rfl rfl ?_
  simp only [↓PX, SX, SYX, EY, simprocAttr, TYX, UX, guard_un]
  repeat (first | refine DrawVC.intro (by kernel_rfl) ?_ | refine And.intro (by omega) ?_ | exact trivial)
  refine CallVC.intro (cu) ⟨rfl, rfl, rfl, rfl, rfl, trivial⟩ rfl rfl ?_
  simp only [↓PX, SX, SYX, EY, simprocAttr, TYX, UX, guard_un, b_agg]
  refine CallVC.intro (cv) ⟨rfl, rfl, rfl, rfl, rfl, trivial⟩ rfl rfl ?_
  simp only [↓PX, SX, SYX, EY, simprocAttr, TYX, UX, guard_un, b_agg]
  refine CallVC.intro (ss) ⟨(by simp only [argMatch, SX, SYX, EY, simprocAttr, and_self, List.length_append, List.length_map, List.length_set, TYX, UX, guard_un]), (by simp only [argMatch, SX, SYX, EY, simprocAttr, and_self, List.length_append, List.length_map, List.length_set, TYX, UX, guard_un]), trivial⟩ rfl rfl ?_
  simp only [↓PX, SX, SYX, EY, simprocAttr, TYX, UX, guard_un]
section
variable {m : Nat} [NeZero m]
end
end Go.Sx
