/-
  What the laws of layer 6 begin with; DomainPoints. No conditions.
-/
import Derived.Test.YtndmafefpiigoaaZDol
import Derived.Test.YtndmafefpiigoaaZDog
import Derived.Test.YtndmafefpiigoaaZPpd
namespace Go.Sx
open Go.Proofs Go.Num
-- SY
-- TY: TYX, UX
set_option maxRecDepth 100000
set_option linter.unusedSimpArgs false
set_option pp.deepTerms true
set_option pp.maxSteps 100000
theorem rk_01 : rk 0 1 = 16513536 := by
  have h : ptO 0 1 = true := by decide
  have P := pr_of (ptO_iff.1 h).1
  have h1 := half_neg h (by decide)
  have e : (2 : Nat) ^ (Int.toNat 1 - 1) = 0 + 1 := by decide
  rw [e, f_pow_succ, f_pow_zero] at h1
  have h2 : κ (md 0) (rk 0 1) = κ (md 0) 16513536 := by
    have h5 : κ (md 0) 16513536 = -1 := by
      have h6 := κ_neg (m := md 0) 1
      rw [κ_one] at h6
      rw [← h6, show md 0 - 1 % md 0 = 16513536 by decide +kernel]
    rw [h5, ← h1]
    generalize κ (md 0) (rk 0 1) = z
    grind
  have h3 := κ_inj.1 h2
  have h4 := rk_w 0 1
  rw [Nat.mod_eq_of_lt h4] at h3
  exact h3
theorem alive6_v : vaL 0 1 1 [3, 4] = [7, 16513536] ∧ vaE 0 1 1 [3, 4] = 0 := by
  have e0 : vaF 0 1 1 [3, 4] 0 = 7 := by
    unfold vaF pt pw
    decide +kernel
  have e1 : vaF 0 1 1 [3, 4] 1 = 16513536 := by
    unfold vaF pt pw
    rw [rk_01]
    decide +kernel
  constructor
  · have : vaL 0 1 1 [3, 4] = tab 2 (vaF 0 1 1 [3, 4]) := by
      unfold vaL; rw [if_pos (by decide +kernel)]; rfl
    rw [this]
    show [vaF 0 1 1 [3, 4] 0, vaF 0 1 1 [3, 4] 1] = _
    rw [e0, e1]
  · decide +kernel
theorem c_alive6 : Contract Try.prog 44 [] [.val (.bool true)] := by
  have hc : Contract Try.prog 52 [.val (.int .i64 0), .val (.int .i64 1), .val (EN 1), .sl 2 4 [u64 (L0 3), u64 (L1 3), u64 (L2 3), u64 (L3 3), u64 (L0 4), u64 (L1 4), u64 (L2 4), u64 (L3 4)]] [.row 25 4 2 (LC eC [7, 16513536]), .val (.int .i64 0)] := by
    have h := u_Values 0 1 1 [3, 4] (by decide) (by decide) (by decide)
    rw [alive6_v.1, alive6_v.2] at h
    exact h
  have hs : Contract Try.prog 23 [.sl 2 4 (LC eC [7, 16513536]), .sl 2 4 [u64 (L0 7), u64 (L1 7), u64 (L2 7), u64 (L3 7), u64 (L0 16513536), u64 (L1 16513536), u64 (L2 16513536), u64 (L3 16513536)]] [.val (.bool true)] :=
    c_SameElems [7, 16513536] [7, 16513536] (by decide) (by decide) (by decide)
  refine contract_of (N := _) (vars := _) (c := bodyOf Try.f44) Try.func44 (body_eq rfl) rfl rfl (by rfl) mixed _ _ trivial 1000 ?_
  simp only [bodyOf, Try.f44, Option.getD_some, argA, argE, List.length_cons, List.length_nil, Nat.reduceAdd, Nat.reduceSub, List.replicate, List.cons_append, List.nil_append]
  simp only [↓PX, SX, SYX, EY, simprocAttr, TYX, UX]
  refine CallVC.intro (hc) ⟨rfl, rfl, rfl, (by simp only [argMatch, SX, SYX, EY, simprocAttr, and_self, List.length_append, List.length_map, List.length_set, TYX, UX]), trivial⟩ rfl rfl ?_
  simp only [↓PX, SX, SYX, EY, simprocAttr, TYX, UX]
  refine CallVC.intro (hs) ⟨(by simp only [argMatch, SX, SYX, EY, simprocAttr, and_self, List.length_append, List.length_map, List.length_set, TYX, UX]), (by simp only [argMatch, SX, SYX, EY, simprocAttr, and_self, List.length_append, List.length_map, List.length_set, TYX, UX]), trivial⟩ rfl rfl ?_
  simp only [↓PX, SX, SYX, EY, simprocAttr, TYX, UX]
/-- A size that isn't looked at. -/
def gr6 (s k : Int) : Bool := (decide (6 < k) && decide (k ≤ 9)) || (decide (3 < k) && decide (k ≤ 9) && decide (1 < s))
theorem c_great6 (s k : Int) : Contract Try.prog 45 [.val (.int .i64 s), .val (.int .i64 k)] [.val (.bool (gr6 s k))] := by
  cases d0 : decide (6 < k) <;> cases d1 : decide (k ≤ 9) <;> cases d2 : decide (3 < k) <;> cases d3 : decide (1 < s) <;>
  · refine contract_of (N := _) (vars := _) (c := bodyOf Try.f45) Try.func45 (body_eq rfl) rfl rfl (by rfl) mixed _ _ trivial 1000 ?_
    simp only [bodyOf, Try.f45, Option.getD_some, argA, argE, List.length_cons, List.length_nil, Nat.reduceAdd, Nat.reduceSub, List.replicate, List.cons_append, List.nil_append]
    simp only [↓PX, SX, SYX, EY, simprocAttr, TYX, UX]
    simp only [↓PX, SX, SYX, EY, simprocAttr, TYX, UX, d0, d1, d2, d3]
    simp [gr6, d0, d1, d2, d3]
end Go.Sx
