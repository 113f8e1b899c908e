/-
  What the laws of layer 16 begin with; PermutePlaces. No conditions.
-/
import Derived.Test.YtndmafefpiigoaaZPea
import Derived.Test.YtndmafefpiigoaaZStq
namespace Go.Sx
open Go.Proofs Go.Num
-- SY
-- TY: TYX, UX
set_option maxRecDepth 100000
set_option linter.unusedSimpArgs false
set_option pp.deepTerms true
set_option pp.maxSteps 100000
theorem pt0_one {s k : Int} : pt s k 0 = 1 := rfl
/-- At the first point: 1, 0, 1. -/
theorem place_1 : plS 0 3 1 = SN 1 1 0 1 ∧ plE 0 3 = 0 := by
  have h : ptO 0 (3 : Nat) = true := by decide
  have e : plE 0 3 = 0 := by decide
  refine ⟨?_, e⟩
  have l : ∀ i : Nat, i < 8 → lgU 0 (3 : Nat) i 1 = if i = 0 then 1 else 0 := fun i hi => by
    have := lg_pt h (i := i) (j := 0) (by simpa using hi) (by decide)
    rw [pt0_one] at this
    exact this
  have l0 : lgU 0 3 0 1 = 1 := l 0 (by decide)
  have l4 : lgU 0 3 4 1 = 0 := l 4 (by decide)
  have u4 : usN 0 3 1 4 = 1 := by
    have l0 : lgU 0 3 ((0 : Nat) : Int) 1 = 1 := l 0 (by decide)
    have l1 : lgU 0 3 ((1 : Nat) : Int) 1 = 0 := l 1 (by decide)
    have l2 : lgU 0 3 ((2 : Nat) : Int) 1 = 0 := l 2 (by decide)
    have l3 : lgU 0 3 ((3 : Nat) : Int) 1 = 0 := l 3 (by decide)
    unfold usN sumN sumN sumN sumN sumN
    rw [l0, l1, l2, l3]
    decide +kernel
  unfold plS
  rw [if_pos e, l0, show ((2 ^ Int.toNat 3 - 4 : Nat) : Int) = 4 by decide, show (2 ^ Int.toNat 3 - 4 : Nat) = 4 by decide, l4, u4, show 1 % md 0 = 1 by decide +kernel]
theorem SN_LC {a b c d : Nat} : SN a b c d = .agg (LC eC [a, b, c, d]).toArray := rfl
theorem c_alive16 : Contract Try.prog 36 [] [.val (.bool true)] := by
  have c1 := u_Place 0 3 1 (by decide)
  rw [place_1.1, place_1.2] at c1
  refine contract_of (N := _) (vars := _) (c := bodyOf Try.f36) Try.func36 (body_eq rfl) rfl rfl (by rfl) mixed _ _ trivial 1000 ?_
  simp only [bodyOf, Try.f36, Option.getD_some, argA, argE, List.length_cons, List.length_nil, Nat.reduceAdd, Nat.reduceSub, List.replicate, List.cons_append, List.nil_append]
  simp only [↓PX, SX, SYX, EY, simprocAttr, TYX, UX]
  refine CallVC.intro (c1) ⟨rfl, rfl, rfl, trivial⟩ rfl rfl ?_
  simp only [↓PX, SX, SYX, EY, simprocAttr, TYX, UX, SN, b_agg]
  refine ExVC.intro _ (X_eqSpot (l := [1, 1, 0, 1]) (l' := [1, 1, 0, 1]) rfl rfl rfl rfl) ?_
  simp only [↓PX, SX, SYX, EY, simprocAttr, TYX, UX, eqL_self]
end Go.Sx
