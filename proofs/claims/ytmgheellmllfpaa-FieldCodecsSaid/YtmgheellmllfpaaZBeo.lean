/-
  sigilref01: below. No conditions.
-/
import Derived.Test.YtmgheellmllfpaaZBit
namespace Go.Sx
open Go.Proofs Go.Num
-- TY: TYX, cellsE, foldE, foldN, cellsN, b_EN
set_option maxRecDepth 100000
set_option linter.unusedSimpArgs false
set_option pp.deepTerms false
set_option pp.deepTerms.threshold 3
theorem c_lower (a b : Nat) (ha : a < W256) (hb : b < W256) : Contract Try.prog 78 [.val (EN a), .val (EN b)] [.val (.bool (decide (a < b)))] := by
  obtain ⟨a0, a1, a2, a3, ha0, ha1, ha2, ha3, rfl⟩ := EN_ex ha
  obtain ⟨b0, b1, b2, b3, hb0, hb1, hb2, hb3, rfl⟩ := EN_ex hb
  rw [EN_of ha0 ha1 ha2 ha3 rfl, EN_of hb0 hb1 hb2 hb3 rfl]
  clear ha hb
  obtain ⟨R, hR⟩ : ∃ R : Bool, decide (a0 + 18446744073709551616 * a1 + 340282366920938463463374607431768211456 * a2 + 6277101735386680763835789423207666416102355444464034512896 * a3 < b0 + 18446744073709551616 * b1 + 340282366920938463463374607431768211456 * b2 + 6277101735386680763835789423207666416102355444464034512896 * b3) = R := ⟨_, rfl⟩
  rw [hR]
  refine contract_of (N := _) (vars := _) (c := bodyOf Try.f78) Try.func78 (body_eq rfl) rfl rfl (by rfl) mixed _ _ trivial 1000 ?_
  simp only [bodyOf, Try.f78, Option.getD_some, argA, argE, List.length_cons, List.length_nil, Nat.reduceAdd, Nat.reduceSub, List.replicate, List.cons_append, List.nil_append]
  simp only [SX, simprocAttr, TYX, cellsE, foldE, foldN, cellsN, b_EN]
  refine loop_rounds 5 ?_
  refine RoundsVC.step mixed trivial 1000 ?_
  simp only [SX, simprocAttr, TYX, cellsE, foldE, foldN, cellsN, b_EN]
  refine DrawVC.intro (by kernel_rfl) ?_
  refine cond_split (fun h3 => ?_) (fun h3 => ?_)
  · have h3 : a3 ≠ b3 := by simpa using h3
    simp only [SX, simprocAttr, TYX, cellsE, foldE, foldN, cellsN, b_EN]
    refine DrawVC.intro (by kernel_rfl) ?_
    refine congrArg Value.bool ?_
    rw [← hR, Bool.eq_iff_iff]; simp only [decide_eq_true_eq]; omega
  have h3 : a3 = b3 := by simpa using h3
  subst h3
  simp only [SX, simprocAttr, TYX, cellsE, foldE, foldN, cellsN, b_EN]
  refine RoundsVC.step mixed trivial 1000 ?_
  simp only [SX, simprocAttr, TYX, cellsE, foldE, foldN, cellsN, b_EN]
  refine DrawVC.intro (by kernel_rfl) ?_
  refine cond_split (fun h2 => ?_) (fun h2 => ?_)
  · have h2 : a2 ≠ b2 := by simpa using h2
    simp only [SX, simprocAttr, TYX, cellsE, foldE, foldN, cellsN, b_EN]
    refine DrawVC.intro (by kernel_rfl) ?_
    refine congrArg Value.bool ?_
    rw [← hR, Bool.eq_iff_iff]; simp only [decide_eq_true_eq]; omega
  have h2 : a2 = b2 := by simpa using h2
  subst h2
  simp only [SX, simprocAttr, TYX, cellsE, foldE, foldN, cellsN, b_EN]
  refine RoundsVC.step mixed trivial 1000 ?_
  simp only [SX, simprocAttr, TYX, cellsE, foldE, foldN, cellsN, b_EN]
  refine DrawVC.intro (by kernel_rfl) ?_
  refine cond_split (fun h1 => ?_) (fun h1 => ?_)
  · have h1 : a1 ≠ b1 := by simpa using h1
    simp only [SX, simprocAttr, TYX, cellsE, foldE, foldN, cellsN, b_EN]
    refine DrawVC.intro (by kernel_rfl) ?_
    refine congrArg Value.bool ?_
    rw [← hR, Bool.eq_iff_iff]; simp only [decide_eq_true_eq]; omega
  have h1 : a1 = b1 := by simpa using h1
  subst h1
  simp only [SX, simprocAttr, TYX, cellsE, foldE, foldN, cellsN, b_EN]
  refine RoundsVC.step mixed trivial 1000 ?_
  simp only [SX, simprocAttr, TYX, cellsE, foldE, foldN, cellsN, b_EN]
  refine DrawVC.intro (by kernel_rfl) ?_
  refine cond_split (fun h0 => ?_) (fun h0 => ?_)
  · have h0 : a0 ≠ b0 := by simpa using h0
    simp only [SX, simprocAttr, TYX, cellsE, foldE, foldN, cellsN, b_EN]
    refine DrawVC.intro (by kernel_rfl) ?_
    refine congrArg Value.bool ?_
    rw [← hR, Bool.eq_iff_iff]; simp only [decide_eq_true_eq]; omega
  have h0 : a0 = b0 := by simpa using h0
  subst h0
  simp only [SX, simprocAttr, TYX, cellsE, foldE, foldN, cellsN, b_EN]
  refine RoundsVC.step mixed trivial 1000 ?_
  simp only [SX, simprocAttr, TYX, cellsE, foldE, foldN, cellsN, b_EN]
  rw [← hR]
  simp
end Go.Sx
