/-
  Bytes: copies, comparisons, Encode of both. No conditions.
-/
import Derived.Test.YtndmafefpiigoaaZByt
namespace Go.Sx
open Go.Proofs Go.Num
-- SY
-- TY: TYX, cellsNV, foldNV, BY
set_option maxRecDepth 100000
set_option linter.unusedSimpArgs false
set_option pp.deepTerms true
set_option pp.maxSteps 100000
def n77 : Nat := 483336833624774418841557527839902575727981613289652445249613
theorem c_Marked (l : List Nat) (hb : (l.length + 9) * 32 ≤ 140737488355328) : Contract Try.prog 60 [.mv 25 4 l.length (LC eC l)] [.val (.bool true)] := by
  refine contract_of (N := _) (vars := _) (c := bodyOf Try.f60) Try.func60 (body_eq rfl) rfl rfl (by rfl) mixed _ _ trivial 1000 ?_
  simp only [bodyOf, Try.f60, Option.getD_some, argA, argE, List.length_cons, List.length_nil, Nat.reduceAdd, Nat.reduceSub, List.replicate, List.cons_append, List.nil_append]
  simp only [↓PX, SX, SYX, EY, simprocAttr, TYX, cellsNV, foldNV, BY]
  refine loop_hav ?_
  simp only [↓PX, SX, SYX, EY, simprocAttr, TYX, cellsNV, foldNV, BY]
  refine loop_go mixed (by trivial) (γ := Nat × List Nat) (fun g => g.1 ≤ l.length ∧ g.2.length = l.length) (fun g => l.length - g.1) (fun g => [(3, iv g.1)]) (fun g => [(0, .row 25 4 l.length (LC eC g.2))]) (0, l) ⟨by simp, rfl⟩
    (St.le_of id (by simp [-List.getD_eq_getElem?_getD, SYX, iv, Tle, AVle, A0le, Mem.get]) (by simp [-List.getD_eq_getElem?_getD, SYX, Mle, Ele, Hle, Tle, AVle, A0le, Mem.get]) (by simp [SYX]) (by simp [SYX])) ?_
  rintro ⟨i, m⟩ ⟨hi, hm⟩
  dsimp only at hi hm
  simp only [↓PX, SX, SYX, EY, simprocAttr, TYX, cellsNV, foldNV, BY]
  refine cond_split (fun h0 => ?_) (fun h0 => ?_)
  · have h0 : i < l.length := by simpa using h0
    simp only [↓PX, SX, SYX, EY, simprocAttr, TYX, cellsNV, foldNV, BY, hm]
    repeat (first | refine DrawVC.intro (by kernel_rfl) ?_ | refine And.intro (by omega) ?_ | exact trivial)
    have hs : List.take (i * 4) (LC eC m) ++ [u64 77, u64 77, u64 77, u64 77] ++ List.drop (i * 4 + 4) (LC eC m) = LC eC (m.set i n77) := by
      have h := eL_st (l := m) (j := i) (v := n77) (by omega)
      rw [show L0 n77 = 77 by rfl, show L1 n77 = 77 by rfl, show L2 n77 = 77 by rfl, show L3 n77 = 77 by rfl] at h
      exact h
    rw [hs]
    exact ⟨(i + 1, m.set i n77), ⟨by dsimp only; omega, by simp [hm]⟩, by dsimp only; omega, (St.le_of id (by simp [-List.getD_eq_getElem?_getD, SYX, iv, Tle, AVle, A0le, Mem.get, wS (j := i) (by omega)]) (by simp [-List.getD_eq_getElem?_getD, SYX, Mle, Ele, Hle, Tle, AVle, A0le, Mem.get, wS (j := i) (by omega)]) (by simp [SYX]) (by simp [SYX]))⟩
  · simp only [↓PX, SX, SYX, EY, simprocAttr, TYX, cellsNV, foldNV, BY]
    refine loop_rounds 10 ?_
    refine RoundsVC.step mixed trivial 1000 ?_
    simp only [↓PX, SX, SYX, EY, simprocAttr, TYX, cellsNV, foldNV, BY]
    repeat (first | refine DrawVC.intro (by kernel_rfl) ?_ | refine And.intro (by omega) ?_ | exact trivial)
    refine RoundsVC.step mixed trivial 1000 ?_
    simp only [↓PX, SX, SYX, EY, simprocAttr, TYX, cellsNV, foldNV, BY]
    repeat (first | refine DrawVC.intro (by kernel_rfl) ?_ | refine And.intro (by omega) ?_ | exact trivial)
    refine RoundsVC.step mixed trivial 1000 ?_
    simp only [↓PX, SX, SYX, EY, simprocAttr, TYX, cellsNV, foldNV, BY]
    repeat (first | refine DrawVC.intro (by kernel_rfl) ?_ | refine And.intro (by omega) ?_ | exact trivial)
    refine RoundsVC.step mixed trivial 1000 ?_
    simp only [↓PX, SX, SYX, EY, simprocAttr, TYX, cellsNV, foldNV, BY]
    repeat (first | refine DrawVC.intro (by kernel_rfl) ?_ | refine And.intro (by omega) ?_ | exact trivial)
    refine RoundsVC.step mixed trivial 1000 ?_
    simp only [↓PX, SX, SYX, EY, simprocAttr, TYX, cellsNV, foldNV, BY]
    repeat (first | refine DrawVC.intro (by kernel_rfl) ?_ | refine And.intro (by omega) ?_ | exact trivial)
    refine RoundsVC.step mixed trivial 1000 ?_
    simp only [↓PX, SX, SYX, EY, simprocAttr, TYX, cellsNV, foldNV, BY]
    repeat (first | refine DrawVC.intro (by kernel_rfl) ?_ | refine And.intro (by omega) ?_ | exact trivial)
    refine RoundsVC.step mixed trivial 1000 ?_
    simp only [↓PX, SX, SYX, EY, simprocAttr, TYX, cellsNV, foldNV, BY]
    repeat (first | refine DrawVC.intro (by kernel_rfl) ?_ | refine And.intro (by omega) ?_ | exact trivial)
    refine RoundsVC.step mixed trivial 1000 ?_
    simp only [↓PX, SX, SYX, EY, simprocAttr, TYX, cellsNV, foldNV, BY]
    repeat (first | refine DrawVC.intro (by kernel_rfl) ?_ | refine And.intro (by omega) ?_ | exact trivial)
    refine RoundsVC.step mixed trivial 1000 ?_
    simp only [↓PX, SX, SYX, EY, simprocAttr, TYX, cellsNV, foldNV, BY]
    repeat (first | refine DrawVC.intro (by kernel_rfl) ?_ | refine And.intro (by omega) ?_ | exact trivial)
    refine RoundsVC.step mixed trivial 1000 ?_
    simp only [↓PX, SX, SYX, EY, simprocAttr, TYX, cellsNV, foldNV, BY]
    refine congrArg Value.bool ?_
    simp only [decide_eq_true_eq]
    omega
end Go.Sx
