/-
  The reference's coins by value: the next one. No conditions.
-/
import Derived.Test.YtmjhaopkhceegaaZLla
namespace Go.Sx
open Go.Proofs Go.Num
-- SY
-- TY: TYX, UX, guard_un, IOX, mv_fa, plain_s, plain_r, plain_p
set_option maxRecDepth 100000
set_option linter.unusedSimpArgs false
set_option pp.deepTerms true
set_option pp.maxSteps 100000
/-- Coins by value: the list and where they stand. -/
def CN (y : Value) (j : Nat) : Value := .agg [y, .int .i64 (j : Int)].toArray
theorem v_Next_no (cs : List Nat) (y : Value) (hbc : cs.length * 32 ≤ 140737488351232) (hy : ∃ w, ReadsSlice w y cs.length 4 (LC eC cs)) :
    Contract Try.prog 26 [.fa (CN y cs.length) (fun w => ReadsSlice w y cs.length 4 (LC eC cs))] [.val (CN y cs.length), .val (EN 0), .val (.int .i64 81)] := by
  unfold CN
  obtain ⟨w9, hy9⟩ := hy
  obtain ⟨o7, k7⟩ := reads_one hy9
  have k8 : y.cells.toList = [y] := by rw [k7]
  obtain ⟨o1, c9, hsh⟩ := reads_len hy9
  refine contract_of (N := _) (vars := _) (c := bodyOf Try.f26) Try.func26 (body_eq rfl) rfl rfl (by rfl) mixed _ _ trivial 1000 ?_
  simp only [bodyOf, Try.f26, Option.getD_some, argA, argE, List.length_cons, List.length_nil, Nat.reduceAdd, Nat.reduceSub, List.replicate, List.cons_append, List.nil_append]
  simp only [↓PX, SX, SYX, EY, simprocAttr, TYX, UX, guard_un, IOX, mv_fa, plain_s, plain_r, plain_p]
  repeat (first | refine DrawVC.intro (by kernel_rfl) ?_ | refine And.intro (by omega) ?_ | exact trivial | simp only [↓PX, SX, SYX, EY, simprocAttr, TYX, UX, guard_un, IOX, mv_fa, plain_s, plain_r, plain_p, o7, k7, k8])
  refine ExVC.intro _ (X_lenV rfl ⟨_, Try.underlying25⟩ rfl ⟨o1, c9, hsh⟩) ?_
  have b0 : decide ((cs.length : Int) ≤ (cs.length : Int)) = true := decide_eq_true (by omega)
  repeat (first | refine DrawVC.intro (by kernel_rfl) ?_ | refine And.intro (by omega) ?_ | exact trivial | simp only [↓PX, SX, SYX, EY, simprocAttr, TYX, UX, guard_un, IOX, mv_fa, plain_s, plain_r, plain_p, o7, k7, k8, b0])
theorem v_Next (cs : List Nat) (j : Nat) (y : Value) (hj : j < cs.length) (hbc : cs.length * 32 ≤ 140737488351232) (hy : ∃ w, ReadsSlice w y cs.length 4 (LC eC cs)) :
    Contract Try.prog 26 [.fa (CN y j) (fun w => ReadsSlice w y cs.length 4 (LC eC cs))] [.val (CN y (j + 1)), .val (EN (cs.getD j 0)), .val (.int .i64 0)] := by
  unfold CN
  obtain ⟨w9, hy9⟩ := hy
  obtain ⟨o7, k7⟩ := reads_one hy9
  have k8 : y.cells.toList = [y] := by rw [k7]
  obtain ⟨o1, c9, hsh⟩ := reads_len hy9
  refine contract_of (N := _) (vars := _) (c := bodyOf Try.f26) Try.func26 (body_eq rfl) rfl rfl (by rfl) mixed _ _ trivial 1000 ?_
  simp only [bodyOf, Try.f26, Option.getD_some, argA, argE, List.length_cons, List.length_nil, Nat.reduceAdd, Nat.reduceSub, List.replicate, List.cons_append, List.nil_append]
  simp only [↓PX, SX, SYX, EY, simprocAttr, TYX, UX, guard_un, IOX, mv_fa, plain_s, plain_r, plain_p]
  repeat (first | refine DrawVC.intro (by kernel_rfl) ?_ | refine And.intro (by omega) ?_ | exact trivial | simp only [↓PX, SX, SYX, EY, simprocAttr, TYX, UX, guard_un, IOX, mv_fa, plain_s, plain_r, plain_p, o7, k7, k8])
  refine ExVC.intro _ (X_lenV rfl ⟨_, Try.underlying25⟩ rfl ⟨o1, c9, hsh⟩) ?_
  have b0 : decide ((cs.length : Int) ≤ (j : Int)) = false := decide_eq_false (by omega)
  repeat (first | refine DrawVC.intro (by kernel_rfl) ?_ | refine And.intro (by omega) ?_ | exact trivial | simp only [↓PX, SX, SYX, EY, simprocAttr, TYX, UX, guard_un, IOX, mv_fa, plain_s, plain_r, plain_p, o7, k7, k8, b0])
  refine RawVC.le (St.see_slot (i := 15) (k := 0) rfl rfl fun _ h => h) ?_
  have ldc := eL_ld (l := cs) (j := j) hj
  have hjx : j * 4 + 4 ≤ cs.length * 4 := by omega
  have hjy : (j : Int) < (cs.length : Int) := by omega
  have hjz : (0 : Int) ≤ (j : Int) := by omega
  have w3 : IntKind.i64.wrap ((j : Int) + 1) = ((j + 1 : Nat) : Int) := wS (by omega)
  simp only [↓PX, SX, SYX, EY, simprocAttr, TYX, UX, guard_un, IOX, mv_fa, plain_s, plain_r, plain_p, o7, k7, k8, ldc, hjx, hjy, hjz, w3]
  refine DrawVC.apart [(2, 5), (2, 1), (3, 5), (3, 1), (2, 3), (3, 2), (1, 2), (1, 3), (5, 2), (5, 3)] rfl (by kernel_rfl) ?_
  simp only [↓PX, SX, SYX, EY, simprocAttr, TYX, UX, guard_un, IOX, mv_fa, plain_s, plain_r, plain_p, o7, k7, k8]
end Go.Sx
