/-
  Walks of the reference: half, halves, Sqrt; Root of both. No conditions.
-/
import Derived.Test.YtndmafefpiigoaaZSqw
namespace Go.Sx
open Go.Proofs Go.Num
-- SY
-- TY: TYX, cellsNV, foldNV
set_option maxRecDepth 100000
set_option linter.unusedSimpArgs false
set_option pp.deepTerms true
set_option pp.maxSteps 100000
theorem half_eq (a : Nat) (ha : a < W256) : E4 (uor (ushr (L0 a) 1) (ushl (L1 a) 63)) (uor (ushr (L1 a) 1) (ushl (L2 a) 63)) (uor (ushr (L2 a) 1) (ushl (L3 a) 63)) (ushr (L3 a) 1) = EN (a / 2) := by
  rw [half_limb _ _ (L0_lt a), half_limb _ _ (L1_lt a), half_limb _ _ (L2_lt a), ushr_eq, sh_1]
  have hs := L_sum ha
  have h0 := L0_lt a
  have h1 := L1_lt a
  have h2 := L2_lt a
  have h3 := L3_lt a
  generalize L0 a = x0 at *
  generalize L1 a = x1 at *
  generalize L2 a = x2 at *
  generalize L3 a = x3 at *
  rw [E4_EN (a := x0 / 2 + x1 % 2 * 9223372036854775808) (by omega) (by omega) (by omega) (by omega)]
  refine congrArg EN ?_
  omega
theorem v_half (a : Nat) (ha : a < W256) : Contract Try.prog 130 [.val (EN a)] [.val (EN (a / 2))] := by
  refine contract_of (N := _) (vars := _) (c := bodyOf Try.f130) Try.func130 (body_eq rfl) rfl rfl (by rfl) mixed _ _ trivial 1000 ?_
  simp only [bodyOf, Try.f130, Option.getD_some, argA, argE, List.length_cons, List.length_nil, Nat.reduceAdd, Nat.reduceSub, List.replicate, List.cons_append, List.nil_append]
  simp only [↓PX, SX, SYX, EY, simprocAttr, TYX, cellsNV, foldNV]
  refine loop_rounds 5 ?_
  refine RoundsVC.step mixed trivial 1000 ?_
  simp only [↓PX, SX, SYX, EY, simprocAttr, TYX, cellsNV, foldNV]
  repeat (first | refine DrawVC.intro (by kernel_rfl) ?_ | refine And.intro (by omega) ?_ | exact trivial)
  refine RoundsVC.step mixed trivial 1000 ?_
  simp only [↓PX, SX, SYX, EY, simprocAttr, TYX, cellsNV, foldNV]
  repeat (first | refine DrawVC.intro (by kernel_rfl) ?_ | refine And.intro (by omega) ?_ | exact trivial)
  refine RoundsVC.step mixed trivial 1000 ?_
  simp only [↓PX, SX, SYX, EY, simprocAttr, TYX, cellsNV, foldNV]
  repeat (first | refine DrawVC.intro (by kernel_rfl) ?_ | refine And.intro (by omega) ?_ | exact trivial)
  refine RoundsVC.step mixed trivial 1000 ?_
  simp only [↓PX, SX, SYX, EY, simprocAttr, TYX, cellsNV, foldNV]
  repeat (first | refine DrawVC.intro (by kernel_rfl) ?_ | refine And.intro (by omega) ?_ | exact trivial)
  refine RoundsVC.step mixed trivial 1000 ?_
  simp only [↓PX, SX, SYX, EY, simprocAttr, TYX, cellsNV, foldNV]
  rw [half_eq a ha]
theorem v_halves (a n : Nat) (ha : a < W256) (hn : n < 9223372036854775807) : Contract Try.prog 122 [.val (EN a), .val (.int .i64 (n : Int))] [.val (EN (a / 2 ^ n))] := by
  refine contract_of (N := _) (vars := _) (c := bodyOf Try.f122) Try.func122 (body_eq rfl) rfl rfl (by rfl) mixed _ _ trivial 1000 ?_
  simp only [bodyOf, Try.f122, Option.getD_some, argA, argE, List.length_cons, List.length_nil, Nat.reduceAdd, Nat.reduceSub, List.replicate, List.cons_append, List.nil_append]
  simp only [↓PX, SX, SYX, EY, simprocAttr, TYX, cellsNV, foldNV]
  refine loop_hav ?_
  simp only [↓PX, SX, SYX, EY, simprocAttr, TYX, cellsNV, foldNV]
  refine loop_go mixed (by trivial) (γ := Nat) (fun i => i ≤ n) (fun i => n - i) (fun i => [(5, iv i)]) (fun i => [(2, .box (eC (a / 2 ^ i)))]) 0 (by omega) (St.le_of id (by simp [-List.getD_eq_getElem?_getD, SYX, iv, Tle, AVle, A0le, Mem.get, eC, Nat.div_one]) (by simp [-List.getD_eq_getElem?_getD, SYX, Mle, Ele, Hle, Tle, AVle, A0le, Mem.get, eC, Nat.div_one]) (by simp [SYX]) (by simp [SYX])) ?_
  intro i hi
  have hlt : a / 2 ^ i < W256 := Nat.lt_of_le_of_lt (Nat.div_le_self _ _) ha
  simp only [↓PX, SX, SYX, EY, simprocAttr, TYX, cellsNV, foldNV]
  refine cond_split (fun h0 => ?_) (fun h0 => ?_)
  · have h0 : i < n := by simpa using h0
    simp only [↓PX, SX, SYX, EY, simprocAttr, TYX, cellsNV, foldNV]
    refine CallVC.intro (v_half _ hlt) ⟨rfl, trivial⟩ rfl rfl ?_
    simp only [↓PX, SX, SYX, EY, simprocAttr, TYX, cellsNV, foldNV, wS (j := i) (by omega)]
    exact ⟨i + 1, by omega, by omega, (St.le_of id (by simp [-List.getD_eq_getElem?_getD, SYX, iv, Tle, AVle, A0le, Mem.get, Nat.div_div_eq_div_mul, Nat.pow_succ]) (by simp [-List.getD_eq_getElem?_getD, SYX, Mle, Ele, Hle, Tle, AVle, A0le, Mem.get, Nat.div_div_eq_div_mul, Nat.pow_succ]) (by simp [SYX]) (by simp [SYX]))⟩
  · have h0 : i = n := by
      have : n ≤ i := by simpa using h0
      omega
    subst h0
    simp only [↓PX, SX, SYX, EY, simprocAttr, TYX, cellsNV, foldNV]
/-- What the reference's search keeps. -/
structure Vns (s : Int) (a : Nat) (g : Nat × Nat × Nat × Nat) : Prop where
  hi : g.1 ≤ sS s
  x : g.2.1 < md s
  b : g.2.2.1 < md s
  z : g.2.2.2 < md s
  sq : κ (md s) g.2.1 * κ (md s) g.2.1 = κ (md s) a * κ (md s) g.2.2.1
  zo : κ (md s) g.2.2.2 ^ (2 ^ g.1) = -1
  bo : κ (md s) g.2.2.1 ^ (2 ^ g.1) = 1
theorem Vns.start {s : Int} {a : Nat} (G : SqF (md s) (sS s) (qS s) (κ (md s) 5)) (h : κ (md s) a ≠ 0) (hq : SqP s a) : Vns s a (sS s, a ^ ((qS s + 1) / 2) % md s, a ^ qS s % md s, 5 ^ qS s % md s) := by
  refine ⟨Nat.le_refl _, md_mod _ _, md_mod _ _, md_mod _ _, ?_, ?_, ?_⟩ <;> (try dsimp only)
  · rw [κ_mod, κ_mod, κ_pow, κ_pow]; exact G.start _
  · rw [κ_mod, κ_pow]; exact G.z
  · rw [κ_mod, κ_pow]; exact (G.euler h).1 hq
end Go.Sx
