/-
  sigilref01: Bits, below, minus, Rem. No conditions.
-/
import Derived.Test.YtmgheellmllfpaaZRem
namespace Go.Sx
open Go.Proofs Go.Num
-- SY
-- TY: TYX, iL_len, iL_one, iL_mk, iL_app1
set_option maxRecDepth 100000
set_option linter.unusedSimpArgs false
set_option pp.deepTerms true
set_option pp.maxSteps 100000
/-- A bit. -/
def bt (a i : Nat) : Nat := a / 2 ^ i % 2
theorem bt_lt (a i : Nat) : bt a i < 2 := Nat.mod_lt _ (by decide)
/-- The bits, the least first. -/
def btL (a n : Nat) : List Int := (List.range n).map (fun i => ((bt a i : Nat) : Int))
theorem btL_len {a n : Nat} : (btL a n).length = n := by simp [btL]
theorem btL_at {a n i : Nat} (h : i < n) : (btL a n).getD i 0 = ((bt a i : Nat) : Int) := by simp [btL, List.getD, h]
theorem btL_next {a n : Nat} : btL a n ++ [((bt a n : Nat) : Int)] = btL a (n + 1) := by simp [btL, List.range_succ]
theorem btL_nil {a : Nat} : LC iC (btL a 0) = [] := rfl
theorem lb_lt (a i : Nat) : lb a i < 18446744073709551616 := Nat.mod_lt _ (by decide)
theorem e_q (a i j : Nat) : uquo (lb a i / 2 ^ j) 2 = lb a i / 2 ^ (j + 1) := by
  rw [uquo_eq, Nat.div_div_eq_div_mul, ← Nat.pow_succ]
  exact Nat.mod_eq_of_lt (Nat.lt_of_le_of_lt (Nat.div_le_self _ _) (lb_lt a i))
theorem e_w {a i : Nat} : (((bt a i : Nat) : Int) + 9223372036854775808) % 18446744073709551616 - 9223372036854775808 = ((bt a i : Nat) : Int) := by have := bt_lt a i; omega
theorem bit_at {a i j : Nat} (h : j < 64) : urem (lb a i / 2 ^ j) 2 = bt a (64 * i + j) := by
  unfold lb bt
  rw [urem_eq, bit_low _ _ h, Nat.div_div_eq_div_mul, ← Nat.pow_add]
theorem c_Bits (a : Nat) (ha : a < W256) : Contract Try.prog 76 [.val (EN a)] [.row 3 1 256 (LC iC (btL a 256))] := by
  refine contract_of (N := _) (vars := _) (c := bodyOf Try.f76) Try.func76 (body_eq rfl) rfl rfl (by rfl) mixed _ _ trivial 1000 ?_
  simp only [bodyOf, Try.f76, Option.getD_some, argA, argE, List.length_cons, List.length_nil, Nat.reduceAdd, Nat.reduceSub, List.replicate, List.cons_append, List.nil_append]
  simp only [↓PX, SX, SYX, EY, simprocAttr, TYX, iL_len, iL_one, iL_mk, iL_app1]
  refine loop_hav ?_
  simp only [↓PX, SX, SYX, EY, simprocAttr, TYX, iL_len, iL_one, iL_mk, iL_app1]
  refine loop_go mixed (by trivial) (γ := Nat) (fun i => i ≤ 4) (fun i => 4 - i) (fun i => [(3, .o (.r 9 (64 * i))), (4, iv i), (7, .o .any)]) (fun i => [(9, .row 3 1 (64 * i) (LC iC (btL a (64 * i))))]) 0 (by omega) (St.le_of id (by simp [-List.getD_eq_getElem?_getD, SYX, iv, Tle, AVle, A0le, Mem.get, btL_nil]) (by simp [-List.getD_eq_getElem?_getD, SYX, Mle, Ele, Mem.get, btL_nil]) (by simp [SYX]) (by simp [SYX])) ?_
  intro i hi
  simp only [↓PX, SX, SYX, EY, simprocAttr, TYX, iL_len, iL_one, iL_mk, iL_app1]
  refine cond_split (fun h0 => ?_) (fun h0 => ?_)
  · have h0 : i < 4 := by
      have : (i : Int) < 4 := by simpa using h0
      omega
    simp only [↓PX, SX, SYX, EY, simprocAttr, TYX, iL_len, iL_one, iL_mk, iL_app1, lb_at h0]
    repeat (first | refine DrawVC.intro (by kernel_rfl) ?_ | refine And.intro (by omega) ?_ | exact trivial)
    refine loop_hav ?_
    simp only [↓PX, SX, SYX, EY, simprocAttr, TYX, iL_len, iL_one, iL_mk, iL_app1]
    refine loop_go mixed (by trivial) (γ := Nat) (fun j => j ≤ 64) (fun j => 64 - j) (fun j => [(3, .o (.r 9 (64 * i + j))), (5, .o (.v (u64 (lb a i / 2 ^ j)))), (6, iv j), (7, .o .any)]) (fun j => [(9, .row 3 1 (64 * i + j) (LC iC (btL a (64 * i + j))))]) 0 (by omega) (St.le_of id (by simp [-List.getD_eq_getElem?_getD, SYX, iv, Tle, AVle, A0le, Mem.get, btL_nil]) (by simp [-List.getD_eq_getElem?_getD, SYX, Mle, Ele, Mem.get, btL_nil]) (by simp [SYX]) (by simp [SYX])) ?_
    intro j hj
    simp only [↓PX, SX, SYX, EY, simprocAttr, TYX, iL_len, iL_one, iL_mk, iL_app1]
    refine cond_split (fun h1 => ?_) (fun h1 => ?_)
    · have h1 : j < 64 := by
        have : (j : Int) < 64 := by simpa using h1
        omega
      simp only [↓PX, SX, SYX, EY, simprocAttr, TYX, iL_len, iL_one, iL_mk, iL_app1, e_q, e_w, bit_at h1, wS (j := j) (by omega)]
      refine ⟨by omega, j + 1, by omega, by omega, (St.le_of (ren [(9, 77)]) (by simp [-List.getD_eq_getElem?_getD, SYX, iv, ren, Tle, AVle, A0le, Mem.get, btL_next, Nat.add_assoc]) (by simp [-List.getD_eq_getElem?_getD, SYX, ren, Mle, Ele, Mem.get, btL_next, Nat.add_assoc]) (by simp [SYX, ren]) (by simp [SYX]))⟩
    · have h1 : j = 64 := by
        have : (64 : Int) ≤ (j : Int) := by simpa using h1
        omega
      subst h1
      simp only [↓PX, SX, SYX, EY, simprocAttr, TYX, iL_len, iL_one, iL_mk, iL_app1]
      exact ⟨i + 1, by omega, by omega, (St.le_of id (by simp [-List.getD_eq_getElem?_getD, SYX, iv, Tle, AVle, A0le, Mem.get, wS (j := i) (by omega), Nat.mul_add, Nat.mul_one]) (by simp [-List.getD_eq_getElem?_getD, SYX, Mle, Ele, Mem.get, wS (j := i) (by omega), Nat.mul_add, Nat.mul_one]) (by simp [SYX]) (by simp [SYX]))⟩
  · have h0 : i = 4 := by
      have : (4 : Int) ≤ (i : Int) := by simpa using h0
      omega
    subst h0
    simp only [↓PX, SX, SYX, EY, simprocAttr, TYX, iL_len, iL_one, iL_mk, iL_app1]
    simp
end Go.Sx
