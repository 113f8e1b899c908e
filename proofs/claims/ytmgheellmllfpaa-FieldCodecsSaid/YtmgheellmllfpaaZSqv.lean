/-
  Walks of the reference: half, halves, Sqrt; Root of both. No conditions.
-/
import Derived.Test.YtmgheellmllfpaaZSqw
namespace Go.Sx
open Go.Proofs Go.Num
-- SY
-- TY: TYX, cellsNV, foldNV
set_option maxRecDepth 100000
set_option linter.unusedSimpArgs false
set_option pp.deepTerms true
set_option pp.maxSteps 100000
theorem half_eq (a : Nat) (ha : a < W256) : E4 (uor (ushr (L0 a) 1) (ushl (L1 a) 63)) (uor (ushr (L1 a) 1) (ushl (L2 a) 63)) (uor (ushr (L2 a) 1) (ushl (L3 a) 63)) (ushr (L3 a) 1) = EN (a / 2) := by
  rw [half_limb _ _ (L0_lt a), half_limb _ _ (L1_lt a), half_limb _ _ (L2_lt a), ushr_eq, sh_1]
  have hs := L_sum ha
  have h0 := L0_lt a
  have h1 := L1_lt a
  have h2 := L2_lt a
  have h3 := L3_lt a
  generalize L0 a = x0 at *
  generalize L1 a = x1 at *
  generalize L2 a = x2 at *
  generalize L3 a = x3 at *
  rw [E4_EN (a := x0 / 2 + x1 % 2 * 9223372036854775808) (by omega) (by omega) (by omega) (by omega)]
  refine congrArg EN ?_
  omega
theorem v_half (a : Nat) (ha : a < W256) : Contract Try.prog 66 [.val (EN a)] [.val (EN (a / 2))] := by
  refine contract_of (N := _) (vars := _) (c := bodyOf Try.f66) Try.func66 (body_eq rfl) rfl rfl (by rfl) mixed _ _ trivial 1000 ?_
  simp only [bodyOf, Try.f66, Option.getD_some, argA, argE, List.length_cons, List.length_nil, Nat.reduceAdd, Nat.reduceSub, List.replicate, List.cons_append, List.nil_append]
  simp only [↓PX, SX, SYX, EY, simprocAttr, TYX, cellsNV, foldNV]
  refine loop_rounds 5 ?_
  refine RoundsVC.step mixed trivial 1000 ?_
  simp only [↓PX, SX, SYX, EY, simprocAttr, TYX, cellsNV, foldNV]
  repeat (first | refine DrawVC.intro (by kernel_rfl) ?_ | refine And.intro (by omega) ?_ | exact trivial)
  refine RoundsVC.step mixed trivial 1000 ?_
  simp only [↓PX, SX, SYX, EY, simprocAttr, TYX, cellsNV, foldNV]
  repeat (first | refine DrawVC.intro (by kernel_rfl) ?_ | refine And.intro (by omega) ?_ | exact trivial)
  refine RoundsVC.step mixed trivial 1000 ?_
  simp only [↓PX, SX, SYX, EY, simprocAttr, TYX, cellsNV, foldNV]
  repeat (first | refine DrawVC.intro (by kernel_rfl) ?_ | refine And.intro (by omega) ?_ | exact trivial)
  refine RoundsVC.step mixed trivial 1000 ?_
  simp only [↓PX, SX, SYX, EY, simprocAttr, TYX, cellsNV, foldNV]
  repeat (first | refine DrawVC.intro (by kernel_rfl) ?_ | refine And.intro (by omega) ?_ | exact trivial)
  refine RoundsVC.step mixed trivial 1000 ?_
  simp only [↓PX, SX, SYX, EY, simprocAttr, TYX, cellsNV, foldNV]
  rw [half_eq a ha]
theorem v_halves (a n : Nat) (ha : a < W256) (hn : n < 9223372036854775807) : Contract Try.prog 67 [.val (EN a), .val (.int .i64 (n : Int))] [.val (EN (a / 2 ^ n))] := by
  refine contract_of (N := _) (vars := _) (c := bodyOf Try.f67) Try.func67 (body_eq rfl) rfl rfl (by rfl) mixed _ _ trivial 1000 ?_
  simp only [bodyOf, Try.f67, Option.getD_some, argA, argE, List.length_cons, List.length_nil, Nat.reduceAdd, Nat.reduceSub, List.replicate, List.cons_append, List.nil_append]
  simp only [↓PX, SX, SYX, EY, simprocAttr, TYX, cellsNV, foldNV]
  refine loop_hav ?_
  simp only [↓PX, SX, SYX, EY, simprocAttr, TYX, cellsNV, foldNV]
  refine loop_go mixed (by trivial) (γ := Nat) (fun i => i ≤ n) (fun i => n - i) (fun i => [(5, iv i)]) (fun i => [(2, .box (eC (a / 2 ^ i)))]) 0 (by omega) (St.le_of id (by simp [-List.getD_eq_getElem?_getD, SYX, iv, Tle, AVle, A0le, Mem.get, eC, Nat.div_one]) (by simp [-List.getD_eq_getElem?_getD, SYX, Mle, Ele, Mem.get, eC, Nat.div_one]) (by simp [SYX]) (by simp [SYX])) ?_
  intro i hi
  have hlt : a / 2 ^ i < W256 := Nat.lt_of_le_of_lt (Nat.div_le_self _ _) ha
  simp only [↓PX, SX, SYX, EY, simprocAttr, TYX, cellsNV, foldNV]
  refine cond_split (fun h0 => ?_) (fun h0 => ?_)
  · have h0 : i < n := by simpa using h0
    simp only [↓PX, SX, SYX, EY, simprocAttr, TYX, cellsNV, foldNV]
    refine CallVC.intro (v_half _ hlt) ⟨rfl, trivial⟩ rfl rfl ?_
    simp only [↓PX, SX, SYX, EY, simprocAttr, TYX, cellsNV, foldNV, wS (j := i) (by omega)]
    exact ⟨i + 1, by omega, by omega, (St.le_of id (by simp [-List.getD_eq_getElem?_getD, SYX, iv, Tle, AVle, A0le, Mem.get, Nat.div_div_eq_div_mul, Nat.pow_succ]) (by simp [-List.getD_eq_getElem?_getD, SYX, Mle, Ele, Mem.get, Nat.div_div_eq_div_mul, Nat.pow_succ]) (by simp [SYX]) (by simp [SYX]))⟩
  · have h0 : i = n := by
      have : n ≤ i := by simpa using h0
      omega
    subst h0
    simp only [↓PX, SX, SYX, EY, simprocAttr, TYX, cellsNV, foldNV]
/-- What the reference's search keeps. -/
structure Vns (s : Int) (a : Nat) (g : Nat × Nat × Nat × Nat) : Prop where
  hi : g.1 ≤ sS s
  x : g.2.1 < md s
  b : g.2.2.1 < md s
  z : g.2.2.2 < md s
  sq : κ (md s) g.2.1 * κ (md s) g.2.1 = κ (md s) a * κ (md s) g.2.2.1
  zo : κ (md s) g.2.2.2 ^ (2 ^ g.1) = -1
  bo : κ (md s) g.2.2.1 ^ (2 ^ g.1) = 1
theorem Vns.start {s : Int} {a : Nat} (G : SqF (md s) (sS s) (qS s) (κ (md s) 5)) (h : κ (md s) a ≠ 0) (hq : SqP s a) : Vns s a (sS s, a ^ ((qS s + 1) / 2) % md s, a ^ qS s % md s, 5 ^ qS s % md s) := by
  refine ⟨Nat.le_refl _, md_mod _ _, md_mod _ _, md_mod _ _, ?_, ?_, ?_⟩ <;> (try dsimp only)
  · rw [κ_mod, κ_mod, κ_pow, κ_pow]; exact G.start _
  · rw [κ_mod, κ_pow]; exact G.z
  · rw [κ_mod, κ_pow]; exact (G.euler h).1 hq
theorem Vns.step0 {s : Int} {a i x b z : Nat} (h0 : 1 ≤ i) (h3 : i ≤ sS s) (hx : x < md s) (hb : b < md s) (i1 : κ (md s) x * κ (md s) x = κ (md s) a * κ (md s) b) (i2 : κ (md s) z ^ (2 ^ i) = -1)
    (h4 : κ (md s) b ^ (2 ^ (i - 1)) = 1) : Vns s a (i - 1, x, b, z * z % md s) := by
  have e : i = i - 1 + 1 := by omega
  refine ⟨by dsimp only; omega, hx, hb, md_mod _ _, i1, ?_, h4⟩
  dsimp only
  rw [κ_mod, κ_mul, ← f_pow_two_succ', ← e]; exact i2
theorem Vns.step1 {s : Int} {a i x b z : Nat} (G : SqF (md s) (sS s) (qS s) (κ (md s) 5)) (h0 : 1 ≤ i) (h3 : i ≤ sS s) (i1 : κ (md s) x * κ (md s) x = κ (md s) a * κ (md s) b) (i2 : κ (md s) z ^ (2 ^ i) = -1)
    (i3 : κ (md s) b ^ (2 ^ i) = 1) (h4 : κ (md s) b ^ (2 ^ (i - 1)) ≠ 1) : Vns s a (i - 1, x * z % md s, b * (z * z % md s) % md s, z * z % md s) := by
  have e : i = i - 1 + 1 := by omega
  have hz : (κ (md s) z * κ (md s) z) ^ (2 ^ (i - 1)) = -1 := by rw [← f_pow_two_succ', ← e]; exact i2
  have hb : κ (md s) b ^ (2 ^ (i - 1)) = -1 := by
    rw [e, f_pow_two_succ] at i3
    exact (f_sq1 G.P i3).resolve_left h4
  refine ⟨by dsimp only; omega, md_mod _ _, md_mod _ _, md_mod _ _, ?_, ?_, ?_⟩ <;> dsimp only
  · rw [κ_mod, κ_mod, κ_mul, κ_mul, κ_mod, κ_mul]; grind
  · rw [κ_mod, κ_mul]; exact hz
  · rw [κ_mod, κ_mul, κ_mod, κ_mul, f_mul_pow, hb, hz]; grind
theorem v_Sqrt (s : Int) (a : Nat) (ha : a < W256) : Contract Try.prog 44 [.val (.int .i64 s), .val (EN a)] [.val (EN (rt s a)), .val (.int .i64 (eQ s a))] := by
  cases srt s with
  | no hk he hm F =>
    have e1 : rt s a = 0 := rt_no hk hm a
    have e2 : eQ s a = 20 := by simp [eQ, hk]
    rw [e1, e2]
    refine contract_of (N := _) (vars := _) (c := bodyOf Try.f44) Try.func44 (body_eq rfl) rfl rfl (by rfl) mixed _ _ trivial 1000 ?_
    simp only [bodyOf, Try.f44, Option.getD_some, argA, argE, List.length_cons, List.length_nil, Nat.reduceAdd, Nat.reduceSub, List.replicate, List.cons_append, List.nil_append]
    simp only [↓PX, SX, SYX, EY, simprocAttr, TYX, cellsNV, foldNV]
    refine CallVC.intro (v_Modulus s) ⟨rfl, trivial⟩ rfl rfl ?_
    simp only [↓PX, SX, SYX, EY, simprocAttr, TYX, cellsNV, foldNV, he]
  | yes hk he sm ng sq F R P h2 =>
    have hmd := md_lt s
    have hw : md s < W256 := by omega
    have e0 : mN s = md s := by simp [mN, hk]
    have e3 : (md s + W256 - 1) % W256 = md s - 1 := sub_of hw (by omega)
    have G := sqf s hk
    by_cases hz : a % md s = 0
    · have e1 : rt s a = 0 := rt_zero hk hz
      have e2 : eQ s a = 0 := by simp [eQ, hk, sq_zero hz]
      rw [e1, e2]
      refine contract_of (N := _) (vars := _) (c := bodyOf Try.f44) Try.func44 (body_eq rfl) rfl rfl (by rfl) mixed _ _ trivial 1000 ?_
      simp only [bodyOf, Try.f44, Option.getD_some, argA, argE, List.length_cons, List.length_nil, Nat.reduceAdd, Nat.reduceSub, List.replicate, List.cons_append, List.nil_append]
      simp only [↓PX, SX, SYX, EY, simprocAttr, TYX, cellsNV, foldNV]
      refine CallVC.intro (v_Modulus s) ⟨rfl, trivial⟩ rfl rfl ?_
      simp only [↓PX, SX, SYX, EY, simprocAttr, TYX, cellsNV, foldNV, he]
      refine CallVC.intro (v_Of s a ha) ⟨rfl, rfl, trivial⟩ rfl rfl ?_
      simp only [↓PX, SX, SYX, EY, simprocAttr, TYX, cellsNV, foldNV, hz]
    · have e4 : eqN (a % md s) 0 = false := by rw [eqN_eq (md_w s a) (by decide)]; simpa using hz
      have hS := adc_S s hk
      have hka : κ (md s) a ≠ 0 := by rw [ne_eq, κ_eq0]; exact hz
      refine contract_of (N := _) (vars := _) (c := bodyOf Try.f44) Try.func44 (body_eq rfl) rfl rfl (by rfl) mixed _ _ trivial 1000 ?_
      simp only [bodyOf, Try.f44, Option.getD_some, argA, argE, List.length_cons, List.length_nil, Nat.reduceAdd, Nat.reduceSub, List.replicate, List.cons_append, List.nil_append]
      simp only [↓PX, SX, SYX, EY, simprocAttr, TYX, cellsNV, foldNV]
      refine CallVC.intro (v_Modulus s) ⟨rfl, trivial⟩ rfl rfl ?_
      simp only [↓PX, SX, SYX, EY, simprocAttr, TYX, cellsNV, foldNV, he, e0]
      refine CallVC.intro (v_Of s a ha) ⟨rfl, rfl, trivial⟩ rfl rfl ?_
      simp only [↓PX, SX, SYX, EY, simprocAttr, TYX, cellsNV, foldNV, e4]
      refine CallVC.intro (c_minus (md s) 1 hw (by decide)) ⟨rfl, rfl, trivial⟩ rfl rfl ?_
      simp only [↓PX, SX, SYX, EY, simprocAttr, TYX, cellsNV, foldNV, e3]
      repeat (first | refine DrawVC.intro (by kernel_rfl) ?_ | refine And.intro (by omega) ?_ | exact trivial)
      refine CallVC.intro (v_half (md s - 1) (by omega)) ⟨rfl, trivial⟩ rfl rfl ?_
      simp only [↓PX, SX, SYX, EY, simprocAttr, TYX, cellsNV, foldNV]
      have hh2 : (md s - 1) / 2 < W256 := by omega
      repeat (first
        | (refine DrawVC.intro (by kernel_rfl) ?_)
        | exact trivial
        | (refine CallVC.intro (v_Exp _ _ _ (by first | assumption | exact md_w _ _ | exact md_w2 (inv_lt _ _) | decide | omega) (by first | assumption | exact md_w _ _ | exact md_w2 (inv_lt _ _) | decide | omega)) ⟨rfl, rfl, rfl, trivial⟩ rfl rfl ?_; simp only [↓PX, SX, SYX, EY, simprocAttr, TYX, cellsNV, foldNV]))
      have hE : (a % md s) ^ ((md s - 1) / 2) % md s = 1 ↔ SqP s a := by
        rw [← Nat.pow_mod, ← κ_eq1 P.1, κ_pow, show (md s - 1) / 2 = qS s * 2 ^ sS s by
          have := G.fac
          rw [Nat.pow_succ, Nat.mul_right_comm] at this
          rw [Nat.mul_comm (qS s)]
          omega, f_pow_mul]
        exact (G.euler hka).symm
      rw [eqN_eq (md_w _ _) (by decide)]
      refine cond_split (fun h0 => ?_) (fun h0 => ?_)
      · have hnq : ¬ SqP s a := by rw [← hE]; simpa using h0
        have e2 : eQ s a = 22 := by simp only [eQ, hk, hnq, if_true, if_false]
        rw [e2, rt_none hnq]
        simp only [↓PX, SX, SYX, EY, simprocAttr, TYX, cellsNV, foldNV]
      · have hsq : SqP s a := by rw [← hE]; simpa using h0
        have e2 : eQ s a = 0 := by simp only [eQ, hk, hsq, if_true]
        rw [e2]
        simp only [↓PX, SX, SYX, EY, simprocAttr, TYX, cellsNV, foldNV]
        have hq : (md s - 1) / 2 ^ (sS s + 1) = qS s := rfl
        have hs31 : sS s ≤ 31 := by unfold sS; split <;> (try split) <;> omega
        have hqlt : qS s < md s := by have := Nat.div_le_self (md s - 1) (2 ^ (sS s + 1)); unfold qS; omega
        have hqw : qS s < W256 := by omega
        have h5w : (5 : Nat) < W256 := by decide
        have e5 : (qS s + 1) % W256 = qS s + 1 := Nat.mod_eq_of_lt (by omega)
        refine CallVC.intro (v_Adicity s) ⟨rfl, trivial⟩ rfl rfl ?_
        simp only [↓PX, SX, SYX, EY, simprocAttr, TYX, cellsNV, foldNV, he, hS, hq]
        refine CallVC.intro (v_halves (md s - 1) (sS s + 1) (by omega) (by omega)) ⟨rfl, rfl, trivial⟩ rfl rfl ?_
        simp only [↓PX, SX, SYX, EY, simprocAttr, TYX, cellsNV, foldNV, hq]
        repeat (first | refine DrawVC.intro (by kernel_rfl) ?_ | refine And.intro (by omega) ?_ | exact trivial)
        refine CallVC.intro (c_plus (qS s) 1 hqw (by decide)) ⟨rfl, rfl, trivial⟩ rfl rfl ?_
        simp only [↓PX, SX, SYX, EY, simprocAttr, TYX, cellsNV, foldNV, e5]
        refine CallVC.intro (v_half (qS s + 1) (by omega)) ⟨rfl, trivial⟩ rfl rfl ?_
        simp only [↓PX, SX, SYX, EY, simprocAttr, TYX, cellsNV, foldNV]
        have hq2 : (qS s + 1) / 2 < W256 := by omega
        repeat (first
          | (refine DrawVC.intro (by kernel_rfl) ?_)
          | exact trivial
          | (refine CallVC.intro (v_Exp _ _ _ (by first | assumption | exact md_w _ _ | exact md_w2 (inv_lt _ _) | decide | omega) (by first | assumption | exact md_w _ _ | exact md_w2 (inv_lt _ _) | decide | omega)) ⟨rfl, rfl, rfl, trivial⟩ rfl rfl ?_; simp only [↓PX, SX, SYX, EY, simprocAttr, TYX, cellsNV, foldNV]))
        have w0 : IntKind.i64.wrap (((sS s + 1 : Nat) : Int) - 1) = ((sS s : Nat) : Int) := by rw [wI (by omega) (by omega)]; omega
        have w0' : IntKind.i64.wrap ((sS s : Nat) : Int) = ((sS s : Nat) : Int) := wN (by omega)
        refine loop_hav ?_
        simp only [↓PX, SX, SYX, EY, simprocAttr, TYX, cellsNV, foldNV]
        refine loop_go mixed (by trivial) (γ := Nat × Nat × Nat × Nat) (Vns s a) (fun g => g.1) (fun g => [(17, iv g.1)]) (fun g => [(230, .box (eC g.2.1)), (254, .box (eC g.2.2.1)), (278, .box (eC g.2.2.2))])
          (sS s, a ^ ((qS s + 1) / 2) % md s, a ^ qS s % md s, 5 ^ qS s % md s) (Vns.start G hka hsq) (St.le_of id (by simp [-List.getD_eq_getElem?_getD, SYX, iv, Tle, AVle, A0le, Mem.get, eC, w0, w0', ← Nat.pow_mod]) (by simp [-List.getD_eq_getElem?_getD, SYX, Mle, Ele, Mem.get, eC, w0, w0', ← Nat.pow_mod]) (by simp [SYX]) (by simp [SYX])) ?_
        rintro ⟨i, x, b, z⟩ ⟨h3, hx, hb, hzz, i1, i2, i3⟩
        dsimp only at h3 hx hb hzz i1 i2 i3
        have hxw := md_w2 hx
        have hbw := md_w2 hb
        have hzw := md_w2 hzz
        simp only [↓PX, SX, SYX, EY, simprocAttr, TYX, cellsNV, foldNV]
        refine cond_split (fun h0 => ?_) (fun h0 => ?_)
        · have h0 : 1 ≤ i := by have : (1 : Int) ≤ (i : Int) := (by simpa using h0)
                                omega
          simp only [↓PX, SX, SYX, EY, simprocAttr, TYX, cellsNV, foldNV]
          refine loop_hav ?_
          simp only [↓PX, SX, SYX, EY, simprocAttr, TYX, cellsNV, foldNV]
          refine loop_go mixed (by trivial) (γ := Nat) (fun j => j + 1 ≤ i) (fun j => i - j) (fun j => [(19, .o (.v (.int .i64 ((j : Int) + 1))))]) (fun j => [(310, .box (eC (b ^ (2 ^ j) % md s)))]) 0 (by omega)
            (St.le_of id (by simp [-List.getD_eq_getElem?_getD, SYX, iv, Tle, AVle, A0le, Mem.get, eC, Nat.mod_eq_of_lt hb]) (by simp [-List.getD_eq_getElem?_getD, SYX, Mle, Ele, Mem.get, eC, Nat.mod_eq_of_lt hb]) (by simp [SYX]) (by simp [SYX])) ?_
          intro j hj
          simp only [↓PX, SX, SYX, EY, simprocAttr, TYX, cellsNV, foldNV]
          refine cond_split (fun h5 => ?_) (fun h5 => ?_)
          · have h5 : j + 1 < i := by have : (j : Int) + 1 < (i : Int) := (by simpa using h5)
                                      omega
            have w1 : IntKind.i64.wrap ((j : Int) + 1 + 1) = ((j + 1 : Nat) : Int) + 1 := by rw [wI (by omega) (by omega)]; omega
            simp only [↓PX, SX, SYX, EY, simprocAttr, TYX, cellsNV, foldNV]
            refine CallVC.intro (v_Mul s (b ^ 2 ^ j % md s) (b ^ 2 ^ j % md s) (md_w _ _) (md_w _ _)) ⟨rfl, rfl, rfl, trivial⟩ rfl rfl ?_
            simp only [↓PX, SX, SYX, EY, simprocAttr, TYX, cellsNV, foldNV, w1]
            have e7 : (b ^ 2 ^ j % md s) * (b ^ 2 ^ j % md s) % md s = b ^ 2 ^ (j + 1) % md s := by rw [← Nat.mul_mod, Nat.pow_succ, Nat.mul_two, Nat.pow_add]
            have e9 : b ^ 2 ^ j * b ^ 2 ^ j % md s = b ^ 2 ^ (j + 1) % md s := by rw [Nat.pow_succ 2, Nat.mul_two, Nat.pow_add]
            exact ⟨j + 1, by omega, by omega, (St.le_of id (by simp [-List.getD_eq_getElem?_getD, SYX, iv, Tle, AVle, A0le, Mem.get, e7, e9]) (by simp [-List.getD_eq_getElem?_getD, SYX, Mle, Ele, Mem.get, e7, e9]) (by simp [SYX]) (by simp [SYX]))⟩
          · have h5 : j = i - 1 := by have : (i : Int) ≤ (j : Int) + 1 := (by simpa using h5)
                                      omega
            subst h5
            have hp1 : b ^ 2 ^ (i - 1) % md s = 1 ↔ κ (md s) b ^ (2 ^ (i - 1)) = 1 := by rw [← κ_pow, κ_eq1 P.1]
            have w2 : IntKind.i64.wrap ((i : Int) - 1) = ((i - 1 : Nat) : Int) := by rw [wI (by omega) (by omega)]; omega
            simp only [↓PX, SX, SYX, EY, simprocAttr, TYX, cellsNV, foldNV]
            rw [eqN_eq (md_w _ _) (by decide)]
            refine cond_split (fun h4 => ?_) (fun h4 => ?_)
            · have h4 : κ (md s) b ^ (2 ^ (i - 1)) ≠ 1 := by rw [ne_eq, ← hp1]; simpa using h4
              simp only [↓PX, SX, SYX, EY, simprocAttr, TYX, cellsNV, foldNV]
              refine CallVC.intro (v_Mul s x z hxw hzw) ⟨rfl, rfl, rfl, trivial⟩ rfl rfl ?_
              simp only [↓PX, SX, SYX, EY, simprocAttr, TYX, cellsNV, foldNV]
              repeat (first | refine DrawVC.intro (by kernel_rfl) ?_ | refine And.intro (by omega) ?_ | exact trivial)
              refine CallVC.intro (v_Mul s z z hzw hzw) ⟨rfl, rfl, rfl, trivial⟩ rfl rfl ?_
              simp only [↓PX, SX, SYX, EY, simprocAttr, TYX, cellsNV, foldNV]
              refine CallVC.intro (v_Mul s b (z * z % md s) hbw (md_w _ _)) ⟨rfl, rfl, rfl, trivial⟩ rfl rfl ?_
              simp only [↓PX, SX, SYX, EY, simprocAttr, TYX, cellsNV, foldNV]
              refine CallVC.intro (v_Mul s z z hzw hzw) ⟨rfl, rfl, rfl, trivial⟩ rfl rfl ?_
              simp only [↓PX, SX, SYX, EY, simprocAttr, TYX, cellsNV, foldNV, w2]
              exact ⟨(i - 1, x * z % md s, b * (z * z % md s) % md s, z * z % md s), Vns.step1 G h0 h3 i1 i2 i3 h4, by dsimp only; omega, (St.le_of id (by simp [-List.getD_eq_getElem?_getD, SYX, iv, Tle, AVle, A0le, Mem.get, w2]) (by simp [-List.getD_eq_getElem?_getD, SYX, Mle, Ele, Mem.get, w2]) (by simp [SYX]) (by simp [SYX]))⟩
            · have h4 : κ (md s) b ^ (2 ^ (i - 1)) = 1 := by rw [← hp1]; simpa using h4
              simp only [↓PX, SX, SYX, EY, simprocAttr, TYX, cellsNV, foldNV]
              refine CallVC.intro (v_Mul s z z hzw hzw) ⟨rfl, rfl, rfl, trivial⟩ rfl rfl ?_
              simp only [↓PX, SX, SYX, EY, simprocAttr, TYX, cellsNV, foldNV, w2]
              exact ⟨(i - 1, x, b, z * z % md s), Vns.step0 h0 h3 hx hb i1 i2 h4, by dsimp only; omega, (St.le_of id (by simp [-List.getD_eq_getElem?_getD, SYX, iv, Tle, AVle, A0le, Mem.get, w2]) (by simp [-List.getD_eq_getElem?_getD, SYX, Mle, Ele, Mem.get, w2]) (by simp [SYX]) (by simp [SYX]))⟩
        · have h0 : i = 0 := by have : (i : Int) < 1 := (by simpa using h0)
                                omega
          subst h0
          rw [Nat.pow_zero, f_pow_one] at i3
          rw [i3] at i1
          have i1 : κ (md s) x * κ (md s) x = κ (md s) a := by grind
          simp only [↓PX, SX, SYX, EY, simprocAttr, TYX, cellsNV, foldNV]
          refine cond_split (fun h0 => ?_) (fun h0 => ?_)
          · have h0 : x % 2 = 1 := by rw [← L0_odd, ← urem_eq]; simpa using h0
            rw [rt_neg hk hx i1 h0]
            simp only [↓PX, SX, SYX, EY, simprocAttr, TYX, cellsNV, foldNV]
            refine CallVC.intro (v_Neg s x hxw) ⟨rfl, rfl, trivial⟩ rfl rfl ?_
            simp only [↓PX, SX, SYX, EY, simprocAttr, TYX, cellsNV, foldNV]
          · have h0 : x % 2 = 0 := by
              have : urem (L0 x) 2 ≠ 1 := by simpa using h0
              rw [urem_eq, L0_odd] at this; omega
            rw [rt_of hk hx i1 h0]
            simp only [↓PX, SX, SYX, EY, simprocAttr, TYX, cellsNV, foldNV]
end Go.Sx
