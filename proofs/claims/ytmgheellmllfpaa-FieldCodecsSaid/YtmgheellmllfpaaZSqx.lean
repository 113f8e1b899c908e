/-
  Root of both; the laws FieldRoots and FieldSquares. No conditions.
-/
import Derived.Test.YtmgheellmllfpaaZSqv
namespace Go.Sx
open Go.Proofs Go.Num
-- SY
-- TY: TYX, cellsNV, foldNV
set_option maxRecDepth 100000
set_option linter.unusedSimpArgs false
set_option pp.deepTerms true
set_option pp.maxSteps 100000
/-- Is there a root of the order 2^k? -/
def rkO (s k : Int) : Prop := 0 ≤ k ∧ k ≤ adc s
instance (s k : Int) : Decidable (rkO s k) := by unfold rkO; infer_instance
def rk (s k : Int) : Nat := if kn s = true ∧ rkO s k then 5 ^ ((md s - 1) / 2 ^ k.toNat) % md s else 0
def eR (s k : Int) : Int := if kn s then (if rkO s k then 0 else 60) else 20
theorem rk_w (s k : Int) : rk s k < md s := by unfold rk; split; exact md_mod _ _; exact md_pos s
theorem u_Root (s k : Int) : Contract Try.prog 43 [.val (.int .i64 s), .val (.int .i64 k)] [.val (EN (rk s k)), .val (.int .i64 (eR s k))] := by
  cases srt s with
  | no hk he hm F =>
    have e1 : rk s k = 0 := by simp [rk, hk]
    have e2 : eR s k = 20 := by simp [eR, hk]
    rw [e1, e2]
    refine contract_of (N := _) (vars := _) (c := bodyOf Try.f43) Try.func43 (body_eq rfl) rfl rfl (by rfl) mixed _ _ trivial 1000 ?_
    simp only [bodyOf, Try.f43, Option.getD_some, argA, argE, List.length_cons, List.length_nil, Nat.reduceAdd, Nat.reduceSub, List.replicate, List.cons_append, List.nil_append]
    simp only [↓PX, SX, SYX, EY, simprocAttr, TYX, cellsNV, foldNV]
    refine CallVC.intro (F.of) ⟨rfl, trivial⟩ rfl rfl ?_
    simp only [↓PX, SX, SYX, EY, simprocAttr, TYX, cellsNV, foldNV, he]
  | yes hk he sm ng sq F R P h2 =>
    by_cases h0 : k < 0
    · have hn : ¬ rkO s k := by unfold rkO; omega
      have e1 : rk s k = 0 := by simp [rk, hn]
      have e2 : eR s k = 60 := by simp [eR, hk, hn]
      have d1 : decide (k < 0) = true := by simpa using h0
      rw [e1, e2]
      refine contract_of (N := _) (vars := _) (c := bodyOf Try.f43) Try.func43 (body_eq rfl) rfl rfl (by rfl) mixed _ _ trivial 1000 ?_
      simp only [bodyOf, Try.f43, Option.getD_some, argA, argE, List.length_cons, List.length_nil, Nat.reduceAdd, Nat.reduceSub, List.replicate, List.cons_append, List.nil_append]
      simp only [↓PX, SX, SYX, EY, simprocAttr, TYX, cellsNV, foldNV]
      refine CallVC.intro (F.of) ⟨rfl, trivial⟩ rfl rfl ?_
      simp only [↓PX, SX, SYX, EY, simprocAttr, TYX, cellsNV, foldNV, he, d1]
    · have d1 : decide (k < 0) = false := by simpa using h0
      by_cases h1 : adc s < k
      · have hn : ¬ rkO s k := by unfold rkO; omega
        have e1 : rk s k = 0 := by simp [rk, hn]
        have e2 : eR s k = 60 := by simp [eR, hk, hn]
        have d2 : decide (adc s < k) = true := by simpa using h1
        rw [e1, e2]
        refine contract_of (N := _) (vars := _) (c := bodyOf Try.f43) Try.func43 (body_eq rfl) rfl rfl (by rfl) mixed _ _ trivial 1000 ?_
        simp only [bodyOf, Try.f43, Option.getD_some, argA, argE, List.length_cons, List.length_nil, Nat.reduceAdd, Nat.reduceSub, List.replicate, List.cons_append, List.nil_append]
        simp only [↓PX, SX, SYX, EY, simprocAttr, TYX, cellsNV, foldNV]
        refine CallVC.intro (F.of) ⟨rfl, trivial⟩ rfl rfl ?_
        simp only [↓PX, SX, SYX, EY, simprocAttr, TYX, cellsNV, foldNV, he, d1, d2]
      · have d2 : decide (adc s < k) = false := by simpa using h1
        have hn : rkO s k := by unfold rkO; omega
        have e1 : rk s k = 5 ^ ((md s - 1) / 2 ^ k.toNat) % md s := by simp [rk, hk, hn]
        have e2 : eR s k = 0 := by simp [eR, hk, hn]
        have hw : md s < W256 := by have := md_lt s; omega
        have e3 : (md s + W256 - 1) % W256 = md s - 1 := sub_of hw (by omega)
        obtain ⟨j, hj⟩ : ∃ j : Nat, k = (j : Int) := ⟨k.toNat, by omega⟩
        have hj32 : j ≤ 32 := by
          have := adc_S s hk
          have hs31 : sS s ≤ 31 := by unfold sS; split <;> (try split) <;> omega
          omega
        subst hj
        rw [e1, e2]
        have hdl := Nat.div_le_self (md s - 1) (2 ^ j)
        have hdw : (md s - 1) / 2 ^ j < W256 := by omega
        have h5 : (5 : Nat) < W256 := by decide
        refine contract_of (N := _) (vars := _) (c := bodyOf Try.f43) Try.func43 (body_eq rfl) rfl rfl (by rfl) mixed _ _ trivial 1000 ?_
        simp only [bodyOf, Try.f43, Option.getD_some, argA, argE, List.length_cons, List.length_nil, Nat.reduceAdd, Nat.reduceSub, List.replicate, List.cons_append, List.nil_append]
        simp only [↓PX, SX, SYX, EY, simprocAttr, TYX, cellsNV, foldNV]
        refine CallVC.intro (F.of) ⟨rfl, trivial⟩ rfl rfl ?_
        simp only [↓PX, SX, SYX, EY, simprocAttr, TYX, cellsNV, foldNV, he, d1, d2]
        refine CallVC.intro (c_word_sub (md s) 1 hw (by decide)) ⟨rfl, rfl, trivial⟩ rfl rfl ?_
        simp only [↓PX, SX, SYX, EY, simprocAttr, TYX, cellsNV, foldNV, e3]
        repeat (first | refine DrawVC.intro (by kernel_rfl) ?_ | refine And.intro (by omega) ?_ | exact trivial)
        refine CallVC.intro (c_halves (md s - 1) j (by omega) (by omega)) ⟨rfl, rfl, trivial⟩ rfl rfl ?_
        simp only [↓PX, SX, SYX, EY, simprocAttr, TYX, cellsNV, foldNV]
        repeat (first
          | (refine DrawVC.intro (by kernel_rfl) ?_)
          | exact trivial
          | (refine CallVC.intro (u_Exp _ _ _ (by first | assumption | exact md_w _ _ | exact md_w2 (inv_lt _ _) | decide | omega) (by first | assumption | exact md_w _ _ | exact md_w2 (inv_lt _ _) | decide | omega)) ⟨rfl, rfl, rfl, trivial⟩ rfl rfl ?_; simp only [↓PX, SX, SYX, EY, simprocAttr, TYX, cellsNV, foldNV, Int.toNat_natCast]))
theorem v_Root (s k : Int) : Contract Try.prog 45 [.val (.int .i64 s), .val (.int .i64 k)] [.val (EN (rk s k)), .val (.int .i64 (eR s k))] := by
  cases srt s with
  | no hk he hm F =>
    have e1 : rk s k = 0 := by simp [rk, hk]
    have e2 : eR s k = 20 := by simp [eR, hk]
    rw [e1, e2]
    refine contract_of (N := _) (vars := _) (c := bodyOf Try.f45) Try.func45 (body_eq rfl) rfl rfl (by rfl) mixed _ _ trivial 1000 ?_
    simp only [bodyOf, Try.f45, Option.getD_some, argA, argE, List.length_cons, List.length_nil, Nat.reduceAdd, Nat.reduceSub, List.replicate, List.cons_append, List.nil_append]
    simp only [↓PX, SX, SYX, EY, simprocAttr, TYX, cellsNV, foldNV]
    refine CallVC.intro (v_Adicity s) ⟨rfl, trivial⟩ rfl rfl ?_
    simp only [↓PX, SX, SYX, EY, simprocAttr, TYX, cellsNV, foldNV, he]
  | yes hk he sm ng sq F R P h2 =>
    by_cases h0 : k < 0
    · have hn : ¬ rkO s k := by unfold rkO; omega
      have e1 : rk s k = 0 := by simp [rk, hn]
      have e2 : eR s k = 60 := by simp [eR, hk, hn]
      have d1 : decide (k < 0) = true := by simpa using h0
      rw [e1, e2]
      refine contract_of (N := _) (vars := _) (c := bodyOf Try.f45) Try.func45 (body_eq rfl) rfl rfl (by rfl) mixed _ _ trivial 1000 ?_
      simp only [bodyOf, Try.f45, Option.getD_some, argA, argE, List.length_cons, List.length_nil, Nat.reduceAdd, Nat.reduceSub, List.replicate, List.cons_append, List.nil_append]
      simp only [↓PX, SX, SYX, EY, simprocAttr, TYX, cellsNV, foldNV]
      refine CallVC.intro (v_Adicity s) ⟨rfl, trivial⟩ rfl rfl ?_
      simp only [↓PX, SX, SYX, EY, simprocAttr, TYX, cellsNV, foldNV, he, d1]
    · have d1 : decide (k < 0) = false := by simpa using h0
      by_cases h1 : adc s < k
      · have hn : ¬ rkO s k := by unfold rkO; omega
        have e1 : rk s k = 0 := by simp [rk, hn]
        have e2 : eR s k = 60 := by simp [eR, hk, hn]
        have d2 : decide (adc s < k) = true := by simpa using h1
        rw [e1, e2]
        refine contract_of (N := _) (vars := _) (c := bodyOf Try.f45) Try.func45 (body_eq rfl) rfl rfl (by rfl) mixed _ _ trivial 1000 ?_
        simp only [bodyOf, Try.f45, Option.getD_some, argA, argE, List.length_cons, List.length_nil, Nat.reduceAdd, Nat.reduceSub, List.replicate, List.cons_append, List.nil_append]
        simp only [↓PX, SX, SYX, EY, simprocAttr, TYX, cellsNV, foldNV]
        refine CallVC.intro (v_Adicity s) ⟨rfl, trivial⟩ rfl rfl ?_
        simp only [↓PX, SX, SYX, EY, simprocAttr, TYX, cellsNV, foldNV, he, d1, d2]
      · have d2 : decide (adc s < k) = false := by simpa using h1
        have hn : rkO s k := by unfold rkO; omega
        have e1 : rk s k = 5 ^ ((md s - 1) / 2 ^ k.toNat) % md s := by simp [rk, hk, hn]
        have e2 : eR s k = 0 := by simp [eR, hk, hn]
        have hw : md s < W256 := by have := md_lt s; omega
        have e0 : mN s = md s := by simp [mN, hk]
        have e3 : (md s + W256 - 1) % W256 = md s - 1 := sub_of hw (by omega)
        obtain ⟨j, hj⟩ : ∃ j : Nat, k = (j : Int) := ⟨k.toNat, by omega⟩
        have hj32 : j ≤ 32 := by
          have := adc_S s hk
          have hs31 : sS s ≤ 31 := by unfold sS; split <;> (try split) <;> omega
          omega
        subst hj
        rw [e1, e2]
        have hdl := Nat.div_le_self (md s - 1) (2 ^ j)
        have hdw : (md s - 1) / 2 ^ j < W256 := by omega
        have h5 : (5 : Nat) < W256 := by decide
        refine contract_of (N := _) (vars := _) (c := bodyOf Try.f45) Try.func45 (body_eq rfl) rfl rfl (by rfl) mixed _ _ trivial 1000 ?_
        simp only [bodyOf, Try.f45, Option.getD_some, argA, argE, List.length_cons, List.length_nil, Nat.reduceAdd, Nat.reduceSub, List.replicate, List.cons_append, List.nil_append]
        simp only [↓PX, SX, SYX, EY, simprocAttr, TYX, cellsNV, foldNV]
        refine CallVC.intro (v_Adicity s) ⟨rfl, trivial⟩ rfl rfl ?_
        simp only [↓PX, SX, SYX, EY, simprocAttr, TYX, cellsNV, foldNV, he, d1, d2]
        refine CallVC.intro (v_Modulus s) ⟨rfl, trivial⟩ rfl rfl ?_
        simp only [↓PX, SX, SYX, EY, simprocAttr, TYX, cellsNV, foldNV, he, e0]
        repeat (first | refine DrawVC.intro (by kernel_rfl) ?_ | refine And.intro (by omega) ?_ | exact trivial)
        refine CallVC.intro (c_minus (md s) 1 hw (by decide)) ⟨rfl, rfl, trivial⟩ rfl rfl ?_
        simp only [↓PX, SX, SYX, EY, simprocAttr, TYX, cellsNV, foldNV, e3]
        repeat (first | refine DrawVC.intro (by kernel_rfl) ?_ | refine And.intro (by omega) ?_ | exact trivial)
        refine CallVC.intro (v_halves (md s - 1) j (by omega) (by omega)) ⟨rfl, rfl, trivial⟩ rfl rfl ?_
        simp only [↓PX, SX, SYX, EY, simprocAttr, TYX, cellsNV, foldNV]
        repeat (first
          | (refine DrawVC.intro (by kernel_rfl) ?_)
          | exact trivial
          | (refine CallVC.intro (v_Exp _ _ _ (by first | assumption | exact md_w _ _ | exact md_w2 (inv_lt _ _) | decide | omega) (by first | assumption | exact md_w _ _ | exact md_w2 (inv_lt _ _) | decide | omega)) ⟨rfl, rfl, rfl, trivial⟩ rfl rfl ?_; simp only [↓PX, SX, SYX, EY, simprocAttr, TYX, cellsNV, foldNV, Int.toNat_natCast]))
theorem c_roots (s : Int) (a : Nat) (k : Int) (ha : a < W256) : Contract Try.prog 10 [.val (.int .i64 s), .val (EN a), .val (.int .i64 k)] [.val (.bool true)] := by
  refine contract_of (N := _) (vars := _) (c := bodyOf Try.f10) Try.func10 (body_eq rfl) rfl rfl (by rfl) mixed _ _ trivial 1000 ?_
  simp only [bodyOf, Try.f10, Option.getD_some, argA, argE, List.length_cons, List.length_nil, Nat.reduceAdd, Nat.reduceSub, List.replicate, List.cons_append, List.nil_append]
  simp only [↓PX, SX, SYX, EY, simprocAttr, TYX, cellsNV, foldNV]
  repeat (first
    | (refine DrawVC.intro (by kernel_rfl) ?_)
    | exact trivial
    | (refine CallVC.intro (c_alive) trivial rfl rfl ?_; simp only [↓PX, SX, SYX, EY, simprocAttr, TYX, cellsNV, foldNV])
    | (refine CallVC.intro (u_Sqrt _ _ (by first | assumption | exact md_w _ _ | exact md_w2 (inv_lt _ _) | decide | omega)) ⟨rfl, rfl, trivial⟩ rfl rfl ?_; simp only [↓PX, SX, SYX, EY, simprocAttr, TYX, cellsNV, foldNV])
    | (refine CallVC.intro (v_Sqrt _ _ (by first | assumption | exact md_w _ _ | exact md_w2 (inv_lt _ _) | decide | omega)) ⟨rfl, rfl, trivial⟩ rfl rfl ?_; simp only [↓PX, SX, SYX, EY, simprocAttr, TYX, cellsNV, foldNV])
    | (refine CallVC.intro (u_Root _ _) ⟨rfl, rfl, trivial⟩ rfl rfl ?_; simp only [↓PX, SX, SYX, EY, simprocAttr, TYX, cellsNV, foldNV])
    | (refine CallVC.intro (v_Root _ _) ⟨rfl, rfl, trivial⟩ rfl rfl ?_; simp only [↓PX, SX, SYX, EY, simprocAttr, TYX, cellsNV, foldNV]))
theorem c_squares (s : Int) (a : Nat) (ha : a < W256) : Contract Try.prog 8 [.val (.int .i64 s), .val (EN a)] [.val (.bool true)] := by
  have h5 : (5 : Nat) < W256 := by decide
  cases srt s with
  | no hk he hm F R ha' h =>
    have hs : decide (s < 0) = true ∨ decide (s < 0) = false ∧ decide (3 < s) = true := by simp only [decide_eq_true_eq, decide_eq_false_iff_not]; omega
    rcases hs with h1 | ⟨h1, h2⟩
    · refine contract_of (N := _) (vars := _) (c := bodyOf Try.f8) Try.func8 (body_eq rfl) rfl rfl (by rfl) mixed _ _ trivial 1000 ?_
      simp only [bodyOf, Try.f8, Option.getD_some, argA, argE, List.length_cons, List.length_nil, Nat.reduceAdd, Nat.reduceSub, List.replicate, List.cons_append, List.nil_append]
      simp only [↓PX, SX, SYX, EY, simprocAttr, TYX, cellsNV, foldNV]
      repeat (first
        | (refine DrawVC.intro (by kernel_rfl) ?_)
        | exact trivial
        | (refine CallVC.intro (c_alive) trivial rfl rfl ?_; simp only [↓PX, SX, SYX, EY, simprocAttr, TYX, cellsNV, foldNV, h1]))
    · refine contract_of (N := _) (vars := _) (c := bodyOf Try.f8) Try.func8 (body_eq rfl) rfl rfl (by rfl) mixed _ _ trivial 1000 ?_
      simp only [bodyOf, Try.f8, Option.getD_some, argA, argE, List.length_cons, List.length_nil, Nat.reduceAdd, Nat.reduceSub, List.replicate, List.cons_append, List.nil_append]
      simp only [↓PX, SX, SYX, EY, simprocAttr, TYX, cellsNV, foldNV]
      repeat (first
        | (refine DrawVC.intro (by kernel_rfl) ?_)
        | exact trivial
        | (refine CallVC.intro (c_alive) trivial rfl rfl ?_; simp only [↓PX, SX, SYX, EY, simprocAttr, TYX, cellsNV, foldNV, h1, h2]))
  | yes hk he sm ng sq F R P h2 =>
    have hs := kn_or s hk
    have d1 : decide (s < 0) = false := by simp; omega
    have d2 : decide (3 < s) = false := by simp; omega
    have hr := rt_lt s
    have hrw : ∀ x, rt s x < W256 := fun x => md_w2 (hr x)
    by_cases hz : a % md s = 0
    · have z1 : (a * 5) % md s = 0 := by rw [Nat.mul_mod, hz, Nat.zero_mul, Nat.zero_mod]
      have e1 : rt s a = 0 := rt_zero hk hz
      have e2 : eQ s a = 0 := by simp [eQ, hk, sq_zero hz]
      have e3 : rt s (a * 5 % md s) = 0 := rt_zero hk (by rw [Nat.mod_mod]; exact z1)
      have e4 : eQ s (a * 5 % md s) = 0 := by simp [eQ, hk, sq_zero (s := s) (a := a * 5 % md s) (by rw [Nat.mod_mod]; exact z1)]
      refine contract_of (N := _) (vars := _) (c := bodyOf Try.f8) Try.func8 (body_eq rfl) rfl rfl (by rfl) mixed _ _ trivial 1000 ?_
      simp only [bodyOf, Try.f8, Option.getD_some, argA, argE, List.length_cons, List.length_nil, Nat.reduceAdd, Nat.reduceSub, List.replicate, List.cons_append, List.nil_append]
      simp only [↓PX, SX, SYX, EY, simprocAttr, TYX, cellsNV, foldNV]
      repeat (first
        | (refine DrawVC.intro (by kernel_rfl) ?_)
        | exact trivial
        | (refine CallVC.intro (c_alive) trivial rfl rfl ?_; simp only [↓PX, SX, SYX, EY, simprocAttr, TYX, cellsNV, foldNV, d1, d2, e1, e2, e3, e4, hz, Nat.add_zero])
        | (refine CallVC.intro (u_Sqrt _ _ (by first | assumption | exact md_w _ _ | exact md_w2 (inv_lt _ _) | decide | omega)) ⟨rfl, rfl, trivial⟩ rfl rfl ?_; simp only [↓PX, SX, SYX, EY, simprocAttr, TYX, cellsNV, foldNV, d1, d2, e1, e2, e3, e4, hz, Nat.add_zero])
        | (refine CallVC.intro (u_Mul _ _ _ (by first | assumption | exact md_w _ _ | exact md_w2 (inv_lt _ _) | decide | omega) (by first | assumption | exact md_w _ _ | exact md_w2 (inv_lt _ _) | decide | omega)) ⟨rfl, rfl, rfl, trivial⟩ rfl rfl ?_; simp only [↓PX, SX, SYX, EY, simprocAttr, TYX, cellsNV, foldNV, d1, d2, e1, e2, e3, e4, hz, Nat.add_zero])
        | (refine CallVC.intro (u_Add _ _ _ (by first | assumption | exact md_w _ _ | exact md_w2 (inv_lt _ _) | decide | omega) (by first | assumption | exact md_w _ _ | exact md_w2 (inv_lt _ _) | decide | omega)) ⟨rfl, rfl, rfl, trivial⟩ rfl rfl ?_; simp only [↓PX, SX, SYX, EY, simprocAttr, TYX, cellsNV, foldNV, d1, d2, e1, e2, e3, e4, hz, Nat.add_zero]))
    · have G := sqf s hk
      have hka : κ (md s) a ≠ 0 := by rw [ne_eq, κ_eq0]; exact hz
      have h5n : κ (md s) 5 ≠ 0 := by
        intro h0
        have h1 := G.gen
        have hp : 0 < 2 ^ sS s * qS s := Nat.mul_pos (Nat.pos_of_ne_zero (by simp)) (by have := G.qodd; omega)
        obtain ⟨n, hn⟩ : ∃ n, 2 ^ sS s * qS s = n + 1 := ⟨_, (Nat.succ_pred_eq_of_pos hp).symm⟩
        rw [h0, hn, f_pow_succ] at h1
        have := f_one_ne G.P
        grind
      have hk5 : κ (md s) (a * 5 % md s) = κ (md s) a * κ (md s) 5 := by rw [κ_mod, κ_mul]
      have hk5n : κ (md s) (a * 5 % md s) ≠ 0 := by
        rw [hk5]
        intro h0
        rcases f_nzd P h0 with h1 | h1
        · exact hka h1
        · exact h5n h1
      have hfive : SqP s (a * 5 % md s) ↔ ¬ SqP s a := by
        have h1 := G.euler hk5n
        have h2 := G.euler hka
        have h3 := G.five hka
        rw [hk5] at h1
        unfold SqP
        rw [hk5, h1, h2, h3]
      have w1 := hrw a
      have w2 := hrw (a * 5 % md s)
      have e0 : eqN (a % md s) 0 = false := by rw [eqN_eq (md_w _ _) (by decide)]; simpa using hz
      by_cases hq : SqP s a
      · have hn5 : ¬ SqP s (a * 5 % md s) := by rw [hfive]; exact fun h => h hq
        obtain ⟨q1, q2⟩ := rt_sq hk hq
        have e1 : rt s a * rt s a % md s = a % md s := sq_val.2 q1
        have e2 : eQ s a = 0 := by simp only [eQ, hk, hq, if_true]
        have e4 : eQ s (a * 5 % md s) = 22 := by simp only [eQ, hk, hn5, if_true, if_false]
        have e5 : urem (L0 (rt s a)) 2 = 0 := by rw [urem_eq, L0_odd]; exact q2
        refine contract_of (N := _) (vars := _) (c := bodyOf Try.f8) Try.func8 (body_eq rfl) rfl rfl (by rfl) mixed _ _ trivial 1000 ?_
        simp only [bodyOf, Try.f8, Option.getD_some, argA, argE, List.length_cons, List.length_nil, Nat.reduceAdd, Nat.reduceSub, List.replicate, List.cons_append, List.nil_append]
        simp only [↓PX, SX, SYX, EY, simprocAttr, TYX, cellsNV, foldNV]
        repeat (first
          | (refine DrawVC.intro (by kernel_rfl) ?_)
          | exact trivial
          | (refine CallVC.intro (c_alive) trivial rfl rfl ?_; simp only [↓PX, SX, SYX, EY, simprocAttr, TYX, cellsNV, foldNV, d1, d2, e0, e1, e2, e4, e5, Nat.add_zero])
          | (refine CallVC.intro (u_Sqrt _ _ (by first | assumption | exact md_w _ _ | exact md_w2 (inv_lt _ _) | decide | omega)) ⟨rfl, rfl, trivial⟩ rfl rfl ?_; simp only [↓PX, SX, SYX, EY, simprocAttr, TYX, cellsNV, foldNV, d1, d2, e0, e1, e2, e4, e5, Nat.add_zero])
          | (refine CallVC.intro (u_Mul _ _ _ (by first | assumption | exact md_w _ _ | exact md_w2 (inv_lt _ _) | decide | omega) (by first | assumption | exact md_w _ _ | exact md_w2 (inv_lt _ _) | decide | omega)) ⟨rfl, rfl, rfl, trivial⟩ rfl rfl ?_; simp only [↓PX, SX, SYX, EY, simprocAttr, TYX, cellsNV, foldNV, d1, d2, e0, e1, e2, e4, e5, Nat.add_zero])
          | (refine CallVC.intro (u_Add _ _ _ (by first | assumption | exact md_w _ _ | exact md_w2 (inv_lt _ _) | decide | omega) (by first | assumption | exact md_w _ _ | exact md_w2 (inv_lt _ _) | decide | omega)) ⟨rfl, rfl, rfl, trivial⟩ rfl rfl ?_; simp only [↓PX, SX, SYX, EY, simprocAttr, TYX, cellsNV, foldNV, d1, d2, e0, e1, e2, e4, e5, Nat.add_zero]))
      · have hy5 : SqP s (a * 5 % md s) := hfive.2 hq
        obtain ⟨q1, q2⟩ := rt_sq hk hy5
        have e1 : rt s (a * 5 % md s) * rt s (a * 5 % md s) % md s = a * 5 % md s := by
          have := sq_val.2 q1
          rwa [Nat.mod_mod] at this
        have e2 : eQ s a = 22 := by simp only [eQ, hk, hq, if_true, if_false]
        have e4 : eQ s (a * 5 % md s) = 0 := by simp only [eQ, hk, hy5, if_true]
        have e5 : urem (L0 (rt s (a * 5 % md s))) 2 = 0 := by rw [urem_eq, L0_odd]; exact q2
        refine contract_of (N := _) (vars := _) (c := bodyOf Try.f8) Try.func8 (body_eq rfl) rfl rfl (by rfl) mixed _ _ trivial 1000 ?_
        simp only [bodyOf, Try.f8, Option.getD_some, argA, argE, List.length_cons, List.length_nil, Nat.reduceAdd, Nat.reduceSub, List.replicate, List.cons_append, List.nil_append]
        simp only [↓PX, SX, SYX, EY, simprocAttr, TYX, cellsNV, foldNV]
        repeat (first
          | (refine DrawVC.intro (by kernel_rfl) ?_)
          | exact trivial
          | (refine CallVC.intro (c_alive) trivial rfl rfl ?_; simp only [↓PX, SX, SYX, EY, simprocAttr, TYX, cellsNV, foldNV, d1, d2, e0, e1, e2, e4, e5, Nat.add_zero])
          | (refine CallVC.intro (u_Sqrt _ _ (by first | assumption | exact md_w _ _ | exact md_w2 (inv_lt _ _) | decide | omega)) ⟨rfl, rfl, trivial⟩ rfl rfl ?_; simp only [↓PX, SX, SYX, EY, simprocAttr, TYX, cellsNV, foldNV, d1, d2, e0, e1, e2, e4, e5, Nat.add_zero])
          | (refine CallVC.intro (u_Mul _ _ _ (by first | assumption | exact md_w _ _ | exact md_w2 (inv_lt _ _) | decide | omega) (by first | assumption | exact md_w _ _ | exact md_w2 (inv_lt _ _) | decide | omega)) ⟨rfl, rfl, rfl, trivial⟩ rfl rfl ?_; simp only [↓PX, SX, SYX, EY, simprocAttr, TYX, cellsNV, foldNV, d1, d2, e0, e1, e2, e4, e5, Nat.add_zero])
          | (refine CallVC.intro (u_Add _ _ _ (by first | assumption | exact md_w _ _ | exact md_w2 (inv_lt _ _) | decide | omega) (by first | assumption | exact md_w _ _ | exact md_w2 (inv_lt _ _) | decide | omega)) ⟨rfl, rfl, rfl, trivial⟩ rfl rfl ?_; simp only [↓PX, SX, SYX, EY, simprocAttr, TYX, cellsNV, foldNV, d1, d2, e0, e1, e2, e4, e5, Nat.add_zero]))
end Go.Sx
