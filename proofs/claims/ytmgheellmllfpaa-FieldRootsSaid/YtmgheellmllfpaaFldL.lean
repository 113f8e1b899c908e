/-
  Walks of the references: minus and plus as numbers, Modulus, little, Of. No conditions.
-/
import Derived.Test.YtmgheellmllfpaaFldK
namespace Go.Sx
open Go.Proofs
-- TY: TYX, cellsE, foldE, foldN, cellsN, b_EN, k32, kA, kB
set_option maxRecDepth 100000
set_option linter.unusedSimpArgs false
set_option pp.deepTerms false
set_option pp.deepTerms.threshold 3
theorem c_minus (a b : Nat) (ha : a < W256) (hb : b < W256) : Contract Try.prog 56 [.val (EN a), .val (EN b)] [.val (EN ((a + W256 - b) % W256))] := by
  obtain ⟨a0, a1, a2, a3, ha0, ha1, ha2, ha3, rfl⟩ := EN_ex ha
  obtain ⟨b0, b1, b2, b3, hb0, hb1, hb2, hb3, rfl⟩ := EN_ex hb
  rw [EN_of ha0 ha1 ha2 ha3 rfl, EN_of hb0 hb1 hb2 hb3 rfl]
  obtain ⟨s0, f0, l0⟩ := m_chain ha0 hb0 (Nat.zero_le 1)
  obtain ⟨s1, f1, l1⟩ := m_chain ha1 hb1 l0
  obtain ⟨s2, f2, l2⟩ := m_chain ha2 hb2 l1
  obtain ⟨s3, f3, l3⟩ := m_chain ha3 hb3 l2
  have h := c_minus4 a0 a1 a2 a3 b0 b1 b2 b3 _ _ _ _ rfl rfl rfl rfl
  generalize mB a3 b3 (mB a2 b2 (mB a1 b1 (mB a0 b0 0))) = c4 at *
  generalize mD a3 b3 (mB a2 b2 (mB a1 b1 (mB a0 b0 0))) = r3 at *
  generalize mB a2 b2 (mB a1 b1 (mB a0 b0 0)) = c3 at *
  generalize mD a2 b2 (mB a1 b1 (mB a0 b0 0)) = r2 at *
  generalize mB a1 b1 (mB a0 b0 0) = c2 at *
  generalize mD a1 b1 (mB a0 b0 0) = r1 at *
  generalize mB a0 b0 0 = c1 at *
  generalize mD a0 b0 0 = r0 at *
  unfold W256
  rw [EN_of (a := r0) (b := r1) (c := r2) (d := r3) f0 f1 f2 f3 (by omega)]
  exact h
theorem c_plus (a b : Nat) (ha : a < W256) (hb : b < W256) : Contract Try.prog 54 [.val (EN a), .val (EN b)] [.val (EN ((a + b) % W256))] := by
  obtain ⟨a0, a1, a2, a3, ha0, ha1, ha2, ha3, rfl⟩ := EN_ex ha
  obtain ⟨b0, b1, b2, b3, hb0, hb1, hb2, hb3, rfl⟩ := EN_ex hb
  rw [EN_of ha0 ha1 ha2 ha3 rfl, EN_of hb0 hb1 hb2 hb3 rfl]
  obtain ⟨s0, f0, l0⟩ := p_chain ha0 hb0 (Nat.zero_le 1)
  obtain ⟨s1, f1, l1⟩ := p_chain ha1 hb1 l0
  obtain ⟨s2, f2, l2⟩ := p_chain ha2 hb2 l1
  obtain ⟨s3, f3, l3⟩ := p_chain ha3 hb3 l2
  have h := c_plus4 a0 a1 a2 a3 b0 b1 b2 b3 _ _ _ _ rfl rfl rfl rfl
  generalize pB a3 b3 (pB a2 b2 (pB a1 b1 (pB a0 b0 0))) = c4 at *
  generalize pD a3 b3 (pB a2 b2 (pB a1 b1 (pB a0 b0 0))) = r3 at *
  generalize pB a2 b2 (pB a1 b1 (pB a0 b0 0)) = c3 at *
  generalize pD a2 b2 (pB a1 b1 (pB a0 b0 0)) = r2 at *
  generalize pB a1 b1 (pB a0 b0 0) = c2 at *
  generalize pD a1 b1 (pB a0 b0 0) = r1 at *
  generalize pB a0 b0 0 = c1 at *
  generalize pD a0 b0 0 = r0 at *
  unfold W256
  rw [EN_of (a := r0) (b := r1) (c := r2) (d := r3) f0 f1 f2 f3 (by omega)]
  exact h
theorem r_mod0 : Contract Try.prog 27 [.val (.int .i64 0)] [.val (EN PA), .val (.int .i64 0)] := by
  refine contract_of (N := _) (vars := _) (c := bodyOf Try.f27) Try.func27 (body_eq rfl) rfl rfl (by rfl) mixed _ _ trivial 1000 ?_
  simp only [bodyOf, Try.f27, Option.getD_some, argA, argE, List.length_cons, List.length_nil, Nat.reduceAdd, Nat.reduceSub, List.replicate, List.cons_append, List.nil_append]
  simp only [SX, simprocAttr, TYX, cellsE, foldE, foldN, cellsN, b_EN, k32, kA, kB]
  refine X1 16513537 (by rfl) ?_
  rw [show E4 16513537 0 0 0 = EN PA by kernel_rfl]
  simp only [SX, simprocAttr, TYX, cellsE, foldE, foldN, cellsN, b_EN, k32, kA, kB]
theorem r_mod1 : Contract Try.prog 27 [.val (.int .i64 1)] [.val (EN PB), .val (.int .i64 0)] := by
  refine contract_of (N := _) (vars := _) (c := bodyOf Try.f27) Try.func27 (body_eq rfl) rfl rfl (by rfl) mixed _ _ trivial 1000 ?_
  simp only [bodyOf, Try.f27, Option.getD_some, argA, argE, List.length_cons, List.length_nil, Nat.reduceAdd, Nat.reduceSub, List.replicate, List.cons_append, List.nil_append]
  simp only [SX, simprocAttr, TYX, cellsE, foldE, foldN, cellsN, b_EN, k32, kA, kB]
  refine X1 16521217 (by rfl) ?_
  rw [show E4 16521217 0 0 0 = EN PB by kernel_rfl]
  simp only [SX, simprocAttr, TYX, cellsE, foldE, foldN, cellsN, b_EN, k32, kA, kB]
theorem r_mod2 : Contract Try.prog 27 [.val (.int .i64 2)] [.val (EN PC), .val (.int .i64 0)] := by
  refine contract_of (N := _) (vars := _) (c := bodyOf Try.f27) Try.func27 (body_eq rfl) rfl rfl (by rfl) mixed _ _ trivial 1000 ?_
  simp only [bodyOf, Try.f27, Option.getD_some, argA, argE, List.length_cons, List.length_nil, Nat.reduceAdd, Nat.reduceSub, List.replicate, List.cons_append, List.nil_append]
  simp only [SX, simprocAttr, TYX, cellsE, foldE, foldN, cellsN, b_EN, k32, kA, kB]
  refine X4 11037532056220336129 2469829653914515739 0 4611686018427387904 (by rfl) (by rfl) (by rfl) (by rfl) ?_
  rw [show E4 11037532056220336129 2469829653914515739 0 4611686018427387904 = EN PC by kernel_rfl]
  simp only [SX, simprocAttr, TYX, cellsE, foldE, foldN, cellsN, b_EN, k32, kA, kB]
theorem r_mod3 : Contract Try.prog 27 [.val (.int .i64 3)] [.val (EN PD), .val (.int .i64 0)] := by
  refine contract_of (N := _) (vars := _) (c := bodyOf Try.f27) Try.func27 (body_eq rfl) rfl rfl (by rfl) mixed _ _ trivial 1000 ?_
  simp only [bodyOf, Try.f27, Option.getD_some, argA, argE, List.length_cons, List.length_nil, Nat.reduceAdd, Nat.reduceSub, List.replicate, List.cons_append, List.nil_append]
  simp only [SX, simprocAttr, TYX, cellsE, foldE, foldN, cellsN, b_EN, k32, kA, kB]
  refine X4 10108024940646105089 2469829653919213789 0 4611686018427387904 (by rfl) (by rfl) (by rfl) (by rfl) ?_
  rw [show E4 10108024940646105089 2469829653919213789 0 4611686018427387904 = EN PD by kernel_rfl]
  simp only [SX, simprocAttr, TYX, cellsE, foldE, foldN, cellsN, b_EN, k32, kA, kB]
theorem r_mod9 (s : Int) (h0 : (s == 0) = false) (h1 : (s == 1) = false) (h2 : (s == 2) = false) (h3 : (s == 3) = false) : Contract Try.prog 27 [.val (.int .i64 s)] [.val (EN 0), .val (.int .i64 20)] := by
  refine contract_of (N := _) (vars := _) (c := bodyOf Try.f27) Try.func27 (body_eq rfl) rfl rfl (by rfl) mixed _ _ trivial 1000 ?_
  simp only [bodyOf, Try.f27, Option.getD_some, argA, argE, List.length_cons, List.length_nil, Nat.reduceAdd, Nat.reduceSub, List.replicate, List.cons_append, List.nil_append]
  simp only [SX, simprocAttr, TYX, cellsE, foldE, foldN, cellsN, b_EN, k32, kA, kB]
  simp only [SX, simprocAttr, TYX, cellsE, foldE, foldN, cellsN, b_EN, k32, kA, kB, h0, h1, h2, h3]
  refine X0 ?_
  simp only [SX, simprocAttr, TYX, cellsE, foldE, foldN, cellsN, b_EN, k32, kA, kB]
theorem r_lit0 : Contract Try.prog 53 [.val (.int .i64 0)] [.val (u64 PA)] := by
  unfold PA
  refine contract_of (N := _) (vars := _) (c := bodyOf Try.f53) Try.func53 (body_eq rfl) rfl rfl (by rfl) mixed _ _ trivial 1000 ?_
  simp only [bodyOf, Try.f53, Option.getD_some, argA, argE, List.length_cons, List.length_nil, Nat.reduceAdd, Nat.reduceSub, List.replicate, List.cons_append, List.nil_append]
  simp only [SX, simprocAttr, TYX, cellsE, foldE, foldN, cellsN, b_EN, k32, kA, kB]
theorem r_lit1 : Contract Try.prog 53 [.val (.int .i64 1)] [.val (u64 PB)] := by
  unfold PB
  refine contract_of (N := _) (vars := _) (c := bodyOf Try.f53) Try.func53 (body_eq rfl) rfl rfl (by rfl) mixed _ _ trivial 1000 ?_
  simp only [bodyOf, Try.f53, Option.getD_some, argA, argE, List.length_cons, List.length_nil, Nat.reduceAdd, Nat.reduceSub, List.replicate, List.cons_append, List.nil_append]
  simp only [SX, simprocAttr, TYX, cellsE, foldE, foldN, cellsN, b_EN, k32, kA, kB]
/-! ### Of -/
noncomputable def ofS (m r a : Nat) : Nat := urem (uadd (ushl (urem (uadd (ushl r 32) (ushr a 32)) m) 32) (a % 4294967296)) m
theorem low_step (q a : Nat) (f1 : q < 4294967296) : (q * 4294967296 % 18446744073709551616 + a % 4294967296) % 18446744073709551616 = q * 4294967296 + a % 4294967296 := by
  have f2 := Nat.mod_lt a (show 4294967296 > 0 by decide)
  generalize a % 4294967296 = b at *
  rw [Nat.mod_eq_of_lt (a := q * 4294967296) (by omega), Nat.mod_eq_of_lt (by omega)]
theorem ofS_law {m r a : Nat} (hm : 0 < m) (hm1 : m < 4294967296) (hr : r < m) (ha : a < 18446744073709551616) : ofS m r a = (r * 18446744073709551616 + a) % m := by
  unfold ofS
  rw [urem_eq, uadd_eq, ushl_eq, urem_eq, uadd_eq, ushl_eq, ushr_eq, sh_32]
  have e1 : (r * 4294967296 % 18446744073709551616 + a / 4294967296) % 18446744073709551616 = r * 4294967296 + a / 4294967296 := by
    have f1 : r < 4294967296 := by omega
    have f2 : a / 4294967296 < 4294967296 := by omega
    generalize a / 4294967296 = b at *
    clear hr ha hm hm1
    rw [Nat.mod_eq_of_lt (a := r * 4294967296) (by omega), Nat.mod_eq_of_lt (by omega)]
  rw [e1]
  have h2 : (r * 4294967296 + a / 4294967296) % m < 4294967296 := Nat.lt_trans (Nat.mod_lt _ hm) hm1
  rw [low_step _ _ h2, mod_step]
  refine congrArg (· % m) ?_
  rw [Nat.add_mul, Nat.add_assoc, Nat.div_add_mod', Nat.mul_assoc]
theorem c_OfL (s : Int) (m : Nat) (hm : 0 < m) (hm1 : m < 4294967296) (hs : s = 0 ∨ s = 1) (hl : Contract Try.prog 53 [.val (.int .i64 s)] [.val (u64 m)]) (a : Nat) (ha : a < W256) :
    Contract Try.prog 52 [.val (.int .i64 s), .val (EN a)] [.val (EN (a % m))] := by
  have hmn : ¬ m = 0 := by omega
  obtain ⟨a0, a1, a2, a3, ha0, ha1, ha2, ha3, rfl⟩ := EN_ex ha
  rw [EN_of ha0 ha1 ha2 ha3 rfl]
  have k3 := ofS_law hm hm1 hm ha3
  rw [Nat.zero_mul, Nat.zero_add] at k3
  have k2 := ofS_law hm hm1 (Nat.mod_lt a3 hm) ha2
  rw [mod_step] at k2
  have k1 := ofS_law hm hm1 (Nat.mod_lt (a3 * 18446744073709551616 + a2) hm) ha1
  rw [mod_step] at k1
  have k0 := ofS_law hm hm1 (Nat.mod_lt ((a3 * 18446744073709551616 + a2) * 18446744073709551616 + a1) hm) ha0
  rw [mod_step] at k0
  have key : EN ((a0 + 18446744073709551616 * a1 + 340282366920938463463374607431768211456 * a2 + 6277101735386680763835789423207666416102355444464034512896 * a3) % m) = E4 (ofS m (ofS m (ofS m (ofS m 0 a3) a2) a1) a0) 0 0 0 := by
    rw [k3, k2, k1, k0, EN_small (Nat.lt_trans (Nat.mod_lt _ hm) (by omega))]
    refine congrArg EN (congrArg (· % m) ?_)
    omega
  rw [key]
  unfold ofS
  clear key k0 k1 k2 k3 ha
  rcases hs with rfl | rfl
  ·
    refine contract_of (N := _) (vars := _) (c := bodyOf Try.f52) Try.func52 (body_eq rfl) rfl rfl (by rfl) mixed _ _ trivial 1000 ?_
    simp only [bodyOf, Try.f52, Option.getD_some, argA, argE, List.length_cons, List.length_nil, Nat.reduceAdd, Nat.reduceSub, List.replicate, List.cons_append, List.nil_append]
    simp only [SX, simprocAttr, TYX, cellsE, foldE, foldN, cellsN, b_EN, k32, kA, kB]
    refine CallVC.intro hl ⟨rfl, trivial⟩ rfl rfl ?_
    simp only [SX, simprocAttr, TYX, cellsE, foldE, foldN, cellsN, b_EN, k32, kA, kB]
    refine loop_rounds 5 ?_
    refine RoundsVC.step mixed trivial 1000 ?_
    simp only [SX, simprocAttr, TYX, cellsE, foldE, foldN, cellsN, b_EN, k32, kA, kB]
    refine ⟨hmn, hmn, ?_⟩
    refine RoundsVC.step mixed trivial 1000 ?_
    simp only [SX, simprocAttr, TYX, cellsE, foldE, foldN, cellsN, b_EN, k32, kA, kB]
    refine ⟨hmn, hmn, ?_⟩
    refine RoundsVC.step mixed trivial 1000 ?_
    simp only [SX, simprocAttr, TYX, cellsE, foldE, foldN, cellsN, b_EN, k32, kA, kB]
    refine ⟨hmn, hmn, ?_⟩
    refine RoundsVC.step mixed trivial 1000 ?_
    simp only [SX, simprocAttr, TYX, cellsE, foldE, foldN, cellsN, b_EN, k32, kA, kB]
    refine ⟨hmn, hmn, ?_⟩
    refine RoundsVC.step mixed trivial 1000 ?_
    simp only [SX, simprocAttr, TYX, cellsE, foldE, foldN, cellsN, b_EN, k32, kA, kB]
    refine X1 _ (by rfl) ?_
    simp only [SX, simprocAttr, TYX, cellsE, foldE, foldN, cellsN, b_EN, k32, kA, kB]
  ·
    refine contract_of (N := _) (vars := _) (c := bodyOf Try.f52) Try.func52 (body_eq rfl) rfl rfl (by rfl) mixed _ _ trivial 1000 ?_
    simp only [bodyOf, Try.f52, Option.getD_some, argA, argE, List.length_cons, List.length_nil, Nat.reduceAdd, Nat.reduceSub, List.replicate, List.cons_append, List.nil_append]
    simp only [SX, simprocAttr, TYX, cellsE, foldE, foldN, cellsN, b_EN, k32, kA, kB]
    refine CallVC.intro hl ⟨rfl, trivial⟩ rfl rfl ?_
    simp only [SX, simprocAttr, TYX, cellsE, foldE, foldN, cellsN, b_EN, k32, kA, kB]
    refine loop_rounds 5 ?_
    refine RoundsVC.step mixed trivial 1000 ?_
    simp only [SX, simprocAttr, TYX, cellsE, foldE, foldN, cellsN, b_EN, k32, kA, kB]
    refine ⟨hmn, hmn, ?_⟩
    refine RoundsVC.step mixed trivial 1000 ?_
    simp only [SX, simprocAttr, TYX, cellsE, foldE, foldN, cellsN, b_EN, k32, kA, kB]
    refine ⟨hmn, hmn, ?_⟩
    refine RoundsVC.step mixed trivial 1000 ?_
    simp only [SX, simprocAttr, TYX, cellsE, foldE, foldN, cellsN, b_EN, k32, kA, kB]
    refine ⟨hmn, hmn, ?_⟩
    refine RoundsVC.step mixed trivial 1000 ?_
    simp only [SX, simprocAttr, TYX, cellsE, foldE, foldN, cellsN, b_EN, k32, kA, kB]
    refine ⟨hmn, hmn, ?_⟩
    refine RoundsVC.step mixed trivial 1000 ?_
    simp only [SX, simprocAttr, TYX, cellsE, foldE, foldN, cellsN, b_EN, k32, kA, kB]
    refine X1 _ (by rfl) ?_
    simp only [SX, simprocAttr, TYX, cellsE, foldE, foldN, cellsN, b_EN, k32, kA, kB]
end Go.Sx
