/-
  Walks: accumulate, redc. No conditions.
-/
import Derived.Test.YtmgheellmllfpaaFldF
namespace Go.Sx
open Go.Proofs
-- TY: TYX, cellsE, foldE, foldN, cellsN, b_EN, cellsNV, foldNV, cells6, fold6
set_option maxRecDepth 100000
set_option linter.unusedSimpArgs false
set_option pp.deepTerms false
set_option pp.deepTerms.threshold 3
def T6 (a b c d e f : Nat) : Value := .agg #[u64 a, u64 b, u64 c, u64 d, u64 e, u64 f]
theorem cells6 (a b c d e f : Nat) : (T6 a b c d e f).cells.toList = [u64 a, u64 b, u64 c, u64 d, u64 e, u64 f] := rfl
theorem fold6 (a b c d e f : Nat) : Value.agg [u64 a, u64 b, u64 c, u64 d, u64 e, u64 f].toArray = T6 a b c d e f := rfl
theorem z79 (a b c d e f : Nat) : Try.prog.built 79 [(0, u64 a), (1, u64 b), (2, u64 c), (3, u64 d), (4, u64 e), (5, u64 f)] = some #[u64 a, u64 b, u64 c, u64 d, u64 e, u64 f] := by kernel_rfl

noncomputable def accT (a x t k : Nat) : Nat := addL t (addL (a * x % 18446744073709551616) k 0) 0
noncomputable def accK (a x t k : Nat) : Nat := uadd (uadd (a * x / 18446744073709551616) (addB (a * x % 18446744073709551616) k 0)) (addB t (addL (a * x % 18446744073709551616) k 0) 0)
theorem acc_step {a x t k : Nat} (ha : a < 18446744073709551616) (hx : x < 18446744073709551616) (ht : t < 18446744073709551616) (hk : k < 18446744073709551616) :
    accT a x t k + 18446744073709551616 * accK a x t k = t + a * x + k ∧ accT a x t k < 18446744073709551616 ∧ accK a x t k < 18446744073709551616 := by
  have hp : a * x ≤ 18446744073709551615 * 18446744073709551615 := Nat.mul_le_mul (by omega) (by omega)
  unfold accT accK
  generalize a * x = p at *
  have hd := Nat.div_add_mod p 18446744073709551616
  have hm := Nat.mod_lt p (show 18446744073709551616 > 0 by decide)
  generalize p % 18446744073709551616 = lo at *
  generalize p / 18446744073709551616 = hi at *
  obtain ⟨s1, s2⟩ := @add_chain lo k 0
  generalize addL lo k 0 = lo' at *
  generalize addB lo k 0 = c at *
  obtain ⟨s3, s4⟩ := @add_chain t lo' 0
  generalize addL t lo' 0 = t' at *
  generalize addB t lo' 0 = c' at *
  have hi1 : hi ≤ 18446744073709551614 := by omega
  rw [uadd_eq, uadd_eq]
  have e1 : (hi + c) % 18446744073709551616 = hi + c := by omega
  rw [e1]
  have e2 : (hi + c + c') % 18446744073709551616 = hi + c + c' := by omega
  rw [e2]
  omega
theorem addB_le {x y : Nat} (hx : x < 18446744073709551616) (hy : y < 18446744073709551616) : addB x y 0 ≤ 1 := by unfold addB; omega
theorem c_acc (t0 t1 t2 t3 t4 t5 a0 a1 a2 a3 x k1 k2 k3 k4 : Nat) (ha0 : a0 < 18446744073709551616) (ha1 : a1 < 18446744073709551616) (ha2 : a2 < 18446744073709551616) (ha3 : a3 < 18446744073709551616) (hx : x < 18446744073709551616)
    (h1 : k1 = accK a0 x t0 0) (h2 : k2 = accK a1 x t1 k1) (h3 : k3 = accK a2 x t2 k2) (h4 : k4 = accK a3 x t3 k3) :
    Contract Try.prog 80 [.val (T6 t0 t1 t2 t3 t4 t5), .val (E4 a0 a1 a2 a3), .val (u64 x)] [.val (T6 (accT a0 x t0 0) (accT a1 x t1 k1) (accT a2 x t2 k2) (accT a3 x t3 k3) (addL t4 k4 0) (uadd t5 (addB t4 k4 0)))] := by
  subst h4 h3 h2 h1
  refine contract_of (N := _) (vars := _) (c := bodyOf Try.f80) Try.func80 (body_eq rfl) rfl rfl (by rfl) mixed _ _ trivial 1000 ?_
  simp only [bodyOf, Try.f80, Option.getD_some, argA, argE, List.length_cons, List.length_nil, Nat.reduceAdd, Nat.reduceSub, List.replicate, List.cons_append, List.nil_append]
  simp only [SX, simprocAttr, TYX, cellsE, foldE, foldN, cellsN, b_EN, cellsNV, foldNV, cells6, fold6]
  refine loop_rounds 5 ?_
  refine RoundsVC.step mixed trivial 1000 ?_
  simp only [SX, simprocAttr, TYX, cellsE, foldE, foldN, cellsN, b_EN, cellsNV, foldNV, cells6, fold6]
  refine CallVC.intro (c_mul64 a0 x ha0 hx) ⟨rfl, rfl, trivial⟩ rfl rfl ?_
  simp only [SX, simprocAttr, TYX, cellsE, foldE, foldN, cellsN, b_EN, cellsNV, foldNV, cells6, fold6]
  refine CallVC.intro (c_add64 _ _ _ (by decide)) ⟨rfl, rfl, rfl, trivial⟩ rfl rfl ?_
  simp only [SX, simprocAttr, TYX, cellsE, foldE, foldN, cellsN, b_EN, cellsNV, foldNV, cells6, fold6]
  refine CallVC.intro (c_add64 _ _ _ (by decide)) ⟨rfl, rfl, rfl, trivial⟩ rfl rfl ?_
  simp only [SX, simprocAttr, TYX, cellsE, foldE, foldN, cellsN, b_EN, cellsNV, foldNV, cells6, fold6]
  refine RoundsVC.step mixed trivial 1000 ?_
  simp only [SX, simprocAttr, TYX, cellsE, foldE, foldN, cellsN, b_EN, cellsNV, foldNV, cells6, fold6]
  refine CallVC.intro (c_mul64 a1 x ha1 hx) ⟨rfl, rfl, trivial⟩ rfl rfl ?_
  simp only [SX, simprocAttr, TYX, cellsE, foldE, foldN, cellsN, b_EN, cellsNV, foldNV, cells6, fold6]
  refine CallVC.intro (c_add64 _ _ _ (by decide)) ⟨rfl, rfl, rfl, trivial⟩ rfl rfl ?_
  simp only [SX, simprocAttr, TYX, cellsE, foldE, foldN, cellsN, b_EN, cellsNV, foldNV, cells6, fold6]
  refine CallVC.intro (c_add64 _ _ _ (by decide)) ⟨rfl, rfl, rfl, trivial⟩ rfl rfl ?_
  simp only [SX, simprocAttr, TYX, cellsE, foldE, foldN, cellsN, b_EN, cellsNV, foldNV, cells6, fold6]
  refine RoundsVC.step mixed trivial 1000 ?_
  simp only [SX, simprocAttr, TYX, cellsE, foldE, foldN, cellsN, b_EN, cellsNV, foldNV, cells6, fold6]
  refine CallVC.intro (c_mul64 a2 x ha2 hx) ⟨rfl, rfl, trivial⟩ rfl rfl ?_
  simp only [SX, simprocAttr, TYX, cellsE, foldE, foldN, cellsN, b_EN, cellsNV, foldNV, cells6, fold6]
  refine CallVC.intro (c_add64 _ _ _ (by decide)) ⟨rfl, rfl, rfl, trivial⟩ rfl rfl ?_
  simp only [SX, simprocAttr, TYX, cellsE, foldE, foldN, cellsN, b_EN, cellsNV, foldNV, cells6, fold6]
  refine CallVC.intro (c_add64 _ _ _ (by decide)) ⟨rfl, rfl, rfl, trivial⟩ rfl rfl ?_
  simp only [SX, simprocAttr, TYX, cellsE, foldE, foldN, cellsN, b_EN, cellsNV, foldNV, cells6, fold6]
  refine RoundsVC.step mixed trivial 1000 ?_
  simp only [SX, simprocAttr, TYX, cellsE, foldE, foldN, cellsN, b_EN, cellsNV, foldNV, cells6, fold6]
  refine CallVC.intro (c_mul64 a3 x ha3 hx) ⟨rfl, rfl, trivial⟩ rfl rfl ?_
  simp only [SX, simprocAttr, TYX, cellsE, foldE, foldN, cellsN, b_EN, cellsNV, foldNV, cells6, fold6]
  refine CallVC.intro (c_add64 _ _ _ (by decide)) ⟨rfl, rfl, rfl, trivial⟩ rfl rfl ?_
  simp only [SX, simprocAttr, TYX, cellsE, foldE, foldN, cellsN, b_EN, cellsNV, foldNV, cells6, fold6]
  refine CallVC.intro (c_add64 _ _ _ (by decide)) ⟨rfl, rfl, rfl, trivial⟩ rfl rfl ?_
  simp only [SX, simprocAttr, TYX, cellsE, foldE, foldN, cellsN, b_EN, cellsNV, foldNV, cells6, fold6]
  refine RoundsVC.step mixed trivial 1000 ?_
  simp only [SX, simprocAttr, TYX, cellsE, foldE, foldN, cellsN, b_EN, cellsNV, foldNV, cells6, fold6]
  refine CallVC.intro (c_add64 _ _ _ (by decide)) ⟨rfl, rfl, rfl, trivial⟩ rfl rfl ?_
  simp only [SX, simprocAttr, TYX, cellsE, foldE, foldN, cellsN, b_EN, cellsNV, foldNV, cells6, fold6]
  simp only [accT, accK]

/-! ### six words as a number -/
def ET (n : Nat) : Value := T6 (n % 18446744073709551616) (n / 18446744073709551616 % 18446744073709551616) (n / 340282366920938463463374607431768211456 % 18446744073709551616) (n / 6277101735386680763835789423207666416102355444464034512896 % 18446744073709551616) (n / 115792089237316195423570985008687907853269984665640564039457584007913129639936 % 18446744073709551616) (n / 2135987035920910082395021706169552114602704522356652769947041607822219725780640550022962086936576 % 18446744073709551616)
theorem ET_of {n a b c d e f : Nat} (ha : a < 18446744073709551616) (hb : b < 18446744073709551616) (hc : c < 18446744073709551616) (hd : d < 18446744073709551616) (he : e < 18446744073709551616) (hf : f < 18446744073709551616) (h : n = a + 18446744073709551616 * b + 340282366920938463463374607431768211456 * c + 6277101735386680763835789423207666416102355444464034512896 * d + 115792089237316195423570985008687907853269984665640564039457584007913129639936 * e + 2135987035920910082395021706169552114602704522356652769947041607822219725780640550022962086936576 * f) : ET n = T6 a b c d e f := by
  subst h
  unfold ET
  congr 1 <;> omega
theorem ET_ex {n : Nat} (h : n < 39402006196394479212279040100143613805079739270465446667948293404245721771497210611414266254884915640806627990306816) : ∃ a b c d e f, a < 18446744073709551616 ∧ b < 18446744073709551616 ∧ c < 18446744073709551616 ∧ d < 18446744073709551616 ∧ e < 18446744073709551616 ∧ f < 18446744073709551616 ∧ n = a + 18446744073709551616 * b + 340282366920938463463374607431768211456 * c + 6277101735386680763835789423207666416102355444464034512896 * d + 115792089237316195423570985008687907853269984665640564039457584007913129639936 * e + 2135987035920910082395021706169552114602704522356652769947041607822219725780640550022962086936576 * f :=
  ⟨n % 18446744073709551616, n / 18446744073709551616 % 18446744073709551616, n / 340282366920938463463374607431768211456 % 18446744073709551616, n / 6277101735386680763835789423207666416102355444464034512896 % 18446744073709551616, n / 115792089237316195423570985008687907853269984665640564039457584007913129639936 % 18446744073709551616, n / 2135987035920910082395021706169552114602704522356652769947041607822219725780640550022962086936576, by omega, by omega, by omega, by omega, by omega, by omega, by omega⟩
theorem c_accN (n a x : Nat) (ha : a < W256) (hx : x < 18446744073709551616) (hn : n + a * x < 39402006196394479212279040100143613805079739270465446667948293404245721771497210611414266254884915640806627990306816) : Contract Try.prog 80 [.val (ET n), .val (EN a), .val (u64 x)] [.val (ET (n + a * x))] := by
  obtain ⟨t0, t1, t2, t3, t4, t5, g0, g1, g2, g3, g4, g5, rfl⟩ := ET_ex (n := n) (by omega)
  obtain ⟨a0, a1, a2, a3, ha0, ha1, ha2, ha3, rfl⟩ := EN_ex ha
  rw [EN_of ha0 ha1 ha2 ha3 rfl, ET_of g0 g1 g2 g3 g4 g5 rfl]
  have h := c_acc t0 t1 t2 t3 t4 t5 a0 a1 a2 a3 x _ _ _ _ ha0 ha1 ha2 ha3 hx rfl rfl rfl rfl
  obtain ⟨e0, f0, k0⟩ := acc_step ha0 hx g0 (show 0 < 18446744073709551616 by decide)
  obtain ⟨e1, f1, k1⟩ := acc_step ha1 hx g1 k0
  obtain ⟨e2, f2, k2⟩ := acc_step ha2 hx g2 k1
  obtain ⟨e3, f3, k3⟩ := acc_step ha3 hx g3 k2
  obtain ⟨e4, f4⟩ := @add_chain t4 (accK a3 x t3 (accK a2 x t2 (accK a1 x t1 (accK a0 x t0 0)))) 0
  have l4 := addB_le g4 k3
  generalize accT a3 x t3 (accK a2 x t2 (accK a1 x t1 (accK a0 x t0 0))) = r3 at *
  generalize accK a3 x t3 (accK a2 x t2 (accK a1 x t1 (accK a0 x t0 0))) = c3 at *
  generalize accT a2 x t2 (accK a1 x t1 (accK a0 x t0 0)) = r2 at *
  generalize accK a2 x t2 (accK a1 x t1 (accK a0 x t0 0)) = c2 at *
  generalize accT a1 x t1 (accK a0 x t0 0) = r1 at *
  generalize accK a1 x t1 (accK a0 x t0 0) = c1 at *
  generalize accT a0 x t0 0 = r0 at *
  generalize accK a0 x t0 0 = c0 at *
  generalize addL t4 c3 0 = r4 at *
  generalize addB t4 c3 0 = c4 at *
  have hmul : (a0 + 18446744073709551616 * a1 + 340282366920938463463374607431768211456 * a2 + 6277101735386680763835789423207666416102355444464034512896 * a3) * x = a0 * x + 18446744073709551616 * (a1 * x) + 340282366920938463463374607431768211456 * (a2 * x) + 6277101735386680763835789423207666416102355444464034512896 * (a3 * x) := by
    simp only [Nat.add_mul, Nat.mul_assoc]
  rw [hmul] at hn ⊢
  generalize a0 * x = p0 at *
  generalize a1 * x = p1 at *
  generalize a2 * x = p2 at *
  generalize a3 * x = p3 at *
  clear ha hmul
  have e5 : uadd t5 c4 = t5 + c4 := by rw [uadd_eq]; omega
  rw [e5] at h
  rw [ET_of (a := r0) (b := r1) (c := r2) (d := r3) (e := r4) (f := t5 + c4) f0 f1 f2 f3 f4 (by omega) (by omega)]
  exact h
end Go.Sx
