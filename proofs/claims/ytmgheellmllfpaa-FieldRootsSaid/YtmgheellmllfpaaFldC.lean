/-
  Walks: field.of, by the sort; bits.Mul64; field.half. No conditions.
-/
import Derived.Test.YtmgheellmllfpaaFldB
namespace Go.Sx
open Go.Proofs
-- TY: TYX, cellsE, foldE, foldN, cellsN, b_EN, cellsNV, foldNV, k32
set_option maxRecDepth 100000
set_option linter.unusedSimpArgs false
set_option pp.deepTerms false
set_option pp.deepTerms.threshold 3
/-- A field's numbers. -/
def NV (m : Nat) (ad : Int) (sm ng sq : Nat) : Value := .agg #[u64 (L0 m), u64 (L1 m), u64 (L2 m), u64 (L3 m), .int .i64 ad, u64 sm, u64 ng, u64 (L0 sq), u64 (L1 sq), u64 (L2 sq), u64 (L3 sq)]
theorem cellsNV (m : Nat) (ad : Int) (sm ng sq : Nat) : (NV m ad sm ng sq).cells.toList = [u64 (L0 m), u64 (L1 m), u64 (L2 m), u64 (L3 m), .int .i64 ad, u64 sm, u64 ng, u64 (L0 sq), u64 (L1 sq), u64 (L2 sq), u64 (L3 sq)] := rfl
theorem foldNV (m : Nat) (ad : Int) (sm ng sq : Nat) : Value.agg [u64 (L0 m), u64 (L1 m), u64 (L2 m), u64 (L3 m), .int .i64 ad, u64 sm, u64 ng, u64 (L0 sq), u64 (L1 sq), u64 (L2 sq), u64 (L3 sq)].toArray = NV m ad sm ng sq := rfl
theorem k32 : Value.int .u64 4294967295 = u64 4294967295 := rfl
def PA : Nat := 16513537
def PB : Nat := 16521217
def PC : Nat := 0x40000000000000000000000000000000224698fc094cf91b992d30ed00000001
def PD : Nat := 0x40000000000000000000000000000000224698fc0994a8dd8c46eb2100000001
def SC : Nat := 0x096d41af7b9cb7147797a99bc3c95d18d7d30dbd8b0de0e78c78ecb30000000f
def SD : Nat := 0x096d41af7ccfdaa97fae231004ccf59067bb433d891a16e3fc9678ff0000000f
def NA : Value := NV PA 9 PA 0 0
def NB : Value := NV PB 11 PB 0 0
def NC : Value := NV PC 32 0 0x992d30ecffffffff SC
def ND : Value := NV PD 32 0 0x8c46eb20ffffffff SD
def N0 : Value := NV 0 0 0 0 0
theorem cellsNA : NA.cells.toList = [u64 (L0 PA), u64 (L1 PA), u64 (L2 PA), u64 (L3 PA), .int .i64 9, u64 PA, u64 0, u64 (L0 0), u64 (L1 0), u64 (L2 0), u64 (L3 0)] := rfl
theorem c_of0 : Contract Try.prog 50 [.val (.int .i64 0)] [.val NA, .val (.int .i64 0)] := by
  refine contract_of (N := _) (vars := _) (c := bodyOf Try.f50) Try.func50 (body_eq rfl) rfl rfl (by rfl) mixed _ _ trivial 1000 ?_
  simp only [bodyOf, Try.f50, Option.getD_some, argA, argE, List.length_cons, List.length_nil, Nat.reduceAdd, Nat.reduceSub, List.replicate, List.cons_append, List.nil_append]
  simp only [SX, simprocAttr, TYX, cellsE, foldE, foldN, cellsN, b_EN, cellsNV, foldNV, k32]
  refine X1 16513537 (by rfl) ?_
  simp only [SX, simprocAttr, TYX, cellsE, foldE, foldN, cellsN, b_EN, cellsNV, foldNV, k32]
  refine ExVC.build [(0, E4 16513537 0 0 0), (1, .int .i64 9), (2, u64 16513537)] NA _ (by rfl) (by kernel_rfl) rfl ?_
  unfold NA
  simp only [SX, simprocAttr, TYX, cellsE, foldE, foldN, cellsN, b_EN, cellsNV, foldNV, k32]
theorem c_of1 : Contract Try.prog 50 [.val (.int .i64 1)] [.val NB, .val (.int .i64 0)] := by
  refine contract_of (N := _) (vars := _) (c := bodyOf Try.f50) Try.func50 (body_eq rfl) rfl rfl (by rfl) mixed _ _ trivial 1000 ?_
  simp only [bodyOf, Try.f50, Option.getD_some, argA, argE, List.length_cons, List.length_nil, Nat.reduceAdd, Nat.reduceSub, List.replicate, List.cons_append, List.nil_append]
  simp only [SX, simprocAttr, TYX, cellsE, foldE, foldN, cellsN, b_EN, cellsNV, foldNV, k32]
  refine X1 16521217 (by rfl) ?_
  simp only [SX, simprocAttr, TYX, cellsE, foldE, foldN, cellsN, b_EN, cellsNV, foldNV, k32]
  refine ExVC.build [(0, E4 16521217 0 0 0), (1, .int .i64 11), (2, u64 16521217)] NB _ (by rfl) (by kernel_rfl) rfl ?_
  unfold NB
  simp only [SX, simprocAttr, TYX, cellsE, foldE, foldN, cellsN, b_EN, cellsNV, foldNV, k32]
theorem c_of2 : Contract Try.prog 50 [.val (.int .i64 2)] [.val NC, .val (.int .i64 0)] := by
  refine contract_of (N := _) (vars := _) (c := bodyOf Try.f50) Try.func50 (body_eq rfl) rfl rfl (by rfl) mixed _ _ trivial 1000 ?_
  simp only [bodyOf, Try.f50, Option.getD_some, argA, argE, List.length_cons, List.length_nil, Nat.reduceAdd, Nat.reduceSub, List.replicate, List.cons_append, List.nil_append]
  simp only [SX, simprocAttr, TYX, cellsE, foldE, foldN, cellsN, b_EN, cellsNV, foldNV, k32]
  refine X4 11037532056220336129 2469829653914515739 0 4611686018427387904 (by rfl) (by rfl) (by rfl) (by rfl) ?_
  simp only [SX, simprocAttr, TYX, cellsE, foldE, foldN, cellsN, b_EN, cellsNV, foldNV, k32]
  refine X4 10122100416058490895 15551789045973377255 8617542898466512152 679271340751763220 (by rfl) (by rfl) (by rfl) (by rfl) ?_
  simp only [SX, simprocAttr, TYX, cellsE, foldE, foldN, cellsN, b_EN, cellsNV, foldNV, k32]
  refine ExVC.build [(0, E4 11037532056220336129 2469829653914515739 0 4611686018427387904), (1, .int .i64 32), (3, u64 11037532056220336127), (4, E4 10122100416058490895 15551789045973377255 8617542898466512152 679271340751763220)] NC _ (by rfl) (by kernel_rfl) rfl ?_
  unfold NC
  simp only [SX, simprocAttr, TYX, cellsE, foldE, foldN, cellsN, b_EN, cellsNV, foldNV, k32]
theorem c_of3 : Contract Try.prog 50 [.val (.int .i64 3)] [.val ND, .val (.int .i64 0)] := by
  refine contract_of (N := _) (vars := _) (c := bodyOf Try.f50) Try.func50 (body_eq rfl) rfl rfl (by rfl) mixed _ _ trivial 1000 ?_
  simp only [bodyOf, Try.f50, Option.getD_some, argA, argE, List.length_cons, List.length_nil, Nat.reduceAdd, Nat.reduceSub, List.replicate, List.cons_append, List.nil_append]
  simp only [SX, simprocAttr, TYX, cellsE, foldE, foldN, cellsN, b_EN, cellsNV, foldNV, k32]
  refine X4 10108024940646105089 2469829653919213789 0 4611686018427387904 (by rfl) (by rfl) (by rfl) (by rfl) ?_
  simp only [SX, simprocAttr, TYX, cellsE, foldE, foldN, cellsN, b_EN, cellsNV, foldNV, k32]
  refine X4 18200867980676431887 7474641938123724515 9200329640471491984 679271340771891881 (by rfl) (by rfl) (by rfl) (by rfl) ?_
  simp only [SX, simprocAttr, TYX, cellsE, foldE, foldN, cellsN, b_EN, cellsNV, foldNV, k32]
  refine ExVC.build [(0, E4 10108024940646105089 2469829653919213789 0 4611686018427387904), (1, .int .i64 32), (3, u64 10108024940646105087), (4, E4 18200867980676431887 7474641938123724515 9200329640471491984 679271340771891881)] ND _ (by rfl) (by kernel_rfl) rfl ?_
  unfold ND
  simp only [SX, simprocAttr, TYX, cellsE, foldE, foldN, cellsN, b_EN, cellsNV, foldNV, k32]
theorem c_of9 (s : Int) (h0 : (s == 0) = false) (h1 : (s == 1) = false) (h2 : (s == 2) = false) (h3 : (s == 3) = false) : Contract Try.prog 50 [.val (.int .i64 s)] [.val N0, .val (.int .i64 20)] := by
  refine contract_of (N := _) (vars := _) (c := bodyOf Try.f50) Try.func50 (body_eq rfl) rfl rfl (by rfl) mixed _ _ trivial 1000 ?_
  simp only [bodyOf, Try.f50, Option.getD_some, argA, argE, List.length_cons, List.length_nil, Nat.reduceAdd, Nat.reduceSub, List.replicate, List.cons_append, List.nil_append]
  simp only [SX, simprocAttr, TYX, cellsE, foldE, foldN, cellsN, b_EN, cellsNV, foldNV, k32]
  simp only [SX, simprocAttr, TYX, cellsE, foldE, foldN, cellsN, b_EN, cellsNV, foldNV, k32, h0, h1, h2, h3]
  refine ExVC.build [] N0 _ (by rfl) (by kernel_rfl) rfl ?_
  unfold N0
  simp only [SX, simprocAttr, TYX, cellsE, foldE, foldN, cellsN, b_EN, cellsNV, foldNV, k32]
/-- bits.Mul64 -/
theorem c_mul64 (a b : Nat) (ha : a < 18446744073709551616) (hb : b < 18446744073709551616) : Contract Try.prog 82 [.val (u64 a), .val (u64 b)] [.val (u64 (a * b / 18446744073709551616)), .val (u64 (a * b % 18446744073709551616))] := by
  refine contract_of (N := _) (vars := _) (c := bodyOf Try.f82) Try.func82 (body_eq rfl) rfl rfl (by rfl) mixed _ _ trivial 1000 ?_
  simp only [bodyOf, Try.f82, Option.getD_some, argA, argE, List.length_cons, List.length_nil, Nat.reduceAdd, Nat.reduceSub, List.replicate, List.cons_append, List.nil_append]
  simp only [SX, simprocAttr, TYX, cellsE, foldE, foldN, cellsN, b_EN, cellsNV, foldNV, k32]
  simp only [uadd_eq, umul_eq, ushr_eq, sh_32, and_true]
  have h := mul64_arith a b (by omega) (by omega) (by omega) (by omega)
  refine congrArg u64 (Int.ofNat_inj.mp ?_)
  simp only [Int.natCast_add, Int.natCast_emod, Int.natCast_ediv, Int.natCast_mul, Int.cast_ofNat_Int]
  exact h
/-- half -/
theorem c_half4 (a b c d : Nat) : Contract Try.prog 58 [.val (E4 a b c d)] [.val (E4 (uor (ushr a 1) (ushl b 63)) (uor (ushr b 1) (ushl c 63)) (uor (ushr c 1) (ushl d 63)) (ushr d 1))] := by
  refine contract_of (N := _) (vars := _) (c := bodyOf Try.f58) Try.func58 (body_eq rfl) rfl rfl (by rfl) mixed _ _ trivial 1000 ?_
  simp only [bodyOf, Try.f58, Option.getD_some, argA, argE, List.length_cons, List.length_nil, Nat.reduceAdd, Nat.reduceSub, List.replicate, List.cons_append, List.nil_append]
  simp only [SX, simprocAttr, TYX, cellsE, foldE, foldN, cellsN, b_EN, cellsNV, foldNV, k32]
  refine X4 _ _ _ _ (by rfl) (by rfl) (by rfl) (by rfl) ?_
  simp only [SX, simprocAttr, TYX, cellsE, foldE, foldN, cellsN, b_EN, cellsNV, foldNV, k32]
theorem half_limb (a b : Nat) (ha : a < 18446744073709551616) : uor (ushr a 1) (ushl b 63) = a / 2 + b % 2 * 9223372036854775808 := by
  rw [ushr_eq, ushl_eq, sh_1, sh_63]
  have : b * 9223372036854775808 % 18446744073709551616 = b % 2 * 9223372036854775808 := by omega
  rw [this]
  exact (uor_addK (a / 2) (b % 2 * 9223372036854775808) 63 9223372036854775808 (by decide) (by omega) (Nat.dvd_mul_left _ _) (by omega)).1
theorem c_half (a : Nat) (ha : a < W256) : Contract Try.prog 58 [.val (EN a)] [.val (EN (a / 2))] := by
  have h := c_half4 (L0 a) (L1 a) (L2 a) (L3 a)
  rw [half_limb _ _ (L0_lt a), half_limb _ _ (L1_lt a), half_limb _ _ (L2_lt a), ushr_eq, sh_1] at h
  have hs := L_sum ha
  have h0 := L0_lt a
  have h1 := L1_lt a
  have h2 := L2_lt a
  have h3 := L3_lt a
  rw [EN_E4 a]
  generalize L0 a = x0 at *
  generalize L1 a = x1 at *
  generalize L2 a = x2 at *
  generalize L3 a = x3 at *
  rw [E4_EN (a := x0 / 2 + x1 % 2 * 9223372036854775808) (by omega) (by omega) (by omega) (by omega)] at h
  have e : a / 2 = x0 / 2 + x1 % 2 * 9223372036854775808 + 18446744073709551616 * (x1 / 2 + x2 % 2 * 9223372036854775808) + 340282366920938463463374607431768211456 * (x2 / 2 + x3 % 2 * 9223372036854775808) + 6277101735386680763835789423207666416102355444464034512896 * (x3 / 2) := by omega
  rw [e]
  exact h
end Go.Sx
