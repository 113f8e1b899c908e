/-
  Walks: bits.Len64, LeadingZeros64, Div64 at the little moduli; numbers.reduce. No conditions.
-/
import Derived.Test.YtmgheellmllfpaaFldC
namespace Go.Sx
open Go.Proofs
-- TY: TYX, cellsE, foldE, foldN, cellsN, b_EN, cellsNV, foldNV, k32, k33, k16, k8, kA, kB, ud22, it8, it63, it3, ud3, ud5, unu8, wr16, wr8, wr32, wr24, kz, Int.reduceAdd, Int.reduceMod, Int.reduceSub, Int.cast_ofNat_Int
set_option maxRecDepth 100000
set_option linter.unusedSimpArgs false
set_option pp.deepTerms false
set_option pp.deepTerms.threshold 3
theorem k33 : Value.int .u64 4294967296 = u64 4294967296 := rfl
theorem k16 : Value.int .u64 65536 = u64 65536 := rfl
theorem k8 : Value.int .u64 256 = u64 256 := rfl
theorem kz : Value.int .u64 64 = u64 64 := rfl
theorem kA : Value.int .u64 16513537 = u64 16513537 := rfl
theorem kB : Value.int .u64 16521217 = u64 16521217 := rfl
theorem ud22 : Try.prog.underlying 22 = some (.int .u64) := by kernel_rfl
theorem ud3 : Try.prog.underlying 3 = some (.int .i64) := by kernel_rfl
theorem ud5 : Try.prog.underlying 5 = some (.int .u8) := by kernel_rfl
theorem it8 : intT Try.prog 5 = some .u8 := by kernel_rfl
theorem it3 : intT Try.prog 3 = some .i64 := by kernel_rfl
theorem it63 : intT Try.prog 63 = some .u64 := by kernel_rfl
theorem unu8 : ∀ n : Nat, (n : Int) % 256 = ((n % 256 : Nat) : Int) := by intro n; simp
theorem wr16 : IntKind.i64.wrap 16 = 16 := by decide
theorem wr8 : IntKind.i64.wrap 8 = 8 := by decide
theorem wr32 : IntKind.i64.wrap 32 = 32 := by decide
theorem wr24 : IntKind.i64.wrap 24 = 24 := by decide
theorem wr40 : IntKind.i64.wrap 40 = 40 := by decide
theorem c_len64A : Contract Try.prog 83 [.val (u64 16513537)] [.val (.int .i64 24)] := by
  have e1 : ushr 16513537 16 = 251 := by rw [ushr_eq]; rfl
  refine contract_of (N := _) (vars := _) (c := bodyOf Try.f83) Try.func83 (body_eq rfl) rfl rfl (by rfl) mixed _ _ trivial 1000 ?_
  simp only [bodyOf, Try.f83, Option.getD_some, argA, argE, List.length_cons, List.length_nil, Nat.reduceAdd, Nat.reduceSub, List.replicate, List.cons_append, List.nil_append]
  simp only [SX, simprocAttr, TYX, cellsE, foldE, foldN, cellsN, b_EN, cellsNV, foldNV, k32, k33, k16, k8, kA, kB, ud22, it8, it63, it3, ud3, ud5, unu8, wr16, wr8, wr32, wr24, kz, Int.reduceAdd, Int.reduceMod, Int.reduceSub, Int.cast_ofNat_Int]
  simp only [SX, simprocAttr, TYX, cellsE, foldE, foldN, cellsN, b_EN, cellsNV, foldNV, k32, k33, k16, k8, kA, kB, ud22, it8, it63, it3, ud3, ud5, unu8, wr16, wr8, wr32, wr24, kz, Int.reduceAdd, Int.reduceMod, Int.reduceSub, Int.cast_ofNat_Int, e1]
  refine ExVC.intro (.int .u8 8) (indexString (b := 8) (by kernel_rfl) (by rfl) (by rfl) (by decide) (by kernel_rfl)) ?_
  simp only [SX, simprocAttr, TYX, cellsE, foldE, foldN, cellsN, b_EN, cellsNV, foldNV, k32, k33, k16, k8, kA, kB, ud22, it8, it63, it3, ud3, ud5, unu8, wr16, wr8, wr32, wr24, kz, Int.reduceAdd, Int.reduceMod, Int.reduceSub, Int.cast_ofNat_Int, wr24]
theorem c_len64B : Contract Try.prog 83 [.val (u64 16521217)] [.val (.int .i64 24)] := by
  have e1 : ushr 16521217 16 = 252 := by rw [ushr_eq]; rfl
  refine contract_of (N := _) (vars := _) (c := bodyOf Try.f83) Try.func83 (body_eq rfl) rfl rfl (by rfl) mixed _ _ trivial 1000 ?_
  simp only [bodyOf, Try.f83, Option.getD_some, argA, argE, List.length_cons, List.length_nil, Nat.reduceAdd, Nat.reduceSub, List.replicate, List.cons_append, List.nil_append]
  simp only [SX, simprocAttr, TYX, cellsE, foldE, foldN, cellsN, b_EN, cellsNV, foldNV, k32, k33, k16, k8, kA, kB, ud22, it8, it63, it3, ud3, ud5, unu8, wr16, wr8, wr32, wr24, kz, Int.reduceAdd, Int.reduceMod, Int.reduceSub, Int.cast_ofNat_Int]
  simp only [SX, simprocAttr, TYX, cellsE, foldE, foldN, cellsN, b_EN, cellsNV, foldNV, k32, k33, k16, k8, kA, kB, ud22, it8, it63, it3, ud3, ud5, unu8, wr16, wr8, wr32, wr24, kz, Int.reduceAdd, Int.reduceMod, Int.reduceSub, Int.cast_ofNat_Int, e1]
  refine ExVC.intro (.int .u8 8) (indexString (b := 8) (by kernel_rfl) (by rfl) (by rfl) (by decide) (by kernel_rfl)) ?_
  simp only [SX, simprocAttr, TYX, cellsE, foldE, foldN, cellsN, b_EN, cellsNV, foldNV, k32, k33, k16, k8, kA, kB, ud22, it8, it63, it3, ud3, ud5, unu8, wr16, wr8, wr32, wr24, kz, Int.reduceAdd, Int.reduceMod, Int.reduceSub, Int.cast_ofNat_Int, wr24]
theorem c_lz64A : Contract Try.prog 81 [.val (u64 16513537)] [.val (.int .i64 40)] := by
  refine contract_of (N := _) (vars := _) (c := bodyOf Try.f81) Try.func81 (body_eq rfl) rfl rfl (by rfl) mixed _ _ trivial 1000 ?_
  simp only [bodyOf, Try.f81, Option.getD_some, argA, argE, List.length_cons, List.length_nil, Nat.reduceAdd, Nat.reduceSub, List.replicate, List.cons_append, List.nil_append]
  simp only [SX, simprocAttr, TYX, cellsE, foldE, foldN, cellsN, b_EN, cellsNV, foldNV, k32, k33, k16, k8, kA, kB, ud22, it8, it63, it3, ud3, ud5, unu8, wr16, wr8, wr32, wr24, kz, Int.reduceAdd, Int.reduceMod, Int.reduceSub, Int.cast_ofNat_Int]
  refine CallVC.intro c_len64A ⟨rfl, trivial⟩ rfl rfl ?_
  simp only [SX, simprocAttr, TYX, cellsE, foldE, foldN, cellsN, b_EN, cellsNV, foldNV, k32, k33, k16, k8, kA, kB, ud22, it8, it63, it3, ud3, ud5, unu8, wr16, wr8, wr32, wr24, kz, Int.reduceAdd, Int.reduceMod, Int.reduceSub, Int.cast_ofNat_Int, wr40]
theorem c_lz64B : Contract Try.prog 81 [.val (u64 16521217)] [.val (.int .i64 40)] := by
  refine contract_of (N := _) (vars := _) (c := bodyOf Try.f81) Try.func81 (body_eq rfl) rfl rfl (by rfl) mixed _ _ trivial 1000 ?_
  simp only [bodyOf, Try.f81, Option.getD_some, argA, argE, List.length_cons, List.length_nil, Nat.reduceAdd, Nat.reduceSub, List.replicate, List.cons_append, List.nil_append]
  simp only [SX, simprocAttr, TYX, cellsE, foldE, foldN, cellsN, b_EN, cellsNV, foldNV, k32, k33, k16, k8, kA, kB, ud22, it8, it63, it3, ud3, ud5, unu8, wr16, wr8, wr32, wr24, kz, Int.reduceAdd, Int.reduceMod, Int.reduceSub, Int.cast_ofNat_Int]
  refine CallVC.intro c_len64B ⟨rfl, trivial⟩ rfl rfl ?_
  simp only [SX, simprocAttr, TYX, cellsE, foldE, foldN, cellsN, b_EN, cellsNV, foldNV, k32, k33, k16, k8, kA, kB, ud22, it8, it63, it3, ud3, ud5, unu8, wr16, wr8, wr32, wr24, kz, Int.reduceAdd, Int.reduceMod, Int.reduceSub, Int.cast_ofNat_Int, wr40]
theorem us24 : usub 64 40 = 24 := by rw [usub_eq]
theorem dv1 (lo u1 : Nat) (hu : u1 = lo * 1099511627776 % 18446744073709551616 / 4294967296) : u1 = lo % 16777216 * 256 ∧ lo * 1099511627776 % 18446744073709551616 % 4294967296 = 0 := by
  have a1 : lo * 1099511627776 % 18446744073709551616 = lo % 16777216 * 1099511627776 := by omega
  rw [a1] at hu ⊢
  omega
theorem dv2 (hi lo V X u1 : Nat) (hV : V = hi * 18446744073709551616 + lo) (hX : X = hi * 1099511627776 + lo / 16777216) (hu : u1 = lo % 16777216 * 256) : V = X * 16777216 + u1 / 256 := by
  have : u1 / 256 = lo % 16777216 := by omega
  rw [this, hV, hX, Nat.add_mul]
  clear this hV hX hu
  omega
theorem wsub (S U : Nat) (h : U < 18446744073709551616) : ((S + U) % 18446744073709551616 + (18446744073709551616 - S % 18446744073709551616)) % 18446744073709551616 = U := by omega
theorem dv3 (X u1 q1 r1 U : Nat)  (hq : X = 4227465472 * q1 + r1) (hr : r1 < 4227465472) (hu1 : u1 < 4294967296) (hU : U = r1 * 4294967296 + u1) :
   usub (uadd (umul X 4294967296) u1) (umul q1 18156825947209203712) = U := by 
  have h2 : U < 18446744073709551616 := by omega
  have h1 : X * 4294967296 + u1 = q1 * 18156825947209203712 + U := by
    rw [hq, hU, Nat.add_mul]; clear hq hU h2; omega
  have h3 : (X * 4294967296 % 18446744073709551616 + u1) % 18446744073709551616 = (q1 * 18156825947209203712 + U) % 18446744073709551616 := by rw [Nat.mod_add_mod, h1]
  rw [usub_eq, uadd_eq, umul_eq, umul_eq, h3, Nat.mod_mod]
  exact wsub _ _ h2
theorem dv4 (U q0 r0 : Nat)  (hq : U = 4227465472 * q0 + r0) (hr : r0 < 4227465472)  :
   usub (uadd (umul U 4294967296) 0) (umul q0 18156825947209203712) = r0 * 4294967296 := by 
  have h1 : U * 4294967296 = q0 * 18156825947209203712 + r0 * 4294967296 := by
    rw [hq, Nat.add_mul]; clear hq hr; omega
  have h2 : r0 * 4294967296 < 18446744073709551616 := by omega
  rw [usub_eq, uadd_eq, umul_eq, umul_eq, Nat.add_zero, h1, Nat.mod_mod, Nat.mod_mod]
  exact wsub _ _ h2
theorem dv6 (q1 q0 r0 : Nat): 4227465472 * q1 * 4294967296 + (4227465472 * q0 + r0) = 4227465472 * (q1*4294967296+q0) + r0 := by omega
theorem dv5 (V X u1 q1 r1 U q0 r0 : Nat) (hV : V = X * 16777216 + u1 / 256) (hu1 : u1 % 256 = 0)  (hq : X = 4227465472 * q1 + r1) (hU : U = r1 * 4294967296 + u1) (hp : U = 4227465472 * q0 + r0) (hr : r0 < 4227465472) :
    V = 16513537 * (q1 * 4294967296 + q0) + r0 * 4294967296 / 1099511627776 ∧ r0 * 4294967296 / 1099511627776 < 16513537 := by
  have e1 : V * 256 = X * 4294967296 + u1 := by omega
  have e2 : X * 4294967296 + u1 = 4227465472 * q1 * 4294967296 + U := by rw [hq, hU, Nat.add_mul, Nat.add_assoc]
  have e3 : V * 256 = 4227465472 * (q1 * 4294967296 + q0) + r0 := by rw [e1, e2, hp]; exact dv6 q1 q0 r0
  have e4 : r0 * 4294967296 / 1099511627776 = r0 / 256 := by clear e1 e2 e3 hq hU hp hV; omega
  rw [e4]
  clear e1 e2 e4 hq hU hp hV hu1
  generalize q1 * 4294967296 + q0 = S at *
  omega
theorem c_div64A (hi lo V : Nat) (hh : hi < 16513537) (hl : lo < 18446744073709551616) (hV : V = hi * 18446744073709551616 + lo) : Contract Try.prog 72 [.val (u64 hi), .val (u64 lo), .val (u64 16513537)] [.val (u64 (V / 16513537)), .val (u64 (V % 16513537))] := by
  obtain ⟨X, hX⟩ : ∃ X, X = hi * 1099511627776 + lo / 16777216 := ⟨_, rfl⟩
  obtain ⟨u1, hu⟩ : ∃ u1, u1 = lo * 1099511627776 % 18446744073709551616 / 4294967296 := ⟨_, rfl⟩
  obtain ⟨hu', hu0⟩ := dv1 lo u1 hu
  have hx : uor (ushl hi 40) (ushr lo 24) = X := by
    rw [ushl_eq, ushr_eq, sh_40, sh_24, hX, Nat.mod_eq_of_lt (by omega), Nat.add_comm (hi * 1099511627776)]
    exact (uor_addK (lo / 16777216) (hi * 1099511627776) 40 1099511627776 (by decide) (by omega) (Nat.dvd_mul_left _ _) (by omega)).2
  have hw : ushl lo 40 % 4294967296 = 0 := by rw [ushl_eq, sh_40]; exact hu0
  have hw1 : ushr (ushl lo 40) 32 = u1 := by rw [ushr_eq, ushl_eq, sh_40, sh_32, hu]
  have hX1 : X < 4227465472 * 4294967296 := by clear hu hu' hu0 hx hV; omega
  have hu1 : u1 < 4294967296 ∧ u1 % 256 = 0 := by clear hu0 hx hV hX; omega
  have hv := dv2 hi lo V X u1 hV hX hu'
  have g1 : decide (16513537 ≤ hi) = false := by simp; omega
  have hV0 : hi = 0 → V = lo := by rintro rfl; omega
  clear hV hX hh hu'
  obtain ⟨q1, r1, hq, hr1⟩ : ∃ q1 r1, X = 4227465472 * q1 + r1 ∧ r1 < 4227465472 := ⟨X / 4227465472, X % 4227465472, (Nat.div_add_mod _ _).symm, Nat.mod_lt _ (by decide)⟩
  have hqd : X / 4227465472 = q1 := by rw [hq, Nat.mul_add_div (by decide), Nat.div_eq_of_lt hr1, Nat.add_zero]
  have hq2 : q1 < 4294967296 := by rw [← hqd]; exact Nat.div_lt_of_lt_mul hX1
  have hqe : uquo X 4227465472 = q1 := by rw [uquo_eq, hqd, Nat.mod_eq_of_lt (by omega)]
  have hq1 : decide (4294967296 ≤ q1) = false := by simp; omega
  obtain ⟨U, hU⟩ : ∃ U, U = r1 * 4294967296 + u1 := ⟨_, rfl⟩
  have hUe := dv3 X u1 q1 r1 U hq hr1 hu1.1 hU
  have hU1 : U < 4227465472 * 4294967296 := by clear hq hqe hUe hqd hv hu hu0 hx; omega
  obtain ⟨q0, r0, hp, hr0⟩ : ∃ q0 r0, U = 4227465472 * q0 + r0 ∧ r0 < 4227465472 := ⟨U / 4227465472, U % 4227465472, (Nat.div_add_mod _ _).symm, Nat.mod_lt _ (by decide)⟩
  have hpd : U / 4227465472 = q0 := by rw [hp, Nat.mul_add_div (by decide), Nat.div_eq_of_lt hr0, Nat.add_zero]
  have hp2 : q0 < 4294967296 := by rw [← hpd]; exact Nat.div_lt_of_lt_mul hU1
  have hpe : uquo U 4227465472 = q0 := by rw [uquo_eq, hpd, Nat.mod_eq_of_lt (by omega)]
  have hp1 : decide (4294967296 ≤ q0) = false := by simp; omega
  have h4 := dv4 U q0 r0 hp hr0
  obtain ⟨h5, h6⟩ := dv5 V X u1 q1 r1 U q0 r0 hv hu1.2 hq hU hp hr0
  have f1 : uadd (umul q1 4294967296) q0 = V / 16513537 := by
    rw [uadd_eq, umul_eq, h5, Nat.mul_add_div (by decide), Nat.div_eq_of_lt h6, Nat.add_zero]; clear h5 h6 h4 hp hpe hUe hU hq hqe hqd hpd hv hx hu0 hu; omega
  have f2 : ushr (r0 * 4294967296) 40 = V % 16513537 := by
    rw [ushr_eq, sh_40, h5, Nat.mul_add_mod, Nat.mod_eq_of_lt h6]
  have e1 : ushl 16513537 40 = 18156825947209203712 := by rw [ushl_eq]; rfl
  have e2 : ushr 18156825947209203712 32 = 4227465472 := by rw [ushr_eq]; rfl
  have f3 : hi = 0 → uquo lo 16513537 = V / 16513537 ∧ urem lo 16513537 = V % 16513537 := by
    intro h; rw [hV0 h, uquo_eq, urem_eq, Nat.mod_eq_of_lt]
    · exact ⟨rfl, rfl⟩
    · exact Nat.lt_of_le_of_lt (Nat.div_le_self _ _) hl
  clear h5 h6 hp hU hq hqd hpd hv hr0 hr1 hX1 hu1 hU1 hq2 hp2 hV0 hu hu0
  refine contract_of (N := _) (vars := _) (c := bodyOf Try.f72) Try.func72 (body_eq rfl) rfl rfl (by rfl) mixed _ _ trivial 1000 ?_
  simp only [bodyOf, Try.f72, Option.getD_some, argA, argE, List.length_cons, List.length_nil, Nat.reduceAdd, Nat.reduceSub, List.replicate, List.cons_append, List.nil_append]
  simp only [SX, simprocAttr, TYX, cellsE, foldE, foldN, cellsN, b_EN, cellsNV, foldNV, k32, k33, k16, k8, kA, kB, ud22, it8, it63, it3, ud3, ud5, unu8, wr16, wr8, wr32, wr24, kz, Int.reduceAdd, Int.reduceMod, Int.reduceSub, Int.cast_ofNat_Int]
  simp only [SX, simprocAttr, TYX, cellsE, foldE, foldN, cellsN, b_EN, cellsNV, foldNV, k32, k33, k16, k8, kA, kB, ud22, it8, it63, it3, ud3, ud5, unu8, wr16, wr8, wr32, wr24, kz, Int.reduceAdd, Int.reduceMod, Int.reduceSub, Int.cast_ofNat_Int, g1]
  refine cond_split (fun h0 => ?_) (fun h0 => ?_)
  · have h0 : hi = 0 := by simpa using h0
    obtain ⟨f4, f5⟩ := f3 h0
    simp only [SX, simprocAttr, TYX, cellsE, foldE, foldN, cellsN, b_EN, cellsNV, foldNV, k32, k33, k16, k8, kA, kB, ud22, it8, it63, it3, ud3, ud5, unu8, wr16, wr8, wr32, wr24, kz, Int.reduceAdd, Int.reduceMod, Int.reduceSub, Int.cast_ofNat_Int, f4, f5]
    show _ = _
    kernel_rfl
  · simp only [SX, simprocAttr, TYX, cellsE, foldE, foldN, cellsN, b_EN, cellsNV, foldNV, k32, k33, k16, k8, kA, kB, ud22, it8, it63, it3, ud3, ud5, unu8, wr16, wr8, wr32, wr24, kz, Int.reduceAdd, Int.reduceMod, Int.reduceSub, Int.cast_ofNat_Int]
    refine CallVC.intro c_lz64A ⟨rfl, trivial⟩ rfl rfl ?_
    simp only [SX, simprocAttr, TYX, cellsE, foldE, foldN, cellsN, b_EN, cellsNV, foldNV, k32, k33, k16, k8, kA, kB, ud22, it8, it63, it3, ud3, ud5, unu8, wr16, wr8, wr32, wr24, kz, Int.reduceAdd, Int.reduceMod, Int.reduceSub, Int.cast_ofNat_Int, us24, e1, e2, hx, hw, hw1, hqe, hUe, hpe]
    refine loop_rounds 1 ?_
    refine RoundsVC.step mixed trivial 1000 ?_
    simp only [SX, simprocAttr, TYX, cellsE, foldE, foldN, cellsN, b_EN, cellsNV, foldNV, k32, k33, k16, k8, kA, kB, ud22, it8, it63, it3, ud3, ud5, unu8, wr16, wr8, wr32, wr24, kz, Int.reduceAdd, Int.reduceMod, Int.reduceSub, Int.cast_ofNat_Int, hq1, hUe, hpe]
    refine loop_rounds 1 ?_
    refine RoundsVC.step mixed trivial 1000 ?_
    simp only [SX, simprocAttr, TYX, cellsE, foldE, foldN, cellsN, b_EN, cellsNV, foldNV, k32, k33, k16, k8, kA, kB, ud22, it8, it63, it3, ud3, ud5, unu8, wr16, wr8, wr32, wr24, kz, Int.reduceAdd, Int.reduceMod, Int.reduceSub, Int.cast_ofNat_Int, hp1, f1, h4, f2]
theorem dv3b (X u1 q1 r1 U : Nat)  (hq : X = 4229431552 * q1 + r1) (hr : r1 < 4229431552) (hu1 : u1 < 4294967296) (hU : U = r1 * 4294967296 + u1) :
   usub (uadd (umul X 4294967296) u1) (umul q1 18165270196510523392) = U := by 
  have h2 : U < 18446744073709551616 := by omega
  have h1 : X * 4294967296 + u1 = q1 * 18165270196510523392 + U := by
    rw [hq, hU, Nat.add_mul]; clear hq hU h2; omega
  have h3 : (X * 4294967296 % 18446744073709551616 + u1) % 18446744073709551616 = (q1 * 18165270196510523392 + U) % 18446744073709551616 := by rw [Nat.mod_add_mod, h1]
  rw [usub_eq, uadd_eq, umul_eq, umul_eq, h3, Nat.mod_mod]
  exact wsub _ _ h2
theorem dv4b (U q0 r0 : Nat)  (hq : U = 4229431552 * q0 + r0) (hr : r0 < 4229431552)  :
   usub (uadd (umul U 4294967296) 0) (umul q0 18165270196510523392) = r0 * 4294967296 := by 
  have h1 : U * 4294967296 = q0 * 18165270196510523392 + r0 * 4294967296 := by
    rw [hq, Nat.add_mul]; clear hq hr; omega
  have h2 : r0 * 4294967296 < 18446744073709551616 := by omega
  rw [usub_eq, uadd_eq, umul_eq, umul_eq, Nat.add_zero, h1, Nat.mod_mod, Nat.mod_mod]
  exact wsub _ _ h2
theorem dv6b (q1 q0 r0 : Nat): 4229431552 * q1 * 4294967296 + (4229431552 * q0 + r0) = 4229431552 * (q1*4294967296+q0) + r0 := by omega
theorem dv5b (V X u1 q1 r1 U q0 r0 : Nat) (hV : V = X * 16777216 + u1 / 256) (hu1 : u1 % 256 = 0)  (hq : X = 4229431552 * q1 + r1) (hU : U = r1 * 4294967296 + u1) (hp : U = 4229431552 * q0 + r0) (hr : r0 < 4229431552) :
    V = 16521217 * (q1 * 4294967296 + q0) + r0 * 4294967296 / 1099511627776 ∧ r0 * 4294967296 / 1099511627776 < 16521217 := by
  have e1 : V * 256 = X * 4294967296 + u1 := by omega
  have e2 : X * 4294967296 + u1 = 4229431552 * q1 * 4294967296 + U := by rw [hq, hU, Nat.add_mul, Nat.add_assoc]
  have e3 : V * 256 = 4229431552 * (q1 * 4294967296 + q0) + r0 := by rw [e1, e2, hp]; exact dv6b q1 q0 r0
  have e4 : r0 * 4294967296 / 1099511627776 = r0 / 256 := by clear e1 e2 e3 hq hU hp hV; omega
  rw [e4]
  clear e1 e2 e4 hq hU hp hV hu1
  generalize q1 * 4294967296 + q0 = S at *
  omega
theorem c_div64B (hi lo V : Nat) (hh : hi < 16521217) (hl : lo < 18446744073709551616) (hV : V = hi * 18446744073709551616 + lo) : Contract Try.prog 72 [.val (u64 hi), .val (u64 lo), .val (u64 16521217)] [.val (u64 (V / 16521217)), .val (u64 (V % 16521217))] := by
  obtain ⟨X, hX⟩ : ∃ X, X = hi * 1099511627776 + lo / 16777216 := ⟨_, rfl⟩
  obtain ⟨u1, hu⟩ : ∃ u1, u1 = lo * 1099511627776 % 18446744073709551616 / 4294967296 := ⟨_, rfl⟩
  obtain ⟨hu', hu0⟩ := dv1 lo u1 hu
  have hx : uor (ushl hi 40) (ushr lo 24) = X := by
    rw [ushl_eq, ushr_eq, sh_40, sh_24, hX, Nat.mod_eq_of_lt (by omega), Nat.add_comm (hi * 1099511627776)]
    exact (uor_addK (lo / 16777216) (hi * 1099511627776) 40 1099511627776 (by decide) (by omega) (Nat.dvd_mul_left _ _) (by omega)).2
  have hw : ushl lo 40 % 4294967296 = 0 := by rw [ushl_eq, sh_40]; exact hu0
  have hw1 : ushr (ushl lo 40) 32 = u1 := by rw [ushr_eq, ushl_eq, sh_40, sh_32, hu]
  have hX1 : X < 4229431552 * 4294967296 := by clear hu hu' hu0 hx hV; omega
  have hu1 : u1 < 4294967296 ∧ u1 % 256 = 0 := by clear hu0 hx hV hX; omega
  have hv := dv2 hi lo V X u1 hV hX hu'
  have g1 : decide (16521217 ≤ hi) = false := by simp; omega
  have hV0 : hi = 0 → V = lo := by rintro rfl; omega
  clear hV hX hh hu'
  obtain ⟨q1, r1, hq, hr1⟩ : ∃ q1 r1, X = 4229431552 * q1 + r1 ∧ r1 < 4229431552 := ⟨X / 4229431552, X % 4229431552, (Nat.div_add_mod _ _).symm, Nat.mod_lt _ (by decide)⟩
  have hqd : X / 4229431552 = q1 := by rw [hq, Nat.mul_add_div (by decide), Nat.div_eq_of_lt hr1, Nat.add_zero]
  have hq2 : q1 < 4294967296 := by rw [← hqd]; exact Nat.div_lt_of_lt_mul hX1
  have hqe : uquo X 4229431552 = q1 := by rw [uquo_eq, hqd, Nat.mod_eq_of_lt (by omega)]
  have hq1 : decide (4294967296 ≤ q1) = false := by simp; omega
  obtain ⟨U, hU⟩ : ∃ U, U = r1 * 4294967296 + u1 := ⟨_, rfl⟩
  have hUe := dv3b X u1 q1 r1 U hq hr1 hu1.1 hU
  have hU1 : U < 4229431552 * 4294967296 := by clear hq hqe hUe hqd hv hu hu0 hx; omega
  obtain ⟨q0, r0, hp, hr0⟩ : ∃ q0 r0, U = 4229431552 * q0 + r0 ∧ r0 < 4229431552 := ⟨U / 4229431552, U % 4229431552, (Nat.div_add_mod _ _).symm, Nat.mod_lt _ (by decide)⟩
  have hpd : U / 4229431552 = q0 := by rw [hp, Nat.mul_add_div (by decide), Nat.div_eq_of_lt hr0, Nat.add_zero]
  have hp2 : q0 < 4294967296 := by rw [← hpd]; exact Nat.div_lt_of_lt_mul hU1
  have hpe : uquo U 4229431552 = q0 := by rw [uquo_eq, hpd, Nat.mod_eq_of_lt (by omega)]
  have hp1 : decide (4294967296 ≤ q0) = false := by simp; omega
  have h4 := dv4b U q0 r0 hp hr0
  obtain ⟨h5, h6⟩ := dv5b V X u1 q1 r1 U q0 r0 hv hu1.2 hq hU hp hr0
  have f1 : uadd (umul q1 4294967296) q0 = V / 16521217 := by
    rw [uadd_eq, umul_eq, h5, Nat.mul_add_div (by decide), Nat.div_eq_of_lt h6, Nat.add_zero]; clear h5 h6 h4 hp hpe hUe hU hq hqe hqd hpd hv hx hu0 hu; omega
  have f2 : ushr (r0 * 4294967296) 40 = V % 16521217 := by
    rw [ushr_eq, sh_40, h5, Nat.mul_add_mod, Nat.mod_eq_of_lt h6]
  have e1 : ushl 16521217 40 = 18165270196510523392 := by rw [ushl_eq]; rfl
  have e2 : ushr 18165270196510523392 32 = 4229431552 := by rw [ushr_eq]; rfl
  have f3 : hi = 0 → uquo lo 16521217 = V / 16521217 ∧ urem lo 16521217 = V % 16521217 := by
    intro h; rw [hV0 h, uquo_eq, urem_eq, Nat.mod_eq_of_lt]
    · exact ⟨rfl, rfl⟩
    · exact Nat.lt_of_le_of_lt (Nat.div_le_self _ _) hl
  clear h5 h6 hp hU hq hqd hpd hv hr0 hr1 hX1 hu1 hU1 hq2 hp2 hV0 hu hu0
  refine contract_of (N := _) (vars := _) (c := bodyOf Try.f72) Try.func72 (body_eq rfl) rfl rfl (by rfl) mixed _ _ trivial 1000 ?_
  simp only [bodyOf, Try.f72, Option.getD_some, argA, argE, List.length_cons, List.length_nil, Nat.reduceAdd, Nat.reduceSub, List.replicate, List.cons_append, List.nil_append]
  simp only [SX, simprocAttr, TYX, cellsE, foldE, foldN, cellsN, b_EN, cellsNV, foldNV, k32, k33, k16, k8, kA, kB, ud22, it8, it63, it3, ud3, ud5, unu8, wr16, wr8, wr32, wr24, kz, Int.reduceAdd, Int.reduceMod, Int.reduceSub, Int.cast_ofNat_Int]
  simp only [SX, simprocAttr, TYX, cellsE, foldE, foldN, cellsN, b_EN, cellsNV, foldNV, k32, k33, k16, k8, kA, kB, ud22, it8, it63, it3, ud3, ud5, unu8, wr16, wr8, wr32, wr24, kz, Int.reduceAdd, Int.reduceMod, Int.reduceSub, Int.cast_ofNat_Int, g1]
  refine cond_split (fun h0 => ?_) (fun h0 => ?_)
  · have h0 : hi = 0 := by simpa using h0
    obtain ⟨f4, f5⟩ := f3 h0
    simp only [SX, simprocAttr, TYX, cellsE, foldE, foldN, cellsN, b_EN, cellsNV, foldNV, k32, k33, k16, k8, kA, kB, ud22, it8, it63, it3, ud3, ud5, unu8, wr16, wr8, wr32, wr24, kz, Int.reduceAdd, Int.reduceMod, Int.reduceSub, Int.cast_ofNat_Int, f4, f5]
    show _ = _
    kernel_rfl
  · simp only [SX, simprocAttr, TYX, cellsE, foldE, foldN, cellsN, b_EN, cellsNV, foldNV, k32, k33, k16, k8, kA, kB, ud22, it8, it63, it3, ud3, ud5, unu8, wr16, wr8, wr32, wr24, kz, Int.reduceAdd, Int.reduceMod, Int.reduceSub, Int.cast_ofNat_Int]
    refine CallVC.intro c_lz64B ⟨rfl, trivial⟩ rfl rfl ?_
    simp only [SX, simprocAttr, TYX, cellsE, foldE, foldN, cellsN, b_EN, cellsNV, foldNV, k32, k33, k16, k8, kA, kB, ud22, it8, it63, it3, ud3, ud5, unu8, wr16, wr8, wr32, wr24, kz, Int.reduceAdd, Int.reduceMod, Int.reduceSub, Int.cast_ofNat_Int, us24, e1, e2, hx, hw, hw1, hqe, hUe, hpe]
    refine loop_rounds 1 ?_
    refine RoundsVC.step mixed trivial 1000 ?_
    simp only [SX, simprocAttr, TYX, cellsE, foldE, foldN, cellsN, b_EN, cellsNV, foldNV, k32, k33, k16, k8, kA, kB, ud22, it8, it63, it3, ud3, ud5, unu8, wr16, wr8, wr32, wr24, kz, Int.reduceAdd, Int.reduceMod, Int.reduceSub, Int.cast_ofNat_Int, hq1, hUe, hpe]
    refine loop_rounds 1 ?_
    refine RoundsVC.step mixed trivial 1000 ?_
    simp only [SX, simprocAttr, TYX, cellsE, foldE, foldN, cellsN, b_EN, cellsNV, foldNV, k32, k33, k16, k8, kA, kB, ud22, it8, it63, it3, ud3, ud5, unu8, wr16, wr8, wr32, wr24, kz, Int.reduceAdd, Int.reduceMod, Int.reduceSub, Int.cast_ofNat_Int, hp1, f1, h4, f2]
end Go.Sx
