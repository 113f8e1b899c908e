/-
  Walks: types and numbers; bits.Add64, Sub64; word.Sub, word.Add by limbs. No conditions.
-/
import Derived.Test.YtmgheellmllfpaaType
namespace Go.Sx
open Go.Proofs
-- TY: TYX, cellsE, foldE

noncomputable def bodyOf (f : Func) : Code := f.body.getD .skip
theorem body_eq {f : Func} (h : f.body.isSome = true) : f.body = some (bodyOf f) := by
  cases hb : f.body with
  | none => rw [hb] at h; cases h
  | some c => simp [bodyOf, hb]

/-- An element of four words. -/
def E4 (a b c d : Nat) : Value := .agg #[u64 a, u64 b, u64 c, u64 d]
theorem cellsE (a b c d : Nat) : (E4 a b c d).cells.toList = [u64 a, u64 b, u64 c, u64 d] := rfl
theorem foldE (a b c d : Nat) : Value.agg [u64 a, u64 b, u64 c, u64 d].toArray = E4 a b c d := rfl

set_option maxRecDepth 100000
set_option linter.unusedSimpArgs false
set_option pp.deepTerms false
set_option pp.deepTerms.threshold 3

theorem call_ext {P : Program} {f : Nat} {fn : Func} {e : Array Value → Sem Value} {args : Array Value} {z : Value} (hf : P.funcs[f]? = some fn) (hn : (fn.name == "runtime.NumGoroutine") = false) (hb : fn.body.isNone = true)
    (hx : Extern.findNext fn = none) (hy : Extern.find fn = some e) (w : World) (hz : (e args).run P w = .ok z w) : (callFunc f args).run P w = .ok (.value z) w := by
  unfold callFunc
  simp only [Sem.run_bind, run_program, Result.andThen_ok, hf, hn, hb, hx, hy, Bool.false_eq_true, if_false, if_true, run_mark, hz, Sem.run_pure]
theorem three_run {P : Program} (name : String) (x y b : Nat) (hb : b ≤ 1) (w : World) : (Extern.MathBitsCarry.three name #[u64 x, u64 y, u64 b]).run P w = .ok (x, y, b) w := by
  have : Extern.MathBitsCarry.three name #[u64 x, u64 y, u64 b] = (do
    let c := (← asInt (u64 b)).toNat
    if c > 1 then unsupported (.noEntry ("extern/math/bits." ++ name ++ ": a carry that is neither 0 nor 1"))
    pure ((← asInt (u64 x)).toNat, (← asInt (u64 y)).toNat, c)) := rfl
  rw [this]
  simp [asInt, asIntOf, u64]
  omega
def subL (x y b : Nat) : Nat := (x + 18446744073709551616 - y - b) % 18446744073709551616
def subB (x y b : Nat) : Nat := if x < y + b then 1 else 0
theorem subB_le (x y b : Nat) : subB x y b ≤ 1 := by unfold subB; split <;> omega
def addL (x y b : Nat) : Nat := (x + y + b) % 18446744073709551616
def addB (x y b : Nat) : Nat := (x + y + b) / 18446744073709551616
/-- bits.Sub64 -/
theorem c_sub64 (x y b : Nat) (hb : b ≤ 1) : Contract Try.prog 73 [.val (u64 x), .val (u64 y), .val (u64 b)] [.val (u64 (subL x y b)), .val (u64 (subB x y b))] := by
  refine .inr ⟨[u64 x, u64 y, u64 b], [u64 (subL x y b), u64 (subB x y b)], rfl, rfl, fun w => ?_⟩
  refine call_ext (e := fun args => do
    let (x, y, b) ← Extern.MathBitsCarry.three "Sub64" args
    pure (Extern.MathBitsCarry.pair ((x + Extern.MathBitsCarry.m64 - y - b) % Extern.MathBitsCarry.m64) (if x < y + b then 1 else 0))) Try.func73 (by kernel_rfl) (by kernel_rfl) (by kernel_rfl) (by kernel_rfl) w ?_
  simp only [Sem.run_bind, three_run _ x y b hb, Result.andThen_ok, Sem.run_pure]
  rfl
/-- bits.Add64 -/
theorem c_add64 (x y b : Nat) (hb : b ≤ 1) : Contract Try.prog 74 [.val (u64 x), .val (u64 y), .val (u64 b)] [.val (u64 (addL x y b)), .val (u64 (addB x y b))] := by
  refine .inr ⟨[u64 x, u64 y, u64 b], [u64 (addL x y b), u64 (addB x y b)], rfl, rfl, fun w => ?_⟩
  refine call_ext (e := fun args => do
    let (x, y, c) ← Extern.MathBitsCarry.three "Add64" args
    pure (Extern.MathBitsCarry.pair ((x + y + c) % Extern.MathBitsCarry.m64) ((x + y + c) / Extern.MathBitsCarry.m64))) Try.func74 (by kernel_rfl) (by kernel_rfl) (by kernel_rfl) (by kernel_rfl) w ?_
  simp only [Sem.run_bind, three_run _ x y b hb, Result.andThen_ok, Sem.run_pure]
  rfl
/-- word.Sub -/
theorem c_word_sub4 (a0 a1 a2 a3 b0 b1 b2 b3 c1 c2 c3 c4 : Nat) (h1 : c1 = subB a0 b0 0) (h2 : c2 = subB a1 b1 c1) (h3 : c3 = subB a2 b2 c2) (h4 : c4 = subB a3 b3 c3) :
    Contract Try.prog 61 [.val (E4 a0 a1 a2 a3), .val (E4 b0 b1 b2 b3)] [.val (E4 (subL a0 b0 0) (subL a1 b1 c1) (subL a2 b2 c2) (subL a3 b3 c3)), .val (.bool (c4 != 0))] := by
  subst h4 h3 h2 h1
  refine contract_of (N := _) (vars := _) (c := bodyOf Try.f61) Try.func61 (body_eq rfl) rfl rfl (by rfl) mixed _ _ trivial 1000 ?_
  simp only [bodyOf, Try.f61, Option.getD_some, argA, argE, List.length_cons, List.length_nil, Nat.reduceAdd, Nat.reduceSub, List.replicate, List.cons_append, List.nil_append]
  simp only [SX, simprocAttr, TYX, cellsE, foldE]
  refine loop_rounds 5 ?_
  refine RoundsVC.step mixed trivial 1000 ?_
  simp only [SX, simprocAttr, TYX, cellsE, foldE]
  refine ⟨by kernel_rfl, ?_⟩
  refine CallVC.intro (c_sub64 _ _ _ (by omega)) ⟨rfl, rfl, rfl, trivial⟩ rfl rfl ?_
  simp only [SX, simprocAttr, TYX, cellsE, foldE]
  refine RoundsVC.step mixed trivial 1000 ?_
  simp only [SX, simprocAttr, TYX, cellsE, foldE]
  refine ⟨by kernel_rfl, ?_⟩
  refine CallVC.intro (c_sub64 _ _ _ (subB_le _ _ _)) ⟨rfl, rfl, rfl, trivial⟩ rfl rfl ?_
  simp only [SX, simprocAttr, TYX, cellsE, foldE]
  refine RoundsVC.step mixed trivial 1000 ?_
  simp only [SX, simprocAttr, TYX, cellsE, foldE]
  refine ⟨by kernel_rfl, ?_⟩
  refine CallVC.intro (c_sub64 _ _ _ (subB_le _ _ _)) ⟨rfl, rfl, rfl, trivial⟩ rfl rfl ?_
  simp only [SX, simprocAttr, TYX, cellsE, foldE]
  refine RoundsVC.step mixed trivial 1000 ?_
  simp only [SX, simprocAttr, TYX, cellsE, foldE]
  refine ⟨by kernel_rfl, ?_⟩
  refine CallVC.intro (c_sub64 _ _ _ (subB_le _ _ _)) ⟨rfl, rfl, rfl, trivial⟩ rfl rfl ?_
  simp only [SX, simprocAttr, TYX, cellsE, foldE]
  refine RoundsVC.step mixed trivial 1000 ?_
  simp only [SX, simprocAttr, TYX, cellsE, foldE]
/-- word.Add -/
theorem c_word_add4 (a0 a1 a2 a3 b0 b1 b2 b3 c1 c2 c3 c4 : Nat) (h1 : c1 = addB a0 b0 0) (h2 : c2 = addB a1 b1 c1) (h3 : c3 = addB a2 b2 c2) (h4 : c4 = addB a3 b3 c3) (l1 : c1 ≤ 1) (l2 : c2 ≤ 1) (l3 : c3 ≤ 1) :
    Contract Try.prog 63 [.val (E4 a0 a1 a2 a3), .val (E4 b0 b1 b2 b3)] [.val (E4 (addL a0 b0 0) (addL a1 b1 c1) (addL a2 b2 c2) (addL a3 b3 c3)), .val (.bool (c4 != 0))] := by
  subst h4 h3 h2 h1
  refine contract_of (N := _) (vars := _) (c := bodyOf Try.f63) Try.func63 (body_eq rfl) rfl rfl (by rfl) mixed _ _ trivial 1000 ?_
  simp only [bodyOf, Try.f63, Option.getD_some, argA, argE, List.length_cons, List.length_nil, Nat.reduceAdd, Nat.reduceSub, List.replicate, List.cons_append, List.nil_append]
  simp only [SX, simprocAttr, TYX, cellsE, foldE]
  refine loop_rounds 5 ?_
  refine RoundsVC.step mixed trivial 1000 ?_
  simp only [SX, simprocAttr, TYX, cellsE, foldE]
  refine ⟨by kernel_rfl, ?_⟩
  refine CallVC.intro (c_add64 _ _ _ (by omega)) ⟨rfl, rfl, rfl, trivial⟩ rfl rfl ?_
  simp only [SX, simprocAttr, TYX, cellsE, foldE]
  refine RoundsVC.step mixed trivial 1000 ?_
  simp only [SX, simprocAttr, TYX, cellsE, foldE]
  refine ⟨by kernel_rfl, ?_⟩
  refine CallVC.intro (c_add64 _ _ _ l1) ⟨rfl, rfl, rfl, trivial⟩ rfl rfl ?_
  simp only [SX, simprocAttr, TYX, cellsE, foldE]
  refine RoundsVC.step mixed trivial 1000 ?_
  simp only [SX, simprocAttr, TYX, cellsE, foldE]
  refine ⟨by kernel_rfl, ?_⟩
  refine CallVC.intro (c_add64 _ _ _ l2) ⟨rfl, rfl, rfl, trivial⟩ rfl rfl ?_
  simp only [SX, simprocAttr, TYX, cellsE, foldE]
  refine RoundsVC.step mixed trivial 1000 ?_
  simp only [SX, simprocAttr, TYX, cellsE, foldE]
  refine ⟨by kernel_rfl, ?_⟩
  refine CallVC.intro (c_add64 _ _ _ l3) ⟨rfl, rfl, rfl, trivial⟩ rfl rfl ?_
  simp only [SX, simprocAttr, TYX, cellsE, foldE]
  refine RoundsVC.step mixed trivial 1000 ?_
  simp only [SX, simprocAttr, TYX, cellsE, foldE]

/-! ### elements as numbers -/
def EN (n : Nat) : Value := E4 (n % 18446744073709551616) (n / 18446744073709551616 % 18446744073709551616) (n / 340282366920938463463374607431768211456 % 18446744073709551616) (n / 6277101735386680763835789423207666416102355444464034512896 % 18446744073709551616)
def W256 : Nat := 115792089237316195423570985008687907853269984665640564039457584007913129639936
theorem EN_of {n a b c d : Nat} (ha : a < 18446744073709551616) (hb : b < 18446744073709551616) (hc : c < 18446744073709551616) (hd : d < 18446744073709551616)
    (h : n = a + 18446744073709551616 * b + 340282366920938463463374607431768211456 * c + 6277101735386680763835789423207666416102355444464034512896 * d) : EN n = E4 a b c d := by
  subst h
  unfold EN
  congr 1 <;> omega
theorem EN_ex {n : Nat} (h : n < W256) : ∃ a b c d, a < 18446744073709551616 ∧ b < 18446744073709551616 ∧ c < 18446744073709551616 ∧ d < 18446744073709551616 ∧
    n = a + 18446744073709551616 * b + 340282366920938463463374607431768211456 * c + 6277101735386680763835789423207666416102355444464034512896 * d := by
  unfold W256 at h
  exact ⟨n % 18446744073709551616, n / 18446744073709551616 % 18446744073709551616, n / 340282366920938463463374607431768211456 % 18446744073709551616, n / 6277101735386680763835789423207666416102355444464034512896, by omega, by omega, by omega, by omega, by omega⟩

theorem sub_chain {x y b : Nat} (hx : x < 18446744073709551616) (hy : y < 18446744073709551616) (hb : b ≤ 1) : subL x y b + y + b = x + 18446744073709551616 * subB x y b ∧ subL x y b < 18446744073709551616 := by
  unfold subL subB
  split <;> omega
theorem add_chain {x y b : Nat} : addL x y b + 18446744073709551616 * addB x y b = x + y + b ∧ addL x y b < 18446744073709551616 := by
  unfold addL addB
  omega
theorem c_word_sub (a b : Nat) (ha : a < W256) (hb : b < W256) : Contract Try.prog 61 [.val (EN a), .val (EN b)] [.val (EN ((a + W256 - b) % W256)), .val (.bool (decide (a < b)))] := by
  obtain ⟨a0, a1, a2, a3, ha0, ha1, ha2, ha3, rfl⟩ := EN_ex ha
  obtain ⟨b0, b1, b2, b3, hb0, hb1, hb2, hb3, rfl⟩ := EN_ex hb
  rw [EN_of ha0 ha1 ha2 ha3 rfl, EN_of hb0 hb1 hb2 hb3 rfl]
  have s0 := sub_chain ha0 hb0 (Nat.zero_le 1)
  have s1 := sub_chain ha1 hb1 (subB_le a0 b0 0)
  have s2 := sub_chain ha2 hb2 (subB_le a1 b1 (subB a0 b0 0))
  have s3 := sub_chain ha3 hb3 (subB_le a2 b2 (subB a1 b1 (subB a0 b0 0)))
  have l3 := subB_le a3 b3 (subB a2 b2 (subB a1 b1 (subB a0 b0 0)))
  have h := c_word_sub4 a0 a1 a2 a3 b0 b1 b2 b3 _ _ _ _ rfl rfl rfl rfl
  generalize subB a3 b3 (subB a2 b2 (subB a1 b1 (subB a0 b0 0))) = c4 at *
  generalize subL a3 b3 (subB a2 b2 (subB a1 b1 (subB a0 b0 0))) = r3 at *
  generalize subB a2 b2 (subB a1 b1 (subB a0 b0 0)) = c3 at *
  generalize subL a2 b2 (subB a1 b1 (subB a0 b0 0)) = r2 at *
  generalize subB a1 b1 (subB a0 b0 0) = c2 at *
  generalize subL a1 b1 (subB a0 b0 0) = r1 at *
  generalize subB a0 b0 0 = c1 at *
  generalize subL a0 b0 0 = r0 at *
  unfold W256
  rw [EN_of (a := r0) (b := r1) (c := r2) (d := r3) s0.2 s1.2 s2.2 s3.2 (by omega)]
  have : (c4 != 0) = decide (a0 + 18446744073709551616 * a1 + 340282366920938463463374607431768211456 * a2 + 6277101735386680763835789423207666416102355444464034512896 * a3 < b0 + 18446744073709551616 * b1 + 340282366920938463463374607431768211456 * b2 + 6277101735386680763835789423207666416102355444464034512896 * b3) := by
    rw [Bool.eq_iff_iff]
    simp only [bne_iff_ne, ne_eq, decide_eq_true_eq]
    omega
  rw [← this]
  exact h
theorem c_word_add (a b : Nat) (ha : a < W256) (hb : b < W256) : Contract Try.prog 63 [.val (EN a), .val (EN b)] [.val (EN ((a + b) % W256)), .val (.bool (decide (W256 ≤ a + b)))] := by
  obtain ⟨a0, a1, a2, a3, ha0, ha1, ha2, ha3, rfl⟩ := EN_ex ha
  obtain ⟨b0, b1, b2, b3, hb0, hb1, hb2, hb3, rfl⟩ := EN_ex hb
  rw [EN_of ha0 ha1 ha2 ha3 rfl, EN_of hb0 hb1 hb2 hb3 rfl]
  have s0 := @add_chain a0 b0 0
  have s1 := @add_chain a1 b1 (addB a0 b0 0)
  have s2 := @add_chain a2 b2 (addB a1 b1 (addB a0 b0 0))
  have s3 := @add_chain a3 b3 (addB a2 b2 (addB a1 b1 (addB a0 b0 0)))
  have h := c_word_add4 a0 a1 a2 a3 b0 b1 b2 b3 _ _ _ _ rfl rfl rfl rfl
  generalize addB a3 b3 (addB a2 b2 (addB a1 b1 (addB a0 b0 0))) = c4 at *
  generalize addL a3 b3 (addB a2 b2 (addB a1 b1 (addB a0 b0 0))) = r3 at *
  generalize addB a2 b2 (addB a1 b1 (addB a0 b0 0)) = c3 at *
  generalize addL a2 b2 (addB a1 b1 (addB a0 b0 0)) = r2 at *
  generalize addB a1 b1 (addB a0 b0 0) = c2 at *
  generalize addL a1 b1 (addB a0 b0 0) = r1 at *
  generalize addB a0 b0 0 = c1 at *
  generalize addL a0 b0 0 = r0 at *
  unfold W256
  rw [EN_of (a := r0) (b := r1) (c := r2) (d := r3) s0.2 s1.2 s2.2 s3.2 (by omega)]
  have : (c4 != 0) = decide (115792089237316195423570985008687907853269984665640564039457584007913129639936 ≤ a0 + 18446744073709551616 * a1 + 340282366920938463463374607431768211456 * a2 + 6277101735386680763835789423207666416102355444464034512896 * a3 + (b0 + 18446744073709551616 * b1 + 340282366920938463463374607431768211456 * b2 + 6277101735386680763835789423207666416102355444464034512896 * b3)) := by
    rw [Bool.eq_iff_iff]
    simp only [bne_iff_ne, ne_eq, decide_eq_true_eq]
    omega
  rw [← this]
  exact h (by omega) (by omega) (by omega)
end Go.Sx
