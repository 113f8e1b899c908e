/-
  Walk: redc. Walk: numbers.mul; the law of Montgomery's product. Walks: field.Add, Neg, Sub, Mul, by the sort. Walks of the references: below, minus, plus, Modulus, little. Walks of the references: minus and plus as numbers, Modulus, little, Of. No conditions.
-/
import Derived.Test.YtgeliidjmefkgaaZFieldA
namespace Go.Sx
open Go.Proofs
-- TY: TYX, cellsE, foldE, foldN, cellsN, b_EN, cellsNV, foldNV, cellsT, fold6, foldT, cells6, lowT
set_option maxRecDepth 100000
set_option linter.unusedSimpArgs false
set_option pp.deepTerms false
set_option pp.deepTerms.threshold 3
def M1 (n : Nat) : Nat := n / 18446744073709551616 % 18446744073709551616
def M0 (n : Nat) : Nat := n % 18446744073709551616
def M2 (n : Nat) : Nat := n / 340282366920938463463374607431768211456 % 18446744073709551616
def M3 (n : Nat) : Nat := n / 6277101735386680763835789423207666416102355444464034512896 % 18446744073709551616
def M4 (n : Nat) : Nat := n / 115792089237316195423570985008687907853269984665640564039457584007913129639936 % 18446744073709551616
def M5 (n : Nat) : Nat := n / 2135987035920910082395021706169552114602704522356652769947041607822219725780640550022962086936576 % 18446744073709551616
theorem cellsT (n : Nat) : (ET n).cells.toList = [u64 (M0 n), u64 (M1 n), u64 (M2 n), u64 (M3 n), u64 (M4 n), u64 (M5 n)] := rfl
theorem foldT (n : Nat) : T6 (M0 n) (M1 n) (M2 n) (M3 n) (M4 n) (M5 n) = ET n := rfl
theorem shiftT {n : Nat} (h : n < 39402006196394479212279040100143613805079739270465446667948293404245721771497210611414266254884915640806627990306816) : T6 (M1 n) (M2 n) (M3 n) (M4 n) (M5 n) 0 = ET (n / 18446744073709551616) := by
  obtain ⟨a, b, c, d, e, f, ha, hb, hc, hd, he, hf, hn⟩ := ET_ex h
  have e1 : M1 n = b := by unfold M1; omega
  have e2 : M2 n = c := by unfold M2; omega
  have e3 : M3 n = d := by unfold M3; omega
  have e4 : M4 n = e := by unfold M4; omega
  have e5 : M5 n = f := by unfold M5; omega
  rw [e1, e2, e3, e4, e5, ET_of (a := b) (b := c) (c := d) (d := e) (e := f) (f := 0) hb hc hd he hf (by decide) (by omega)]
theorem lowT (n : Nat) : E4 (M0 n) (M1 n) (M2 n) (M3 n) = EN n := rfl
theorem M4_zero {n : Nat} (h : n < W256) : M4 n = 0 := by unfold M4; unfold W256 at h; omega
theorem indexE4 {T : Nat → AV} {x i : Operand} {a b c e : Nat} {j : Int} {v : Value} (hx : ev T x = .o (.v (E4 a b c e))) (hi : ev T i = .o (.v (.int .i64 j))) (h0 : 0 ≤ j) (h4 : j < 4) (hv : #[u64 a, u64 b, u64 c, u64 e][j.toNat]? = some v) :
    pureOp Try.prog T (.index 25 x i) v := by
  intro o f w ho hf _
  have e1 := hf x (by simp [Op.operands]) _ hx
  have e2 := hf i (by simp [Op.operands]) _ hi
  obtain ⟨inf, hinf⟩ := info_of_underlying un22
  have hp : (part 23 #[u64 a, u64 b, u64 c, u64 e] j.toNat).run Try.prog w = .ok v w := run_part_plain w pk22 hv
  have hs : (sizeOf 23).run Try.prog w = .ok 1 w := by rw [run_sizeOf w hinf, co22]
  unfold E4 at e1
  simp [execOp, ho, e1, e2, Instr.index, run_underlying un24, h0, h4, asIntOf, hs, hp]
section
variable {Q : St → Prop} {n : Nat} {dr : Md} {all rest : List Oper} {k : List Frm} {st : St} {d : Option Nat}
theorem XIx {x i : Operand} {a b c e : Nat} {j : Int} (v : Value) (hx : ev st.T x = .o (.v (E4 a b c e))) (hi : ev st.T i = .o (.v (.int .i64 j))) (h0 : 0 ≤ j) (h4 : j < 4) (hv : #[u64 a, u64 b, u64 c, u64 e][j.toNat]? = some v)
    (h : vcx Try.prog Q n (.ops dr all rest :: k) (st.put d (val v))) : ExVC Try.prog Q n dr all rest k st d (pureOp Try.prog st.T (.index 25 x i)) :=
  ExVC.intro v (indexE4 hx hi h0 h4 hv) h
theorem XT {x0 x1 x2 x3 x4 x5 : Operand} (a0 a1 a2 a3 a4 a5 : Nat) (h0 : ev st.T x0 = .o (.v (u64 a0))) (h1 : ev st.T x1 = .o (.v (u64 a1))) (h2 : ev st.T x2 = .o (.v (u64 a2))) (h3 : ev st.T x3 = .o (.v (u64 a3))) (h4 : ev st.T x4 = .o (.v (u64 a4))) (h5 : ev st.T x5 = .o (.v (u64 a5)))
    (h : vcx Try.prog Q n (.ops dr all rest :: k) (st.put d (val (T6 a0 a1 a2 a3 a4 a5)))) :
    ExVC Try.prog Q n dr all rest k st d (pureOp Try.prog st.T (.build 119 #[(0, x0), (1, x1), (2, x2), (3, x3), (4, x4), (5, x5)])) :=
  ExVC.build [(0, u64 a0), (1, u64 a1), (2, u64 a2), (3, u64 a3), (4, u64 a4), (5, u64 a5)] (T6 a0 a1 a2 a3 a4 a5) _ (by simp [plains, h0, h1, h2, h3, h4, h5, plain]) (z79 a0 a1 a2 a3 a4 a5) rfl h
end
/-- One of the four steps. -/
noncomputable def rstep (m ng a t x : Nat) : Nat := (t + a * x + m * umul (M0 (t + a * x)) ng) / 18446744073709551616
theorem rstep_lt {m ng a t x : Nat} (ha : a < m) (ht : t < m * 2) (hx : x < 18446744073709551616) : rstep m ng a t x < m * 2 := by
  unfold rstep
  have h1 : a * x ≤ (m - 1) * 18446744073709551615 := Nat.mul_le_mul (by omega) (by omega)
  have h2 : m * umul (M0 (t + a * x)) ng ≤ m * 18446744073709551615 := Nat.mul_le_mul_left _ (by have := umul_lt (M0 (t + a * x)) ng; omega)
  generalize m * umul (M0 (t + a * x)) ng = y at *
  generalize a * x = z at *
  omega
theorem sum_lt {m a t x y : Nat} (hm : m * 2 ≤ W256) (ha : a < m) (ht : t < m * 2) (hx : x < 18446744073709551616) (hy : y < 18446744073709551616) : t + a * x + m * y < 39402006196394479212279040100143613805079739270465446667948293404245721771497210611414266254884915640806627990306816 := by
  have h1 : a * x ≤ m * 18446744073709551615 := Nat.mul_le_mul (by omega) (by omega)
  have h2 : m * y ≤ m * 18446744073709551615 := Nat.mul_le_mul_left _ (by omega)
  unfold W256 at hm
  generalize a * x = z at *
  generalize m * y = u at *
  omega
theorem c_redc4 {m sm ng sq : Nat} {ad : Int} (hm1 : 1 < m) (hm2 : m * 2 ≤ W256) (a b t1 t2 t3 t4 : Nat) (ha : a < m) (h1 : t1 = rstep m ng a 0 (L0 b)) (h2 : t2 = rstep m ng a t1 (L1 b)) (h3 : t3 = rstep m ng a t2 (L2 b)) (h4 : t4 = rstep m ng a t3 (L3 b)) :
    Contract Try.prog 118 [.val (NV m ad sm ng sq), .val (EN a), .val (EN b)] [.val (EN (t4 % m))] := by
  obtain ⟨z, hz⟩ : ∃ z : Nat, z = 0 := ⟨0, rfl⟩
  have zT : T6 0 0 0 0 0 0 = ET z := by rw [hz]; rfl
  rw [← hz] at h1
  have l0 : z < m * 2 := by omega
  have hmW : m < W256 := by omega
  have haW : a < W256 := by omega
  have l1 : t1 < m * 2 := h1 ▸ rstep_lt ha l0 (L0_lt b)
  have l2 : t2 < m * 2 := h2 ▸ rstep_lt ha l1 (L1_lt b)
  have l3 : t3 < m * 2 := h3 ▸ rstep_lt ha l2 (L2_lt b)
  have l4 : t4 < m * 2 := h4 ▸ rstep_lt ha l3 (L3_lt b)
  refine contract_of (N := _) (vars := _) (c := bodyOf Try.f118) Try.func118 (body_eq rfl) rfl rfl (by rfl) mixed _ _ trivial 1000 ?_
  simp only [bodyOf, Try.f118, Option.getD_some, argA, argE, List.length_cons, List.length_nil, Nat.reduceAdd, Nat.reduceSub, List.replicate, List.cons_append, List.nil_append]
  simp only [SX, simprocAttr, TYX, cellsE, foldE, foldN, cellsN, b_EN, cellsNV, foldNV, cellsT, fold6, foldT, cells6, lowT]
  refine loop_rounds 5 ?_
  refine RoundsVC.step mixed trivial 1000 ?_
  simp only [SX, simprocAttr, TYX, cellsE, foldE, foldN, cellsN, b_EN, cellsNV, foldNV, cellsT, fold6, foldT, cells6, lowT, zT]
  refine XIx (u64 (L0 b)) (by rfl) (by rfl) (by decide) (by decide) rfl ?_
  simp only [SX, simprocAttr, TYX, cellsE, foldE, foldN, cellsN, b_EN, cellsNV, foldNV, cellsT, fold6, foldT, cells6, lowT, zT]
  refine CallVC.intro (c_accN (z) a (L0 b) haW (L0_lt b) (by have := sum_lt (y := 0) hm2 ha l0 (L0_lt b) (by decide); omega)) ⟨rfl, rfl, rfl, trivial⟩ rfl rfl ?_
  simp only [SX, simprocAttr, TYX, cellsE, foldE, foldN, cellsN, b_EN, cellsNV, foldNV, cellsT, fold6, foldT, cells6, lowT]
  refine CallVC.intro (c_accN (z + a * L0 b) m (umul (M0 (z + a * L0 b)) ng) hmW (umul_lt _ _) (sum_lt hm2 ha l0 (L0_lt b) (umul_lt _ _))) ⟨rfl, rfl, rfl, trivial⟩ rfl rfl ?_
  simp only [SX, simprocAttr, TYX, cellsE, foldE, foldN, cellsN, b_EN, cellsNV, foldNV, cellsT, fold6, foldT, cells6, lowT]
  refine XT _ _ _ _ _ _ (by rfl) (by rfl) (by rfl) (by rfl) (by rfl) (by rfl) ?_
  rw [shiftT (sum_lt hm2 ha l0 (L0_lt b) (umul_lt _ _))]
  rw [show (z + a * L0 b + m * umul (M0 (z + a * L0 b)) ng) / 18446744073709551616 = rstep m ng a z (L0 b) from rfl, ← h1]
  simp only [SX, simprocAttr, TYX, cellsE, foldE, foldN, cellsN, b_EN, cellsNV, foldNV, cellsT, fold6, foldT, cells6, lowT]
  refine RoundsVC.step mixed trivial 1000 ?_
  simp only [SX, simprocAttr, TYX, cellsE, foldE, foldN, cellsN, b_EN, cellsNV, foldNV, cellsT, fold6, foldT, cells6, lowT]
  refine XIx (u64 (L1 b)) (by rfl) (by rfl) (by decide) (by decide) rfl ?_
  simp only [SX, simprocAttr, TYX, cellsE, foldE, foldN, cellsN, b_EN, cellsNV, foldNV, cellsT, fold6, foldT, cells6, lowT]
  refine CallVC.intro (c_accN (t1) a (L1 b) haW (L1_lt b) (by have := sum_lt (y := 0) hm2 ha l1 (L1_lt b) (by decide); omega)) ⟨rfl, rfl, rfl, trivial⟩ rfl rfl ?_
  simp only [SX, simprocAttr, TYX, cellsE, foldE, foldN, cellsN, b_EN, cellsNV, foldNV, cellsT, fold6, foldT, cells6, lowT]
  refine CallVC.intro (c_accN (t1 + a * L1 b) m (umul (M0 (t1 + a * L1 b)) ng) hmW (umul_lt _ _) (sum_lt hm2 ha l1 (L1_lt b) (umul_lt _ _))) ⟨rfl, rfl, rfl, trivial⟩ rfl rfl ?_
  simp only [SX, simprocAttr, TYX, cellsE, foldE, foldN, cellsN, b_EN, cellsNV, foldNV, cellsT, fold6, foldT, cells6, lowT]
  refine XT _ _ _ _ _ _ (by rfl) (by rfl) (by rfl) (by rfl) (by rfl) (by rfl) ?_
  rw [shiftT (sum_lt hm2 ha l1 (L1_lt b) (umul_lt _ _))]
  rw [show (t1 + a * L1 b + m * umul (M0 (t1 + a * L1 b)) ng) / 18446744073709551616 = rstep m ng a (t1) (L1 b) from rfl, ← h2]
  simp only [SX, simprocAttr, TYX, cellsE, foldE, foldN, cellsN, b_EN, cellsNV, foldNV, cellsT, fold6, foldT, cells6, lowT]
  refine RoundsVC.step mixed trivial 1000 ?_
  simp only [SX, simprocAttr, TYX, cellsE, foldE, foldN, cellsN, b_EN, cellsNV, foldNV, cellsT, fold6, foldT, cells6, lowT]
  refine XIx (u64 (L2 b)) (by rfl) (by rfl) (by decide) (by decide) rfl ?_
  simp only [SX, simprocAttr, TYX, cellsE, foldE, foldN, cellsN, b_EN, cellsNV, foldNV, cellsT, fold6, foldT, cells6, lowT]
  refine CallVC.intro (c_accN (t2) a (L2 b) haW (L2_lt b) (by have := sum_lt (y := 0) hm2 ha l2 (L2_lt b) (by decide); omega)) ⟨rfl, rfl, rfl, trivial⟩ rfl rfl ?_
  simp only [SX, simprocAttr, TYX, cellsE, foldE, foldN, cellsN, b_EN, cellsNV, foldNV, cellsT, fold6, foldT, cells6, lowT]
  refine CallVC.intro (c_accN (t2 + a * L2 b) m (umul (M0 (t2 + a * L2 b)) ng) hmW (umul_lt _ _) (sum_lt hm2 ha l2 (L2_lt b) (umul_lt _ _))) ⟨rfl, rfl, rfl, trivial⟩ rfl rfl ?_
  simp only [SX, simprocAttr, TYX, cellsE, foldE, foldN, cellsN, b_EN, cellsNV, foldNV, cellsT, fold6, foldT, cells6, lowT]
  refine XT _ _ _ _ _ _ (by rfl) (by rfl) (by rfl) (by rfl) (by rfl) (by rfl) ?_
  rw [shiftT (sum_lt hm2 ha l2 (L2_lt b) (umul_lt _ _))]
  rw [show (t2 + a * L2 b + m * umul (M0 (t2 + a * L2 b)) ng) / 18446744073709551616 = rstep m ng a (t2) (L2 b) from rfl, ← h3]
  simp only [SX, simprocAttr, TYX, cellsE, foldE, foldN, cellsN, b_EN, cellsNV, foldNV, cellsT, fold6, foldT, cells6, lowT]
  refine RoundsVC.step mixed trivial 1000 ?_
  simp only [SX, simprocAttr, TYX, cellsE, foldE, foldN, cellsN, b_EN, cellsNV, foldNV, cellsT, fold6, foldT, cells6, lowT]
  refine XIx (u64 (L3 b)) (by rfl) (by rfl) (by decide) (by decide) rfl ?_
  simp only [SX, simprocAttr, TYX, cellsE, foldE, foldN, cellsN, b_EN, cellsNV, foldNV, cellsT, fold6, foldT, cells6, lowT]
  refine CallVC.intro (c_accN (t3) a (L3 b) haW (L3_lt b) (by have := sum_lt (y := 0) hm2 ha l3 (L3_lt b) (by decide); omega)) ⟨rfl, rfl, rfl, trivial⟩ rfl rfl ?_
  simp only [SX, simprocAttr, TYX, cellsE, foldE, foldN, cellsN, b_EN, cellsNV, foldNV, cellsT, fold6, foldT, cells6, lowT]
  refine CallVC.intro (c_accN (t3 + a * L3 b) m (umul (M0 (t3 + a * L3 b)) ng) hmW (umul_lt _ _) (sum_lt hm2 ha l3 (L3_lt b) (umul_lt _ _))) ⟨rfl, rfl, rfl, trivial⟩ rfl rfl ?_
  simp only [SX, simprocAttr, TYX, cellsE, foldE, foldN, cellsN, b_EN, cellsNV, foldNV, cellsT, fold6, foldT, cells6, lowT]
  refine XT _ _ _ _ _ _ (by rfl) (by rfl) (by rfl) (by rfl) (by rfl) (by rfl) ?_
  rw [shiftT (sum_lt hm2 ha l3 (L3_lt b) (umul_lt _ _))]
  rw [show (t3 + a * L3 b + m * umul (M0 (t3 + a * L3 b)) ng) / 18446744073709551616 = rstep m ng a (t3) (L3 b) from rfl, ← h4]
  simp only [SX, simprocAttr, TYX, cellsE, foldE, foldN, cellsN, b_EN, cellsNV, foldNV, cellsT, fold6, foldT, cells6, lowT]
  refine RoundsVC.step mixed trivial 1000 ?_
  simp only [SX, simprocAttr, TYX, cellsE, foldE, foldN, cellsN, b_EN, cellsNV, foldNV, cellsT, fold6, foldT, cells6, lowT]
  have h4W : t4 < W256 := by omega
  have hM : (M4 t4 != 0) = false := by rw [M4_zero h4W]; rfl
  refine CallVC.intro (c_word_sub t4 m h4W hmW) ⟨rfl, rfl, trivial⟩ rfl rfl ?_
  simp only [SX, simprocAttr, TYX, cellsE, foldE, foldN, cellsN, b_EN, cellsNV, foldNV, cellsT, fold6, foldT, cells6, lowT, hM]
  refine cond_split (fun h0 => ?_) (fun h0 => ?_)
  · have h0 : m ≤ t4 := by simpa using h0
    rw [sub_of h4W h0]
    simp only [SX, simprocAttr, TYX, cellsE, foldE, foldN, cellsN, b_EN, cellsNV, foldNV, cellsT, fold6, foldT, cells6, lowT]
    rw [Nat.mod_eq_sub_mod h0, Nat.mod_eq_of_lt (by omega)]
  · have h0 : t4 < m := by simpa using h0
    simp only [SX, simprocAttr, TYX, cellsE, foldE, foldN, cellsN, b_EN, cellsNV, foldNV, cellsT, fold6, foldT, cells6, lowT]
    rw [Nat.mod_eq_of_lt h0]
end Go.Sx
namespace Go.Sx
open Go.Proofs
-- TY: TYX, cellsE, foldE, foldN, cellsN, b_EN, cellsNV, foldNV
set_option maxRecDepth 100000
set_option linter.unusedSimpArgs false
set_option pp.deepTerms false
set_option pp.deepTerms.threshold 3
theorem rstep_law {m ng a t x : Nat} (hn : (m * ng + 1) % 18446744073709551616 = 0) : ∃ u, 18446744073709551616 * rstep m ng a t x = t + a * x + m * u := by
  refine ⟨umul (M0 (t + a * x)) ng, ?_⟩
  unfold rstep
  generalize t + a * x = s
  have h : (s + m * umul (M0 s) ng) % 18446744073709551616 = 0 := by
    rw [umul_eq]
    unfold M0
    have e1 : (m * (s % 18446744073709551616 * ng % 18446744073709551616)) % 18446744073709551616 = (s * (m * ng)) % 18446744073709551616 := by
      rw [Nat.mul_mod, Nat.mod_mod, ← Nat.mul_mod, Nat.mul_left_comm, Nat.mul_mod, Nat.mod_mod, ← Nat.mul_mod]
    rw [Nat.add_mod, e1, ← Nat.add_mod]
    have e2 : s + s * (m * ng) = s * (m * ng + 1) := by rw [Nat.mul_add, Nat.mul_one, Nat.add_comm]
    rw [e2, Nat.mul_mod, hn, Nat.mul_zero, Nat.zero_mod]
  have := Nat.div_add_mod (s + m * umul (M0 s) ng) 18446744073709551616
  rw [h, Nat.add_zero] at this
  exact this
theorem redc_law {m ng a b t1 t2 t3 t4 : Nat} (hn : (m * ng + 1) % 18446744073709551616 = 0) (hb : b < W256) (h1 : t1 = rstep m ng a 0 (L0 b)) (h2 : t2 = rstep m ng a t1 (L1 b)) (h3 : t3 = rstep m ng a t2 (L2 b)) (h4 : t4 = rstep m ng a t3 (L3 b)) :
    (W256 * (t4 % m)) % m = (a * b) % m := by
  obtain ⟨u1, e1⟩ := rstep_law (a := a) (t := 0) (x := L0 b) hn
  obtain ⟨u2, e2⟩ := rstep_law (a := a) (t := t1) (x := L1 b) hn
  obtain ⟨u3, e3⟩ := rstep_law (a := a) (t := t2) (x := L2 b) hn
  obtain ⟨u4, e4⟩ := rstep_law (a := a) (t := t3) (x := L3 b) hn
  rw [← h1] at e1
  rw [← h2] at e2
  rw [← h3] at e3
  rw [← h4] at e4
  clear h1 h2 h3 h4
  have hs := L_sum hb
  have key : W256 * t4 = a * b + m * (u1 + 18446744073709551616 * u2 + 340282366920938463463374607431768211456 * u3 + 6277101735386680763835789423207666416102355444464034512896 * u4) := by
    have hab : a * b = a * L0 b + 18446744073709551616 * (a * L1 b) + 340282366920938463463374607431768211456 * (a * L2 b) + 6277101735386680763835789423207666416102355444464034512896 * (a * L3 b) := by
      conv => lhs; rw [hs]
      simp only [Nat.mul_add, Nat.mul_left_comm a]
    have hmu : m * (u1 + 18446744073709551616 * u2 + 340282366920938463463374607431768211456 * u3 + 6277101735386680763835789423207666416102355444464034512896 * u4) = m * u1 + 18446744073709551616 * (m * u2) + 340282366920938463463374607431768211456 * (m * u3) + 6277101735386680763835789423207666416102355444464034512896 * (m * u4) := by
      simp only [Nat.mul_add, Nat.mul_left_comm m]
    rw [hab, hmu]
    unfold W256
    generalize a * L0 b = p0 at *
    generalize a * L1 b = p1 at *
    generalize a * L2 b = p2 at *
    generalize a * L3 b = p3 at *
    generalize m * u1 = q1 at *
    generalize m * u2 = q2 at *
    generalize m * u3 = q3 at *
    generalize m * u4 = q4 at *
    omega
  rw [Nat.mul_mod, Nat.mod_mod, ← Nat.mul_mod, key, Nat.add_mul_mod_self_left]
theorem mont_law {m a b r1 r2 sq I : Nat} (h1 : (W256 * r1) % m = (a * b) % m) (h2 : (W256 * r2) % m = (r1 * sq) % m) (hsq : sq % m = (W256 * W256) % m) (hI : (W256 * I) % m = 1 % m) (hr : r2 < m) : r2 = a * b % m := by
  have mm : ∀ {x x' y y' : Nat}, x % m = x' % m → y % m = y' % m → (x * y) % m = (x' * y') % m := by
    intro x x' y y' hx hy
    rw [Nat.mul_mod, hx, hy, ← Nat.mul_mod]
  have e1 : (r2 * (W256 * I)) % m = (r2 * 1) % m := mm rfl hI
  have e2 : (W256 * r2 * I) % m = (r1 * sq * I) % m := mm h2 rfl
  have e3 : (r1 * I * sq) % m = (r1 * I * (W256 * W256)) % m := mm rfl hsq
  have e4 : (W256 * r1 * (W256 * I)) % m = (a * b * 1) % m := mm h1 hI
  have f1 : W256 * r2 * I = r2 * (W256 * I) := by rw [Nat.mul_comm W256 r2, Nat.mul_assoc]
  have f2 : r1 * I * sq = r1 * sq * I := by rw [Nat.mul_assoc, Nat.mul_comm I, ← Nat.mul_assoc]
  have f3 : r1 * I * (W256 * W256) = W256 * r1 * (W256 * I) := by
    rw [Nat.mul_comm W256 r1, Nat.mul_assoc, Nat.mul_assoc, Nat.mul_left_comm I, Nat.mul_comm I]
  rw [Nat.mul_one] at e1 e4
  rw [← e4, ← f3, ← e3, f2, ← e2, f1, e1, Nat.mod_eq_of_lt hr]
/-- A field's numbers, with the product. -/
structure FM (m : Nat) (ad : Int) (sm ng sq : Nat) : Prop extends FN m ad sm ng sq where
  mul : ∀ a b, a < W256 → b < W256 → Contract Try.prog 80 [.val (NV m ad sm ng sq), .val (EN a), .val (EN b)] [.val (EN (a * b % m))]
theorem c_mulL {m : Nat} {ad : Int} (F : FN m ad m 0 0) (hm : m < 4294967296) (a b : Nat) (ha : a < W256) (hb : b < W256) :
    Contract Try.prog 80 [.val (NV m ad m 0 0), .val (EN a), .val (EN b)] [.val (EN (a * b % m))] := by
  have h1 := F.mod a
  have h2 := F.mod b
  have hm0 : (m != 0) = true := by have := F.one; simp; omega
  have hmn : m ≠ 0 := by have := F.one; omega
  have e1 : L0 (a % m) = a % m := Nat.mod_eq_of_lt (by omega)
  have e2 : L0 (b % m) = b % m := Nat.mod_eq_of_lt (by omega)
  have e3 : urem (umul (a % m) (b % m)) m = a * b % m := by
    have h3 : a % m * (b % m) ≤ 4294967295 * 4294967295 := Nat.mul_le_mul (by omega) (by omega)
    rw [urem_eq, umul_eq, Nat.mod_eq_of_lt (a := _ * _) (by omega), ← Nat.mul_mod]
  have e4 : a * b % m < 18446744073709551616 := by have := F.mod (a * b); omega
  refine contract_of (N := _) (vars := _) (c := bodyOf Try.f80) Try.func80 (body_eq rfl) rfl rfl (by rfl) mixed _ _ trivial 1000 ?_
  simp only [bodyOf, Try.f80, Option.getD_some, argA, argE, List.length_cons, List.length_nil, Nat.reduceAdd, Nat.reduceSub, List.replicate, List.cons_append, List.nil_append]
  simp only [SX, simprocAttr, TYX, cellsE, foldE, foldN, cellsN, b_EN, cellsNV, foldNV]
  refine DrawVC.intro (by kernel_rfl) ?_
  refine CallVC.intro (F.reduce a ha) ⟨rfl, rfl, trivial⟩ rfl rfl ?_
  simp only [SX, simprocAttr, TYX, cellsE, foldE, foldN, cellsN, b_EN, cellsNV, foldNV]
  refine CallVC.intro (F.reduce b hb) ⟨rfl, rfl, trivial⟩ rfl rfl ?_
  simp only [SX, simprocAttr, TYX, cellsE, foldE, foldN, cellsN, b_EN, cellsNV, foldNV, hm0, e1, e2, e3]
  refine ⟨hmn, ?_⟩
  refine X1 _ (by rfl) ?_
  rw [EN_small e4]
  simp only [SX, simprocAttr, TYX, cellsE, foldE, foldN, cellsN, b_EN, cellsNV, foldNV]
theorem c_mulG {m ng sq : Nat} {ad : Int} (F : FN m ad 0 ng sq) (I : Nat) (hn : (m * ng + 1) % 18446744073709551616 = 0) (hsq : sq % m = (W256 * W256) % m) (hI : (W256 * I) % m = 1 % m) (hq : sq < W256) (a b : Nat) (ha : a < W256) (hb : b < W256) :
    Contract Try.prog 80 [.val (NV m ad 0 ng sq), .val (EN a), .val (EN b)] [.val (EN (a * b % m))] := by
  have h1 := F.mod a
  have h2 := F.mod b
  obtain ⟨t1, k1⟩ : ∃ t, t = rstep m ng (a % m) 0 (L0 (b % m)) := ⟨_, rfl⟩
  obtain ⟨t2, k2⟩ : ∃ t, t = rstep m ng (a % m) t1 (L1 (b % m)) := ⟨_, rfl⟩
  obtain ⟨t3, k3⟩ : ∃ t, t = rstep m ng (a % m) t2 (L2 (b % m)) := ⟨_, rfl⟩
  obtain ⟨t4, k4⟩ : ∃ t, t = rstep m ng (a % m) t3 (L3 (b % m)) := ⟨_, rfl⟩
  have r1 := c_redc4 (sm := 0) (sq := sq) (ad := ad) F.one F.half (a % m) (b % m) t1 t2 t3 t4 h1 k1 k2 k3 k4
  have w1 := redc_law hn (F.mod2 b) k1 k2 k3 k4
  obtain ⟨s1, j1⟩ : ∃ t, t = rstep m ng (t4 % m) 0 (L0 sq) := ⟨_, rfl⟩
  obtain ⟨s2, j2⟩ : ∃ t, t = rstep m ng (t4 % m) s1 (L1 sq) := ⟨_, rfl⟩
  obtain ⟨s3, j3⟩ : ∃ t, t = rstep m ng (t4 % m) s2 (L2 sq) := ⟨_, rfl⟩
  obtain ⟨s4, j4⟩ : ∃ t, t = rstep m ng (t4 % m) s3 (L3 sq) := ⟨_, rfl⟩
  have r2 := c_redc4 (sm := 0) (sq := sq) (ad := ad) F.one F.half (t4 % m) sq s1 s2 s3 s4 (F.mod t4) j1 j2 j3 j4
  have w2 := redc_law hn hq j1 j2 j3 j4
  have e := mont_law w1 w2 hsq hI (F.mod s4)
  rw [← Nat.mul_mod] at e
  clear k1 k2 k3 k4 j1 j2 j3 j4 w1 w2 hsq hI
  rw [← e]
  refine contract_of (N := _) (vars := _) (c := bodyOf Try.f80) Try.func80 (body_eq rfl) rfl rfl (by rfl) mixed _ _ trivial 1000 ?_
  simp only [bodyOf, Try.f80, Option.getD_some, argA, argE, List.length_cons, List.length_nil, Nat.reduceAdd, Nat.reduceSub, List.replicate, List.cons_append, List.nil_append]
  simp only [SX, simprocAttr, TYX, cellsE, foldE, foldN, cellsN, b_EN, cellsNV, foldNV]
  refine DrawVC.intro (by kernel_rfl) ?_
  refine CallVC.intro (F.reduce a ha) ⟨rfl, rfl, trivial⟩ rfl rfl ?_
  simp only [SX, simprocAttr, TYX, cellsE, foldE, foldN, cellsN, b_EN, cellsNV, foldNV]
  refine CallVC.intro (F.reduce b hb) ⟨rfl, rfl, trivial⟩ rfl rfl ?_
  simp only [SX, simprocAttr, TYX, cellsE, foldE, foldN, cellsN, b_EN, cellsNV, foldNV]
  refine DrawVC.intro (by kernel_rfl) ?_
  refine CallVC.intro r1 ⟨rfl, rfl, rfl, trivial⟩ rfl rfl ?_
  simp only [SX, simprocAttr, TYX, cellsE, foldE, foldN, cellsN, b_EN, cellsNV, foldNV]
  refine CallVC.intro r2 ⟨rfl, rfl, rfl, trivial⟩ rfl rfl ?_
  simp only [SX, simprocAttr, TYX, cellsE, foldE, foldN, cellsN, b_EN, cellsNV, foldNV]
theorem MA : FM PA 9 PA 0 0 := ⟨FA, c_mulL FA (by decide)⟩
theorem MB : FM PB 11 PB 0 0 := ⟨FB, c_mulL FB (by decide)⟩
theorem MC : FM PC 32 0 0x992d30ecffffffff SC := ⟨FC, c_mulG FC 15353493766103302224812374511606760489073247795810767472367693728416386214313 (by decide) (by decide) (by decide) (by decide)⟩
theorem MD : FM PD 32 0 0x8c46eb20ffffffff SD := ⟨FD, c_mulG FD 14238205147845459960272226733876560297615832660064601289232577236146637664127 (by decide) (by decide) (by decide) (by decide)⟩
end Go.Sx
namespace Go.Sx
open Go.Proofs
-- TY: TYX, cellsE, foldE, foldN, cellsN, b_EN, cellsNV, foldNV
set_option maxRecDepth 100000
set_option linter.unusedSimpArgs false
set_option pp.deepTerms false
set_option pp.deepTerms.threshold 3
/-- A sort and its field. -/
structure FS (s : Int) (m : Nat) (ad : Int) (sm ng sq : Nat) : Prop extends FM m ad sm ng sq where
  of : Contract Try.prog 79 [.val (.int .i64 s)] [.val (NV m ad sm ng sq), .val (.int .i64 0)]
theorem SA' : FS 0 PA 9 PA 0 0 := ⟨MA, c_of0⟩
theorem SB' : FS 1 PB 11 PB 0 0 := ⟨MB, c_of1⟩
theorem SC' : FS 2 PC 32 0 0x992d30ecffffffff SC := ⟨MC, c_of2⟩
theorem SD' : FS 3 PD 32 0 0x8c46eb20ffffffff SD := ⟨MD, c_of3⟩
/-- No sort. -/
structure NS (s : Int) : Prop where
  of : Contract Try.prog 79 [.val (.int .i64 s)] [.val (NV 0 0 0 0 0), .val (.int .i64 20)]
section
variable {s : Int} {m sm ng sq : Nat} {ad : Int}
theorem c_Add (F : FS s m ad sm ng sq) (a b : Nat) (ha : a < W256) (hb : b < W256) : Contract Try.prog 50 [.val (.int .i64 s), .val (EN a), .val (EN b)] [.val (EN ((a + b) % m))] := by
  refine contract_of (N := _) (vars := _) (c := bodyOf Try.f50) Try.func50 (body_eq rfl) rfl rfl (by rfl) mixed _ _ trivial 1000 ?_
  simp only [bodyOf, Try.f50, Option.getD_some, argA, argE, List.length_cons, List.length_nil, Nat.reduceAdd, Nat.reduceSub, List.replicate, List.cons_append, List.nil_append]
  simp only [SX, simprocAttr, TYX, cellsE, foldE, foldN, cellsN, b_EN, cellsNV, foldNV]
  refine CallVC.intro F.of ⟨rfl, trivial⟩ rfl rfl ?_
  simp only [SX, simprocAttr, TYX, cellsE, foldE, foldN, cellsN, b_EN, cellsNV, foldNV]
  refine CallVC.intro (c_add F.toFN a b ha hb) ⟨rfl, rfl, rfl, trivial⟩ rfl rfl ?_
  simp only [SX, simprocAttr, TYX, cellsE, foldE, foldN, cellsN, b_EN, cellsNV, foldNV]
theorem n_Add (F : NS s) (a b : Nat) : Contract Try.prog 50 [.val (.int .i64 s), .val (EN a), .val (EN b)] [.val (EN 0)] := by
  refine contract_of (N := _) (vars := _) (c := bodyOf Try.f50) Try.func50 (body_eq rfl) rfl rfl (by rfl) mixed _ _ trivial 1000 ?_
  simp only [bodyOf, Try.f50, Option.getD_some, argA, argE, List.length_cons, List.length_nil, Nat.reduceAdd, Nat.reduceSub, List.replicate, List.cons_append, List.nil_append]
  simp only [SX, simprocAttr, TYX, cellsE, foldE, foldN, cellsN, b_EN, cellsNV, foldNV]
  refine CallVC.intro F.of ⟨rfl, trivial⟩ rfl rfl ?_
  simp only [SX, simprocAttr, TYX, cellsE, foldE, foldN, cellsN, b_EN, cellsNV, foldNV]
  refine X0 ?_
  simp only [SX, simprocAttr, TYX, cellsE, foldE, foldN, cellsN, b_EN, cellsNV, foldNV]
theorem c_Neg (F : FS s m ad sm ng sq) (a : Nat) (ha : a < W256) : Contract Try.prog 81 [.val (.int .i64 s), .val (EN a)] [.val (EN ((m - a % m) % m))] := by
  refine contract_of (N := _) (vars := _) (c := bodyOf Try.f81) Try.func81 (body_eq rfl) rfl rfl (by rfl) mixed _ _ trivial 1000 ?_
  simp only [bodyOf, Try.f81, Option.getD_some, argA, argE, List.length_cons, List.length_nil, Nat.reduceAdd, Nat.reduceSub, List.replicate, List.cons_append, List.nil_append]
  simp only [SX, simprocAttr, TYX, cellsE, foldE, foldN, cellsN, b_EN, cellsNV, foldNV]
  refine CallVC.intro F.of ⟨rfl, trivial⟩ rfl rfl ?_
  simp only [SX, simprocAttr, TYX, cellsE, foldE, foldN, cellsN, b_EN, cellsNV, foldNV]
  refine CallVC.intro (c_neg0 F.toFN a ha) ⟨rfl, rfl, trivial⟩ rfl rfl ?_
  simp only [SX, simprocAttr, TYX, cellsE, foldE, foldN, cellsN, b_EN, cellsNV, foldNV]
theorem n_Neg (F : NS s) (a : Nat) : Contract Try.prog 81 [.val (.int .i64 s), .val (EN a)] [.val (EN 0)] := by
  refine contract_of (N := _) (vars := _) (c := bodyOf Try.f81) Try.func81 (body_eq rfl) rfl rfl (by rfl) mixed _ _ trivial 1000 ?_
  simp only [bodyOf, Try.f81, Option.getD_some, argA, argE, List.length_cons, List.length_nil, Nat.reduceAdd, Nat.reduceSub, List.replicate, List.cons_append, List.nil_append]
  simp only [SX, simprocAttr, TYX, cellsE, foldE, foldN, cellsN, b_EN, cellsNV, foldNV]
  refine CallVC.intro F.of ⟨rfl, trivial⟩ rfl rfl ?_
  simp only [SX, simprocAttr, TYX, cellsE, foldE, foldN, cellsN, b_EN, cellsNV, foldNV]
  refine X0 ?_
  simp only [SX, simprocAttr, TYX, cellsE, foldE, foldN, cellsN, b_EN, cellsNV, foldNV]
theorem c_Mul (F : FS s m ad sm ng sq) (a b : Nat) (ha : a < W256) (hb : b < W256) : Contract Try.prog 36 [.val (.int .i64 s), .val (EN a), .val (EN b)] [.val (EN (a * b % m))] := by
  refine contract_of (N := _) (vars := _) (c := bodyOf Try.f36) Try.func36 (body_eq rfl) rfl rfl (by rfl) mixed _ _ trivial 1000 ?_
  simp only [bodyOf, Try.f36, Option.getD_some, argA, argE, List.length_cons, List.length_nil, Nat.reduceAdd, Nat.reduceSub, List.replicate, List.cons_append, List.nil_append]
  simp only [SX, simprocAttr, TYX, cellsE, foldE, foldN, cellsN, b_EN, cellsNV, foldNV]
  refine CallVC.intro F.of ⟨rfl, trivial⟩ rfl rfl ?_
  simp only [SX, simprocAttr, TYX, cellsE, foldE, foldN, cellsN, b_EN, cellsNV, foldNV]
  refine CallVC.intro (F.mul a b ha hb) ⟨rfl, rfl, rfl, trivial⟩ rfl rfl ?_
  simp only [SX, simprocAttr, TYX, cellsE, foldE, foldN, cellsN, b_EN, cellsNV, foldNV]
theorem n_Mul (F : NS s) (a b : Nat) : Contract Try.prog 36 [.val (.int .i64 s), .val (EN a), .val (EN b)] [.val (EN 0)] := by
  refine contract_of (N := _) (vars := _) (c := bodyOf Try.f36) Try.func36 (body_eq rfl) rfl rfl (by rfl) mixed _ _ trivial 1000 ?_
  simp only [bodyOf, Try.f36, Option.getD_some, argA, argE, List.length_cons, List.length_nil, Nat.reduceAdd, Nat.reduceSub, List.replicate, List.cons_append, List.nil_append]
  simp only [SX, simprocAttr, TYX, cellsE, foldE, foldN, cellsN, b_EN, cellsNV, foldNV]
  refine CallVC.intro F.of ⟨rfl, trivial⟩ rfl rfl ?_
  simp only [SX, simprocAttr, TYX, cellsE, foldE, foldN, cellsN, b_EN, cellsNV, foldNV]
  refine X0 ?_
  simp only [SX, simprocAttr, TYX, cellsE, foldE, foldN, cellsN, b_EN, cellsNV, foldNV]
theorem c_Sub (F : FS s m ad sm ng sq) (a b : Nat) (ha : a < W256) (hb : b < W256) : Contract Try.prog 77 [.val (.int .i64 s), .val (EN a), .val (EN b)] [.val (EN ((a + (m - b % m) % m) % m))] := by
  refine contract_of (N := _) (vars := _) (c := bodyOf Try.f77) Try.func77 (body_eq rfl) rfl rfl (by rfl) mixed _ _ trivial 1000 ?_
  simp only [bodyOf, Try.f77, Option.getD_some, argA, argE, List.length_cons, List.length_nil, Nat.reduceAdd, Nat.reduceSub, List.replicate, List.cons_append, List.nil_append]
  simp only [SX, simprocAttr, TYX, cellsE, foldE, foldN, cellsN, b_EN, cellsNV, foldNV]
  refine DrawVC.intro (by kernel_rfl) ?_
  refine CallVC.intro (c_Neg F b hb) ⟨rfl, rfl, trivial⟩ rfl rfl ?_
  simp only [SX, simprocAttr, TYX, cellsE, foldE, foldN, cellsN, b_EN, cellsNV, foldNV]
  refine CallVC.intro (c_Add F a _ ha (F.mod2 _)) ⟨rfl, rfl, rfl, trivial⟩ rfl rfl ?_
  simp only [SX, simprocAttr, TYX, cellsE, foldE, foldN, cellsN, b_EN, cellsNV, foldNV]
theorem n_Sub (F : NS s) (a b : Nat) : Contract Try.prog 77 [.val (.int .i64 s), .val (EN a), .val (EN b)] [.val (EN 0)] := by
  refine contract_of (N := _) (vars := _) (c := bodyOf Try.f77) Try.func77 (body_eq rfl) rfl rfl (by rfl) mixed _ _ trivial 1000 ?_
  simp only [bodyOf, Try.f77, Option.getD_some, argA, argE, List.length_cons, List.length_nil, Nat.reduceAdd, Nat.reduceSub, List.replicate, List.cons_append, List.nil_append]
  simp only [SX, simprocAttr, TYX, cellsE, foldE, foldN, cellsN, b_EN, cellsNV, foldNV]
  refine DrawVC.intro (by kernel_rfl) ?_
  refine CallVC.intro (n_Neg F b) ⟨rfl, rfl, trivial⟩ rfl rfl ?_
  simp only [SX, simprocAttr, TYX, cellsE, foldE, foldN, cellsN, b_EN, cellsNV, foldNV]
  refine CallVC.intro (n_Add F a _) ⟨rfl, rfl, rfl, trivial⟩ rfl rfl ?_
  simp only [SX, simprocAttr, TYX, cellsE, foldE, foldN, cellsN, b_EN, cellsNV, foldNV]
theorem exp_odd (m o b x : Nat) (h : x % 2 = 1) : ((o * b % m) * (b * b % m) ^ (x / 2)) % m = (o * b ^ x) % m := by
  have e : x = 2 * (x / 2) + 1 := by omega
  rw [Nat.mul_mod, Nat.mod_mod, ← Nat.pow_mod, ← Nat.mul_mod]
  conv => rhs; rw [e]
  rw [Nat.pow_succ, Nat.pow_mul, Nat.pow_two, Nat.mul_assoc, Nat.mul_comm b]
theorem exp_even (m o b x : Nat) (h : x % 2 = 0) : (o * (b * b % m) ^ (x / 2)) % m = (o * b ^ x) % m := by
  have e : x = 2 * (x / 2) := by omega
  rw [Nat.mul_mod, ← Nat.pow_mod, ← Nat.mul_mod]
  conv => rhs; rw [e]
  rw [Nat.pow_mul, Nat.pow_two]
theorem L0_odd (x : Nat) : L0 x % 2 = x % 2 := by unfold L0; omega
theorem c_Exp (F : FS s m ad sm ng sq) (a e : Nat) (ha : a < W256) (he : e < W256) : Contract Try.prog 91 [.val (.int .i64 s), .val (EN a), .val (EN e)] [.val (EN (a ^ e % m))] := by
  refine contract_of (N := _) (vars := _) (c := bodyOf Try.f91) Try.func91 (body_eq rfl) rfl rfl (by rfl) mixed _ _ trivial 1000 ?_
  simp only [bodyOf, Try.f91, Option.getD_some, argA, argE, List.length_cons, List.length_nil, Nat.reduceAdd, Nat.reduceSub, List.replicate, List.cons_append, List.nil_append]
  simp only [SX, simprocAttr, TYX, cellsE, foldE, foldN, cellsN, b_EN, cellsNV, foldNV]
  refine CallVC.intro F.of ⟨rfl, trivial⟩ rfl rfl ?_
  simp only [SX, simprocAttr, TYX, cellsE, foldE, foldN, cellsN, b_EN, cellsNV, foldNV]
  refine X1 1 (by rfl) ?_
  rw [EN_small (by decide)]
  simp only [SX, simprocAttr, TYX, cellsE, foldE, foldN, cellsN, b_EN, cellsNV, foldNV]
  refine CallVC.intro (F.reduce a ha) ⟨rfl, rfl, trivial⟩ rfl rfl ?_
  simp only [SX, simprocAttr, TYX, cellsE, foldE, foldN, cellsN, b_EN, cellsNV, foldNV]
  refine loop_inv mixed (by trivial) (γ := Nat × Nat × Nat) (fun g => ⟨[.o .any, .o .any, .o .any, .o .any, .o (.p 3 0), .o (.p 7 0), .o (.p 11 0), .o (.p 35 0), .o .any, .o (.p 59 0), .o .any, .o .any, .o .any, .o .any, .o .any, .o .any, .o .any, .o .any, .o .any, .o .any, .o .any, .o .any, .o .any, .o .any, .o .any, .o .any, .o .any, .o .any, .o .any, .o .any, .o .any, .o .any, .o .any, .o .any, .o .any, .o .any, .o .any, .o .any, .o .any, .o .any],
    [(59, .box [u64 (L0 g.1), u64 (L1 g.1), u64 (L2 g.1), u64 (L3 g.1)]), (35, .box [u64 (L0 m), u64 (L1 m), u64 (L2 m), u64 (L3 m), Value.int IntKind.i64 ad, u64 sm, u64 ng, u64 (L0 sq), u64 (L1 sq), u64 (L2 sq), u64 (L3 sq)]),
     (11, .box [u64 0, u64 0, u64 0, u64 0]), (7, .box [u64 (L0 g.2.2), u64 (L1 g.2.2), u64 (L2 g.2.2), u64 (L3 g.2.2)]), (3, .box [u64 (L0 g.2.1), u64 (L1 g.2.1), u64 (L2 g.2.1), u64 (L3 g.2.1)])], 1000⟩)
    (fun g => g.1 < m ∧ g.2.1 < W256 ∧ g.2.2 < W256 ∧ (g.1 * g.2.1 ^ g.2.2) % m = a ^ e % m) (fun g => g.2.2) (1, a % m, e) ⟨F.one, F.mod2 a, he, by simp only [Nat.one_mul]; rw [← Nat.pow_mod]⟩ (St.le_of id (by simp [Tle, AVle, A0le, Mem.get]) (by simp [Mle, Ele, Mem.get]) (by simp) (by simp)) 1000 ?_
  rintro ⟨o, b, x⟩ ⟨ho, hb, hx, hinv⟩
  simp only at ho hb hx hinv
  have ho2 : o < W256 := Nat.lt_trans ho F.lt
  simp only [SX, simprocAttr, TYX, cellsE, foldE, foldN, cellsN, b_EN, cellsNV, foldNV]
  refine X0 ?_
  simp only [SX, simprocAttr, TYX, cellsE, foldE, foldN, cellsN, b_EN, cellsNV, foldNV]
  refine XNe x 0 hx (by decide) (by rfl) (by rfl) ?_
  simp only [SX, simprocAttr, TYX, cellsE, foldE, foldN, cellsN, b_EN, cellsNV, foldNV]
  refine cond_split (fun h0 => ?_) (fun h0 => ?_)
  · have h0 : x ≠ 0 := by simpa using h0
    simp only [SX, simprocAttr, TYX, cellsE, foldE, foldN, cellsN, b_EN, cellsNV, foldNV]
    refine cond_split (fun h1 => ?_) (fun h1 => ?_)
    · have h1 : x % 2 = 1 := by rw [← L0_odd]; simpa using h1
      simp only [SX, simprocAttr, TYX, cellsE, foldE, foldN, cellsN, b_EN, cellsNV, foldNV]
      refine CallVC.intro (F.mul o b ho2 hb) ⟨rfl, rfl, rfl, trivial⟩ rfl rfl ?_
      simp only [SX, simprocAttr, TYX, cellsE, foldE, foldN, cellsN, b_EN, cellsNV, foldNV]
      refine CallVC.intro (F.mul b b hb hb) ⟨rfl, rfl, rfl, trivial⟩ rfl rfl ?_
      simp only [SX, simprocAttr, TYX, cellsE, foldE, foldN, cellsN, b_EN, cellsNV, foldNV]
      refine CallVC.intro (c_half x hx) ⟨rfl, trivial⟩ rfl rfl ?_
      simp only [SX, simprocAttr, TYX, cellsE, foldE, foldN, cellsN, b_EN, cellsNV, foldNV]
      refine ⟨(o * b % m, b * b % m, x / 2), ⟨F.mod _, F.mod2 _, (show x / 2 < W256 by omega), by rw [← hinv]; exact exp_odd m o b x h1⟩, (show x / 2 < x by omega), ?_⟩
      refine (St.le_of id (by simp [Tle, AVle, A0le, Mem.get]) (by simp [Mle, Ele, Mem.get]) (by simp) (by simp))
    · have h1 : x % 2 = 0 := by
        have : L0 x % 2 ≠ 1 := by simpa using h1
        rw [L0_odd] at this; omega
      simp only [SX, simprocAttr, TYX, cellsE, foldE, foldN, cellsN, b_EN, cellsNV, foldNV]
      refine CallVC.intro (F.mul b b hb hb) ⟨rfl, rfl, rfl, trivial⟩ rfl rfl ?_
      simp only [SX, simprocAttr, TYX, cellsE, foldE, foldN, cellsN, b_EN, cellsNV, foldNV]
      refine CallVC.intro (c_half x hx) ⟨rfl, trivial⟩ rfl rfl ?_
      simp only [SX, simprocAttr, TYX, cellsE, foldE, foldN, cellsN, b_EN, cellsNV, foldNV]
      refine ⟨(o, b * b % m, x / 2), ⟨ho, F.mod2 _, (show x / 2 < W256 by omega), by rw [← hinv]; exact exp_even m o b x h1⟩, (show x / 2 < x by omega), ?_⟩
      refine (St.le_of id (by simp [Tle, AVle, A0le, Mem.get]) (by simp [Mle, Ele, Mem.get]) (by simp) (by simp))
  · have h0 : x = 0 := by simpa using h0
    subst h0
    rw [Nat.pow_zero, Nat.mul_one, Nat.mod_eq_of_lt ho] at hinv
    simp only [SX, simprocAttr, TYX, cellsE, foldE, foldN, cellsN, b_EN, cellsNV, foldNV, hinv]
theorem n_Exp (F : NS s) (a e : Nat) : Contract Try.prog 91 [.val (.int .i64 s), .val (EN a), .val (EN e)] [.val (EN 0)] := by
  refine contract_of (N := _) (vars := _) (c := bodyOf Try.f91) Try.func91 (body_eq rfl) rfl rfl (by rfl) mixed _ _ trivial 1000 ?_
  simp only [bodyOf, Try.f91, Option.getD_some, argA, argE, List.length_cons, List.length_nil, Nat.reduceAdd, Nat.reduceSub, List.replicate, List.cons_append, List.nil_append]
  simp only [SX, simprocAttr, TYX, cellsE, foldE, foldN, cellsN, b_EN, cellsNV, foldNV]
  refine CallVC.intro F.of ⟨rfl, trivial⟩ rfl rfl ?_
  simp only [SX, simprocAttr, TYX, cellsE, foldE, foldN, cellsN, b_EN, cellsNV, foldNV]
  refine X0 ?_
  simp only [SX, simprocAttr, TYX, cellsE, foldE, foldN, cellsN, b_EN, cellsNV, foldNV]
end
end Go.Sx
namespace Go.Sx
open Go.Proofs
-- TY: TYX, cellsE, foldE, foldN, cellsN, b_EN
set_option maxRecDepth 100000
set_option linter.unusedSimpArgs false
set_option pp.deepTerms false
set_option pp.deepTerms.threshold 3
theorem c_below (a b : Nat) (ha : a < W256) (hb : b < W256) : Contract Try.prog 112 [.val (EN a), .val (EN b)] [.val (.bool (decide (a < b)))] := by
  obtain ⟨a0, a1, a2, a3, ha0, ha1, ha2, ha3, rfl⟩ := EN_ex ha
  obtain ⟨b0, b1, b2, b3, hb0, hb1, hb2, hb3, rfl⟩ := EN_ex hb
  rw [EN_of ha0 ha1 ha2 ha3 rfl, EN_of hb0 hb1 hb2 hb3 rfl]
  clear ha hb
  obtain ⟨R, hR⟩ : ∃ R : Bool, decide (a0 + 18446744073709551616 * a1 + 340282366920938463463374607431768211456 * a2 + 6277101735386680763835789423207666416102355444464034512896 * a3 < b0 + 18446744073709551616 * b1 + 340282366920938463463374607431768211456 * b2 + 6277101735386680763835789423207666416102355444464034512896 * b3) = R := ⟨_, rfl⟩
  rw [hR]
  refine contract_of (N := _) (vars := _) (c := bodyOf Try.f112) Try.func112 (body_eq rfl) rfl rfl (by rfl) mixed _ _ trivial 1000 ?_
  simp only [bodyOf, Try.f112, Option.getD_some, argA, argE, List.length_cons, List.length_nil, Nat.reduceAdd, Nat.reduceSub, List.replicate, List.cons_append, List.nil_append]
  simp only [SX, simprocAttr, TYX, cellsE, foldE, foldN, cellsN, b_EN]
  refine loop_rounds 5 ?_
  refine RoundsVC.step mixed trivial 1000 ?_
  simp only [SX, simprocAttr, TYX, cellsE, foldE, foldN, cellsN, b_EN]
  refine DrawVC.intro (by kernel_rfl) ?_
  refine cond_split (fun h3 => ?_) (fun h3 => ?_)
  · have h3 : a3 ≠ b3 := by simpa using h3
    simp only [SX, simprocAttr, TYX, cellsE, foldE, foldN, cellsN, b_EN]
    refine DrawVC.intro (by kernel_rfl) ?_
    refine congrArg Value.bool ?_
    rw [← hR, Bool.eq_iff_iff]; simp only [decide_eq_true_eq]; omega
  have h3 : a3 = b3 := by simpa using h3
  subst h3
  simp only [SX, simprocAttr, TYX, cellsE, foldE, foldN, cellsN, b_EN]
  refine RoundsVC.step mixed trivial 1000 ?_
  simp only [SX, simprocAttr, TYX, cellsE, foldE, foldN, cellsN, b_EN]
  refine DrawVC.intro (by kernel_rfl) ?_
  refine cond_split (fun h2 => ?_) (fun h2 => ?_)
  · have h2 : a2 ≠ b2 := by simpa using h2
    simp only [SX, simprocAttr, TYX, cellsE, foldE, foldN, cellsN, b_EN]
    refine DrawVC.intro (by kernel_rfl) ?_
    refine congrArg Value.bool ?_
    rw [← hR, Bool.eq_iff_iff]; simp only [decide_eq_true_eq]; omega
  have h2 : a2 = b2 := by simpa using h2
  subst h2
  simp only [SX, simprocAttr, TYX, cellsE, foldE, foldN, cellsN, b_EN]
  refine RoundsVC.step mixed trivial 1000 ?_
  simp only [SX, simprocAttr, TYX, cellsE, foldE, foldN, cellsN, b_EN]
  refine DrawVC.intro (by kernel_rfl) ?_
  refine cond_split (fun h1 => ?_) (fun h1 => ?_)
  · have h1 : a1 ≠ b1 := by simpa using h1
    simp only [SX, simprocAttr, TYX, cellsE, foldE, foldN, cellsN, b_EN]
    refine DrawVC.intro (by kernel_rfl) ?_
    refine congrArg Value.bool ?_
    rw [← hR, Bool.eq_iff_iff]; simp only [decide_eq_true_eq]; omega
  have h1 : a1 = b1 := by simpa using h1
  subst h1
  simp only [SX, simprocAttr, TYX, cellsE, foldE, foldN, cellsN, b_EN]
  refine RoundsVC.step mixed trivial 1000 ?_
  simp only [SX, simprocAttr, TYX, cellsE, foldE, foldN, cellsN, b_EN]
  refine DrawVC.intro (by kernel_rfl) ?_
  refine cond_split (fun h0 => ?_) (fun h0 => ?_)
  · have h0 : a0 ≠ b0 := by simpa using h0
    simp only [SX, simprocAttr, TYX, cellsE, foldE, foldN, cellsN, b_EN]
    refine DrawVC.intro (by kernel_rfl) ?_
    refine congrArg Value.bool ?_
    rw [← hR, Bool.eq_iff_iff]; simp only [decide_eq_true_eq]; omega
  have h0 : a0 = b0 := by simpa using h0
  subst h0
  simp only [SX, simprocAttr, TYX, cellsE, foldE, foldN, cellsN, b_EN]
  refine RoundsVC.step mixed trivial 1000 ?_
  simp only [SX, simprocAttr, TYX, cellsE, foldE, foldN, cellsN, b_EN]
  rw [← hR]
  simp
noncomputable def mB (x y c : Nat) : Nat := if x < y ∨ usub x y < c then 1 else 0
noncomputable def mD (x y c : Nat) : Nat := usub (usub x y) c
theorem m_chain {x y c : Nat} (hx : x < 18446744073709551616) (hy : y < 18446744073709551616) (hc : c ≤ 1) : mD x y c + y + c = x + 18446744073709551616 * mB x y c ∧ mD x y c < 18446744073709551616 ∧ mB x y c ≤ 1 := by
  unfold mD mB
  rw [usub_eq, usub_eq]
  by_cases h : x < y
  · simp only [h, true_or, if_true]; omega
  · by_cases h2 : x - y < c
    · have : (x + (18446744073709551616 - y % 18446744073709551616)) % 18446744073709551616 < c := by omega
      simp only [this, or_true, if_true]; omega
    · have : ¬ (x + (18446744073709551616 - y % 18446744073709551616)) % 18446744073709551616 < c := by omega
      simp only [h, this, or_false, if_false]; omega
theorem C5ex : ∃ f : Nat → Nat → Nat → Nat → Nat → Nat → Nat, ∀ a b c d e, f a b c d e 0 = a ∧ f a b c d e 1 = b ∧ f a b c d e 2 = c ∧ f a b c d e 3 = d ∧ f a b c d e 4 = e :=
  ⟨fun a b c d e k => match k with | 0 => a | 1 => b | 2 => c | 3 => d | _ => e, fun _ _ _ _ _ => ⟨rfl, rfl, rfl, rfl, rfl⟩⟩
noncomputable def C5 : Nat → Nat → Nat → Nat → Nat → Nat → Nat := Classical.choose C5ex
theorem C5_0 (a b c d e : Nat) : C5 a b c d e 0 = a := (Classical.choose_spec C5ex a b c d e).1
theorem C5_1 (a b c d e : Nat) : C5 a b c d e 1 = b := (Classical.choose_spec C5ex a b c d e).2.1
theorem C5_2 (a b c d e : Nat) : C5 a b c d e 2 = c := (Classical.choose_spec C5ex a b c d e).2.2.1
theorem C5_3 (a b c d e : Nat) : C5 a b c d e 3 = d := (Classical.choose_spec C5ex a b c d e).2.2.2.1
theorem C5_4 (a b c d e : Nat) : C5 a b c d e 4 = e := (Classical.choose_spec C5ex a b c d e).2.2.2.2
noncomputable def I5 (k : Nat) : Int := (C5 0 1 2 3 4 k : Int)
theorem I5_0 : I5 0 = 0 := by unfold I5; rw [C5_0]; rfl
theorem I5_1 : I5 1 = 1 := by unfold I5; rw [C5_1]; rfl
theorem I5_2 : I5 2 = 2 := by unfold I5; rw [C5_2]; rfl
theorem I5_3 : I5 3 = 3 := by unfold I5; rw [C5_3]; rfl
theorem I5_4 : I5 4 = 4 := by unfold I5; rw [C5_4]; rfl
theorem c_minus4 (a0 a1 a2 a3 b0 b1 b2 b3 c1 c2 c3 c4 : Nat) (h0 : mB a0 b0 0 = c1) (h1 : mB a1 b1 c1 = c2) (h2 : mB a2 b2 c2 = c3) (h3 : mB a3 b3 c3 = c4) :
    Contract Try.prog 113 [.val (E4 a0 a1 a2 a3), .val (E4 b0 b1 b2 b3)] [.val (E4 (mD a0 b0 0) (mD a1 b1 c1) (mD a2 b2 c2) (mD a3 b3 c3))] := by
  unfold mD
  refine contract_of (N := _) (vars := _) (c := bodyOf Try.f113) Try.func113 (body_eq rfl) rfl rfl (by rfl) mixed _ _ trivial 1000 ?_
  simp only [bodyOf, Try.f113, Option.getD_some, argA, argE, List.length_cons, List.length_nil, Nat.reduceAdd, Nat.reduceSub, List.replicate, List.cons_append, List.nil_append]
  simp only [SX, simprocAttr, TYX, cellsE, foldE, foldN, cellsN, b_EN]
  refine X0 ?_
  simp only [SX, simprocAttr, TYX, cellsE, foldE, foldN, cellsN, b_EN]
  refine loop_inv mixed (by trivial) (γ := Nat) (fun k => ⟨[.o .any, .o .any, .o (.p 2 0), .o (.p 6 0), .o (.p 10 0), .o (.p 18 0), .o (.v (u64 (C5 0 c1 c2 c3 c4 k))), .o (.v (.int .i64 (I5 k))), .o .any, .o .any, .o .any, .o .any, .o .any, .o .any, .o .any, .o .any, .o .any, .o .any, .o .any, .o .any, .o .any, .o .any, .o .any, .o .any, .o .any, .o .any, .o .any, .o .any, .o .any, .o .any, .o .any, .o .any, .o .any, .o .any, .o .any, .o .any, .o .any, .o .any, .o .any],
    [(18, .box [u64 (C5 (L0 0) (usub (usub a0 b0) 0) (usub (usub a0 b0) 0) (usub (usub a0 b0) 0) (usub (usub a0 b0) 0) k), u64 (C5 (L1 0) (L1 0) (usub (usub a1 b1) c1) (usub (usub a1 b1) c1) (usub (usub a1 b1) c1) k), u64 (C5 (L2 0) (L2 0) (L2 0) (usub (usub a2 b2) c2) (usub (usub a2 b2) c2) k), u64 (C5 (L3 0) (L3 0) (L3 0) (L3 0) (usub (usub a3 b3) c3) k)]),
     (10, .box [u64 0, u64 0, u64 0, u64 0]), (6, .box [u64 b0, u64 b1, u64 b2, u64 b3]), (2, .box [u64 a0, u64 a1, u64 a2, u64 a3])], 1000⟩)
    (fun k => k ≤ 4) (fun k => 4 - k) 0 (by decide) (St.le_of id (by simp [Tle, AVle, A0le, Mem.get, C5_0, C5_1, C5_2, C5_3, C5_4, I5_0, I5_1, I5_2, I5_3, I5_4]) (by simp [Mle, Ele, Mem.get, C5_0, C5_1, C5_2, C5_3, C5_4, I5_0, I5_1, I5_2, I5_3, I5_4]) (by simp) (by simp)) 1000 ?_
  intro k hk
  have hk : k = 0 ∨ k = 1 ∨ k = 2 ∨ k = 3 ∨ k = 4 := by omega
  rcases hk with rfl | rfl | rfl | rfl | rfl
  · simp only [SX, simprocAttr, TYX, cellsE, foldE, foldN, cellsN, b_EN, C5_0, C5_1, C5_2, C5_3, C5_4, I5_0, I5_1, I5_2, I5_3, I5_4]
    refine DrawVC.intro (by kernel_rfl) ?_
    refine DrawVC.intro (by kernel_rfl) ?_
    refine guard_split (fun hc => ?_) (fun hc => ?_)
    · have hc' : c1 = 1 := by rw [← h0]; unfold mB; simp at hc; simp [hc]
      simp only [SX, simprocAttr, TYX, cellsE, foldE, foldN, cellsN, b_EN, C5_0, C5_1, C5_2, C5_3, C5_4, I5_0, I5_1, I5_2, I5_3, I5_4]
      refine ⟨1, by decide, by decide, (St.le_of id (by simp [Tle, AVle, A0le, Mem.get, C5_0, C5_1, C5_2, C5_3, C5_4, I5_0, I5_1, I5_2, I5_3, I5_4, hc']) (by simp [Mle, Ele, Mem.get, C5_0, C5_1, C5_2, C5_3, C5_4, I5_0, I5_1, I5_2, I5_3, I5_4, hc']) (by simp) (by simp))⟩
    · have hc' : c1 = 0 := by rw [← h0]; unfold mB; simp at hc; simp; omega
      simp only [SX, simprocAttr, TYX, cellsE, foldE, foldN, cellsN, b_EN, C5_0, C5_1, C5_2, C5_3, C5_4, I5_0, I5_1, I5_2, I5_3, I5_4]
      refine ⟨1, by decide, by decide, (St.le_of id (by simp [Tle, AVle, A0le, Mem.get, C5_0, C5_1, C5_2, C5_3, C5_4, I5_0, I5_1, I5_2, I5_3, I5_4, hc']) (by simp [Mle, Ele, Mem.get, C5_0, C5_1, C5_2, C5_3, C5_4, I5_0, I5_1, I5_2, I5_3, I5_4, hc']) (by simp) (by simp))⟩
  · simp only [SX, simprocAttr, TYX, cellsE, foldE, foldN, cellsN, b_EN, C5_0, C5_1, C5_2, C5_3, C5_4, I5_0, I5_1, I5_2, I5_3, I5_4]
    refine DrawVC.intro (by kernel_rfl) ?_
    refine DrawVC.intro (by kernel_rfl) ?_
    refine guard_split (fun hc => ?_) (fun hc => ?_)
    · have hc' : c2 = 1 := by rw [← h1]; unfold mB; simp at hc; simp [hc]
      simp only [SX, simprocAttr, TYX, cellsE, foldE, foldN, cellsN, b_EN, C5_0, C5_1, C5_2, C5_3, C5_4, I5_0, I5_1, I5_2, I5_3, I5_4]
      refine ⟨2, by decide, by decide, (St.le_of id (by simp [Tle, AVle, A0le, Mem.get, C5_0, C5_1, C5_2, C5_3, C5_4, I5_0, I5_1, I5_2, I5_3, I5_4, hc']) (by simp [Mle, Ele, Mem.get, C5_0, C5_1, C5_2, C5_3, C5_4, I5_0, I5_1, I5_2, I5_3, I5_4, hc']) (by simp) (by simp))⟩
    · simp only [SX, simprocAttr, TYX, cellsE, foldE, foldN, cellsN, b_EN, C5_0, C5_1, C5_2, C5_3, C5_4, I5_0, I5_1, I5_2, I5_3, I5_4]
      refine cond_split (fun hd => ?_) (fun hd => ?_)
      · have hc' : c2 = 1 := by rw [← h1]; unfold mB; simp at hd; simp [hd]
        simp only [SX, simprocAttr, TYX, cellsE, foldE, foldN, cellsN, b_EN, C5_0, C5_1, C5_2, C5_3, C5_4, I5_0, I5_1, I5_2, I5_3, I5_4]
        refine ⟨2, by decide, by decide, (St.le_of id (by simp [Tle, AVle, A0le, Mem.get, C5_0, C5_1, C5_2, C5_3, C5_4, I5_0, I5_1, I5_2, I5_3, I5_4, hc']) (by simp [Mle, Ele, Mem.get, C5_0, C5_1, C5_2, C5_3, C5_4, I5_0, I5_1, I5_2, I5_3, I5_4, hc']) (by simp) (by simp))⟩
      · have hc' : c2 = 0 := by rw [← h1]; unfold mB; simp at hc hd; simp; omega
        simp only [SX, simprocAttr, TYX, cellsE, foldE, foldN, cellsN, b_EN, C5_0, C5_1, C5_2, C5_3, C5_4, I5_0, I5_1, I5_2, I5_3, I5_4]
        refine ⟨2, by decide, by decide, (St.le_of id (by simp [Tle, AVle, A0le, Mem.get, C5_0, C5_1, C5_2, C5_3, C5_4, I5_0, I5_1, I5_2, I5_3, I5_4, hc']) (by simp [Mle, Ele, Mem.get, C5_0, C5_1, C5_2, C5_3, C5_4, I5_0, I5_1, I5_2, I5_3, I5_4, hc']) (by simp) (by simp))⟩
  · simp only [SX, simprocAttr, TYX, cellsE, foldE, foldN, cellsN, b_EN, C5_0, C5_1, C5_2, C5_3, C5_4, I5_0, I5_1, I5_2, I5_3, I5_4]
    refine DrawVC.intro (by kernel_rfl) ?_
    refine DrawVC.intro (by kernel_rfl) ?_
    refine guard_split (fun hc => ?_) (fun hc => ?_)
    · have hc' : c3 = 1 := by rw [← h2]; unfold mB; simp at hc; simp [hc]
      simp only [SX, simprocAttr, TYX, cellsE, foldE, foldN, cellsN, b_EN, C5_0, C5_1, C5_2, C5_3, C5_4, I5_0, I5_1, I5_2, I5_3, I5_4]
      refine ⟨3, by decide, by decide, (St.le_of id (by simp [Tle, AVle, A0le, Mem.get, C5_0, C5_1, C5_2, C5_3, C5_4, I5_0, I5_1, I5_2, I5_3, I5_4, hc']) (by simp [Mle, Ele, Mem.get, C5_0, C5_1, C5_2, C5_3, C5_4, I5_0, I5_1, I5_2, I5_3, I5_4, hc']) (by simp) (by simp))⟩
    · simp only [SX, simprocAttr, TYX, cellsE, foldE, foldN, cellsN, b_EN, C5_0, C5_1, C5_2, C5_3, C5_4, I5_0, I5_1, I5_2, I5_3, I5_4]
      refine cond_split (fun hd => ?_) (fun hd => ?_)
      · have hc' : c3 = 1 := by rw [← h2]; unfold mB; simp at hd; simp [hd]
        simp only [SX, simprocAttr, TYX, cellsE, foldE, foldN, cellsN, b_EN, C5_0, C5_1, C5_2, C5_3, C5_4, I5_0, I5_1, I5_2, I5_3, I5_4]
        refine ⟨3, by decide, by decide, (St.le_of id (by simp [Tle, AVle, A0le, Mem.get, C5_0, C5_1, C5_2, C5_3, C5_4, I5_0, I5_1, I5_2, I5_3, I5_4, hc']) (by simp [Mle, Ele, Mem.get, C5_0, C5_1, C5_2, C5_3, C5_4, I5_0, I5_1, I5_2, I5_3, I5_4, hc']) (by simp) (by simp))⟩
      · have hc' : c3 = 0 := by rw [← h2]; unfold mB; simp at hc hd; simp; omega
        simp only [SX, simprocAttr, TYX, cellsE, foldE, foldN, cellsN, b_EN, C5_0, C5_1, C5_2, C5_3, C5_4, I5_0, I5_1, I5_2, I5_3, I5_4]
        refine ⟨3, by decide, by decide, (St.le_of id (by simp [Tle, AVle, A0le, Mem.get, C5_0, C5_1, C5_2, C5_3, C5_4, I5_0, I5_1, I5_2, I5_3, I5_4, hc']) (by simp [Mle, Ele, Mem.get, C5_0, C5_1, C5_2, C5_3, C5_4, I5_0, I5_1, I5_2, I5_3, I5_4, hc']) (by simp) (by simp))⟩
  · simp only [SX, simprocAttr, TYX, cellsE, foldE, foldN, cellsN, b_EN, C5_0, C5_1, C5_2, C5_3, C5_4, I5_0, I5_1, I5_2, I5_3, I5_4]
    refine DrawVC.intro (by kernel_rfl) ?_
    refine DrawVC.intro (by kernel_rfl) ?_
    refine guard_split (fun hc => ?_) (fun hc => ?_)
    · have hc' : c4 = 1 := by rw [← h3]; unfold mB; simp at hc; simp [hc]
      simp only [SX, simprocAttr, TYX, cellsE, foldE, foldN, cellsN, b_EN, C5_0, C5_1, C5_2, C5_3, C5_4, I5_0, I5_1, I5_2, I5_3, I5_4]
      refine ⟨4, by decide, by decide, (St.le_of id (by simp [Tle, AVle, A0le, Mem.get, C5_0, C5_1, C5_2, C5_3, C5_4, I5_0, I5_1, I5_2, I5_3, I5_4, hc']) (by simp [Mle, Ele, Mem.get, C5_0, C5_1, C5_2, C5_3, C5_4, I5_0, I5_1, I5_2, I5_3, I5_4, hc']) (by simp) (by simp))⟩
    · simp only [SX, simprocAttr, TYX, cellsE, foldE, foldN, cellsN, b_EN, C5_0, C5_1, C5_2, C5_3, C5_4, I5_0, I5_1, I5_2, I5_3, I5_4]
      refine cond_split (fun hd => ?_) (fun hd => ?_)
      · have hc' : c4 = 1 := by rw [← h3]; unfold mB; simp at hd; simp [hd]
        simp only [SX, simprocAttr, TYX, cellsE, foldE, foldN, cellsN, b_EN, C5_0, C5_1, C5_2, C5_3, C5_4, I5_0, I5_1, I5_2, I5_3, I5_4]
        refine ⟨4, by decide, by decide, (St.le_of id (by simp [Tle, AVle, A0le, Mem.get, C5_0, C5_1, C5_2, C5_3, C5_4, I5_0, I5_1, I5_2, I5_3, I5_4, hc']) (by simp [Mle, Ele, Mem.get, C5_0, C5_1, C5_2, C5_3, C5_4, I5_0, I5_1, I5_2, I5_3, I5_4, hc']) (by simp) (by simp))⟩
      · have hc' : c4 = 0 := by rw [← h3]; unfold mB; simp at hc hd; simp; omega
        simp only [SX, simprocAttr, TYX, cellsE, foldE, foldN, cellsN, b_EN, C5_0, C5_1, C5_2, C5_3, C5_4, I5_0, I5_1, I5_2, I5_3, I5_4]
        refine ⟨4, by decide, by decide, (St.le_of id (by simp [Tle, AVle, A0le, Mem.get, C5_0, C5_1, C5_2, C5_3, C5_4, I5_0, I5_1, I5_2, I5_3, I5_4, hc']) (by simp [Mle, Ele, Mem.get, C5_0, C5_1, C5_2, C5_3, C5_4, I5_0, I5_1, I5_2, I5_3, I5_4, hc']) (by simp) (by simp))⟩
  · simp only [SX, simprocAttr, TYX, cellsE, foldE, foldN, cellsN, b_EN, C5_0, C5_1, C5_2, C5_3, C5_4, I5_0, I5_1, I5_2, I5_3, I5_4]
end Go.Sx
namespace Go.Sx
open Go.Proofs
-- TY: TYX, cellsE, foldE, foldN, cellsN, b_EN, k32, kA, kB
set_option maxRecDepth 100000
set_option linter.unusedSimpArgs false
set_option pp.deepTerms false
set_option pp.deepTerms.threshold 3
theorem c_minus (a b : Nat) (ha : a < W256) (hb : b < W256) : Contract Try.prog 113 [.val (EN a), .val (EN b)] [.val (EN ((a + W256 - b) % W256))] := by
  obtain ⟨a0, a1, a2, a3, ha0, ha1, ha2, ha3, rfl⟩ := EN_ex ha
  obtain ⟨b0, b1, b2, b3, hb0, hb1, hb2, hb3, rfl⟩ := EN_ex hb
  rw [EN_of ha0 ha1 ha2 ha3 rfl, EN_of hb0 hb1 hb2 hb3 rfl]
  obtain ⟨s0, f0, l0⟩ := m_chain ha0 hb0 (Nat.zero_le 1)
  obtain ⟨s1, f1, l1⟩ := m_chain ha1 hb1 l0
  obtain ⟨s2, f2, l2⟩ := m_chain ha2 hb2 l1
  obtain ⟨s3, f3, l3⟩ := m_chain ha3 hb3 l2
  have h := c_minus4 a0 a1 a2 a3 b0 b1 b2 b3 _ _ _ _ rfl rfl rfl rfl
  generalize mB a3 b3 (mB a2 b2 (mB a1 b1 (mB a0 b0 0))) = c4 at *
  generalize mD a3 b3 (mB a2 b2 (mB a1 b1 (mB a0 b0 0))) = r3 at *
  generalize mB a2 b2 (mB a1 b1 (mB a0 b0 0)) = c3 at *
  generalize mD a2 b2 (mB a1 b1 (mB a0 b0 0)) = r2 at *
  generalize mB a1 b1 (mB a0 b0 0) = c2 at *
  generalize mD a1 b1 (mB a0 b0 0) = r1 at *
  generalize mB a0 b0 0 = c1 at *
  generalize mD a0 b0 0 = r0 at *
  unfold W256
  rw [EN_of (a := r0) (b := r1) (c := r2) (d := r3) f0 f1 f2 f3 (by omega)]
  exact h
theorem r_mod0 : Contract Try.prog 111 [.val (.int .i64 0)] [.val (EN PA), .val (.int .i64 0)] := by
  refine contract_of (N := _) (vars := _) (c := bodyOf Try.f111) Try.func111 (body_eq rfl) rfl rfl (by rfl) mixed _ _ trivial 1000 ?_
  simp only [bodyOf, Try.f111, Option.getD_some, argA, argE, List.length_cons, List.length_nil, Nat.reduceAdd, Nat.reduceSub, List.replicate, List.cons_append, List.nil_append]
  simp only [SX, simprocAttr, TYX, cellsE, foldE, foldN, cellsN, b_EN, k32, kA, kB]
  refine X1 16513537 (by rfl) ?_
  rw [show E4 16513537 0 0 0 = EN PA by kernel_rfl]
  simp only [SX, simprocAttr, TYX, cellsE, foldE, foldN, cellsN, b_EN, k32, kA, kB]
theorem r_mod1 : Contract Try.prog 111 [.val (.int .i64 1)] [.val (EN PB), .val (.int .i64 0)] := by
  refine contract_of (N := _) (vars := _) (c := bodyOf Try.f111) Try.func111 (body_eq rfl) rfl rfl (by rfl) mixed _ _ trivial 1000 ?_
  simp only [bodyOf, Try.f111, Option.getD_some, argA, argE, List.length_cons, List.length_nil, Nat.reduceAdd, Nat.reduceSub, List.replicate, List.cons_append, List.nil_append]
  simp only [SX, simprocAttr, TYX, cellsE, foldE, foldN, cellsN, b_EN, k32, kA, kB]
  refine X1 16521217 (by rfl) ?_
  rw [show E4 16521217 0 0 0 = EN PB by kernel_rfl]
  simp only [SX, simprocAttr, TYX, cellsE, foldE, foldN, cellsN, b_EN, k32, kA, kB]
theorem r_mod2 : Contract Try.prog 111 [.val (.int .i64 2)] [.val (EN PC), .val (.int .i64 0)] := by
  refine contract_of (N := _) (vars := _) (c := bodyOf Try.f111) Try.func111 (body_eq rfl) rfl rfl (by rfl) mixed _ _ trivial 1000 ?_
  simp only [bodyOf, Try.f111, Option.getD_some, argA, argE, List.length_cons, List.length_nil, Nat.reduceAdd, Nat.reduceSub, List.replicate, List.cons_append, List.nil_append]
  simp only [SX, simprocAttr, TYX, cellsE, foldE, foldN, cellsN, b_EN, k32, kA, kB]
  refine X4 11037532056220336129 2469829653914515739 0 4611686018427387904 (by rfl) (by rfl) (by rfl) (by rfl) ?_
  rw [show E4 11037532056220336129 2469829653914515739 0 4611686018427387904 = EN PC by kernel_rfl]
  simp only [SX, simprocAttr, TYX, cellsE, foldE, foldN, cellsN, b_EN, k32, kA, kB]
theorem r_mod3 : Contract Try.prog 111 [.val (.int .i64 3)] [.val (EN PD), .val (.int .i64 0)] := by
  refine contract_of (N := _) (vars := _) (c := bodyOf Try.f111) Try.func111 (body_eq rfl) rfl rfl (by rfl) mixed _ _ trivial 1000 ?_
  simp only [bodyOf, Try.f111, Option.getD_some, argA, argE, List.length_cons, List.length_nil, Nat.reduceAdd, Nat.reduceSub, List.replicate, List.cons_append, List.nil_append]
  simp only [SX, simprocAttr, TYX, cellsE, foldE, foldN, cellsN, b_EN, k32, kA, kB]
  refine X4 10108024940646105089 2469829653919213789 0 4611686018427387904 (by rfl) (by rfl) (by rfl) (by rfl) ?_
  rw [show E4 10108024940646105089 2469829653919213789 0 4611686018427387904 = EN PD by kernel_rfl]
  simp only [SX, simprocAttr, TYX, cellsE, foldE, foldN, cellsN, b_EN, k32, kA, kB]
theorem r_mod9 (s : Int) (h0 : (s == 0) = false) (h1 : (s == 1) = false) (h2 : (s == 2) = false) (h3 : (s == 3) = false) : Contract Try.prog 111 [.val (.int .i64 s)] [.val (EN 0), .val (.int .i64 20)] := by
  refine contract_of (N := _) (vars := _) (c := bodyOf Try.f111) Try.func111 (body_eq rfl) rfl rfl (by rfl) mixed _ _ trivial 1000 ?_
  simp only [bodyOf, Try.f111, Option.getD_some, argA, argE, List.length_cons, List.length_nil, Nat.reduceAdd, Nat.reduceSub, List.replicate, List.cons_append, List.nil_append]
  simp only [SX, simprocAttr, TYX, cellsE, foldE, foldN, cellsN, b_EN, k32, kA, kB]
  simp only [SX, simprocAttr, TYX, cellsE, foldE, foldN, cellsN, b_EN, k32, kA, kB, h0, h1, h2, h3]
  refine X0 ?_
  simp only [SX, simprocAttr, TYX, cellsE, foldE, foldN, cellsN, b_EN, k32, kA, kB]
theorem r_lit0 : Contract Try.prog 110 [.val (.int .i64 0)] [.val (u64 PA)] := by
  unfold PA
  refine contract_of (N := _) (vars := _) (c := bodyOf Try.f110) Try.func110 (body_eq rfl) rfl rfl (by rfl) mixed _ _ trivial 1000 ?_
  simp only [bodyOf, Try.f110, Option.getD_some, argA, argE, List.length_cons, List.length_nil, Nat.reduceAdd, Nat.reduceSub, List.replicate, List.cons_append, List.nil_append]
  simp only [SX, simprocAttr, TYX, cellsE, foldE, foldN, cellsN, b_EN, k32, kA, kB]
theorem r_lit1 : Contract Try.prog 110 [.val (.int .i64 1)] [.val (u64 PB)] := by
  unfold PB
  refine contract_of (N := _) (vars := _) (c := bodyOf Try.f110) Try.func110 (body_eq rfl) rfl rfl (by rfl) mixed _ _ trivial 1000 ?_
  simp only [bodyOf, Try.f110, Option.getD_some, argA, argE, List.length_cons, List.length_nil, Nat.reduceAdd, Nat.reduceSub, List.replicate, List.cons_append, List.nil_append]
  simp only [SX, simprocAttr, TYX, cellsE, foldE, foldN, cellsN, b_EN, k32, kA, kB]
/-! ### Of -/
noncomputable def ofS (m r a : Nat) : Nat := urem (uadd (ushl (urem (uadd (ushl r 32) (ushr a 32)) m) 32) (a % 4294967296)) m
theorem low_step (q a : Nat) (f1 : q < 4294967296) : (q * 4294967296 % 18446744073709551616 + a % 4294967296) % 18446744073709551616 = q * 4294967296 + a % 4294967296 := by
  have f2 := Nat.mod_lt a (show 4294967296 > 0 by decide)
  generalize a % 4294967296 = b at *
  rw [Nat.mod_eq_of_lt (a := q * 4294967296) (by omega), Nat.mod_eq_of_lt (by omega)]
theorem ofS_law {m r a : Nat} (hm : 0 < m) (hm1 : m < 4294967296) (hr : r < m) (ha : a < 18446744073709551616) : ofS m r a = (r * 18446744073709551616 + a) % m := by
  unfold ofS
  rw [urem_eq, uadd_eq, ushl_eq, urem_eq, uadd_eq, ushl_eq, ushr_eq, sh_32]
  have e1 : (r * 4294967296 % 18446744073709551616 + a / 4294967296) % 18446744073709551616 = r * 4294967296 + a / 4294967296 := by
    have f1 : r < 4294967296 := by omega
    have f2 : a / 4294967296 < 4294967296 := by omega
    generalize a / 4294967296 = b at *
    clear hr ha hm hm1
    rw [Nat.mod_eq_of_lt (a := r * 4294967296) (by omega), Nat.mod_eq_of_lt (by omega)]
  rw [e1]
  have h2 : (r * 4294967296 + a / 4294967296) % m < 4294967296 := Nat.lt_trans (Nat.mod_lt _ hm) hm1
  rw [low_step _ _ h2, mod_step]
  refine congrArg (· % m) ?_
  rw [Nat.add_mul, Nat.add_assoc, Nat.div_add_mod', Nat.mul_assoc]
theorem c_OfL (s : Int) (m : Nat) (hm : 0 < m) (hm1 : m < 4294967296) (hs : s = 0 ∨ s = 1) (hl : Contract Try.prog 110 [.val (.int .i64 s)] [.val (u64 m)]) (a : Nat) (ha : a < W256) :
    Contract Try.prog 69 [.val (.int .i64 s), .val (EN a)] [.val (EN (a % m))] := by
  have hmn : ¬ m = 0 := by omega
  obtain ⟨a0, a1, a2, a3, ha0, ha1, ha2, ha3, rfl⟩ := EN_ex ha
  rw [EN_of ha0 ha1 ha2 ha3 rfl]
  have k3 := ofS_law hm hm1 hm ha3
  rw [Nat.zero_mul, Nat.zero_add] at k3
  have k2 := ofS_law hm hm1 (Nat.mod_lt a3 hm) ha2
  rw [mod_step] at k2
  have k1 := ofS_law hm hm1 (Nat.mod_lt (a3 * 18446744073709551616 + a2) hm) ha1
  rw [mod_step] at k1
  have k0 := ofS_law hm hm1 (Nat.mod_lt ((a3 * 18446744073709551616 + a2) * 18446744073709551616 + a1) hm) ha0
  rw [mod_step] at k0
  have key : EN ((a0 + 18446744073709551616 * a1 + 340282366920938463463374607431768211456 * a2 + 6277101735386680763835789423207666416102355444464034512896 * a3) % m) = E4 (ofS m (ofS m (ofS m (ofS m 0 a3) a2) a1) a0) 0 0 0 := by
    rw [k3, k2, k1, k0, EN_small (Nat.lt_trans (Nat.mod_lt _ hm) (by omega))]
    refine congrArg EN (congrArg (· % m) ?_)
    omega
  rw [key]
  unfold ofS
  clear key k0 k1 k2 k3 ha
  rcases hs with rfl | rfl
  ·
    refine contract_of (N := _) (vars := _) (c := bodyOf Try.f69) Try.func69 (body_eq rfl) rfl rfl (by rfl) mixed _ _ trivial 1000 ?_
    simp only [bodyOf, Try.f69, Option.getD_some, argA, argE, List.length_cons, List.length_nil, Nat.reduceAdd, Nat.reduceSub, List.replicate, List.cons_append, List.nil_append]
    simp only [SX, simprocAttr, TYX, cellsE, foldE, foldN, cellsN, b_EN, k32, kA, kB]
    refine CallVC.intro hl ⟨rfl, trivial⟩ rfl rfl ?_
    simp only [SX, simprocAttr, TYX, cellsE, foldE, foldN, cellsN, b_EN, k32, kA, kB]
    refine loop_rounds 5 ?_
    refine RoundsVC.step mixed trivial 1000 ?_
    simp only [SX, simprocAttr, TYX, cellsE, foldE, foldN, cellsN, b_EN, k32, kA, kB]
    refine ⟨hmn, hmn, ?_⟩
    refine RoundsVC.step mixed trivial 1000 ?_
    simp only [SX, simprocAttr, TYX, cellsE, foldE, foldN, cellsN, b_EN, k32, kA, kB]
    refine ⟨hmn, hmn, ?_⟩
    refine RoundsVC.step mixed trivial 1000 ?_
    simp only [SX, simprocAttr, TYX, cellsE, foldE, foldN, cellsN, b_EN, k32, kA, kB]
    refine ⟨hmn, hmn, ?_⟩
    refine RoundsVC.step mixed trivial 1000 ?_
    simp only [SX, simprocAttr, TYX, cellsE, foldE, foldN, cellsN, b_EN, k32, kA, kB]
    refine ⟨hmn, hmn, ?_⟩
    refine RoundsVC.step mixed trivial 1000 ?_
    simp only [SX, simprocAttr, TYX, cellsE, foldE, foldN, cellsN, b_EN, k32, kA, kB]
    refine X1 _ (by rfl) ?_
    simp only [SX, simprocAttr, TYX, cellsE, foldE, foldN, cellsN, b_EN, k32, kA, kB]
  ·
    refine contract_of (N := _) (vars := _) (c := bodyOf Try.f69) Try.func69 (body_eq rfl) rfl rfl (by rfl) mixed _ _ trivial 1000 ?_
    simp only [bodyOf, Try.f69, Option.getD_some, argA, argE, List.length_cons, List.length_nil, Nat.reduceAdd, Nat.reduceSub, List.replicate, List.cons_append, List.nil_append]
    simp only [SX, simprocAttr, TYX, cellsE, foldE, foldN, cellsN, b_EN, k32, kA, kB]
    refine CallVC.intro hl ⟨rfl, trivial⟩ rfl rfl ?_
    simp only [SX, simprocAttr, TYX, cellsE, foldE, foldN, cellsN, b_EN, k32, kA, kB]
    refine loop_rounds 5 ?_
    refine RoundsVC.step mixed trivial 1000 ?_
    simp only [SX, simprocAttr, TYX, cellsE, foldE, foldN, cellsN, b_EN, k32, kA, kB]
    refine ⟨hmn, hmn, ?_⟩
    refine RoundsVC.step mixed trivial 1000 ?_
    simp only [SX, simprocAttr, TYX, cellsE, foldE, foldN, cellsN, b_EN, k32, kA, kB]
    refine ⟨hmn, hmn, ?_⟩
    refine RoundsVC.step mixed trivial 1000 ?_
    simp only [SX, simprocAttr, TYX, cellsE, foldE, foldN, cellsN, b_EN, k32, kA, kB]
    refine ⟨hmn, hmn, ?_⟩
    refine RoundsVC.step mixed trivial 1000 ?_
    simp only [SX, simprocAttr, TYX, cellsE, foldE, foldN, cellsN, b_EN, k32, kA, kB]
    refine ⟨hmn, hmn, ?_⟩
    refine RoundsVC.step mixed trivial 1000 ?_
    simp only [SX, simprocAttr, TYX, cellsE, foldE, foldN, cellsN, b_EN, k32, kA, kB]
    refine X1 _ (by rfl) ?_
    simp only [SX, simprocAttr, TYX, cellsE, foldE, foldN, cellsN, b_EN, k32, kA, kB]
end Go.Sx
