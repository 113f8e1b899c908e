/-
  Walk: redc. No conditions.
-/
import Derived.Test.YtmgheellmllfpaaFldG
namespace Go.Sx
open Go.Proofs
-- TY: TYX, cellsE, foldE, foldN, cellsN, b_EN, cellsNV, foldNV, cellsT, fold6, foldT, cells6, lowT
set_option maxRecDepth 100000
set_option linter.unusedSimpArgs false
set_option pp.deepTerms false
set_option pp.deepTerms.threshold 3
def M1 (n : Nat) : Nat := n / 18446744073709551616 % 18446744073709551616
def M0 (n : Nat) : Nat := n % 18446744073709551616
def M2 (n : Nat) : Nat := n / 340282366920938463463374607431768211456 % 18446744073709551616
def M3 (n : Nat) : Nat := n / 6277101735386680763835789423207666416102355444464034512896 % 18446744073709551616
def M4 (n : Nat) : Nat := n / 115792089237316195423570985008687907853269984665640564039457584007913129639936 % 18446744073709551616
def M5 (n : Nat) : Nat := n / 2135987035920910082395021706169552114602704522356652769947041607822219725780640550022962086936576 % 18446744073709551616
theorem cellsT (n : Nat) : (ET n).cells.toList = [u64 (M0 n), u64 (M1 n), u64 (M2 n), u64 (M3 n), u64 (M4 n), u64 (M5 n)] := rfl
theorem foldT (n : Nat) : T6 (M0 n) (M1 n) (M2 n) (M3 n) (M4 n) (M5 n) = ET n := rfl
theorem shiftT {n : Nat} (h : n < 39402006196394479212279040100143613805079739270465446667948293404245721771497210611414266254884915640806627990306816) : T6 (M1 n) (M2 n) (M3 n) (M4 n) (M5 n) 0 = ET (n / 18446744073709551616) := by
  obtain ⟨a, b, c, d, e, f, ha, hb, hc, hd, he, hf, hn⟩ := ET_ex h
  have e1 : M1 n = b := by unfold M1; omega
  have e2 : M2 n = c := by unfold M2; omega
  have e3 : M3 n = d := by unfold M3; omega
  have e4 : M4 n = e := by unfold M4; omega
  have e5 : M5 n = f := by unfold M5; omega
  rw [e1, e2, e3, e4, e5, ET_of (a := b) (b := c) (c := d) (d := e) (e := f) (f := 0) hb hc hd he hf (by decide) (by omega)]
theorem zeroT : T6 0 0 0 0 0 0 = ET 0 := rfl
theorem M0_lt (n : Nat) : M0 n < 18446744073709551616 := Nat.mod_lt _ (by decide)
theorem lowT (n : Nat) : E4 (M0 n) (M1 n) (M2 n) (M3 n) = EN n := rfl
theorem M4_zero {n : Nat} (h : n < W256) : M4 n = 0 := by unfold M4; unfold W256 at h; omega
theorem indexE4 {T : Nat → AV} {x i : Operand} {a b c e : Nat} {j : Int} {v : Value} (hx : ev T x = .o (.v (E4 a b c e))) (hi : ev T i = .o (.v (.int .i64 j))) (h0 : 0 ≤ j) (h4 : j < 4) (hv : #[u64 a, u64 b, u64 c, u64 e][j.toNat]? = some v) :
    pureOp Try.prog T (.index 24 x i) v := by
  intro o f w ho hf _
  have e1 := hf x (by simp [Op.operands]) _ hx
  have e2 := hf i (by simp [Op.operands]) _ hi
  obtain ⟨inf, hinf⟩ := info_of_underlying un22
  have hp : (part 22 #[u64 a, u64 b, u64 c, u64 e] j.toNat).run Try.prog w = .ok v w := run_part_plain w pk22 hv
  have hs : (sizeOf 22).run Try.prog w = .ok 1 w := by rw [run_sizeOf w hinf, co22]
  unfold E4 at e1
  simp [execOp, ho, e1, e2, Instr.index, run_underlying un24, h0, h4, asIntOf, hs, hp]
section
variable {Q : St → Prop} {n : Nat} {dr : Bool} {all rest : List Oper} {k : List Frm} {st : St} {d : Option Nat}
theorem XIx {x i : Operand} {a b c e : Nat} {j : Int} (v : Value) (hx : ev st.T x = .o (.v (E4 a b c e))) (hi : ev st.T i = .o (.v (.int .i64 j))) (h0 : 0 ≤ j) (h4 : j < 4) (hv : #[u64 a, u64 b, u64 c, u64 e][j.toNat]? = some v)
    (h : vcx Try.prog Q n (.ops dr all rest :: k) (st.put d (val v))) : ExVC Try.prog Q n dr all rest k st d (pureOp Try.prog st.T (.index 24 x i)) :=
  ExVC.intro v (indexE4 hx hi h0 h4 hv) h
theorem XT {x0 x1 x2 x3 x4 x5 : Operand} (a0 a1 a2 a3 a4 a5 : Nat) (h0 : ev st.T x0 = .o (.v (u64 a0))) (h1 : ev st.T x1 = .o (.v (u64 a1))) (h2 : ev st.T x2 = .o (.v (u64 a2))) (h3 : ev st.T x3 = .o (.v (u64 a3))) (h4 : ev st.T x4 = .o (.v (u64 a4))) (h5 : ev st.T x5 = .o (.v (u64 a5)))
    (h : vcx Try.prog Q n (.ops dr all rest :: k) (st.put d (val (T6 a0 a1 a2 a3 a4 a5)))) :
    ExVC Try.prog Q n dr all rest k st d (pureOp Try.prog st.T (.build 79 #[(0, x0), (1, x1), (2, x2), (3, x3), (4, x4), (5, x5)])) :=
  ExVC.build [(0, u64 a0), (1, u64 a1), (2, u64 a2), (3, u64 a3), (4, u64 a4), (5, u64 a5)] (T6 a0 a1 a2 a3 a4 a5) _ (by simp [plains, h0, h1, h2, h3, h4, h5, plain]) (z79 a0 a1 a2 a3 a4 a5) rfl h
end
/-- One of the four steps. -/
noncomputable def rstep (m ng a t x : Nat) : Nat := (t + a * x + m * umul (M0 (t + a * x)) ng) / 18446744073709551616
theorem rstep_lt {m ng a t x : Nat} (ha : a < m) (ht : t < m * 2) (hx : x < 18446744073709551616) : rstep m ng a t x < m * 2 := by
  unfold rstep
  have h1 : a * x ≤ (m - 1) * 18446744073709551615 := Nat.mul_le_mul (by omega) (by omega)
  have h2 : m * umul (M0 (t + a * x)) ng ≤ m * 18446744073709551615 := Nat.mul_le_mul_left _ (by have := umul_lt (M0 (t + a * x)) ng; omega)
  generalize m * umul (M0 (t + a * x)) ng = y at *
  generalize a * x = z at *
  omega
theorem sum_lt {m a t x y : Nat} (hm : m * 2 ≤ W256) (ha : a < m) (ht : t < m * 2) (hx : x < 18446744073709551616) (hy : y < 18446744073709551616) : t + a * x + m * y < 39402006196394479212279040100143613805079739270465446667948293404245721771497210611414266254884915640806627990306816 := by
  have h1 : a * x ≤ m * 18446744073709551615 := Nat.mul_le_mul (by omega) (by omega)
  have h2 : m * y ≤ m * 18446744073709551615 := Nat.mul_le_mul_left _ (by omega)
  unfold W256 at hm
  generalize a * x = z at *
  generalize m * y = u at *
  omega
theorem c_redc4 {m sm ng sq : Nat} {ad : Int} (hm1 : 1 < m) (hm2 : m * 2 ≤ W256) (a b t1 t2 t3 t4 : Nat) (ha : a < m) (h1 : t1 = rstep m ng a 0 (L0 b)) (h2 : t2 = rstep m ng a t1 (L1 b)) (h3 : t3 = rstep m ng a t2 (L2 b)) (h4 : t4 = rstep m ng a t3 (L3 b)) :
    Contract Try.prog 71 [.val (NV m ad sm ng sq), .val (EN a), .val (EN b)] [.val (EN (t4 % m))] := by
  obtain ⟨z, hz⟩ : ∃ z : Nat, z = 0 := ⟨0, rfl⟩
  have zT : T6 0 0 0 0 0 0 = ET z := by rw [hz]; rfl
  rw [← hz] at h1
  have l0 : z < m * 2 := by omega
  have hmW : m < W256 := by omega
  have haW : a < W256 := by omega
  have l1 : t1 < m * 2 := h1 ▸ rstep_lt ha l0 (L0_lt b)
  have l2 : t2 < m * 2 := h2 ▸ rstep_lt ha l1 (L1_lt b)
  have l3 : t3 < m * 2 := h3 ▸ rstep_lt ha l2 (L2_lt b)
  have l4 : t4 < m * 2 := h4 ▸ rstep_lt ha l3 (L3_lt b)
  refine contract_of (N := _) (vars := _) (c := bodyOf Try.f71) Try.func71 (body_eq rfl) rfl rfl (by rfl) mixed _ _ trivial 1000 ?_
  simp only [bodyOf, Try.f71, Option.getD_some, argA, argE, List.length_cons, List.length_nil, Nat.reduceAdd, Nat.reduceSub, List.replicate, List.cons_append, List.nil_append]
  simp only [SX, simprocAttr, TYX, cellsE, foldE, foldN, cellsN, b_EN, cellsNV, foldNV, cellsT, fold6, foldT, cells6, lowT]
  refine loop_rounds 5 ?_
  refine RoundsVC.step mixed trivial 1000 ?_
  simp only [SX, simprocAttr, TYX, cellsE, foldE, foldN, cellsN, b_EN, cellsNV, foldNV, cellsT, fold6, foldT, cells6, lowT, zT]
  refine XIx (u64 (L0 b)) (by rfl) (by rfl) (by decide) (by decide) rfl ?_
  simp only [SX, simprocAttr, TYX, cellsE, foldE, foldN, cellsN, b_EN, cellsNV, foldNV, cellsT, fold6, foldT, cells6, lowT, zT]
  refine CallVC.intro (c_accN (z) a (L0 b) haW (L0_lt b) (by have := sum_lt (y := 0) hm2 ha l0 (L0_lt b) (by decide); omega)) ⟨rfl, rfl, rfl, trivial⟩ rfl rfl ?_
  simp only [SX, simprocAttr, TYX, cellsE, foldE, foldN, cellsN, b_EN, cellsNV, foldNV, cellsT, fold6, foldT, cells6, lowT]
  refine CallVC.intro (c_accN (z + a * L0 b) m (umul (M0 (z + a * L0 b)) ng) hmW (umul_lt _ _) (sum_lt hm2 ha l0 (L0_lt b) (umul_lt _ _))) ⟨rfl, rfl, rfl, trivial⟩ rfl rfl ?_
  simp only [SX, simprocAttr, TYX, cellsE, foldE, foldN, cellsN, b_EN, cellsNV, foldNV, cellsT, fold6, foldT, cells6, lowT]
  refine XT _ _ _ _ _ _ (by rfl) (by rfl) (by rfl) (by rfl) (by rfl) (by rfl) ?_
  rw [shiftT (sum_lt hm2 ha l0 (L0_lt b) (umul_lt _ _))]
  rw [show (z + a * L0 b + m * umul (M0 (z + a * L0 b)) ng) / 18446744073709551616 = rstep m ng a z (L0 b) from rfl, ← h1]
  simp only [SX, simprocAttr, TYX, cellsE, foldE, foldN, cellsN, b_EN, cellsNV, foldNV, cellsT, fold6, foldT, cells6, lowT]
  refine RoundsVC.step mixed trivial 1000 ?_
  simp only [SX, simprocAttr, TYX, cellsE, foldE, foldN, cellsN, b_EN, cellsNV, foldNV, cellsT, fold6, foldT, cells6, lowT]
  refine XIx (u64 (L1 b)) (by rfl) (by rfl) (by decide) (by decide) rfl ?_
  simp only [SX, simprocAttr, TYX, cellsE, foldE, foldN, cellsN, b_EN, cellsNV, foldNV, cellsT, fold6, foldT, cells6, lowT]
  refine CallVC.intro (c_accN (t1) a (L1 b) haW (L1_lt b) (by have := sum_lt (y := 0) hm2 ha l1 (L1_lt b) (by decide); omega)) ⟨rfl, rfl, rfl, trivial⟩ rfl rfl ?_
  simp only [SX, simprocAttr, TYX, cellsE, foldE, foldN, cellsN, b_EN, cellsNV, foldNV, cellsT, fold6, foldT, cells6, lowT]
  refine CallVC.intro (c_accN (t1 + a * L1 b) m (umul (M0 (t1 + a * L1 b)) ng) hmW (umul_lt _ _) (sum_lt hm2 ha l1 (L1_lt b) (umul_lt _ _))) ⟨rfl, rfl, rfl, trivial⟩ rfl rfl ?_
  simp only [SX, simprocAttr, TYX, cellsE, foldE, foldN, cellsN, b_EN, cellsNV, foldNV, cellsT, fold6, foldT, cells6, lowT]
  refine XT _ _ _ _ _ _ (by rfl) (by rfl) (by rfl) (by rfl) (by rfl) (by rfl) ?_
  rw [shiftT (sum_lt hm2 ha l1 (L1_lt b) (umul_lt _ _))]
  rw [show (t1 + a * L1 b + m * umul (M0 (t1 + a * L1 b)) ng) / 18446744073709551616 = rstep m ng a (t1) (L1 b) from rfl, ← h2]
  simp only [SX, simprocAttr, TYX, cellsE, foldE, foldN, cellsN, b_EN, cellsNV, foldNV, cellsT, fold6, foldT, cells6, lowT]
  refine RoundsVC.step mixed trivial 1000 ?_
  simp only [SX, simprocAttr, TYX, cellsE, foldE, foldN, cellsN, b_EN, cellsNV, foldNV, cellsT, fold6, foldT, cells6, lowT]
  refine XIx (u64 (L2 b)) (by rfl) (by rfl) (by decide) (by decide) rfl ?_
  simp only [SX, simprocAttr, TYX, cellsE, foldE, foldN, cellsN, b_EN, cellsNV, foldNV, cellsT, fold6, foldT, cells6, lowT]
  refine CallVC.intro (c_accN (t2) a (L2 b) haW (L2_lt b) (by have := sum_lt (y := 0) hm2 ha l2 (L2_lt b) (by decide); omega)) ⟨rfl, rfl, rfl, trivial⟩ rfl rfl ?_
  simp only [SX, simprocAttr, TYX, cellsE, foldE, foldN, cellsN, b_EN, cellsNV, foldNV, cellsT, fold6, foldT, cells6, lowT]
  refine CallVC.intro (c_accN (t2 + a * L2 b) m (umul (M0 (t2 + a * L2 b)) ng) hmW (umul_lt _ _) (sum_lt hm2 ha l2 (L2_lt b) (umul_lt _ _))) ⟨rfl, rfl, rfl, trivial⟩ rfl rfl ?_
  simp only [SX, simprocAttr, TYX, cellsE, foldE, foldN, cellsN, b_EN, cellsNV, foldNV, cellsT, fold6, foldT, cells6, lowT]
  refine XT _ _ _ _ _ _ (by rfl) (by rfl) (by rfl) (by rfl) (by rfl) (by rfl) ?_
  rw [shiftT (sum_lt hm2 ha l2 (L2_lt b) (umul_lt _ _))]
  rw [show (t2 + a * L2 b + m * umul (M0 (t2 + a * L2 b)) ng) / 18446744073709551616 = rstep m ng a (t2) (L2 b) from rfl, ← h3]
  simp only [SX, simprocAttr, TYX, cellsE, foldE, foldN, cellsN, b_EN, cellsNV, foldNV, cellsT, fold6, foldT, cells6, lowT]
  refine RoundsVC.step mixed trivial 1000 ?_
  simp only [SX, simprocAttr, TYX, cellsE, foldE, foldN, cellsN, b_EN, cellsNV, foldNV, cellsT, fold6, foldT, cells6, lowT]
  refine XIx (u64 (L3 b)) (by rfl) (by rfl) (by decide) (by decide) rfl ?_
  simp only [SX, simprocAttr, TYX, cellsE, foldE, foldN, cellsN, b_EN, cellsNV, foldNV, cellsT, fold6, foldT, cells6, lowT]
  refine CallVC.intro (c_accN (t3) a (L3 b) haW (L3_lt b) (by have := sum_lt (y := 0) hm2 ha l3 (L3_lt b) (by decide); omega)) ⟨rfl, rfl, rfl, trivial⟩ rfl rfl ?_
  simp only [SX, simprocAttr, TYX, cellsE, foldE, foldN, cellsN, b_EN, cellsNV, foldNV, cellsT, fold6, foldT, cells6, lowT]
  refine CallVC.intro (c_accN (t3 + a * L3 b) m (umul (M0 (t3 + a * L3 b)) ng) hmW (umul_lt _ _) (sum_lt hm2 ha l3 (L3_lt b) (umul_lt _ _))) ⟨rfl, rfl, rfl, trivial⟩ rfl rfl ?_
  simp only [SX, simprocAttr, TYX, cellsE, foldE, foldN, cellsN, b_EN, cellsNV, foldNV, cellsT, fold6, foldT, cells6, lowT]
  refine XT _ _ _ _ _ _ (by rfl) (by rfl) (by rfl) (by rfl) (by rfl) (by rfl) ?_
  rw [shiftT (sum_lt hm2 ha l3 (L3_lt b) (umul_lt _ _))]
  rw [show (t3 + a * L3 b + m * umul (M0 (t3 + a * L3 b)) ng) / 18446744073709551616 = rstep m ng a (t3) (L3 b) from rfl, ← h4]
  simp only [SX, simprocAttr, TYX, cellsE, foldE, foldN, cellsN, b_EN, cellsNV, foldNV, cellsT, fold6, foldT, cells6, lowT]
  refine RoundsVC.step mixed trivial 1000 ?_
  simp only [SX, simprocAttr, TYX, cellsE, foldE, foldN, cellsN, b_EN, cellsNV, foldNV, cellsT, fold6, foldT, cells6, lowT]
  have h4W : t4 < W256 := by omega
  have hM : (M4 t4 != 0) = false := by rw [M4_zero h4W]; rfl
  refine CallVC.intro (c_word_sub t4 m h4W hmW) ⟨rfl, rfl, trivial⟩ rfl rfl ?_
  simp only [SX, simprocAttr, TYX, cellsE, foldE, foldN, cellsN, b_EN, cellsNV, foldNV, cellsT, fold6, foldT, cells6, lowT, hM]
  refine cond_split (fun h0 => ?_) (fun h0 => ?_)
  · have h0 : m ≤ t4 := by simpa using h0
    rw [sub_of h4W h0]
    simp only [SX, simprocAttr, TYX, cellsE, foldE, foldN, cellsN, b_EN, cellsNV, foldNV, cellsT, fold6, foldT, cells6, lowT]
    rw [Nat.mod_eq_sub_mod h0, Nat.mod_eq_of_lt (by omega)]
  · have h0 : t4 < m := by simpa using h0
    simp only [SX, simprocAttr, TYX, cellsE, foldE, foldN, cellsN, b_EN, cellsNV, foldNV, cellsT, fold6, foldT, cells6, lowT]
    rw [Nat.mod_eq_of_lt h0]
end Go.Sx
