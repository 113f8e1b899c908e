/-
  Walks: numbers.reduce. No conditions.
-/
import Derived.Test.YtmgheellmllfpaaFldD
namespace Go.Sx
open Go.Proofs
-- TY: TYX, cellsE, foldE, foldN, cellsN, b_EN, cellsNV, foldNV
set_option maxRecDepth 100000
set_option linter.unusedSimpArgs false
set_option pp.deepTerms false
set_option pp.deepTerms.threshold 3


theorem mod_step (x y c m : Nat) : ((x % m) * c + y) % m = (x * c + y) % m := by
  rw [Nat.add_mod, Nat.mul_mod, Nat.mod_mod, ← Nat.mul_mod, ← Nat.add_mod]
theorem c_reduceL (m : Nat) (ad : Int) (hm : 0 < m) (hm1 : m < 4294967296)
    (hdiv : ∀ hi lo V : Nat, hi < m → lo < 18446744073709551616 → V = hi * 18446744073709551616 + lo → Contract Try.prog 72 [.val (u64 hi), .val (u64 lo), .val (u64 m)] [.val (u64 (V / m)), .val (u64 (V % m))])
    (a : Nat) (ha : a < W256) : Contract Try.prog 57 [.val (NV m ad m 0 0), .val (EN a)] [.val (EN (a % m))] := by
  have hm0 : (m != 0) = true := by simp; omega
  have hmn : m ≠ 0 := by omega
  obtain ⟨a0, h0⟩ : ∃ x, L0 a = x := ⟨_, rfl⟩
  obtain ⟨a1, h1⟩ : ∃ x, L1 a = x := ⟨_, rfl⟩
  obtain ⟨a2, h2⟩ : ∃ x, L2 a = x := ⟨_, rfl⟩
  obtain ⟨a3, h3⟩ : ∃ x, L3 a = x := ⟨_, rfl⟩
  have hs := L_sum ha
  have l0 := L0_lt a
  have l1 := L1_lt a
  have l2 := L2_lt a
  have l3 := L3_lt a
  rw [EN_E4 a]
  rw [h0, h1, h2, h3] at *
  have hlt : ∀ x, x % m < 18446744073709551616 := fun x => Nat.lt_trans (Nat.mod_lt x hm) (by omega)
  have hml : ∀ x, x % m < m := fun x => Nat.mod_lt x hm
  clear h0 h1 h2 h3
  refine contract_of (N := _) (vars := _) (c := bodyOf Try.f57) Try.func57 (body_eq rfl) rfl rfl (by rfl) mixed _ _ trivial 1000 ?_
  simp only [bodyOf, Try.f57, Option.getD_some, argA, argE, List.length_cons, List.length_nil, Nat.reduceAdd, Nat.reduceSub, List.replicate, List.cons_append, List.nil_append]
  simp only [SX, simprocAttr, TYX, cellsE, foldE, foldN, cellsN, b_EN, cellsNV, foldNV]
  simp only [SX, simprocAttr, TYX, cellsE, foldE, foldN, cellsN, b_EN, cellsNV, foldNV, hm0]
  refine cond_split (fun h0 => ?_) (fun h0 => ?_)
  · have h0 : uor (uor a1 a2) a3 = 0 := by simpa using h0
    rw [uor_zero _ _ (uor_lt _ _) l3, uor_zero _ _ l1 l2] at h0
    obtain ⟨⟨rfl, rfl⟩, rfl⟩ := h0
    simp only [SX, simprocAttr, TYX, cellsE, foldE, foldN, cellsN, b_EN, cellsNV, foldNV]
    refine ⟨hmn, ?_⟩
    refine X1 _ (by rfl) ?_
    simp only [SX, simprocAttr, TYX, cellsE, foldE, foldN, cellsN, b_EN, cellsNV, foldNV]
    rw [urem_eq, EN_small (hlt _)]
    refine congrArg (fun z => val (EN z)) (congrArg (· % m) ?_)
    omega
  · simp only [SX, simprocAttr, TYX, cellsE, foldE, foldN, cellsN, b_EN, cellsNV, foldNV]
    refine loop_rounds 5 ?_
    refine RoundsVC.step mixed trivial 1000 ?_
    simp only [SX, simprocAttr, TYX, cellsE, foldE, foldN, cellsN, b_EN, cellsNV, foldNV]
    refine ⟨by kernel_rfl, ?_⟩
    refine CallVC.intro (hdiv 0 a3 _ hm l3 rfl) ⟨rfl, rfl, rfl, trivial⟩ rfl rfl ?_
    simp only [SX, simprocAttr, TYX, cellsE, foldE, foldN, cellsN, b_EN, cellsNV, foldNV]
    refine RoundsVC.step mixed trivial 1000 ?_
    simp only [SX, simprocAttr, TYX, cellsE, foldE, foldN, cellsN, b_EN, cellsNV, foldNV]
    refine ⟨by kernel_rfl, ?_⟩
    refine CallVC.intro (hdiv _ a2 _ (hml _) l2 rfl) ⟨rfl, rfl, rfl, trivial⟩ rfl rfl ?_
    simp only [SX, simprocAttr, TYX, cellsE, foldE, foldN, cellsN, b_EN, cellsNV, foldNV]
    refine RoundsVC.step mixed trivial 1000 ?_
    simp only [SX, simprocAttr, TYX, cellsE, foldE, foldN, cellsN, b_EN, cellsNV, foldNV]
    refine ⟨by kernel_rfl, ?_⟩
    refine CallVC.intro (hdiv _ a1 _ (hml _) l1 rfl) ⟨rfl, rfl, rfl, trivial⟩ rfl rfl ?_
    simp only [SX, simprocAttr, TYX, cellsE, foldE, foldN, cellsN, b_EN, cellsNV, foldNV]
    refine RoundsVC.step mixed trivial 1000 ?_
    simp only [SX, simprocAttr, TYX, cellsE, foldE, foldN, cellsN, b_EN, cellsNV, foldNV]
    refine ⟨by kernel_rfl, ?_⟩
    refine CallVC.intro (hdiv _ a0 _ (hml _) l0 rfl) ⟨rfl, rfl, rfl, trivial⟩ rfl rfl ?_
    simp only [SX, simprocAttr, TYX, cellsE, foldE, foldN, cellsN, b_EN, cellsNV, foldNV]
    refine RoundsVC.step mixed trivial 1000 ?_
    simp only [SX, simprocAttr, TYX, cellsE, foldE, foldN, cellsN, b_EN, cellsNV, foldNV]
    refine X1 _ (by rfl) ?_
    simp only [SX, simprocAttr, TYX, cellsE, foldE, foldN, cellsN, b_EN, cellsNV, foldNV]
    rw [EN_small (hlt _)]
    refine congrArg (fun z => val (EN z)) ?_
    rw [mod_step _ a2, mod_step _ a1, mod_step _ a0]
    refine congrArg (· % m) ?_
    omega
theorem c_reduceA (a : Nat) (ha : a < W256) : Contract Try.prog 57 [.val NA, .val (EN a)] [.val (EN (a % PA))] :=
  c_reduceL PA 9 (by decide) (by decide) (fun hi lo V h1 h2 h3 => c_div64A hi lo V h1 h2 h3) a ha
theorem c_reduceB (a : Nat) (ha : a < W256) : Contract Try.prog 57 [.val NB, .val (EN a)] [.val (EN (a % PB))] :=
  c_reduceL PB 11 (by decide) (by decide) (fun hi lo V h1 h2 h3 => c_div64B hi lo V h1 h2 h3) a ha
theorem sub_of {a m : Nat} (ha : a < W256) (hm : m ≤ a) : (a + W256 - m) % W256 = a - m := by unfold W256 at *; omega
theorem c_reduceG (m : Nat) (ad : Int) (ng sq : Nat) (hm : 0 < m) (hm1 : m < W256) (hm4 : W256 ≤ m * 4)
    (a : Nat) (ha : a < W256) : Contract Try.prog 57 [.val (NV m ad 0 ng sq), .val (EN a)] [.val (EN (a % m))] := by
  refine contract_of (N := _) (vars := _) (c := bodyOf Try.f57) Try.func57 (body_eq rfl) rfl rfl (by rfl) mixed _ _ trivial 1000 ?_
  simp only [bodyOf, Try.f57, Option.getD_some, argA, argE, List.length_cons, List.length_nil, Nat.reduceAdd, Nat.reduceSub, List.replicate, List.cons_append, List.nil_append]
  simp only [SX, simprocAttr, TYX, cellsE, foldE, foldN, cellsN, b_EN, cellsNV, foldNV]
  refine loop_rounds 4 ?_
  refine RoundsVC.step mixed trivial 1000 ?_
  simp only [SX, simprocAttr, TYX, cellsE, foldE, foldN, cellsN, b_EN, cellsNV, foldNV]
  refine CallVC.intro (c_word_sub a m ha hm1) ⟨rfl, rfl, trivial⟩ rfl rfl ?_
  simp only [SX, simprocAttr, TYX, cellsE, foldE, foldN, cellsN, b_EN, cellsNV, foldNV]
  refine cond_split (fun h0 => ?_) (fun h0 => ?_)
  · have h0 : a < m := by simpa using h0
    simp only [SX, simprocAttr, TYX, cellsE, foldE, foldN, cellsN, b_EN, cellsNV, foldNV]
    rw [Nat.mod_eq_of_lt h0]
  have h0 : m ≤ a := by simpa using h0
  simp only [SX, simprocAttr, TYX, cellsE, foldE, foldN, cellsN, b_EN, cellsNV, foldNV, sub_of ha h0]
  rw [Nat.mod_eq_sub_mod h0]
  have ha1 : a - m < W256 := by omega
  refine RoundsVC.step mixed trivial 1000 ?_
  simp only [SX, simprocAttr, TYX, cellsE, foldE, foldN, cellsN, b_EN, cellsNV, foldNV]
  refine CallVC.intro (c_word_sub (a - m) m ha1 hm1) ⟨rfl, rfl, trivial⟩ rfl rfl ?_
  simp only [SX, simprocAttr, TYX, cellsE, foldE, foldN, cellsN, b_EN, cellsNV, foldNV]
  refine cond_split (fun h0 => ?_) (fun h0 => ?_)
  · have h0 : a - m < m := by simpa using h0
    simp only [SX, simprocAttr, TYX, cellsE, foldE, foldN, cellsN, b_EN, cellsNV, foldNV]
    rw [Nat.mod_eq_of_lt h0]
  have h1 : m ≤ a - m := by simpa using h0
  rw [Nat.mod_eq_sub_mod h1]
  simp only [SX, simprocAttr, TYX, cellsE, foldE, foldN, cellsN, b_EN, cellsNV, foldNV, sub_of ha1 h1]
  have ha2 : a - m - m < W256 := by omega
  refine RoundsVC.step mixed trivial 1000 ?_
  simp only [SX, simprocAttr, TYX, cellsE, foldE, foldN, cellsN, b_EN, cellsNV, foldNV]
  refine CallVC.intro (c_word_sub (a - m - m) m ha2 hm1) ⟨rfl, rfl, trivial⟩ rfl rfl ?_
  simp only [SX, simprocAttr, TYX, cellsE, foldE, foldN, cellsN, b_EN, cellsNV, foldNV]
  refine cond_split (fun h0 => ?_) (fun h0 => ?_)
  · have h0 : a - m - m < m := by simpa using h0
    simp only [SX, simprocAttr, TYX, cellsE, foldE, foldN, cellsN, b_EN, cellsNV, foldNV]
    rw [Nat.mod_eq_of_lt h0]
  have h2 : m ≤ a - m - m := by simpa using h0
  rw [Nat.mod_eq_sub_mod h2]
  simp only [SX, simprocAttr, TYX, cellsE, foldE, foldN, cellsN, b_EN, cellsNV, foldNV, sub_of ha2 h2]
  have ha3 : a - m - m - m < W256 := by omega
  refine RoundsVC.step mixed trivial 1000 ?_
  simp only [SX, simprocAttr, TYX, cellsE, foldE, foldN, cellsN, b_EN, cellsNV, foldNV]
  refine CallVC.intro (c_word_sub (a - m - m - m) m ha3 hm1) ⟨rfl, rfl, trivial⟩ rfl rfl ?_
  simp only [SX, simprocAttr, TYX, cellsE, foldE, foldN, cellsN, b_EN, cellsNV, foldNV]
  refine cond_split (fun h0 => ?_) (fun h0 => ?_)
  · have h0 : a - m - m - m < m := by simpa using h0
    simp only [SX, simprocAttr, TYX, cellsE, foldE, foldN, cellsN, b_EN, cellsNV, foldNV]
    rw [Nat.mod_eq_of_lt h0]
  have h3 : m ≤ a - m - m - m := by simpa using h0
  omega
theorem c_reduceC (a : Nat) (ha : a < W256) : Contract Try.prog 57 [.val NC, .val (EN a)] [.val (EN (a % PC))] :=
  c_reduceG PC 32 _ _ (by decide) (by decide) (by decide) a ha
theorem c_reduceD (a : Nat) (ha : a < W256) : Contract Try.prog 57 [.val ND, .val (EN a)] [.val (EN (a % PD))] :=
  c_reduceG PD 32 _ _ (by decide) (by decide) (by decide) a ha
end Go.Sx
