/-
  Walk: numbers.mul; the law of Montgomery's product. No conditions.
-/
import Derived.Test.YtmgheellmllfpaaFldH
namespace Go.Sx
open Go.Proofs
-- TY: TYX, cellsE, foldE, foldN, cellsN, b_EN, cellsNV, foldNV
set_option maxRecDepth 100000
set_option linter.unusedSimpArgs false
set_option pp.deepTerms false
set_option pp.deepTerms.threshold 3
theorem rstep_law {m ng a t x : Nat} (hn : (m * ng + 1) % 18446744073709551616 = 0) : ∃ u, 18446744073709551616 * rstep m ng a t x = t + a * x + m * u := by
  refine ⟨umul (M0 (t + a * x)) ng, ?_⟩
  unfold rstep
  generalize t + a * x = s
  have h : (s + m * umul (M0 s) ng) % 18446744073709551616 = 0 := by
    rw [umul_eq]
    unfold M0
    have e1 : (m * (s % 18446744073709551616 * ng % 18446744073709551616)) % 18446744073709551616 = (s * (m * ng)) % 18446744073709551616 := by
      rw [Nat.mul_mod, Nat.mod_mod, ← Nat.mul_mod, Nat.mul_left_comm, Nat.mul_mod, Nat.mod_mod, ← Nat.mul_mod]
    rw [Nat.add_mod, e1, ← Nat.add_mod]
    have e2 : s + s * (m * ng) = s * (m * ng + 1) := by rw [Nat.mul_add, Nat.mul_one, Nat.add_comm]
    rw [e2, Nat.mul_mod, hn, Nat.mul_zero, Nat.zero_mod]
  have := Nat.div_add_mod (s + m * umul (M0 s) ng) 18446744073709551616
  rw [h, Nat.add_zero] at this
  exact this
theorem redc_law {m ng a b t1 t2 t3 t4 : Nat} (hn : (m * ng + 1) % 18446744073709551616 = 0) (hb : b < W256) (h1 : t1 = rstep m ng a 0 (L0 b)) (h2 : t2 = rstep m ng a t1 (L1 b)) (h3 : t3 = rstep m ng a t2 (L2 b)) (h4 : t4 = rstep m ng a t3 (L3 b)) :
    (W256 * (t4 % m)) % m = (a * b) % m := by
  obtain ⟨u1, e1⟩ := rstep_law (a := a) (t := 0) (x := L0 b) hn
  obtain ⟨u2, e2⟩ := rstep_law (a := a) (t := t1) (x := L1 b) hn
  obtain ⟨u3, e3⟩ := rstep_law (a := a) (t := t2) (x := L2 b) hn
  obtain ⟨u4, e4⟩ := rstep_law (a := a) (t := t3) (x := L3 b) hn
  rw [← h1] at e1
  rw [← h2] at e2
  rw [← h3] at e3
  rw [← h4] at e4
  clear h1 h2 h3 h4
  have hs := L_sum hb
  have key : W256 * t4 = a * b + m * (u1 + 18446744073709551616 * u2 + 340282366920938463463374607431768211456 * u3 + 6277101735386680763835789423207666416102355444464034512896 * u4) := by
    have hab : a * b = a * L0 b + 18446744073709551616 * (a * L1 b) + 340282366920938463463374607431768211456 * (a * L2 b) + 6277101735386680763835789423207666416102355444464034512896 * (a * L3 b) := by
      conv => lhs; rw [hs]
      simp only [Nat.mul_add, Nat.mul_left_comm a]
    have hmu : m * (u1 + 18446744073709551616 * u2 + 340282366920938463463374607431768211456 * u3 + 6277101735386680763835789423207666416102355444464034512896 * u4) = m * u1 + 18446744073709551616 * (m * u2) + 340282366920938463463374607431768211456 * (m * u3) + 6277101735386680763835789423207666416102355444464034512896 * (m * u4) := by
      simp only [Nat.mul_add, Nat.mul_left_comm m]
    rw [hab, hmu]
    unfold W256
    generalize a * L0 b = p0 at *
    generalize a * L1 b = p1 at *
    generalize a * L2 b = p2 at *
    generalize a * L3 b = p3 at *
    generalize m * u1 = q1 at *
    generalize m * u2 = q2 at *
    generalize m * u3 = q3 at *
    generalize m * u4 = q4 at *
    omega
  rw [Nat.mul_mod, Nat.mod_mod, ← Nat.mul_mod, key, Nat.add_mul_mod_self_left]
theorem mont_law {m a b r1 r2 sq I : Nat} (h1 : (W256 * r1) % m = (a * b) % m) (h2 : (W256 * r2) % m = (r1 * sq) % m) (hsq : sq % m = (W256 * W256) % m) (hI : (W256 * I) % m = 1 % m) (hr : r2 < m) : r2 = a * b % m := by
  have mm : ∀ {x x' y y' : Nat}, x % m = x' % m → y % m = y' % m → (x * y) % m = (x' * y') % m := by
    intro x x' y y' hx hy
    rw [Nat.mul_mod, hx, hy, ← Nat.mul_mod]
  have e1 : (r2 * (W256 * I)) % m = (r2 * 1) % m := mm rfl hI
  have e2 : (W256 * r2 * I) % m = (r1 * sq * I) % m := mm h2 rfl
  have e3 : (r1 * I * sq) % m = (r1 * I * (W256 * W256)) % m := mm rfl hsq
  have e4 : (W256 * r1 * (W256 * I)) % m = (a * b * 1) % m := mm h1 hI
  have f1 : W256 * r2 * I = r2 * (W256 * I) := by rw [Nat.mul_comm W256 r2, Nat.mul_assoc]
  have f2 : r1 * I * sq = r1 * sq * I := by rw [Nat.mul_assoc, Nat.mul_comm I, ← Nat.mul_assoc]
  have f3 : r1 * I * (W256 * W256) = W256 * r1 * (W256 * I) := by
    rw [Nat.mul_comm W256 r1, Nat.mul_assoc, Nat.mul_assoc, Nat.mul_left_comm I, Nat.mul_comm I]
  rw [Nat.mul_one] at e1 e4
  rw [← e4, ← f3, ← e3, f2, ← e2, f1, e1, Nat.mod_eq_of_lt hr]
/-- A field's numbers, with the product. -/
structure FM (m : Nat) (ad : Int) (sm ng sq : Nat) : Prop extends FN m ad sm ng sq where
  mul : ∀ a b, a < W256 → b < W256 → Contract Try.prog 51 [.val (NV m ad sm ng sq), .val (EN a), .val (EN b)] [.val (EN (a * b % m))]
theorem c_mulL {m : Nat} {ad : Int} (F : FN m ad m 0 0) (hm : m < 4294967296) (a b : Nat) (ha : a < W256) (hb : b < W256) :
    Contract Try.prog 51 [.val (NV m ad m 0 0), .val (EN a), .val (EN b)] [.val (EN (a * b % m))] := by
  have h1 := F.mod a
  have h2 := F.mod b
  have hm0 : (m != 0) = true := by have := F.one; simp; omega
  have hmn : m ≠ 0 := by have := F.one; omega
  have e1 : L0 (a % m) = a % m := Nat.mod_eq_of_lt (by omega)
  have e2 : L0 (b % m) = b % m := Nat.mod_eq_of_lt (by omega)
  have e3 : urem (umul (a % m) (b % m)) m = a * b % m := by
    have h3 : a % m * (b % m) ≤ 4294967295 * 4294967295 := Nat.mul_le_mul (by omega) (by omega)
    rw [urem_eq, umul_eq, Nat.mod_eq_of_lt (a := _ * _) (by omega), ← Nat.mul_mod]
  have e4 : a * b % m < 18446744073709551616 := by have := F.mod (a * b); omega
  refine contract_of (N := _) (vars := _) (c := bodyOf Try.f51) Try.func51 (body_eq rfl) rfl rfl (by rfl) mixed _ _ trivial 1000 ?_
  simp only [bodyOf, Try.f51, Option.getD_some, argA, argE, List.length_cons, List.length_nil, Nat.reduceAdd, Nat.reduceSub, List.replicate, List.cons_append, List.nil_append]
  simp only [SX, simprocAttr, TYX, cellsE, foldE, foldN, cellsN, b_EN, cellsNV, foldNV]
  refine ⟨by kernel_rfl, ?_⟩
  refine CallVC.intro (F.reduce a ha) ⟨rfl, rfl, trivial⟩ rfl rfl ?_
  simp only [SX, simprocAttr, TYX, cellsE, foldE, foldN, cellsN, b_EN, cellsNV, foldNV]
  refine CallVC.intro (F.reduce b hb) ⟨rfl, rfl, trivial⟩ rfl rfl ?_
  simp only [SX, simprocAttr, TYX, cellsE, foldE, foldN, cellsN, b_EN, cellsNV, foldNV, hm0, e1, e2, e3]
  refine ⟨hmn, ?_⟩
  refine X1 _ (by rfl) ?_
  rw [EN_small e4]
  simp only [SX, simprocAttr, TYX, cellsE, foldE, foldN, cellsN, b_EN, cellsNV, foldNV]
theorem c_mulG {m ng sq : Nat} {ad : Int} (F : FN m ad 0 ng sq) (I : Nat) (hn : (m * ng + 1) % 18446744073709551616 = 0) (hsq : sq % m = (W256 * W256) % m) (hI : (W256 * I) % m = 1 % m) (hq : sq < W256) (a b : Nat) (ha : a < W256) (hb : b < W256) :
    Contract Try.prog 51 [.val (NV m ad 0 ng sq), .val (EN a), .val (EN b)] [.val (EN (a * b % m))] := by
  have h1 := F.mod a
  have h2 := F.mod b
  obtain ⟨t1, k1⟩ : ∃ t, t = rstep m ng (a % m) 0 (L0 (b % m)) := ⟨_, rfl⟩
  obtain ⟨t2, k2⟩ : ∃ t, t = rstep m ng (a % m) t1 (L1 (b % m)) := ⟨_, rfl⟩
  obtain ⟨t3, k3⟩ : ∃ t, t = rstep m ng (a % m) t2 (L2 (b % m)) := ⟨_, rfl⟩
  obtain ⟨t4, k4⟩ : ∃ t, t = rstep m ng (a % m) t3 (L3 (b % m)) := ⟨_, rfl⟩
  have r1 := c_redc4 (sm := 0) (sq := sq) (ad := ad) F.one F.half (a % m) (b % m) t1 t2 t3 t4 h1 k1 k2 k3 k4
  have w1 := redc_law hn (F.mod2 b) k1 k2 k3 k4
  obtain ⟨s1, j1⟩ : ∃ t, t = rstep m ng (t4 % m) 0 (L0 sq) := ⟨_, rfl⟩
  obtain ⟨s2, j2⟩ : ∃ t, t = rstep m ng (t4 % m) s1 (L1 sq) := ⟨_, rfl⟩
  obtain ⟨s3, j3⟩ : ∃ t, t = rstep m ng (t4 % m) s2 (L2 sq) := ⟨_, rfl⟩
  obtain ⟨s4, j4⟩ : ∃ t, t = rstep m ng (t4 % m) s3 (L3 sq) := ⟨_, rfl⟩
  have r2 := c_redc4 (sm := 0) (sq := sq) (ad := ad) F.one F.half (t4 % m) sq s1 s2 s3 s4 (F.mod t4) j1 j2 j3 j4
  have w2 := redc_law hn hq j1 j2 j3 j4
  have e := mont_law w1 w2 hsq hI (F.mod s4)
  rw [← Nat.mul_mod] at e
  clear k1 k2 k3 k4 j1 j2 j3 j4 w1 w2 hsq hI
  rw [← e]
  refine contract_of (N := _) (vars := _) (c := bodyOf Try.f51) Try.func51 (body_eq rfl) rfl rfl (by rfl) mixed _ _ trivial 1000 ?_
  simp only [bodyOf, Try.f51, Option.getD_some, argA, argE, List.length_cons, List.length_nil, Nat.reduceAdd, Nat.reduceSub, List.replicate, List.cons_append, List.nil_append]
  simp only [SX, simprocAttr, TYX, cellsE, foldE, foldN, cellsN, b_EN, cellsNV, foldNV]
  refine ⟨by kernel_rfl, ?_⟩
  refine CallVC.intro (F.reduce a ha) ⟨rfl, rfl, trivial⟩ rfl rfl ?_
  simp only [SX, simprocAttr, TYX, cellsE, foldE, foldN, cellsN, b_EN, cellsNV, foldNV]
  refine CallVC.intro (F.reduce b hb) ⟨rfl, rfl, trivial⟩ rfl rfl ?_
  simp only [SX, simprocAttr, TYX, cellsE, foldE, foldN, cellsN, b_EN, cellsNV, foldNV]
  refine ⟨by kernel_rfl, ?_⟩
  refine CallVC.intro r1 ⟨rfl, rfl, rfl, trivial⟩ rfl rfl ?_
  simp only [SX, simprocAttr, TYX, cellsE, foldE, foldN, cellsN, b_EN, cellsNV, foldNV]
  refine CallVC.intro r2 ⟨rfl, rfl, rfl, trivial⟩ rfl rfl ?_
  simp only [SX, simprocAttr, TYX, cellsE, foldE, foldN, cellsN, b_EN, cellsNV, foldNV]
theorem MA : FM PA 9 PA 0 0 := ⟨FA, c_mulL FA (by decide)⟩
theorem MB : FM PB 11 PB 0 0 := ⟨FB, c_mulL FB (by decide)⟩
theorem MC : FM PC 32 0 0x992d30ecffffffff SC := ⟨FC, c_mulG FC 15353493766103302224812374511606760489073247795810767472367693728416386214313 (by decide) (by decide) (by decide) (by decide)⟩
theorem MD : FM PD 32 0 0x8c46eb20ffffffff SD := ⟨FD, c_mulG FD 14238205147845459960272226733876560297615832660064601289232577236146637664127 (by decide) (by decide) (by decide) (by decide)⟩
end Go.Sx
