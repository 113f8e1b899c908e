/-
  Walks of the references: Of, Add, Neg, Sub, Mul, Exp. Walks of the references: Mul. Walks of the references: Exp. No conditions.
-/
import Derived.Test.YtmjhaopkhceegaaZFieldB
namespace Go.Sx
open Go.Proofs
-- TY: TYX, cellsE, foldE, foldN, cellsN, b_EN, k32, kA, kB
set_option maxRecDepth 100000
set_option linter.unusedSimpArgs false
set_option pp.deepTerms false
set_option pp.deepTerms.threshold 3
theorem c_OfG (s : Int) (m : Nat) (hm1 : m < W256) (hm4 : W256 ≤ m * 4) (hm : 0 < m) (hs : s = 2 ∨ s = 3) (hl : Contract Try.prog 63 [.val (.int .i64 s)] [.val (EN m), .val (.int .i64 0)]) (a : Nat) (ha : a < W256) :
    Contract Try.prog 50 [.val (.int .i64 s), .val (EN a)] [.val (EN (a % m))] := by
  rcases hs with rfl | rfl
  ·
    refine contract_of (N := _) (vars := _) (c := bodyOf Try.f50) Try.func50 (body_eq rfl) rfl rfl (by rfl) mixed _ _ trivial 1000 ?_
    simp only [bodyOf, Try.f50, Option.getD_some, argA, argE, List.length_cons, List.length_nil, Nat.reduceAdd, Nat.reduceSub, List.replicate, List.cons_append, List.nil_append]
    simp only [SX, simprocAttr, TYX, cellsE, foldE, foldN, cellsN, b_EN, k32, kA, kB]
    refine CallVC.intro hl ⟨rfl, trivial⟩ rfl rfl ?_
    simp only [SX, simprocAttr, TYX, cellsE, foldE, foldN, cellsN, b_EN, k32, kA, kB]
    refine loop_rounds 4 ?_
    refine RoundsVC.step mixed trivial 1000 ?_
    simp only [SX, simprocAttr, TYX, cellsE, foldE, foldN, cellsN, b_EN, k32, kA, kB]
    refine CallVC.intro (c_below (a) m ha hm1) ⟨rfl, rfl, trivial⟩ rfl rfl ?_
    simp only [SX, simprocAttr, TYX, cellsE, foldE, foldN, cellsN, b_EN, k32, kA, kB]
    refine cond_split (fun h0 => ?_) (fun h0 => ?_)
    rotate_left
    · have h0 : a < m := by simpa using h0
      simp only [SX, simprocAttr, TYX, cellsE, foldE, foldN, cellsN, b_EN, k32, kA, kB]
      rw [Nat.mod_eq_of_lt h0]
    have h1 : m ≤ a := by simpa using h0
    simp only [SX, simprocAttr, TYX, cellsE, foldE, foldN, cellsN, b_EN, k32, kA, kB]
    refine CallVC.intro (c_minus (a) m ha hm1) ⟨rfl, rfl, trivial⟩ rfl rfl ?_
    rw [sub_of ha h1, Nat.mod_eq_sub_mod h1]
    simp only [SX, simprocAttr, TYX, cellsE, foldE, foldN, cellsN, b_EN, k32, kA, kB]
    have ha1 : a - m < W256 := by omega
    refine RoundsVC.step mixed trivial 1000 ?_
    simp only [SX, simprocAttr, TYX, cellsE, foldE, foldN, cellsN, b_EN, k32, kA, kB]
    refine CallVC.intro (c_below (a - m) m ha1 hm1) ⟨rfl, rfl, trivial⟩ rfl rfl ?_
    simp only [SX, simprocAttr, TYX, cellsE, foldE, foldN, cellsN, b_EN, k32, kA, kB]
    refine cond_split (fun h0 => ?_) (fun h0 => ?_)
    rotate_left
    · have h0 : a - m < m := by simpa using h0
      simp only [SX, simprocAttr, TYX, cellsE, foldE, foldN, cellsN, b_EN, k32, kA, kB]
      rw [Nat.mod_eq_of_lt h0]
    have h2 : m ≤ a - m := by simpa using h0
    simp only [SX, simprocAttr, TYX, cellsE, foldE, foldN, cellsN, b_EN, k32, kA, kB]
    refine CallVC.intro (c_minus (a - m) m ha1 hm1) ⟨rfl, rfl, trivial⟩ rfl rfl ?_
    rw [sub_of ha1 h2, Nat.mod_eq_sub_mod h2]
    simp only [SX, simprocAttr, TYX, cellsE, foldE, foldN, cellsN, b_EN, k32, kA, kB]
    have ha2 : a - m - m < W256 := by omega
    refine RoundsVC.step mixed trivial 1000 ?_
    simp only [SX, simprocAttr, TYX, cellsE, foldE, foldN, cellsN, b_EN, k32, kA, kB]
    refine CallVC.intro (c_below (a - m - m) m ha2 hm1) ⟨rfl, rfl, trivial⟩ rfl rfl ?_
    simp only [SX, simprocAttr, TYX, cellsE, foldE, foldN, cellsN, b_EN, k32, kA, kB]
    refine cond_split (fun h0 => ?_) (fun h0 => ?_)
    rotate_left
    · have h0 : a - m - m < m := by simpa using h0
      simp only [SX, simprocAttr, TYX, cellsE, foldE, foldN, cellsN, b_EN, k32, kA, kB]
      rw [Nat.mod_eq_of_lt h0]
    have h3 : m ≤ a - m - m := by simpa using h0
    simp only [SX, simprocAttr, TYX, cellsE, foldE, foldN, cellsN, b_EN, k32, kA, kB]
    refine CallVC.intro (c_minus (a - m - m) m ha2 hm1) ⟨rfl, rfl, trivial⟩ rfl rfl ?_
    rw [sub_of ha2 h3, Nat.mod_eq_sub_mod h3]
    simp only [SX, simprocAttr, TYX, cellsE, foldE, foldN, cellsN, b_EN, k32, kA, kB]
    have ha3 : a - m - m - m < W256 := by omega
    refine RoundsVC.step mixed trivial 1000 ?_
    simp only [SX, simprocAttr, TYX, cellsE, foldE, foldN, cellsN, b_EN, k32, kA, kB]
    refine CallVC.intro (c_below (a - m - m - m) m ha3 hm1) ⟨rfl, rfl, trivial⟩ rfl rfl ?_
    simp only [SX, simprocAttr, TYX, cellsE, foldE, foldN, cellsN, b_EN, k32, kA, kB]
    refine cond_split (fun h0 => ?_) (fun h0 => ?_)
    rotate_left
    · have h0 : a - m - m - m < m := by simpa using h0
      simp only [SX, simprocAttr, TYX, cellsE, foldE, foldN, cellsN, b_EN, k32, kA, kB]
      rw [Nat.mod_eq_of_lt h0]
    have h4 : m ≤ a - m - m - m := by simpa using h0
    omega
  ·
    refine contract_of (N := _) (vars := _) (c := bodyOf Try.f50) Try.func50 (body_eq rfl) rfl rfl (by rfl) mixed _ _ trivial 1000 ?_
    simp only [bodyOf, Try.f50, Option.getD_some, argA, argE, List.length_cons, List.length_nil, Nat.reduceAdd, Nat.reduceSub, List.replicate, List.cons_append, List.nil_append]
    simp only [SX, simprocAttr, TYX, cellsE, foldE, foldN, cellsN, b_EN, k32, kA, kB]
    refine CallVC.intro hl ⟨rfl, trivial⟩ rfl rfl ?_
    simp only [SX, simprocAttr, TYX, cellsE, foldE, foldN, cellsN, b_EN, k32, kA, kB]
    refine loop_rounds 4 ?_
    refine RoundsVC.step mixed trivial 1000 ?_
    simp only [SX, simprocAttr, TYX, cellsE, foldE, foldN, cellsN, b_EN, k32, kA, kB]
    refine CallVC.intro (c_below (a) m ha hm1) ⟨rfl, rfl, trivial⟩ rfl rfl ?_
    simp only [SX, simprocAttr, TYX, cellsE, foldE, foldN, cellsN, b_EN, k32, kA, kB]
    refine cond_split (fun h0 => ?_) (fun h0 => ?_)
    rotate_left
    · have h0 : a < m := by simpa using h0
      simp only [SX, simprocAttr, TYX, cellsE, foldE, foldN, cellsN, b_EN, k32, kA, kB]
      rw [Nat.mod_eq_of_lt h0]
    have h1 : m ≤ a := by simpa using h0
    simp only [SX, simprocAttr, TYX, cellsE, foldE, foldN, cellsN, b_EN, k32, kA, kB]
    refine CallVC.intro (c_minus (a) m ha hm1) ⟨rfl, rfl, trivial⟩ rfl rfl ?_
    rw [sub_of ha h1, Nat.mod_eq_sub_mod h1]
    simp only [SX, simprocAttr, TYX, cellsE, foldE, foldN, cellsN, b_EN, k32, kA, kB]
    have ha1 : a - m < W256 := by omega
    refine RoundsVC.step mixed trivial 1000 ?_
    simp only [SX, simprocAttr, TYX, cellsE, foldE, foldN, cellsN, b_EN, k32, kA, kB]
    refine CallVC.intro (c_below (a - m) m ha1 hm1) ⟨rfl, rfl, trivial⟩ rfl rfl ?_
    simp only [SX, simprocAttr, TYX, cellsE, foldE, foldN, cellsN, b_EN, k32, kA, kB]
    refine cond_split (fun h0 => ?_) (fun h0 => ?_)
    rotate_left
    · have h0 : a - m < m := by simpa using h0
      simp only [SX, simprocAttr, TYX, cellsE, foldE, foldN, cellsN, b_EN, k32, kA, kB]
      rw [Nat.mod_eq_of_lt h0]
    have h2 : m ≤ a - m := by simpa using h0
    simp only [SX, simprocAttr, TYX, cellsE, foldE, foldN, cellsN, b_EN, k32, kA, kB]
    refine CallVC.intro (c_minus (a - m) m ha1 hm1) ⟨rfl, rfl, trivial⟩ rfl rfl ?_
    rw [sub_of ha1 h2, Nat.mod_eq_sub_mod h2]
    simp only [SX, simprocAttr, TYX, cellsE, foldE, foldN, cellsN, b_EN, k32, kA, kB]
    have ha2 : a - m - m < W256 := by omega
    refine RoundsVC.step mixed trivial 1000 ?_
    simp only [SX, simprocAttr, TYX, cellsE, foldE, foldN, cellsN, b_EN, k32, kA, kB]
    refine CallVC.intro (c_below (a - m - m) m ha2 hm1) ⟨rfl, rfl, trivial⟩ rfl rfl ?_
    simp only [SX, simprocAttr, TYX, cellsE, foldE, foldN, cellsN, b_EN, k32, kA, kB]
    refine cond_split (fun h0 => ?_) (fun h0 => ?_)
    rotate_left
    · have h0 : a - m - m < m := by simpa using h0
      simp only [SX, simprocAttr, TYX, cellsE, foldE, foldN, cellsN, b_EN, k32, kA, kB]
      rw [Nat.mod_eq_of_lt h0]
    have h3 : m ≤ a - m - m := by simpa using h0
    simp only [SX, simprocAttr, TYX, cellsE, foldE, foldN, cellsN, b_EN, k32, kA, kB]
    refine CallVC.intro (c_minus (a - m - m) m ha2 hm1) ⟨rfl, rfl, trivial⟩ rfl rfl ?_
    rw [sub_of ha2 h3, Nat.mod_eq_sub_mod h3]
    simp only [SX, simprocAttr, TYX, cellsE, foldE, foldN, cellsN, b_EN, k32, kA, kB]
    have ha3 : a - m - m - m < W256 := by omega
    refine RoundsVC.step mixed trivial 1000 ?_
    simp only [SX, simprocAttr, TYX, cellsE, foldE, foldN, cellsN, b_EN, k32, kA, kB]
    refine CallVC.intro (c_below (a - m - m - m) m ha3 hm1) ⟨rfl, rfl, trivial⟩ rfl rfl ?_
    simp only [SX, simprocAttr, TYX, cellsE, foldE, foldN, cellsN, b_EN, k32, kA, kB]
    refine cond_split (fun h0 => ?_) (fun h0 => ?_)
    rotate_left
    · have h0 : a - m - m - m < m := by simpa using h0
      simp only [SX, simprocAttr, TYX, cellsE, foldE, foldN, cellsN, b_EN, k32, kA, kB]
      rw [Nat.mod_eq_of_lt h0]
    have h4 : m ≤ a - m - m - m := by simpa using h0
    omega
theorem c_Of9 (s : Int) (h0 : (s == 0) = false) (h1 : (s == 1) = false) (hl : Contract Try.prog 63 [.val (.int .i64 s)] [.val (EN 0), .val (.int .i64 20)]) (a : Nat) :
    Contract Try.prog 50 [.val (.int .i64 s), .val (EN a)] [.val (EN 0)] := by
  refine contract_of (N := _) (vars := _) (c := bodyOf Try.f50) Try.func50 (body_eq rfl) rfl rfl (by rfl) mixed _ _ trivial 1000 ?_
  simp only [bodyOf, Try.f50, Option.getD_some, argA, argE, List.length_cons, List.length_nil, Nat.reduceAdd, Nat.reduceSub, List.replicate, List.cons_append, List.nil_append]
  simp only [SX, simprocAttr, TYX, cellsE, foldE, foldN, cellsN, b_EN, k32, kA, kB]
  simp only [SX, simprocAttr, TYX, cellsE, foldE, foldN, cellsN, b_EN, k32, kA, kB, h0, h1]
  refine CallVC.intro hl ⟨rfl, trivial⟩ rfl rfl ?_
  simp only [SX, simprocAttr, TYX, cellsE, foldE, foldN, cellsN, b_EN, k32, kA, kB]
  refine X0 ?_
  simp only [SX, simprocAttr, TYX, cellsE, foldE, foldN, cellsN, b_EN, k32, kA, kB]
/-- The reference of a field. -/
structure RS (s : Int) (m : Nat) : Prop where
  one : 1 < m
  half : m * 2 ≤ W256
  sorts : ((s = 0 ∨ s = 1) ∧ m < 4294967296 ∧ Contract Try.prog 61 [.val (.int .i64 s)] [.val (u64 m)]) ∨ (s = 2 ∨ s = 3)
  modulus : Contract Try.prog 63 [.val (.int .i64 s)] [.val (EN m), .val (.int .i64 0)]
  of : ∀ a, a < W256 → Contract Try.prog 50 [.val (.int .i64 s), .val (EN a)] [.val (EN (a % m))]
theorem RA : RS 0 PA := ⟨by decide, by decide, .inl ⟨.inl rfl, by decide, r_lit0⟩, r_mod0, c_OfL 0 PA (by decide) (by decide) (.inl rfl) r_lit0⟩
theorem RB : RS 1 PB := ⟨by decide, by decide, .inl ⟨.inr rfl, by decide, r_lit1⟩, r_mod1, c_OfL 1 PB (by decide) (by decide) (.inr rfl) r_lit1⟩
theorem RC : RS 2 PC := ⟨by decide, by decide, .inr (.inl rfl), r_mod2, c_OfG 2 PC (by decide) (by decide) (by decide) (.inl rfl) r_mod2⟩
theorem RD : RS 3 PD := ⟨by decide, by decide, .inr (.inr rfl), r_mod3, c_OfG 3 PD (by decide) (by decide) (by decide) (.inr rfl) r_mod3⟩
structure RN (s : Int) : Prop where
  h0 : (s == 0) = false
  h1 : (s == 1) = false
  modulus : Contract Try.prog 63 [.val (.int .i64 s)] [.val (EN 0), .val (.int .i64 20)]
  of : ∀ a, Contract Try.prog 50 [.val (.int .i64 s), .val (EN a)] [.val (EN 0)]
theorem RN.mk' (s : Int) (h0 : (s == 0) = false) (h1 : (s == 1) = false) (h2 : (s == 2) = false) (h3 : (s == 3) = false) : RN s :=
  ⟨h0, h1, r_mod9 s h0 h1 h2 h3, c_Of9 s h0 h1 (r_mod9 s h0 h1 h2 h3)⟩
theorem NS.mk' (s : Int) (h0 : (s == 0) = false) (h1 : (s == 1) = false) (h2 : (s == 2) = false) (h3 : (s == 3) = false) : NS s := ⟨c_of9 s h0 h1 h2 h3⟩
section
variable {s : Int} {m : Nat}
theorem RS.lt (F : RS s m) : m < W256 := by have := F.half; have := F.one; omega
theorem RS.mod (F : RS s m) (x : Nat) : x % m < m := Nat.mod_lt _ (by have := F.one; omega)
theorem RS.mod2 (F : RS s m) (x : Nat) : x % m < W256 := Nat.lt_trans (F.mod x) F.lt
theorem L0_of (F : RS s m) (hm : m < 4294967296) (x : Nat) : L0 (x % m) = x % m := Nat.mod_eq_of_lt (by have := F.mod x; omega)
theorem add_law (F : RS s m) (hm : m < 4294967296) (a b : Nat) : E4 (urem (uadd (a % m) (b % m)) m) 0 0 0 = EN ((a + b) % m) := by
  have h1 := F.mod a
  have h2 := F.mod b
  have h3 := F.mod (a + b)
  rw [urem_eq, uadd_eq, Nat.mod_eq_of_lt (a := a % m + b % m) (by omega), ← Nat.add_mod, EN_small (by omega)]
theorem mul_law (F : RS s m) (hm : m < 4294967296) (a b : Nat) : E4 (urem (umul (a % m) (b % m)) m) 0 0 0 = EN ((a * b) % m) := by
  have h1 := F.mod a
  have h2 := F.mod b
  have h3 := F.mod (a * b)
  have h4 : a % m * (b % m) ≤ 4294967295 * 4294967295 := Nat.mul_le_mul (by omega) (by omega)
  rw [urem_eq, umul_eq, Nat.mod_eq_of_lt (a := a % m * (b % m)) (by omega), ← Nat.mul_mod, EN_small (by omega)]
theorem r_Add (F : RS s m) (a b : Nat) (ha : a < W256) (hb : b < W256) : Contract Try.prog 38 [.val (.int .i64 s), .val (EN a), .val (EN b)] [.val (EN ((a + b) % m))] := by
  have h1 := F.mod a
  have h2 := F.mod b
  have h3 := F.half
  have hmn : ¬ m = 0 := by have := F.one; omega
  have e : (a % m + b % m) % W256 = a % m + b % m := Nat.mod_eq_of_lt (by omega)
  rcases F.sorts with ⟨rfl | rfl, hm, hl⟩ | (rfl | rfl)
  ·
    refine contract_of (N := _) (vars := _) (c := bodyOf Try.f38) Try.func38 (body_eq rfl) rfl rfl (by rfl) mixed _ _ trivial 1000 ?_
    simp only [bodyOf, Try.f38, Option.getD_some, argA, argE, List.length_cons, List.length_nil, Nat.reduceAdd, Nat.reduceSub, List.replicate, List.cons_append, List.nil_append]
    simp only [SX, simprocAttr, TYX, cellsE, foldE, foldN, cellsN, b_EN, k32, kA, kB]
    refine DrawVC.intro (by kernel_rfl) ?_
    refine CallVC.intro (F.of a ha) ⟨rfl, rfl, trivial⟩ rfl rfl ?_
    simp only [SX, simprocAttr, TYX, cellsE, foldE, foldN, cellsN, b_EN, k32, kA, kB]
    refine XIx (u64 (L0 (a % m))) (by rfl) (by rfl) (by decide) (by decide) rfl ?_
    simp only [SX, simprocAttr, TYX, cellsE, foldE, foldN, cellsN, b_EN, k32, kA, kB]
    refine CallVC.intro (F.of b hb) ⟨rfl, rfl, trivial⟩ rfl rfl ?_
    simp only [SX, simprocAttr, TYX, cellsE, foldE, foldN, cellsN, b_EN, k32, kA, kB]
    refine XIx (u64 (L0 (b % m))) (by rfl) (by rfl) (by decide) (by decide) rfl ?_
    simp only [SX, simprocAttr, TYX, cellsE, foldE, foldN, cellsN, b_EN, k32, kA, kB]
    refine CallVC.intro hl ⟨rfl, trivial⟩ rfl rfl ?_
    simp only [SX, simprocAttr, TYX, cellsE, foldE, foldN, cellsN, b_EN, k32, kA, kB]
    refine ⟨hmn, ?_⟩
    refine X1 _ (by rfl) ?_
    rw [L0_of F hm, L0_of F hm, add_law F hm]
    simp only [SX, simprocAttr, TYX, cellsE, foldE, foldN, cellsN, b_EN, k32, kA, kB]
  ·
    refine contract_of (N := _) (vars := _) (c := bodyOf Try.f38) Try.func38 (body_eq rfl) rfl rfl (by rfl) mixed _ _ trivial 1000 ?_
    simp only [bodyOf, Try.f38, Option.getD_some, argA, argE, List.length_cons, List.length_nil, Nat.reduceAdd, Nat.reduceSub, List.replicate, List.cons_append, List.nil_append]
    simp only [SX, simprocAttr, TYX, cellsE, foldE, foldN, cellsN, b_EN, k32, kA, kB]
    refine DrawVC.intro (by kernel_rfl) ?_
    refine CallVC.intro (F.of a ha) ⟨rfl, rfl, trivial⟩ rfl rfl ?_
    simp only [SX, simprocAttr, TYX, cellsE, foldE, foldN, cellsN, b_EN, k32, kA, kB]
    refine XIx (u64 (L0 (a % m))) (by rfl) (by rfl) (by decide) (by decide) rfl ?_
    simp only [SX, simprocAttr, TYX, cellsE, foldE, foldN, cellsN, b_EN, k32, kA, kB]
    refine CallVC.intro (F.of b hb) ⟨rfl, rfl, trivial⟩ rfl rfl ?_
    simp only [SX, simprocAttr, TYX, cellsE, foldE, foldN, cellsN, b_EN, k32, kA, kB]
    refine XIx (u64 (L0 (b % m))) (by rfl) (by rfl) (by decide) (by decide) rfl ?_
    simp only [SX, simprocAttr, TYX, cellsE, foldE, foldN, cellsN, b_EN, k32, kA, kB]
    refine CallVC.intro hl ⟨rfl, trivial⟩ rfl rfl ?_
    simp only [SX, simprocAttr, TYX, cellsE, foldE, foldN, cellsN, b_EN, k32, kA, kB]
    refine ⟨hmn, ?_⟩
    refine X1 _ (by rfl) ?_
    rw [L0_of F hm, L0_of F hm, add_law F hm]
    simp only [SX, simprocAttr, TYX, cellsE, foldE, foldN, cellsN, b_EN, k32, kA, kB]
  ·
    refine contract_of (N := _) (vars := _) (c := bodyOf Try.f38) Try.func38 (body_eq rfl) rfl rfl (by rfl) mixed _ _ trivial 1000 ?_
    simp only [bodyOf, Try.f38, Option.getD_some, argA, argE, List.length_cons, List.length_nil, Nat.reduceAdd, Nat.reduceSub, List.replicate, List.cons_append, List.nil_append]
    simp only [SX, simprocAttr, TYX, cellsE, foldE, foldN, cellsN, b_EN, k32, kA, kB]
    refine DrawVC.intro (by kernel_rfl) ?_
    refine CallVC.intro (F.of a ha) ⟨rfl, rfl, trivial⟩ rfl rfl ?_
    simp only [SX, simprocAttr, TYX, cellsE, foldE, foldN, cellsN, b_EN, k32, kA, kB]
    refine CallVC.intro (F.of b hb) ⟨rfl, rfl, trivial⟩ rfl rfl ?_
    simp only [SX, simprocAttr, TYX, cellsE, foldE, foldN, cellsN, b_EN, k32, kA, kB]
    refine CallVC.intro (c_plus _ _ (F.mod2 a) (F.mod2 b)) ⟨rfl, rfl, trivial⟩ rfl rfl ?_
    simp only [SX, simprocAttr, TYX, cellsE, foldE, foldN, cellsN, b_EN, k32, kA, kB, e]
    refine CallVC.intro (F.of (a % m + b % m) (by omega)) ⟨rfl, rfl, trivial⟩ rfl rfl ?_
    simp only [SX, simprocAttr, TYX, cellsE, foldE, foldN, cellsN, b_EN, k32, kA, kB, ← Nat.add_mod]
  ·
    refine contract_of (N := _) (vars := _) (c := bodyOf Try.f38) Try.func38 (body_eq rfl) rfl rfl (by rfl) mixed _ _ trivial 1000 ?_
    simp only [bodyOf, Try.f38, Option.getD_some, argA, argE, List.length_cons, List.length_nil, Nat.reduceAdd, Nat.reduceSub, List.replicate, List.cons_append, List.nil_append]
    simp only [SX, simprocAttr, TYX, cellsE, foldE, foldN, cellsN, b_EN, k32, kA, kB]
    refine DrawVC.intro (by kernel_rfl) ?_
    refine CallVC.intro (F.of a ha) ⟨rfl, rfl, trivial⟩ rfl rfl ?_
    simp only [SX, simprocAttr, TYX, cellsE, foldE, foldN, cellsN, b_EN, k32, kA, kB]
    refine CallVC.intro (F.of b hb) ⟨rfl, rfl, trivial⟩ rfl rfl ?_
    simp only [SX, simprocAttr, TYX, cellsE, foldE, foldN, cellsN, b_EN, k32, kA, kB]
    refine CallVC.intro (c_plus _ _ (F.mod2 a) (F.mod2 b)) ⟨rfl, rfl, trivial⟩ rfl rfl ?_
    simp only [SX, simprocAttr, TYX, cellsE, foldE, foldN, cellsN, b_EN, k32, kA, kB, e]
    refine CallVC.intro (F.of (a % m + b % m) (by omega)) ⟨rfl, rfl, trivial⟩ rfl rfl ?_
    simp only [SX, simprocAttr, TYX, cellsE, foldE, foldN, cellsN, b_EN, k32, kA, kB, ← Nat.add_mod]
theorem rn_Add (F : RN s) (a b : Nat) : Contract Try.prog 38 [.val (.int .i64 s), .val (EN a), .val (EN b)] [.val (EN 0)] := by
  refine contract_of (N := _) (vars := _) (c := bodyOf Try.f38) Try.func38 (body_eq rfl) rfl rfl (by rfl) mixed _ _ trivial 1000 ?_
  simp only [bodyOf, Try.f38, Option.getD_some, argA, argE, List.length_cons, List.length_nil, Nat.reduceAdd, Nat.reduceSub, List.replicate, List.cons_append, List.nil_append]
  simp only [SX, simprocAttr, TYX, cellsE, foldE, foldN, cellsN, b_EN, k32, kA, kB]
  simp only [SX, simprocAttr, TYX, cellsE, foldE, foldN, cellsN, b_EN, k32, kA, kB, F.h0, F.h1]
  refine DrawVC.intro (by kernel_rfl) ?_
  refine CallVC.intro (F.of a) ⟨rfl, rfl, trivial⟩ rfl rfl ?_
  simp only [SX, simprocAttr, TYX, cellsE, foldE, foldN, cellsN, b_EN, k32, kA, kB]
  refine CallVC.intro (F.of b) ⟨rfl, rfl, trivial⟩ rfl rfl ?_
  simp only [SX, simprocAttr, TYX, cellsE, foldE, foldN, cellsN, b_EN, k32, kA, kB]
  refine CallVC.intro (c_plus 0 0 (by decide) (by decide)) ⟨rfl, rfl, trivial⟩ rfl rfl ?_
  simp only [SX, simprocAttr, TYX, cellsE, foldE, foldN, cellsN, b_EN, k32, kA, kB]
  refine CallVC.intro (F.of 0) ⟨rfl, rfl, trivial⟩ rfl rfl ?_
  simp only [SX, simprocAttr, TYX, cellsE, foldE, foldN, cellsN, b_EN, k32, kA, kB]
theorem rn_Mul (F : RN s) (a b : Nat) : Contract Try.prog 39 [.val (.int .i64 s), .val (EN a), .val (EN b)] [.val (EN 0)] := by
  refine contract_of (N := _) (vars := _) (c := bodyOf Try.f39) Try.func39 (body_eq rfl) rfl rfl (by rfl) mixed _ _ trivial 1000 ?_
  simp only [bodyOf, Try.f39, Option.getD_some, argA, argE, List.length_cons, List.length_nil, Nat.reduceAdd, Nat.reduceSub, List.replicate, List.cons_append, List.nil_append]
  simp only [SX, simprocAttr, TYX, cellsE, foldE, foldN, cellsN, b_EN, k32, kA, kB]
  simp only [SX, simprocAttr, TYX, cellsE, foldE, foldN, cellsN, b_EN, k32, kA, kB, F.h0, F.h1]
  refine CallVC.intro F.modulus ⟨rfl, trivial⟩ rfl rfl ?_
  simp only [SX, simprocAttr, TYX, cellsE, foldE, foldN, cellsN, b_EN, k32, kA, kB]
  refine X0 ?_
  simp only [SX, simprocAttr, TYX, cellsE, foldE, foldN, cellsN, b_EN, k32, kA, kB]
end
end Go.Sx
namespace Go.Sx
open Go.Proofs
-- TY: TYX, cellsE, foldE, foldN, cellsN, b_EN, k32, kA, kB, ud3, it63, Int.toNat_natCast
set_option maxRecDepth 100000
set_option linter.unusedSimpArgs false
set_option pp.deepTerms false
set_option pp.deepTerms.threshold 3
/-- A word of a number, its bits. -/
def LX (b j : Nat) : Nat := b / 2 ^ (64 * j) % 18446744073709551616
theorem getLX (b j : Nat) (hj : j < 4) : [u64 (L0 b), u64 (L1 b), u64 (L2 b), u64 (L3 b)].getD j undef = u64 (LX b j) := by
  have h : j = 0 ∨ j = 1 ∨ j = 2 ∨ j = 3 := by omega
  rcases h with rfl | rfl | rfl | rfl
  · simp only [LX, Nat.mul_zero, Nat.pow_zero, Nat.div_one]; rfl
  · rfl
  · rfl
  · rfl
theorem bit_low (x r : Nat) (hr : r < 64) : x % 18446744073709551616 / 2 ^ r % 2 = x / 2 ^ r % 2 := by
  have e : 18446744073709551616 = 2 ^ r * 2 ^ (64 - r) := by rw [← Nat.pow_add, show r + (64 - r) = 64 by omega]
  rw [e, Nat.mod_mul_right_div_self]
  exact Nat.mod_mod_of_dvd _ ⟨2 ^ (63 - r), by rw [← Nat.pow_succ', show (63 - r).succ = 64 - r by omega]⟩
theorem bitLX (b i : Nat) : ushr (LX b (i / 64)) (i % 64) % 2 = b / 2 ^ i % 2 := by
  have hr : i % 64 < 64 := Nat.mod_lt _ (by decide)
  rw [ushr_eq]
  unfold LX sh
  rw [show min (i % 64) 64 = i % 64 by omega, bit_low _ _ hr, Nat.div_div_eq_div_mul, ← Nat.pow_add, show 64 * (i / 64) + i % 64 = i by omega]
/-- What stands of a counter that goes down. -/
structure Down (i : Nat) : Prop where
  lt : i < 256
theorem Down.hz (i : Nat) : ((i + 1 : Nat) : Int) - 1 = (i : Int) := by omega
theorem Down.ge (i : Nat) : decide ((0 : Int) ≤ (i : Int)) = true := by simp
theorem Down.quo {i : Nat} (h : i < 256) : IntKind.i64.wrap ((i : Int).tdiv 64) = ((i / 64 : Nat) : Int) := by
  rw [IntKind.wrap_i64, Int.tdiv_eq_ediv_of_nonneg (by omega)]
  omega
theorem Down.rem (i : Nat) : (i : Int).tmod 64 = ((i % 64 : Nat) : Int) := by
  rw [Int.tmod_eq_emod_of_nonneg (by omega)]
  omega
theorem Down.conv (i : Nat) : (((i % 64 : Nat) : Int) % 18446744073709551616).toNat = i % 64 := by omega
theorem Down.j0 (i : Nat) : (0 ≤ ((i / 64 : Nat) : Int)) = True := eq_true (by omega)
theorem Down.j4 {i : Nat} (h : i < 256) : (((i / 64 : Nat) : Int) < 4) = True := by simp; omega
theorem Down.j {i : Nat} (h : i < 256) : (i / 64 < 4) = True := by simp; omega
theorem Down.next {i : Nat} (h : i < 256) : IntKind.i64.wrap ((i : Int) - 1) = (i : Int) - 1 := by
  rw [IntKind.wrap_i64]
  omega
theorem Down.end0 : ((0 : Nat) : Int) - 1 = -1 := rfl
theorem mul_step {m a b i o : Nat} (ho : o = a * (b / 2 ^ (i + 1)) % m) : ((o + o) % m + (b / 2 ^ i % 2) * a) % m = a * (b / 2 ^ i) % m := by
  have e : b / 2 ^ i = 2 * (b / 2 ^ (i + 1)) + b / 2 ^ i % 2 := by
    rw [Nat.pow_succ, ← Nat.div_div_eq_div_mul]
    omega
  conv => rhs; rw [e]
  generalize b / 2 ^ (i + 1) = q at *
  generalize b / 2 ^ i % 2 = c at *
  rw [ho, Nat.mod_add_mod, Nat.mul_add, ← Nat.add_mod_mod, Nat.add_assoc]
  have h1 : (a * q % m + (a * q % m + c * a % m)) % m = (a * q + (a * q + c * a)) % m := by
    rw [Nat.mod_add_mod, ← Nat.add_assoc, Nat.add_mod_mod, Nat.add_right_comm, Nat.add_mod_mod, Nat.add_right_comm, ← Nat.add_assoc]
  rw [h1]
  refine congrArg (· % m) ?_
  rw [Nat.mul_comm c a, Nat.mul_left_comm a 2 q, Nat.two_mul, Nat.add_assoc]
section
variable {s : Int} {m : Nat}
theorem r_Mul (F : RS s m) (a b : Nat) (ha : a < W256) (hb : b < W256) : Contract Try.prog 39 [.val (.int .i64 s), .val (EN a), .val (EN b)] [.val (EN (a * b % m))] := by
  have hmn : ¬ m = 0 := by have := F.one; omega
  rcases F.sorts with ⟨rfl | rfl, hm, hl⟩ | (rfl | rfl)
  ·
    refine contract_of (N := _) (vars := _) (c := bodyOf Try.f39) Try.func39 (body_eq rfl) rfl rfl (by rfl) mixed _ _ trivial 1000 ?_
    simp only [bodyOf, Try.f39, Option.getD_some, argA, argE, List.length_cons, List.length_nil, Nat.reduceAdd, Nat.reduceSub, List.replicate, List.cons_append, List.nil_append]
    simp only [SX, simprocAttr, TYX, cellsE, foldE, foldN, cellsN, b_EN, k32, kA, kB, ud3, it63, Int.toNat_natCast]
    refine DrawVC.intro (by kernel_rfl) ?_
    refine CallVC.intro (F.of a ha) ⟨rfl, rfl, trivial⟩ rfl rfl ?_
    simp only [SX, simprocAttr, TYX, cellsE, foldE, foldN, cellsN, b_EN, k32, kA, kB, ud3, it63, Int.toNat_natCast]
    refine XIx (u64 (L0 (a % m))) (by rfl) (by rfl) (by decide) (by decide) rfl ?_
    simp only [SX, simprocAttr, TYX, cellsE, foldE, foldN, cellsN, b_EN, k32, kA, kB, ud3, it63, Int.toNat_natCast]
    refine CallVC.intro (F.of b hb) ⟨rfl, rfl, trivial⟩ rfl rfl ?_
    simp only [SX, simprocAttr, TYX, cellsE, foldE, foldN, cellsN, b_EN, k32, kA, kB, ud3, it63, Int.toNat_natCast]
    refine XIx (u64 (L0 (b % m))) (by rfl) (by rfl) (by decide) (by decide) rfl ?_
    simp only [SX, simprocAttr, TYX, cellsE, foldE, foldN, cellsN, b_EN, k32, kA, kB, ud3, it63, Int.toNat_natCast]
    refine CallVC.intro hl ⟨rfl, trivial⟩ rfl rfl ?_
    simp only [SX, simprocAttr, TYX, cellsE, foldE, foldN, cellsN, b_EN, k32, kA, kB, ud3, it63, Int.toNat_natCast]
    refine ⟨hmn, ?_⟩
    refine X1 _ (by rfl) ?_
    rw [L0_of F hm, L0_of F hm, mul_law F hm]
    simp only [SX, simprocAttr, TYX, cellsE, foldE, foldN, cellsN, b_EN, k32, kA, kB, ud3, it63, Int.toNat_natCast]
  ·
    refine contract_of (N := _) (vars := _) (c := bodyOf Try.f39) Try.func39 (body_eq rfl) rfl rfl (by rfl) mixed _ _ trivial 1000 ?_
    simp only [bodyOf, Try.f39, Option.getD_some, argA, argE, List.length_cons, List.length_nil, Nat.reduceAdd, Nat.reduceSub, List.replicate, List.cons_append, List.nil_append]
    simp only [SX, simprocAttr, TYX, cellsE, foldE, foldN, cellsN, b_EN, k32, kA, kB, ud3, it63, Int.toNat_natCast]
    refine DrawVC.intro (by kernel_rfl) ?_
    refine CallVC.intro (F.of a ha) ⟨rfl, rfl, trivial⟩ rfl rfl ?_
    simp only [SX, simprocAttr, TYX, cellsE, foldE, foldN, cellsN, b_EN, k32, kA, kB, ud3, it63, Int.toNat_natCast]
    refine XIx (u64 (L0 (a % m))) (by rfl) (by rfl) (by decide) (by decide) rfl ?_
    simp only [SX, simprocAttr, TYX, cellsE, foldE, foldN, cellsN, b_EN, k32, kA, kB, ud3, it63, Int.toNat_natCast]
    refine CallVC.intro (F.of b hb) ⟨rfl, rfl, trivial⟩ rfl rfl ?_
    simp only [SX, simprocAttr, TYX, cellsE, foldE, foldN, cellsN, b_EN, k32, kA, kB, ud3, it63, Int.toNat_natCast]
    refine XIx (u64 (L0 (b % m))) (by rfl) (by rfl) (by decide) (by decide) rfl ?_
    simp only [SX, simprocAttr, TYX, cellsE, foldE, foldN, cellsN, b_EN, k32, kA, kB, ud3, it63, Int.toNat_natCast]
    refine CallVC.intro hl ⟨rfl, trivial⟩ rfl rfl ?_
    simp only [SX, simprocAttr, TYX, cellsE, foldE, foldN, cellsN, b_EN, k32, kA, kB, ud3, it63, Int.toNat_natCast]
    refine ⟨hmn, ?_⟩
    refine X1 _ (by rfl) ?_
    rw [L0_of F hm, L0_of F hm, mul_law F hm]
    simp only [SX, simprocAttr, TYX, cellsE, foldE, foldN, cellsN, b_EN, k32, kA, kB, ud3, it63, Int.toNat_natCast]
  ·
    refine contract_of (N := _) (vars := _) (c := bodyOf Try.f39) Try.func39 (body_eq rfl) rfl rfl (by rfl) mixed _ _ trivial 1000 ?_
    simp only [bodyOf, Try.f39, Option.getD_some, argA, argE, List.length_cons, List.length_nil, Nat.reduceAdd, Nat.reduceSub, List.replicate, List.cons_append, List.nil_append]
    simp only [SX, simprocAttr, TYX, cellsE, foldE, foldN, cellsN, b_EN, k32, kA, kB, ud3, it63, Int.toNat_natCast]
    refine CallVC.intro F.modulus ⟨rfl, trivial⟩ rfl rfl ?_
    simp only [SX, simprocAttr, TYX, cellsE, foldE, foldN, cellsN, b_EN, k32, kA, kB, ud3, it63, Int.toNat_natCast]
    refine CallVC.intro (F.of a ha) ⟨rfl, rfl, trivial⟩ rfl rfl ?_
    simp only [SX, simprocAttr, TYX, cellsE, foldE, foldN, cellsN, b_EN, k32, kA, kB, ud3, it63, Int.toNat_natCast]
    refine CallVC.intro (F.of b hb) ⟨rfl, rfl, trivial⟩ rfl rfl ?_
    simp only [SX, simprocAttr, TYX, cellsE, foldE, foldN, cellsN, b_EN, k32, kA, kB, ud3, it63, Int.toNat_natCast]
    refine X0 ?_
    simp only [SX, simprocAttr, TYX, cellsE, foldE, foldN, cellsN, b_EN, k32, kA, kB, ud3, it63, Int.toNat_natCast]
    have hbm : b % m < 2 ^ 256 := F.mod2 b
    refine loop_inv mixed (by trivial) (γ := Nat × Nat) (fun g => ⟨[.o (.v (.int .i64 2)), .o .any, .o .any, .o .any, .o (.p 3 0), .o (.p 7 0), .o (.p 11 0), .o (.p 59 0), .o .any, .o (.p 115 0), .o (.v (.int .i64 ((g.1 : Int) - 1))), .o .any, .o .any, .o .any, .o .any, .o .any, .o .any, .o .any, .o .any, .o .any, .o .any, .o .any, .o .any, .o .any, .o .any, .o .any, .o .any, .o .any, .o .any, .o .any, .o .any, .o .any, .o .any, .o .any, .o .any, .o .any, .o .any, .o .any, .o .any, .o .any, .o .any, .o .any, .o .any, .o .any, .o .any, .o .any, .o .any, .o .any, .o .any, .o .any, .o .any, .o .any, .o .any, .o .any, .o .any, .o .any, .o .any, .o .any, .o .any, .o .any, .o .any, .o .any, .o .any, .o .any, .o .any, .o .any, .o .any, .o .any, .o .any, .o .any, .o .any, .o .any, .o .any, .o .any, .o .any, .o .any, .o .any, .o .any, .o .any, .o .any],
        [(115, .box [u64 (L0 g.2), u64 (L1 g.2), u64 (L2 g.2), u64 (L3 g.2)]), (59, .box [u64 (L0 m), u64 (L1 m), u64 (L2 m), u64 (L3 m)]), (11, .box [u64 0, u64 0, u64 0, u64 0]),
          (7, .box [u64 (L0 (b % m)), u64 (L1 (b % m)), u64 (L2 (b % m)), u64 (L3 (b % m))]), (3, .box [u64 (L0 (a % m)), u64 (L1 (a % m)), u64 (L2 (a % m)), u64 (L3 (a % m))])], 1000⟩)
        (fun g => g.1 ≤ 256 ∧ g.2 < m ∧ g.2 = a % m * (b % m / 2 ^ g.1) % m) (fun g => g.1) (256, 0) ⟨Nat.le_refl _, by have := F.one; omega, by rw [Nat.div_eq_of_lt hbm, Nat.mul_zero, Nat.zero_mod]⟩ (St.le_of id (by simp [Tle, AVle, A0le, Mem.get]) (by simp [Mle, Ele, Mem.get]) (by simp) (by simp)) 1000 ?_
    rintro ⟨n, o⟩ ⟨hn, ho, hinv⟩
    simp only at hn ho hinv
    rcases n with _ | i
    · rw [Nat.pow_zero, Nat.div_one, ← Nat.mul_mod] at hinv
      simp only [SX, simprocAttr, TYX, cellsE, foldE, foldN, cellsN, b_EN, k32, kA, kB, ud3, it63, Int.toNat_natCast, Down.end0]
      rw [hinv]
    have hi : i < 256 := by omega
    have hj : i / 64 < 4 := by omega
    have hoW : o < W256 := Nat.lt_trans ho F.lt
    have hhalf := F.half
    have hstep := mul_step hinv
    obtain ⟨d, hd⟩ : ∃ d, (o + o) % m = d := ⟨_, rfl⟩
    have hdm : d < m := by rw [← hd]; exact F.mod _
    have hdW : d < W256 := Nat.lt_trans hdm F.lt
    rw [hd] at hstep
    have e1 : (o + o) % W256 = o + o := Nat.mod_eq_of_lt (by omega)
    have e1W : o + o < W256 := by omega
    have ham := F.mod a
    have e2 : (d + a % m) % W256 = d + a % m := Nat.mod_eq_of_lt (by omega)
    have e2W : d + a % m < W256 := by omega
    simp only [SX, simprocAttr, TYX, cellsE, foldE, foldN, cellsN, b_EN, k32, kA, kB, ud3, it63, Int.toNat_natCast, Down.hz, Down.ge, Down.quo hi, Down.rem, Down.conv, Down.j0, Down.j4 hi, Down.j hi, getLX _ _ hj, bitLX, Down.next hi]
    refine CallVC.intro (c_plus o o hoW hoW) ⟨rfl, rfl, trivial⟩ rfl rfl ?_
    rw [e1]
    simp only [SX, simprocAttr, TYX, cellsE, foldE, foldN, cellsN, b_EN, k32, kA, kB, ud3, it63, Int.toNat_natCast]
    refine CallVC.intro (c_below (o + o) m e1W F.lt) ⟨rfl, rfl, trivial⟩ rfl rfl ?_
    simp only [SX, simprocAttr, TYX, cellsE, foldE, foldN, cellsN, b_EN, k32, kA, kB, ud3, it63, Int.toNat_natCast]
    refine cond_split (fun h0 => ?_) (fun h0 => ?_)
    · have h0 : m ≤ o + o := by simpa using h0
      simp only [SX, simprocAttr, TYX, cellsE, foldE, foldN, cellsN, b_EN, k32, kA, kB, ud3, it63, Int.toNat_natCast]
      refine CallVC.intro (c_minus (o + o) m e1W F.lt) ⟨rfl, rfl, trivial⟩ rfl rfl ?_
      rw [sub_of e1W h0, show o + o - m = d by rw [← hd, Nat.mod_eq_sub_mod h0, Nat.mod_eq_of_lt (by omega)]]
      simp only [SX, simprocAttr, TYX, cellsE, foldE, foldN, cellsN, b_EN, k32, kA, kB, ud3, it63, Int.toNat_natCast, Down.hz, Down.ge, Down.quo hi, Down.rem, Down.conv, Down.j0, Down.j4 hi, Down.j hi, getLX _ _ hj, bitLX, Down.next hi]
      refine cond_split (fun hbt => ?_) (fun hbt => ?_)
      · have hbt : b % m / 2 ^ i % 2 = 1 := by simpa using hbt
        rw [hbt, Nat.one_mul] at hstep
        simp only [SX, simprocAttr, TYX, cellsE, foldE, foldN, cellsN, b_EN, k32, kA, kB, ud3, it63, Int.toNat_natCast]
        refine CallVC.intro (c_plus d (a % m) hdW (F.mod2 a)) ⟨rfl, rfl, trivial⟩ rfl rfl ?_
        rw [e2]
        simp only [SX, simprocAttr, TYX, cellsE, foldE, foldN, cellsN, b_EN, k32, kA, kB, ud3, it63, Int.toNat_natCast]
        refine CallVC.intro (c_below (d + a % m) m e2W F.lt) ⟨rfl, rfl, trivial⟩ rfl rfl ?_
        simp only [SX, simprocAttr, TYX, cellsE, foldE, foldN, cellsN, b_EN, k32, kA, kB, ud3, it63, Int.toNat_natCast]
        refine cond_split (fun h0 => ?_) (fun h0 => ?_)
        · have h0 : m ≤ d + a % m := by simpa using h0
          simp only [SX, simprocAttr, TYX, cellsE, foldE, foldN, cellsN, b_EN, k32, kA, kB, ud3, it63, Int.toNat_natCast]
          refine CallVC.intro (c_minus (d + a % m) m e2W F.lt) ⟨rfl, rfl, trivial⟩ rfl rfl ?_
          rw [sub_of e2W h0, show d + a % m - m = (d + a % m) % m by rw [Nat.mod_eq_sub_mod (a := d + a % m) h0, Nat.mod_eq_of_lt (a := d + a % m - m) (by omega)]]
          simp only [SX, simprocAttr, TYX, cellsE, foldE, foldN, cellsN, b_EN, k32, kA, kB, ud3, it63, Int.toNat_natCast, Down.next hi]
          refine ⟨(i, (d + a % m) % m), ⟨Nat.le_of_lt hi, F.mod _, hstep⟩, (show i < i + 1 by omega), ?_⟩
          refine (St.le_of id (by simp [Tle, AVle, A0le, Mem.get]) (by simp [Mle, Ele, Mem.get]) (by simp) (by simp))
        · have h0 : d + a % m < m := by simpa using h0
          simp only [SX, simprocAttr, TYX, cellsE, foldE, foldN, cellsN, b_EN, k32, kA, kB, ud3, it63, Int.toNat_natCast, Down.next hi]
          refine ⟨(i, d + a % m), ⟨Nat.le_of_lt hi, h0, by rw [Nat.mod_eq_of_lt h0] at hstep; exact hstep⟩, (show i < i + 1 by omega), ?_⟩
          refine (St.le_of id (by simp [Tle, AVle, A0le, Mem.get]) (by simp [Mle, Ele, Mem.get]) (by simp) (by simp))
      · have hbt : b % m / 2 ^ i % 2 = 0 := by
          have : ¬ b % m / 2 ^ i % 2 = 1 := by simpa using hbt
          omega
        rw [hbt, Nat.zero_mul, Nat.add_zero, Nat.mod_eq_of_lt hdm] at hstep
        simp only [SX, simprocAttr, TYX, cellsE, foldE, foldN, cellsN, b_EN, k32, kA, kB, ud3, it63, Int.toNat_natCast, Down.next hi]
        refine ⟨(i, d), ⟨Nat.le_of_lt hi, hdm, hstep⟩, (show i < i + 1 by omega), ?_⟩
        refine (St.le_of id (by simp [Tle, AVle, A0le, Mem.get]) (by simp [Mle, Ele, Mem.get]) (by simp) (by simp))
    · have h0 : o + o < m := by simpa using h0
      rw [show o + o = d by rw [← hd, Nat.mod_eq_of_lt h0]]
      simp only [SX, simprocAttr, TYX, cellsE, foldE, foldN, cellsN, b_EN, k32, kA, kB, ud3, it63, Int.toNat_natCast, Down.hz, Down.ge, Down.quo hi, Down.rem, Down.conv, Down.j0, Down.j4 hi, Down.j hi, getLX _ _ hj, bitLX, Down.next hi]
      refine cond_split (fun hbt => ?_) (fun hbt => ?_)
      · have hbt : b % m / 2 ^ i % 2 = 1 := by simpa using hbt
        rw [hbt, Nat.one_mul] at hstep
        simp only [SX, simprocAttr, TYX, cellsE, foldE, foldN, cellsN, b_EN, k32, kA, kB, ud3, it63, Int.toNat_natCast]
        refine CallVC.intro (c_plus d (a % m) hdW (F.mod2 a)) ⟨rfl, rfl, trivial⟩ rfl rfl ?_
        rw [e2]
        simp only [SX, simprocAttr, TYX, cellsE, foldE, foldN, cellsN, b_EN, k32, kA, kB, ud3, it63, Int.toNat_natCast]
        refine CallVC.intro (c_below (d + a % m) m e2W F.lt) ⟨rfl, rfl, trivial⟩ rfl rfl ?_
        simp only [SX, simprocAttr, TYX, cellsE, foldE, foldN, cellsN, b_EN, k32, kA, kB, ud3, it63, Int.toNat_natCast]
        refine cond_split (fun h0 => ?_) (fun h0 => ?_)
        · have h0 : m ≤ d + a % m := by simpa using h0
          simp only [SX, simprocAttr, TYX, cellsE, foldE, foldN, cellsN, b_EN, k32, kA, kB, ud3, it63, Int.toNat_natCast]
          refine CallVC.intro (c_minus (d + a % m) m e2W F.lt) ⟨rfl, rfl, trivial⟩ rfl rfl ?_
          rw [sub_of e2W h0, show d + a % m - m = (d + a % m) % m by rw [Nat.mod_eq_sub_mod (a := d + a % m) h0, Nat.mod_eq_of_lt (a := d + a % m - m) (by omega)]]
          simp only [SX, simprocAttr, TYX, cellsE, foldE, foldN, cellsN, b_EN, k32, kA, kB, ud3, it63, Int.toNat_natCast, Down.next hi]
          refine ⟨(i, (d + a % m) % m), ⟨Nat.le_of_lt hi, F.mod _, hstep⟩, (show i < i + 1 by omega), ?_⟩
          refine (St.le_of id (by simp [Tle, AVle, A0le, Mem.get]) (by simp [Mle, Ele, Mem.get]) (by simp) (by simp))
        · have h0 : d + a % m < m := by simpa using h0
          simp only [SX, simprocAttr, TYX, cellsE, foldE, foldN, cellsN, b_EN, k32, kA, kB, ud3, it63, Int.toNat_natCast, Down.next hi]
          refine ⟨(i, d + a % m), ⟨Nat.le_of_lt hi, h0, by rw [Nat.mod_eq_of_lt h0] at hstep; exact hstep⟩, (show i < i + 1 by omega), ?_⟩
          refine (St.le_of id (by simp [Tle, AVle, A0le, Mem.get]) (by simp [Mle, Ele, Mem.get]) (by simp) (by simp))
      · have hbt : b % m / 2 ^ i % 2 = 0 := by
          have : ¬ b % m / 2 ^ i % 2 = 1 := by simpa using hbt
          omega
        rw [hbt, Nat.zero_mul, Nat.add_zero, Nat.mod_eq_of_lt hdm] at hstep
        simp only [SX, simprocAttr, TYX, cellsE, foldE, foldN, cellsN, b_EN, k32, kA, kB, ud3, it63, Int.toNat_natCast, Down.next hi]
        refine ⟨(i, d), ⟨Nat.le_of_lt hi, hdm, hstep⟩, (show i < i + 1 by omega), ?_⟩
        refine (St.le_of id (by simp [Tle, AVle, A0le, Mem.get]) (by simp [Mle, Ele, Mem.get]) (by simp) (by simp))
  ·
    refine contract_of (N := _) (vars := _) (c := bodyOf Try.f39) Try.func39 (body_eq rfl) rfl rfl (by rfl) mixed _ _ trivial 1000 ?_
    simp only [bodyOf, Try.f39, Option.getD_some, argA, argE, List.length_cons, List.length_nil, Nat.reduceAdd, Nat.reduceSub, List.replicate, List.cons_append, List.nil_append]
    simp only [SX, simprocAttr, TYX, cellsE, foldE, foldN, cellsN, b_EN, k32, kA, kB, ud3, it63, Int.toNat_natCast]
    refine CallVC.intro F.modulus ⟨rfl, trivial⟩ rfl rfl ?_
    simp only [SX, simprocAttr, TYX, cellsE, foldE, foldN, cellsN, b_EN, k32, kA, kB, ud3, it63, Int.toNat_natCast]
    refine CallVC.intro (F.of a ha) ⟨rfl, rfl, trivial⟩ rfl rfl ?_
    simp only [SX, simprocAttr, TYX, cellsE, foldE, foldN, cellsN, b_EN, k32, kA, kB, ud3, it63, Int.toNat_natCast]
    refine CallVC.intro (F.of b hb) ⟨rfl, rfl, trivial⟩ rfl rfl ?_
    simp only [SX, simprocAttr, TYX, cellsE, foldE, foldN, cellsN, b_EN, k32, kA, kB, ud3, it63, Int.toNat_natCast]
    refine X0 ?_
    simp only [SX, simprocAttr, TYX, cellsE, foldE, foldN, cellsN, b_EN, k32, kA, kB, ud3, it63, Int.toNat_natCast]
    have hbm : b % m < 2 ^ 256 := F.mod2 b
    refine loop_inv mixed (by trivial) (γ := Nat × Nat) (fun g => ⟨[.o (.v (.int .i64 3)), .o .any, .o .any, .o .any, .o (.p 3 0), .o (.p 7 0), .o (.p 11 0), .o (.p 59 0), .o .any, .o (.p 115 0), .o (.v (.int .i64 ((g.1 : Int) - 1))), .o .any, .o .any, .o .any, .o .any, .o .any, .o .any, .o .any, .o .any, .o .any, .o .any, .o .any, .o .any, .o .any, .o .any, .o .any, .o .any, .o .any, .o .any, .o .any, .o .any, .o .any, .o .any, .o .any, .o .any, .o .any, .o .any, .o .any, .o .any, .o .any, .o .any, .o .any, .o .any, .o .any, .o .any, .o .any, .o .any, .o .any, .o .any, .o .any, .o .any, .o .any, .o .any, .o .any, .o .any, .o .any, .o .any, .o .any, .o .any, .o .any, .o .any, .o .any, .o .any, .o .any, .o .any, .o .any, .o .any, .o .any, .o .any, .o .any, .o .any, .o .any, .o .any, .o .any, .o .any, .o .any, .o .any, .o .any, .o .any, .o .any],
        [(115, .box [u64 (L0 g.2), u64 (L1 g.2), u64 (L2 g.2), u64 (L3 g.2)]), (59, .box [u64 (L0 m), u64 (L1 m), u64 (L2 m), u64 (L3 m)]), (11, .box [u64 0, u64 0, u64 0, u64 0]),
          (7, .box [u64 (L0 (b % m)), u64 (L1 (b % m)), u64 (L2 (b % m)), u64 (L3 (b % m))]), (3, .box [u64 (L0 (a % m)), u64 (L1 (a % m)), u64 (L2 (a % m)), u64 (L3 (a % m))])], 1000⟩)
        (fun g => g.1 ≤ 256 ∧ g.2 < m ∧ g.2 = a % m * (b % m / 2 ^ g.1) % m) (fun g => g.1) (256, 0) ⟨Nat.le_refl _, by have := F.one; omega, by rw [Nat.div_eq_of_lt hbm, Nat.mul_zero, Nat.zero_mod]⟩ (St.le_of id (by simp [Tle, AVle, A0le, Mem.get]) (by simp [Mle, Ele, Mem.get]) (by simp) (by simp)) 1000 ?_
    rintro ⟨n, o⟩ ⟨hn, ho, hinv⟩
    simp only at hn ho hinv
    rcases n with _ | i
    · rw [Nat.pow_zero, Nat.div_one, ← Nat.mul_mod] at hinv
      simp only [SX, simprocAttr, TYX, cellsE, foldE, foldN, cellsN, b_EN, k32, kA, kB, ud3, it63, Int.toNat_natCast, Down.end0]
      rw [hinv]
    have hi : i < 256 := by omega
    have hj : i / 64 < 4 := by omega
    have hoW : o < W256 := Nat.lt_trans ho F.lt
    have hhalf := F.half
    have hstep := mul_step hinv
    obtain ⟨d, hd⟩ : ∃ d, (o + o) % m = d := ⟨_, rfl⟩
    have hdm : d < m := by rw [← hd]; exact F.mod _
    have hdW : d < W256 := Nat.lt_trans hdm F.lt
    rw [hd] at hstep
    have e1 : (o + o) % W256 = o + o := Nat.mod_eq_of_lt (by omega)
    have e1W : o + o < W256 := by omega
    have ham := F.mod a
    have e2 : (d + a % m) % W256 = d + a % m := Nat.mod_eq_of_lt (by omega)
    have e2W : d + a % m < W256 := by omega
    simp only [SX, simprocAttr, TYX, cellsE, foldE, foldN, cellsN, b_EN, k32, kA, kB, ud3, it63, Int.toNat_natCast, Down.hz, Down.ge, Down.quo hi, Down.rem, Down.conv, Down.j0, Down.j4 hi, Down.j hi, getLX _ _ hj, bitLX, Down.next hi]
    refine CallVC.intro (c_plus o o hoW hoW) ⟨rfl, rfl, trivial⟩ rfl rfl ?_
    rw [e1]
    simp only [SX, simprocAttr, TYX, cellsE, foldE, foldN, cellsN, b_EN, k32, kA, kB, ud3, it63, Int.toNat_natCast]
    refine CallVC.intro (c_below (o + o) m e1W F.lt) ⟨rfl, rfl, trivial⟩ rfl rfl ?_
    simp only [SX, simprocAttr, TYX, cellsE, foldE, foldN, cellsN, b_EN, k32, kA, kB, ud3, it63, Int.toNat_natCast]
    refine cond_split (fun h0 => ?_) (fun h0 => ?_)
    · have h0 : m ≤ o + o := by simpa using h0
      simp only [SX, simprocAttr, TYX, cellsE, foldE, foldN, cellsN, b_EN, k32, kA, kB, ud3, it63, Int.toNat_natCast]
      refine CallVC.intro (c_minus (o + o) m e1W F.lt) ⟨rfl, rfl, trivial⟩ rfl rfl ?_
      rw [sub_of e1W h0, show o + o - m = d by rw [← hd, Nat.mod_eq_sub_mod h0, Nat.mod_eq_of_lt (by omega)]]
      simp only [SX, simprocAttr, TYX, cellsE, foldE, foldN, cellsN, b_EN, k32, kA, kB, ud3, it63, Int.toNat_natCast, Down.hz, Down.ge, Down.quo hi, Down.rem, Down.conv, Down.j0, Down.j4 hi, Down.j hi, getLX _ _ hj, bitLX, Down.next hi]
      refine cond_split (fun hbt => ?_) (fun hbt => ?_)
      · have hbt : b % m / 2 ^ i % 2 = 1 := by simpa using hbt
        rw [hbt, Nat.one_mul] at hstep
        simp only [SX, simprocAttr, TYX, cellsE, foldE, foldN, cellsN, b_EN, k32, kA, kB, ud3, it63, Int.toNat_natCast]
        refine CallVC.intro (c_plus d (a % m) hdW (F.mod2 a)) ⟨rfl, rfl, trivial⟩ rfl rfl ?_
        rw [e2]
        simp only [SX, simprocAttr, TYX, cellsE, foldE, foldN, cellsN, b_EN, k32, kA, kB, ud3, it63, Int.toNat_natCast]
        refine CallVC.intro (c_below (d + a % m) m e2W F.lt) ⟨rfl, rfl, trivial⟩ rfl rfl ?_
        simp only [SX, simprocAttr, TYX, cellsE, foldE, foldN, cellsN, b_EN, k32, kA, kB, ud3, it63, Int.toNat_natCast]
        refine cond_split (fun h0 => ?_) (fun h0 => ?_)
        · have h0 : m ≤ d + a % m := by simpa using h0
          simp only [SX, simprocAttr, TYX, cellsE, foldE, foldN, cellsN, b_EN, k32, kA, kB, ud3, it63, Int.toNat_natCast]
          refine CallVC.intro (c_minus (d + a % m) m e2W F.lt) ⟨rfl, rfl, trivial⟩ rfl rfl ?_
          rw [sub_of e2W h0, show d + a % m - m = (d + a % m) % m by rw [Nat.mod_eq_sub_mod (a := d + a % m) h0, Nat.mod_eq_of_lt (a := d + a % m - m) (by omega)]]
          simp only [SX, simprocAttr, TYX, cellsE, foldE, foldN, cellsN, b_EN, k32, kA, kB, ud3, it63, Int.toNat_natCast, Down.next hi]
          refine ⟨(i, (d + a % m) % m), ⟨Nat.le_of_lt hi, F.mod _, hstep⟩, (show i < i + 1 by omega), ?_⟩
          refine (St.le_of id (by simp [Tle, AVle, A0le, Mem.get]) (by simp [Mle, Ele, Mem.get]) (by simp) (by simp))
        · have h0 : d + a % m < m := by simpa using h0
          simp only [SX, simprocAttr, TYX, cellsE, foldE, foldN, cellsN, b_EN, k32, kA, kB, ud3, it63, Int.toNat_natCast, Down.next hi]
          refine ⟨(i, d + a % m), ⟨Nat.le_of_lt hi, h0, by rw [Nat.mod_eq_of_lt h0] at hstep; exact hstep⟩, (show i < i + 1 by omega), ?_⟩
          refine (St.le_of id (by simp [Tle, AVle, A0le, Mem.get]) (by simp [Mle, Ele, Mem.get]) (by simp) (by simp))
      · have hbt : b % m / 2 ^ i % 2 = 0 := by
          have : ¬ b % m / 2 ^ i % 2 = 1 := by simpa using hbt
          omega
        rw [hbt, Nat.zero_mul, Nat.add_zero, Nat.mod_eq_of_lt hdm] at hstep
        simp only [SX, simprocAttr, TYX, cellsE, foldE, foldN, cellsN, b_EN, k32, kA, kB, ud3, it63, Int.toNat_natCast, Down.next hi]
        refine ⟨(i, d), ⟨Nat.le_of_lt hi, hdm, hstep⟩, (show i < i + 1 by omega), ?_⟩
        refine (St.le_of id (by simp [Tle, AVle, A0le, Mem.get]) (by simp [Mle, Ele, Mem.get]) (by simp) (by simp))
    · have h0 : o + o < m := by simpa using h0
      rw [show o + o = d by rw [← hd, Nat.mod_eq_of_lt h0]]
      simp only [SX, simprocAttr, TYX, cellsE, foldE, foldN, cellsN, b_EN, k32, kA, kB, ud3, it63, Int.toNat_natCast, Down.hz, Down.ge, Down.quo hi, Down.rem, Down.conv, Down.j0, Down.j4 hi, Down.j hi, getLX _ _ hj, bitLX, Down.next hi]
      refine cond_split (fun hbt => ?_) (fun hbt => ?_)
      · have hbt : b % m / 2 ^ i % 2 = 1 := by simpa using hbt
        rw [hbt, Nat.one_mul] at hstep
        simp only [SX, simprocAttr, TYX, cellsE, foldE, foldN, cellsN, b_EN, k32, kA, kB, ud3, it63, Int.toNat_natCast]
        refine CallVC.intro (c_plus d (a % m) hdW (F.mod2 a)) ⟨rfl, rfl, trivial⟩ rfl rfl ?_
        rw [e2]
        simp only [SX, simprocAttr, TYX, cellsE, foldE, foldN, cellsN, b_EN, k32, kA, kB, ud3, it63, Int.toNat_natCast]
        refine CallVC.intro (c_below (d + a % m) m e2W F.lt) ⟨rfl, rfl, trivial⟩ rfl rfl ?_
        simp only [SX, simprocAttr, TYX, cellsE, foldE, foldN, cellsN, b_EN, k32, kA, kB, ud3, it63, Int.toNat_natCast]
        refine cond_split (fun h0 => ?_) (fun h0 => ?_)
        · have h0 : m ≤ d + a % m := by simpa using h0
          simp only [SX, simprocAttr, TYX, cellsE, foldE, foldN, cellsN, b_EN, k32, kA, kB, ud3, it63, Int.toNat_natCast]
          refine CallVC.intro (c_minus (d + a % m) m e2W F.lt) ⟨rfl, rfl, trivial⟩ rfl rfl ?_
          rw [sub_of e2W h0, show d + a % m - m = (d + a % m) % m by rw [Nat.mod_eq_sub_mod (a := d + a % m) h0, Nat.mod_eq_of_lt (a := d + a % m - m) (by omega)]]
          simp only [SX, simprocAttr, TYX, cellsE, foldE, foldN, cellsN, b_EN, k32, kA, kB, ud3, it63, Int.toNat_natCast, Down.next hi]
          refine ⟨(i, (d + a % m) % m), ⟨Nat.le_of_lt hi, F.mod _, hstep⟩, (show i < i + 1 by omega), ?_⟩
          refine (St.le_of id (by simp [Tle, AVle, A0le, Mem.get]) (by simp [Mle, Ele, Mem.get]) (by simp) (by simp))
        · have h0 : d + a % m < m := by simpa using h0
          simp only [SX, simprocAttr, TYX, cellsE, foldE, foldN, cellsN, b_EN, k32, kA, kB, ud3, it63, Int.toNat_natCast, Down.next hi]
          refine ⟨(i, d + a % m), ⟨Nat.le_of_lt hi, h0, by rw [Nat.mod_eq_of_lt h0] at hstep; exact hstep⟩, (show i < i + 1 by omega), ?_⟩
          refine (St.le_of id (by simp [Tle, AVle, A0le, Mem.get]) (by simp [Mle, Ele, Mem.get]) (by simp) (by simp))
      · have hbt : b % m / 2 ^ i % 2 = 0 := by
          have : ¬ b % m / 2 ^ i % 2 = 1 := by simpa using hbt
          omega
        rw [hbt, Nat.zero_mul, Nat.add_zero, Nat.mod_eq_of_lt hdm] at hstep
        simp only [SX, simprocAttr, TYX, cellsE, foldE, foldN, cellsN, b_EN, k32, kA, kB, ud3, it63, Int.toNat_natCast, Down.next hi]
        refine ⟨(i, d), ⟨Nat.le_of_lt hi, hdm, hstep⟩, (show i < i + 1 by omega), ?_⟩
        refine (St.le_of id (by simp [Tle, AVle, A0le, Mem.get]) (by simp [Mle, Ele, Mem.get]) (by simp) (by simp))
end
end Go.Sx
namespace Go.Sx
open Go.Proofs
-- TY: TYX, cellsE, foldE, foldN, cellsN, b_EN, k32, kA, kB, ud3, it63, Int.toNat_natCast
set_option maxRecDepth 100000
set_option linter.unusedSimpArgs false
set_option pp.deepTerms false
set_option pp.deepTerms.threshold 3
theorem top_step {e i : Nat} (h : e / 2 ^ (i + 1) = 0) (hb : e / 2 ^ i % 2 = 0) : e / 2 ^ i = 0 := by
  rw [Nat.pow_succ, ← Nat.div_div_eq_div_mul] at h
  omega
theorem sq_step0 {m a e i o : Nat} (ho : o = a ^ (e / 2 ^ (i + 1)) % m) (hb : e / 2 ^ i % 2 = 0) : o * o % m = a ^ (e / 2 ^ i) % m := by
  have h : e / 2 ^ i = 2 * (e / 2 ^ (i + 1)) := by
    rw [Nat.pow_succ, ← Nat.div_div_eq_div_mul]
    omega
  rw [h, ho, ← Nat.mul_mod, ← Nat.pow_add, Nat.two_mul]
theorem sq_step1 {m a e i o : Nat} (ho : o = a ^ (e / 2 ^ (i + 1)) % m) (hb : e / 2 ^ i % 2 = 1) : o * o % m * a % m = a ^ (e / 2 ^ i) % m := by
  have h : e / 2 ^ i = 2 * (e / 2 ^ (i + 1)) + 1 := by
    rw [Nat.pow_succ, ← Nat.div_div_eq_div_mul]
    omega
  have e1 : ∀ x y : Nat, (x % m * y) % m = (x * y) % m := fun x y => by rw [Nat.mul_mod, Nat.mod_mod, ← Nat.mul_mod]
  have e2 : o * o % m * a % m = (o * o * a) % m := e1 (o * o) a
  rw [e2, h, Nat.pow_succ, Nat.two_mul, Nat.pow_add, ho]
  generalize a ^ (e / 2 ^ (i + 1)) = x
  rw [Nat.mul_assoc, e1, Nat.mul_left_comm, e1, ← Nat.mul_assoc]
section
variable {s : Int} {m : Nat}
theorem r_Exp (F : RS s m) (a e : Nat) (ha : a < W256) (he : e < W256) : Contract Try.prog 82 [.val (.int .i64 s), .val (EN a), .val (EN e)] [.val (EN (a ^ e % m))] := by
  have he' : e < 2 ^ 256 := he
  have h1m : 1 % m = 1 := Nat.mod_eq_of_lt F.one
  refine contract_of (N := _) (vars := _) (c := bodyOf Try.f82) Try.func82 (body_eq rfl) rfl rfl (by rfl) mixed _ _ trivial 1000 ?_
  simp only [bodyOf, Try.f82, Option.getD_some, argA, argE, List.length_cons, List.length_nil, Nat.reduceAdd, Nat.reduceSub, List.replicate, List.cons_append, List.nil_append]
  simp only [SX, simprocAttr, TYX, cellsE, foldE, foldN, cellsN, b_EN, k32, kA, kB, ud3, it63, Int.toNat_natCast]
  refine X1 1 (by rfl) ?_
  rw [EN_small (by decide)]
  simp only [SX, simprocAttr, TYX, cellsE, foldE, foldN, cellsN, b_EN, k32, kA, kB, ud3, it63, Int.toNat_natCast]
  refine CallVC.intro (F.of 1 (by decide)) ⟨rfl, rfl, trivial⟩ rfl rfl ?_
  rw [h1m]
  simp only [SX, simprocAttr, TYX, cellsE, foldE, foldN, cellsN, b_EN, k32, kA, kB, ud3, it63, Int.toNat_natCast]
  refine loop_inv mixed (by trivial) (γ := Nat) (fun n => ⟨[.o (.v (.int .i64 s)), .o .any, .o .any, .o .any, .o (.p 3 0), .o (.p 7 0), .o (.p 11 0), .o (.p 27 0), .o (.v (.int .i64 ((n : Int) - 1))), .o .any, .o .any, .o .any, .o .any, .o .any, .o .any, .o .any, .o .any, .o .any, .o .any, .o .any, .o .any, .o .any, .o .any, .o .any, .o .any, .o .any, .o .any, .o .any, .o .any, .o .any, .o .any, .o .any, .o .any, .o .any, .o .any, .o .any, .o .any, .o .any, .o .any, .o .any, .o .any, .o .any, .o .any, .o .any, .o .any, .o .any, .o .any, .o .any, .o .any, .o .any, .o .any, .o .any, .o .any], [(27, .box [u64 (L0 1), u64 (L1 1), u64 (L2 1), u64 (L3 1)]), (11, .box [u64 0, u64 0, u64 0, u64 0]), (7, .box [u64 (L0 e), u64 (L1 e), u64 (L2 e), u64 (L3 e)]), (3, .box [u64 (L0 a), u64 (L1 a), u64 (L2 a), u64 (L3 a)])], 1000⟩)
    (fun n => n ≤ 256 ∧ e / 2 ^ n = 0) (fun n => n) 256 ⟨Nat.le_refl _, Nat.div_eq_of_lt he'⟩ (St.le_of id (by simp [Tle, AVle, A0le, Mem.get]) (by simp [Mle, Ele, Mem.get]) (by simp) (by simp)) 1000 ?_
  rintro n ⟨hn, hz⟩
  rcases n with _ | i
  · simp only [SX, simprocAttr, TYX, cellsE, foldE, foldN, cellsN, b_EN, k32, kA, kB, ud3, it63, Int.toNat_natCast, Down.end0]
    refine loop_inv mixed (by trivial) (γ := Nat × Nat) (fun g => ⟨[.o (.v (.int .i64 s)), .o .any, .o .any, .o .any, .o (.p 3 0), .o (.p 7 0), .o (.p 11 0), .o (.p 27 0), .o .any, .o (.v (.int .i64 ((g.1 : Int) - 1))), .o .any, .o .any, .o .any, .o .any, .o .any, .o .any, .o .any, .o .any, .o .any, .o .any, .o .any, .o .any, .o .any, .o .any, .o .any, .o .any, .o .any, .o .any, .o .any, .o .any, .o .any, .o .any, .o .any, .o .any, .o .any, .o .any, .o .any, .o .any, .o .any, .o .any, .o .any, .o .any, .o .any, .o .any, .o .any, .o .any, .o .any, .o .any, .o .any, .o .any, .o .any, .o .any, .o .any], [(27, .box [u64 (L0 g.2), u64 (L1 g.2), u64 (L2 g.2), u64 (L3 g.2)]), (11, .box [u64 0, u64 0, u64 0, u64 0]), (7, .box [u64 (L0 e), u64 (L1 e), u64 (L2 e), u64 (L3 e)]), (3, .box [u64 (L0 a), u64 (L1 a), u64 (L2 a), u64 (L3 a)])], 1000⟩)
      (fun g => g.1 ≤ 256 ∧ g.2 < m ∧ g.2 = a ^ (e / 2 ^ g.1) % m) (fun g => g.1) (0, 1) ⟨by omega, F.one, by simp only; rw [hz, Nat.pow_zero, h1m]⟩ (St.le_of id (by simp [Tle, AVle, A0le, Mem.get]) (by simp [Mle, Ele, Mem.get]) (by simp) (by simp)) 1000 ?_
    rintro ⟨n, o⟩ ⟨hn, ho, hinv⟩
    simp only at hn ho hinv
    rcases n with _ | i
    · rw [Nat.pow_zero, Nat.div_one] at hinv
      simp only [SX, simprocAttr, TYX, cellsE, foldE, foldN, cellsN, b_EN, k32, kA, kB, ud3, it63, Int.toNat_natCast, Down.end0]
      rw [hinv]
    have hi : i < 256 := by omega
    have hj : i / 64 < 4 := by omega
    have hoW : o < W256 := Nat.lt_trans ho F.lt
    simp only [SX, simprocAttr, TYX, cellsE, foldE, foldN, cellsN, b_EN, k32, kA, kB, ud3, it63, Int.toNat_natCast, Down.hz, Down.ge, Down.quo hi, Down.rem, Down.conv, Down.j0, Down.j4 hi, Down.j hi, getLX _ _ hj, bitLX, Down.next hi]
    refine CallVC.intro (r_Mul F o o hoW hoW) ⟨rfl, rfl, rfl, trivial⟩ rfl rfl ?_
    simp only [SX, simprocAttr, TYX, cellsE, foldE, foldN, cellsN, b_EN, k32, kA, kB, ud3, it63, Int.toNat_natCast, Down.hz, Down.ge, Down.quo hi, Down.rem, Down.conv, Down.j0, Down.j4 hi, Down.j hi, getLX _ _ hj, bitLX, Down.next hi]
    refine cond_split (fun hbt => ?_) (fun hbt => ?_)
    · have hbt : e / 2 ^ i % 2 = 1 := by simpa using hbt
      simp only [SX, simprocAttr, TYX, cellsE, foldE, foldN, cellsN, b_EN, k32, kA, kB, ud3, it63, Int.toNat_natCast]
      refine CallVC.intro (r_Mul F (o * o % m) a (F.mod2 _) ha) ⟨rfl, rfl, rfl, trivial⟩ rfl rfl ?_
      simp only [SX, simprocAttr, TYX, cellsE, foldE, foldN, cellsN, b_EN, k32, kA, kB, ud3, it63, Int.toNat_natCast, Down.next hi]
      refine ⟨(i, o * o % m * a % m), ⟨Nat.le_of_lt hi, F.mod _, sq_step1 hinv hbt⟩, (show i < i + 1 by omega), ?_⟩
      refine (St.le_of id (by simp [Tle, AVle, A0le, Mem.get]) (by simp [Mle, Ele, Mem.get]) (by simp) (by simp))
    · have hbt : e / 2 ^ i % 2 = 0 := by
        have : ¬ e / 2 ^ i % 2 = 1 := by simpa using hbt
        omega
      simp only [SX, simprocAttr, TYX, cellsE, foldE, foldN, cellsN, b_EN, k32, kA, kB, ud3, it63, Int.toNat_natCast, Down.next hi]
      refine ⟨(i, o * o % m), ⟨Nat.le_of_lt hi, F.mod _, sq_step0 hinv hbt⟩, (show i < i + 1 by omega), ?_⟩
      refine (St.le_of id (by simp [Tle, AVle, A0le, Mem.get]) (by simp [Mle, Ele, Mem.get]) (by simp) (by simp))
  have hi : i < 256 := by omega
  have hj : i / 64 < 4 := by omega
  simp only [SX, simprocAttr, TYX, cellsE, foldE, foldN, cellsN, b_EN, k32, kA, kB, ud3, it63, Int.toNat_natCast, Down.hz, Down.ge, Down.quo hi, Down.rem, Down.conv, Down.j0, Down.j4 hi, Down.j hi, getLX _ _ hj, bitLX, Down.next hi]
  refine cond_split (fun hbt => ?_) (fun hbt => ?_)
  · have hbt : e / 2 ^ i % 2 = 0 := by simpa using hbt
    simp only [SX, simprocAttr, TYX, cellsE, foldE, foldN, cellsN, b_EN, k32, kA, kB, ud3, it63, Int.toNat_natCast, Down.next hi]
    refine ⟨i, ⟨Nat.le_of_lt hi, top_step hz hbt⟩, (show i < i + 1 by omega), ?_⟩
    refine (St.le_of id (by simp [Tle, AVle, A0le, Mem.get]) (by simp [Mle, Ele, Mem.get]) (by simp) (by simp))
  · clear hi hj
    simp only [SX, simprocAttr, TYX, cellsE, foldE, foldN, cellsN, b_EN, k32, kA, kB, ud3, it63, Int.toNat_natCast]
    refine loop_inv mixed (by trivial) (γ := Nat × Nat) (fun g => ⟨[.o (.v (.int .i64 s)), .o .any, .o .any, .o .any, .o (.p 3 0), .o (.p 7 0), .o (.p 11 0), .o (.p 27 0), .o .any, .o (.v (.int .i64 ((g.1 : Int) - 1))), .o .any, .o .any, .o .any, .o .any, .o .any, .o .any, .o .any, .o .any, .o .any, .o .any, .o .any, .o .any, .o .any, .o .any, .o .any, .o .any, .o .any, .o .any, .o .any, .o .any, .o .any, .o .any, .o .any, .o .any, .o .any, .o .any, .o .any, .o .any, .o .any, .o .any, .o .any, .o .any, .o .any, .o .any, .o .any, .o .any, .o .any, .o .any, .o .any, .o .any, .o .any, .o .any, .o .any], [(27, .box [u64 (L0 g.2), u64 (L1 g.2), u64 (L2 g.2), u64 (L3 g.2)]), (11, .box [u64 0, u64 0, u64 0, u64 0]), (7, .box [u64 (L0 e), u64 (L1 e), u64 (L2 e), u64 (L3 e)]), (3, .box [u64 (L0 a), u64 (L1 a), u64 (L2 a), u64 (L3 a)])], 1000⟩)
      (fun g => g.1 ≤ 256 ∧ g.2 < m ∧ g.2 = a ^ (e / 2 ^ g.1) % m) (fun g => g.1) (i + 1, 1) ⟨by omega, F.one, by simp only; rw [hz, Nat.pow_zero, h1m]⟩ (St.le_of id (by simp [Tle, AVle, A0le, Mem.get]) (by simp [Mle, Ele, Mem.get]) (by simp) (by simp)) 1000 ?_
    rintro ⟨n, o⟩ ⟨hn, ho, hinv⟩
    simp only at hn ho hinv
    rcases n with _ | i
    · rw [Nat.pow_zero, Nat.div_one] at hinv
      simp only [SX, simprocAttr, TYX, cellsE, foldE, foldN, cellsN, b_EN, k32, kA, kB, ud3, it63, Int.toNat_natCast, Down.end0]
      rw [hinv]
    have hi : i < 256 := by omega
    have hj : i / 64 < 4 := by omega
    have hoW : o < W256 := Nat.lt_trans ho F.lt
    simp only [SX, simprocAttr, TYX, cellsE, foldE, foldN, cellsN, b_EN, k32, kA, kB, ud3, it63, Int.toNat_natCast, Down.hz, Down.ge, Down.quo hi, Down.rem, Down.conv, Down.j0, Down.j4 hi, Down.j hi, getLX _ _ hj, bitLX, Down.next hi]
    refine CallVC.intro (r_Mul F o o hoW hoW) ⟨rfl, rfl, rfl, trivial⟩ rfl rfl ?_
    simp only [SX, simprocAttr, TYX, cellsE, foldE, foldN, cellsN, b_EN, k32, kA, kB, ud3, it63, Int.toNat_natCast, Down.hz, Down.ge, Down.quo hi, Down.rem, Down.conv, Down.j0, Down.j4 hi, Down.j hi, getLX _ _ hj, bitLX, Down.next hi]
    refine cond_split (fun hbt => ?_) (fun hbt => ?_)
    · have hbt : e / 2 ^ i % 2 = 1 := by simpa using hbt
      simp only [SX, simprocAttr, TYX, cellsE, foldE, foldN, cellsN, b_EN, k32, kA, kB, ud3, it63, Int.toNat_natCast]
      refine CallVC.intro (r_Mul F (o * o % m) a (F.mod2 _) ha) ⟨rfl, rfl, rfl, trivial⟩ rfl rfl ?_
      simp only [SX, simprocAttr, TYX, cellsE, foldE, foldN, cellsN, b_EN, k32, kA, kB, ud3, it63, Int.toNat_natCast, Down.next hi]
      refine ⟨(i, o * o % m * a % m), ⟨Nat.le_of_lt hi, F.mod _, sq_step1 hinv hbt⟩, (show i < i + 1 by omega), ?_⟩
      refine (St.le_of id (by simp [Tle, AVle, A0le, Mem.get]) (by simp [Mle, Ele, Mem.get]) (by simp) (by simp))
    · have hbt : e / 2 ^ i % 2 = 0 := by
        have : ¬ e / 2 ^ i % 2 = 1 := by simpa using hbt
        omega
      simp only [SX, simprocAttr, TYX, cellsE, foldE, foldN, cellsN, b_EN, k32, kA, kB, ud3, it63, Int.toNat_natCast, Down.next hi]
      refine ⟨(i, o * o % m), ⟨Nat.le_of_lt hi, F.mod _, sq_step0 hinv hbt⟩, (show i < i + 1 by omega), ?_⟩
      refine (St.le_of id (by simp [Tle, AVle, A0le, Mem.get]) (by simp [Mle, Ele, Mem.get]) (by simp) (by simp))
theorem rn_Exp (F : RN s) (a e : Nat) (ha : a < W256) (he : e < W256) : Contract Try.prog 82 [.val (.int .i64 s), .val (EN a), .val (EN e)] [.val (EN 0)] := by
  have he' : e < 2 ^ 256 := he
  refine contract_of (N := _) (vars := _) (c := bodyOf Try.f82) Try.func82 (body_eq rfl) rfl rfl (by rfl) mixed _ _ trivial 1000 ?_
  simp only [bodyOf, Try.f82, Option.getD_some, argA, argE, List.length_cons, List.length_nil, Nat.reduceAdd, Nat.reduceSub, List.replicate, List.cons_append, List.nil_append]
  simp only [SX, simprocAttr, TYX, cellsE, foldE, foldN, cellsN, b_EN, k32, kA, kB, ud3, it63, Int.toNat_natCast]
  refine X1 1 (by rfl) ?_
  rw [EN_small (by decide)]
  simp only [SX, simprocAttr, TYX, cellsE, foldE, foldN, cellsN, b_EN, k32, kA, kB, ud3, it63, Int.toNat_natCast]
  refine CallVC.intro (F.of 1) ⟨rfl, rfl, trivial⟩ rfl rfl ?_
  simp only [SX, simprocAttr, TYX, cellsE, foldE, foldN, cellsN, b_EN, k32, kA, kB, ud3, it63, Int.toNat_natCast]
  refine loop_inv mixed (by trivial) (γ := Nat) (fun n => ⟨[.o (.v (.int .i64 s)), .o .any, .o .any, .o .any, .o (.p 3 0), .o (.p 7 0), .o (.p 11 0), .o (.p 27 0), .o (.v (.int .i64 ((n : Int) - 1))), .o .any, .o .any, .o .any, .o .any, .o .any, .o .any, .o .any, .o .any, .o .any, .o .any, .o .any, .o .any, .o .any, .o .any, .o .any, .o .any, .o .any, .o .any, .o .any, .o .any, .o .any, .o .any, .o .any, .o .any, .o .any, .o .any, .o .any, .o .any, .o .any, .o .any, .o .any, .o .any, .o .any, .o .any, .o .any, .o .any, .o .any, .o .any, .o .any, .o .any, .o .any, .o .any, .o .any, .o .any], [(27, .box [u64 (L0 0), u64 (L1 0), u64 (L2 0), u64 (L3 0)]), (11, .box [u64 0, u64 0, u64 0, u64 0]), (7, .box [u64 (L0 e), u64 (L1 e), u64 (L2 e), u64 (L3 e)]), (3, .box [u64 (L0 a), u64 (L1 a), u64 (L2 a), u64 (L3 a)])], 1000⟩)
    (fun n => n ≤ 256 ∧ e / 2 ^ n = 0) (fun n => n) 256 ⟨Nat.le_refl _, Nat.div_eq_of_lt he'⟩ (St.le_of id (by simp [Tle, AVle, A0le, Mem.get]) (by simp [Mle, Ele, Mem.get]) (by simp) (by simp)) 1000 ?_
  rintro n ⟨hn, hz⟩
  rcases n with _ | i
  · simp only [SX, simprocAttr, TYX, cellsE, foldE, foldN, cellsN, b_EN, k32, kA, kB, ud3, it63, Int.toNat_natCast, Down.end0]
    refine loop_inv mixed (by trivial) (γ := Nat × Nat) (fun g => ⟨[.o (.v (.int .i64 s)), .o .any, .o .any, .o .any, .o (.p 3 0), .o (.p 7 0), .o (.p 11 0), .o (.p 27 0), .o .any, .o (.v (.int .i64 ((g.1 : Int) - 1))), .o .any, .o .any, .o .any, .o .any, .o .any, .o .any, .o .any, .o .any, .o .any, .o .any, .o .any, .o .any, .o .any, .o .any, .o .any, .o .any, .o .any, .o .any, .o .any, .o .any, .o .any, .o .any, .o .any, .o .any, .o .any, .o .any, .o .any, .o .any, .o .any, .o .any, .o .any, .o .any, .o .any, .o .any, .o .any, .o .any, .o .any, .o .any, .o .any, .o .any, .o .any, .o .any, .o .any], [(27, .box [u64 (L0 g.2), u64 (L1 g.2), u64 (L2 g.2), u64 (L3 g.2)]), (11, .box [u64 0, u64 0, u64 0, u64 0]), (7, .box [u64 (L0 e), u64 (L1 e), u64 (L2 e), u64 (L3 e)]), (3, .box [u64 (L0 a), u64 (L1 a), u64 (L2 a), u64 (L3 a)])], 1000⟩)
      (fun g => g.1 ≤ 256 ∧ g.2 < 1 ∧ g.2 = 0) (fun g => g.1) (0, 0) ⟨by omega, Nat.zero_lt_one, rfl⟩ (St.le_of id (by simp [Tle, AVle, A0le, Mem.get]) (by simp [Mle, Ele, Mem.get]) (by simp) (by simp)) 1000 ?_
    rintro ⟨n, o⟩ ⟨hn, ho, hinv⟩
    simp only at hn ho hinv
    rcases n with _ | i
    · subst hinv
      simp only [SX, simprocAttr, TYX, cellsE, foldE, foldN, cellsN, b_EN, k32, kA, kB, ud3, it63, Int.toNat_natCast, Down.end0]
    have hi : i < 256 := by omega
    have hj : i / 64 < 4 := by omega
    have hoW : o < W256 := Nat.lt_trans ho (by decide : 1 < W256)
    simp only [SX, simprocAttr, TYX, cellsE, foldE, foldN, cellsN, b_EN, k32, kA, kB, ud3, it63, Int.toNat_natCast, Down.hz, Down.ge, Down.quo hi, Down.rem, Down.conv, Down.j0, Down.j4 hi, Down.j hi, getLX _ _ hj, bitLX, Down.next hi]
    refine CallVC.intro ((fun x y (_ : x < W256) (_ : y < W256) => rn_Mul F x y) o o hoW hoW) ⟨rfl, rfl, rfl, trivial⟩ rfl rfl ?_
    simp only [SX, simprocAttr, TYX, cellsE, foldE, foldN, cellsN, b_EN, k32, kA, kB, ud3, it63, Int.toNat_natCast, Down.hz, Down.ge, Down.quo hi, Down.rem, Down.conv, Down.j0, Down.j4 hi, Down.j hi, getLX _ _ hj, bitLX, Down.next hi]
    refine cond_split (fun hbt => ?_) (fun hbt => ?_)
    · have hbt : e / 2 ^ i % 2 = 1 := by simpa using hbt
      simp only [SX, simprocAttr, TYX, cellsE, foldE, foldN, cellsN, b_EN, k32, kA, kB, ud3, it63, Int.toNat_natCast]
      refine CallVC.intro ((fun x y (_ : x < W256) (_ : y < W256) => rn_Mul F x y) (0) a (by decide) ha) ⟨rfl, rfl, rfl, trivial⟩ rfl rfl ?_
      simp only [SX, simprocAttr, TYX, cellsE, foldE, foldN, cellsN, b_EN, k32, kA, kB, ud3, it63, Int.toNat_natCast, Down.next hi]
      refine ⟨(i, 0), ⟨Nat.le_of_lt hi, Nat.zero_lt_one, rfl⟩, (show i < i + 1 by omega), ?_⟩
      refine (St.le_of id (by simp [Tle, AVle, A0le, Mem.get]) (by simp [Mle, Ele, Mem.get]) (by simp) (by simp))
    · have hbt : e / 2 ^ i % 2 = 0 := by
        have : ¬ e / 2 ^ i % 2 = 1 := by simpa using hbt
        omega
      simp only [SX, simprocAttr, TYX, cellsE, foldE, foldN, cellsN, b_EN, k32, kA, kB, ud3, it63, Int.toNat_natCast, Down.next hi]
      refine ⟨(i, 0), ⟨Nat.le_of_lt hi, Nat.zero_lt_one, rfl⟩, (show i < i + 1 by omega), ?_⟩
      refine (St.le_of id (by simp [Tle, AVle, A0le, Mem.get]) (by simp [Mle, Ele, Mem.get]) (by simp) (by simp))
  have hi : i < 256 := by omega
  have hj : i / 64 < 4 := by omega
  simp only [SX, simprocAttr, TYX, cellsE, foldE, foldN, cellsN, b_EN, k32, kA, kB, ud3, it63, Int.toNat_natCast, Down.hz, Down.ge, Down.quo hi, Down.rem, Down.conv, Down.j0, Down.j4 hi, Down.j hi, getLX _ _ hj, bitLX, Down.next hi]
  refine cond_split (fun hbt => ?_) (fun hbt => ?_)
  · have hbt : e / 2 ^ i % 2 = 0 := by simpa using hbt
    simp only [SX, simprocAttr, TYX, cellsE, foldE, foldN, cellsN, b_EN, k32, kA, kB, ud3, it63, Int.toNat_natCast, Down.next hi]
    refine ⟨i, ⟨Nat.le_of_lt hi, top_step hz hbt⟩, (show i < i + 1 by omega), ?_⟩
    refine (St.le_of id (by simp [Tle, AVle, A0le, Mem.get]) (by simp [Mle, Ele, Mem.get]) (by simp) (by simp))
  · clear hi hj
    simp only [SX, simprocAttr, TYX, cellsE, foldE, foldN, cellsN, b_EN, k32, kA, kB, ud3, it63, Int.toNat_natCast]
    refine loop_inv mixed (by trivial) (γ := Nat × Nat) (fun g => ⟨[.o (.v (.int .i64 s)), .o .any, .o .any, .o .any, .o (.p 3 0), .o (.p 7 0), .o (.p 11 0), .o (.p 27 0), .o .any, .o (.v (.int .i64 ((g.1 : Int) - 1))), .o .any, .o .any, .o .any, .o .any, .o .any, .o .any, .o .any, .o .any, .o .any, .o .any, .o .any, .o .any, .o .any, .o .any, .o .any, .o .any, .o .any, .o .any, .o .any, .o .any, .o .any, .o .any, .o .any, .o .any, .o .any, .o .any, .o .any, .o .any, .o .any, .o .any, .o .any, .o .any, .o .any, .o .any, .o .any, .o .any, .o .any, .o .any, .o .any, .o .any, .o .any, .o .any, .o .any], [(27, .box [u64 (L0 g.2), u64 (L1 g.2), u64 (L2 g.2), u64 (L3 g.2)]), (11, .box [u64 0, u64 0, u64 0, u64 0]), (7, .box [u64 (L0 e), u64 (L1 e), u64 (L2 e), u64 (L3 e)]), (3, .box [u64 (L0 a), u64 (L1 a), u64 (L2 a), u64 (L3 a)])], 1000⟩)
      (fun g => g.1 ≤ 256 ∧ g.2 < 1 ∧ g.2 = 0) (fun g => g.1) (i + 1, 0) ⟨by omega, Nat.zero_lt_one, rfl⟩ (St.le_of id (by simp [Tle, AVle, A0le, Mem.get]) (by simp [Mle, Ele, Mem.get]) (by simp) (by simp)) 1000 ?_
    rintro ⟨n, o⟩ ⟨hn, ho, hinv⟩
    simp only at hn ho hinv
    rcases n with _ | i
    · subst hinv
      simp only [SX, simprocAttr, TYX, cellsE, foldE, foldN, cellsN, b_EN, k32, kA, kB, ud3, it63, Int.toNat_natCast, Down.end0]
    have hi : i < 256 := by omega
    have hj : i / 64 < 4 := by omega
    have hoW : o < W256 := Nat.lt_trans ho (by decide : 1 < W256)
    simp only [SX, simprocAttr, TYX, cellsE, foldE, foldN, cellsN, b_EN, k32, kA, kB, ud3, it63, Int.toNat_natCast, Down.hz, Down.ge, Down.quo hi, Down.rem, Down.conv, Down.j0, Down.j4 hi, Down.j hi, getLX _ _ hj, bitLX, Down.next hi]
    refine CallVC.intro ((fun x y (_ : x < W256) (_ : y < W256) => rn_Mul F x y) o o hoW hoW) ⟨rfl, rfl, rfl, trivial⟩ rfl rfl ?_
    simp only [SX, simprocAttr, TYX, cellsE, foldE, foldN, cellsN, b_EN, k32, kA, kB, ud3, it63, Int.toNat_natCast, Down.hz, Down.ge, Down.quo hi, Down.rem, Down.conv, Down.j0, Down.j4 hi, Down.j hi, getLX _ _ hj, bitLX, Down.next hi]
    refine cond_split (fun hbt => ?_) (fun hbt => ?_)
    · have hbt : e / 2 ^ i % 2 = 1 := by simpa using hbt
      simp only [SX, simprocAttr, TYX, cellsE, foldE, foldN, cellsN, b_EN, k32, kA, kB, ud3, it63, Int.toNat_natCast]
      refine CallVC.intro ((fun x y (_ : x < W256) (_ : y < W256) => rn_Mul F x y) (0) a (by decide) ha) ⟨rfl, rfl, rfl, trivial⟩ rfl rfl ?_
      simp only [SX, simprocAttr, TYX, cellsE, foldE, foldN, cellsN, b_EN, k32, kA, kB, ud3, it63, Int.toNat_natCast, Down.next hi]
      refine ⟨(i, 0), ⟨Nat.le_of_lt hi, Nat.zero_lt_one, rfl⟩, (show i < i + 1 by omega), ?_⟩
      refine (St.le_of id (by simp [Tle, AVle, A0le, Mem.get]) (by simp [Mle, Ele, Mem.get]) (by simp) (by simp))
    · have hbt : e / 2 ^ i % 2 = 0 := by
        have : ¬ e / 2 ^ i % 2 = 1 := by simpa using hbt
        omega
      simp only [SX, simprocAttr, TYX, cellsE, foldE, foldN, cellsN, b_EN, k32, kA, kB, ud3, it63, Int.toNat_natCast, Down.next hi]
      refine ⟨(i, 0), ⟨Nat.le_of_lt hi, Nat.zero_lt_one, rfl⟩, (show i < i + 1 by omega), ?_⟩
      refine (St.le_of id (by simp [Tle, AVle, A0le, Mem.get]) (by simp [Mle, Ele, Mem.get]) (by simp) (by simp))
end
end Go.Sx
