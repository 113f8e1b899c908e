/-
  Walks of the references: Of, Add, Neg, Sub, Mul, Exp. No conditions.
-/
import Derived.Test.YtmgheellmllfpaaFldL
namespace Go.Sx
open Go.Proofs
-- TY: TYX, cellsE, foldE, foldN, cellsN, b_EN, k32, kA, kB
set_option maxRecDepth 100000
set_option linter.unusedSimpArgs false
set_option pp.deepTerms false
set_option pp.deepTerms.threshold 3
theorem c_OfG (s : Int) (m : Nat) (hm1 : m < W256) (hm4 : W256 ≤ m * 4) (hm : 0 < m) (hs : s = 2 ∨ s = 3) (hl : Contract Try.prog 27 [.val (.int .i64 s)] [.val (EN m), .val (.int .i64 0)]) (a : Nat) (ha : a < W256) :
    Contract Try.prog 52 [.val (.int .i64 s), .val (EN a)] [.val (EN (a % m))] := by
  rcases hs with rfl | rfl
  ·
    refine contract_of (N := _) (vars := _) (c := bodyOf Try.f52) Try.func52 (body_eq rfl) rfl rfl (by rfl) mixed _ _ trivial 1000 ?_
    simp only [bodyOf, Try.f52, Option.getD_some, argA, argE, List.length_cons, List.length_nil, Nat.reduceAdd, Nat.reduceSub, List.replicate, List.cons_append, List.nil_append]
    simp only [SX, simprocAttr, TYX, cellsE, foldE, foldN, cellsN, b_EN, k32, kA, kB]
    refine CallVC.intro hl ⟨rfl, trivial⟩ rfl rfl ?_
    simp only [SX, simprocAttr, TYX, cellsE, foldE, foldN, cellsN, b_EN, k32, kA, kB]
    refine loop_rounds 4 ?_
    refine RoundsVC.step mixed trivial 1000 ?_
    simp only [SX, simprocAttr, TYX, cellsE, foldE, foldN, cellsN, b_EN, k32, kA, kB]
    refine CallVC.intro (c_below (a) m ha hm1) ⟨rfl, rfl, trivial⟩ rfl rfl ?_
    simp only [SX, simprocAttr, TYX, cellsE, foldE, foldN, cellsN, b_EN, k32, kA, kB]
    refine cond_split (fun h0 => ?_) (fun h0 => ?_)
    rotate_left
    · have h0 : a < m := by simpa using h0
      simp only [SX, simprocAttr, TYX, cellsE, foldE, foldN, cellsN, b_EN, k32, kA, kB]
      rw [Nat.mod_eq_of_lt h0]
    have h1 : m ≤ a := by simpa using h0
    simp only [SX, simprocAttr, TYX, cellsE, foldE, foldN, cellsN, b_EN, k32, kA, kB]
    refine CallVC.intro (c_minus (a) m ha hm1) ⟨rfl, rfl, trivial⟩ rfl rfl ?_
    rw [sub_of ha h1, Nat.mod_eq_sub_mod h1]
    simp only [SX, simprocAttr, TYX, cellsE, foldE, foldN, cellsN, b_EN, k32, kA, kB]
    have ha1 : a - m < W256 := by omega
    refine RoundsVC.step mixed trivial 1000 ?_
    simp only [SX, simprocAttr, TYX, cellsE, foldE, foldN, cellsN, b_EN, k32, kA, kB]
    refine CallVC.intro (c_below (a - m) m ha1 hm1) ⟨rfl, rfl, trivial⟩ rfl rfl ?_
    simp only [SX, simprocAttr, TYX, cellsE, foldE, foldN, cellsN, b_EN, k32, kA, kB]
    refine cond_split (fun h0 => ?_) (fun h0 => ?_)
    rotate_left
    · have h0 : a - m < m := by simpa using h0
      simp only [SX, simprocAttr, TYX, cellsE, foldE, foldN, cellsN, b_EN, k32, kA, kB]
      rw [Nat.mod_eq_of_lt h0]
    have h2 : m ≤ a - m := by simpa using h0
    simp only [SX, simprocAttr, TYX, cellsE, foldE, foldN, cellsN, b_EN, k32, kA, kB]
    refine CallVC.intro (c_minus (a - m) m ha1 hm1) ⟨rfl, rfl, trivial⟩ rfl rfl ?_
    rw [sub_of ha1 h2, Nat.mod_eq_sub_mod h2]
    simp only [SX, simprocAttr, TYX, cellsE, foldE, foldN, cellsN, b_EN, k32, kA, kB]
    have ha2 : a - m - m < W256 := by omega
    refine RoundsVC.step mixed trivial 1000 ?_
    simp only [SX, simprocAttr, TYX, cellsE, foldE, foldN, cellsN, b_EN, k32, kA, kB]
    refine CallVC.intro (c_below (a - m - m) m ha2 hm1) ⟨rfl, rfl, trivial⟩ rfl rfl ?_
    simp only [SX, simprocAttr, TYX, cellsE, foldE, foldN, cellsN, b_EN, k32, kA, kB]
    refine cond_split (fun h0 => ?_) (fun h0 => ?_)
    rotate_left
    · have h0 : a - m - m < m := by simpa using h0
      simp only [SX, simprocAttr, TYX, cellsE, foldE, foldN, cellsN, b_EN, k32, kA, kB]
      rw [Nat.mod_eq_of_lt h0]
    have h3 : m ≤ a - m - m := by simpa using h0
    simp only [SX, simprocAttr, TYX, cellsE, foldE, foldN, cellsN, b_EN, k32, kA, kB]
    refine CallVC.intro (c_minus (a - m - m) m ha2 hm1) ⟨rfl, rfl, trivial⟩ rfl rfl ?_
    rw [sub_of ha2 h3, Nat.mod_eq_sub_mod h3]
    simp only [SX, simprocAttr, TYX, cellsE, foldE, foldN, cellsN, b_EN, k32, kA, kB]
    have ha3 : a - m - m - m < W256 := by omega
    refine RoundsVC.step mixed trivial 1000 ?_
    simp only [SX, simprocAttr, TYX, cellsE, foldE, foldN, cellsN, b_EN, k32, kA, kB]
    refine CallVC.intro (c_below (a - m - m - m) m ha3 hm1) ⟨rfl, rfl, trivial⟩ rfl rfl ?_
    simp only [SX, simprocAttr, TYX, cellsE, foldE, foldN, cellsN, b_EN, k32, kA, kB]
    refine cond_split (fun h0 => ?_) (fun h0 => ?_)
    rotate_left
    · have h0 : a - m - m - m < m := by simpa using h0
      simp only [SX, simprocAttr, TYX, cellsE, foldE, foldN, cellsN, b_EN, k32, kA, kB]
      rw [Nat.mod_eq_of_lt h0]
    have h4 : m ≤ a - m - m - m := by simpa using h0
    omega
  ·
    refine contract_of (N := _) (vars := _) (c := bodyOf Try.f52) Try.func52 (body_eq rfl) rfl rfl (by rfl) mixed _ _ trivial 1000 ?_
    simp only [bodyOf, Try.f52, Option.getD_some, argA, argE, List.length_cons, List.length_nil, Nat.reduceAdd, Nat.reduceSub, List.replicate, List.cons_append, List.nil_append]
    simp only [SX, simprocAttr, TYX, cellsE, foldE, foldN, cellsN, b_EN, k32, kA, kB]
    refine CallVC.intro hl ⟨rfl, trivial⟩ rfl rfl ?_
    simp only [SX, simprocAttr, TYX, cellsE, foldE, foldN, cellsN, b_EN, k32, kA, kB]
    refine loop_rounds 4 ?_
    refine RoundsVC.step mixed trivial 1000 ?_
    simp only [SX, simprocAttr, TYX, cellsE, foldE, foldN, cellsN, b_EN, k32, kA, kB]
    refine CallVC.intro (c_below (a) m ha hm1) ⟨rfl, rfl, trivial⟩ rfl rfl ?_
    simp only [SX, simprocAttr, TYX, cellsE, foldE, foldN, cellsN, b_EN, k32, kA, kB]
    refine cond_split (fun h0 => ?_) (fun h0 => ?_)
    rotate_left
    · have h0 : a < m := by simpa using h0
      simp only [SX, simprocAttr, TYX, cellsE, foldE, foldN, cellsN, b_EN, k32, kA, kB]
      rw [Nat.mod_eq_of_lt h0]
    have h1 : m ≤ a := by simpa using h0
    simp only [SX, simprocAttr, TYX, cellsE, foldE, foldN, cellsN, b_EN, k32, kA, kB]
    refine CallVC.intro (c_minus (a) m ha hm1) ⟨rfl, rfl, trivial⟩ rfl rfl ?_
    rw [sub_of ha h1, Nat.mod_eq_sub_mod h1]
    simp only [SX, simprocAttr, TYX, cellsE, foldE, foldN, cellsN, b_EN, k32, kA, kB]
    have ha1 : a - m < W256 := by omega
    refine RoundsVC.step mixed trivial 1000 ?_
    simp only [SX, simprocAttr, TYX, cellsE, foldE, foldN, cellsN, b_EN, k32, kA, kB]
    refine CallVC.intro (c_below (a - m) m ha1 hm1) ⟨rfl, rfl, trivial⟩ rfl rfl ?_
    simp only [SX, simprocAttr, TYX, cellsE, foldE, foldN, cellsN, b_EN, k32, kA, kB]
    refine cond_split (fun h0 => ?_) (fun h0 => ?_)
    rotate_left
    · have h0 : a - m < m := by simpa using h0
      simp only [SX, simprocAttr, TYX, cellsE, foldE, foldN, cellsN, b_EN, k32, kA, kB]
      rw [Nat.mod_eq_of_lt h0]
    have h2 : m ≤ a - m := by simpa using h0
    simp only [SX, simprocAttr, TYX, cellsE, foldE, foldN, cellsN, b_EN, k32, kA, kB]
    refine CallVC.intro (c_minus (a - m) m ha1 hm1) ⟨rfl, rfl, trivial⟩ rfl rfl ?_
    rw [sub_of ha1 h2, Nat.mod_eq_sub_mod h2]
    simp only [SX, simprocAttr, TYX, cellsE, foldE, foldN, cellsN, b_EN, k32, kA, kB]
    have ha2 : a - m - m < W256 := by omega
    refine RoundsVC.step mixed trivial 1000 ?_
    simp only [SX, simprocAttr, TYX, cellsE, foldE, foldN, cellsN, b_EN, k32, kA, kB]
    refine CallVC.intro (c_below (a - m - m) m ha2 hm1) ⟨rfl, rfl, trivial⟩ rfl rfl ?_
    simp only [SX, simprocAttr, TYX, cellsE, foldE, foldN, cellsN, b_EN, k32, kA, kB]
    refine cond_split (fun h0 => ?_) (fun h0 => ?_)
    rotate_left
    · have h0 : a - m - m < m := by simpa using h0
      simp only [SX, simprocAttr, TYX, cellsE, foldE, foldN, cellsN, b_EN, k32, kA, kB]
      rw [Nat.mod_eq_of_lt h0]
    have h3 : m ≤ a - m - m := by simpa using h0
    simp only [SX, simprocAttr, TYX, cellsE, foldE, foldN, cellsN, b_EN, k32, kA, kB]
    refine CallVC.intro (c_minus (a - m - m) m ha2 hm1) ⟨rfl, rfl, trivial⟩ rfl rfl ?_
    rw [sub_of ha2 h3, Nat.mod_eq_sub_mod h3]
    simp only [SX, simprocAttr, TYX, cellsE, foldE, foldN, cellsN, b_EN, k32, kA, kB]
    have ha3 : a - m - m - m < W256 := by omega
    refine RoundsVC.step mixed trivial 1000 ?_
    simp only [SX, simprocAttr, TYX, cellsE, foldE, foldN, cellsN, b_EN, k32, kA, kB]
    refine CallVC.intro (c_below (a - m - m - m) m ha3 hm1) ⟨rfl, rfl, trivial⟩ rfl rfl ?_
    simp only [SX, simprocAttr, TYX, cellsE, foldE, foldN, cellsN, b_EN, k32, kA, kB]
    refine cond_split (fun h0 => ?_) (fun h0 => ?_)
    rotate_left
    · have h0 : a - m - m - m < m := by simpa using h0
      simp only [SX, simprocAttr, TYX, cellsE, foldE, foldN, cellsN, b_EN, k32, kA, kB]
      rw [Nat.mod_eq_of_lt h0]
    have h4 : m ≤ a - m - m - m := by simpa using h0
    omega
theorem c_Of9 (s : Int) (h0 : (s == 0) = false) (h1 : (s == 1) = false) (hl : Contract Try.prog 27 [.val (.int .i64 s)] [.val (EN 0), .val (.int .i64 20)]) (a : Nat) :
    Contract Try.prog 52 [.val (.int .i64 s), .val (EN a)] [.val (EN 0)] := by
  refine contract_of (N := _) (vars := _) (c := bodyOf Try.f52) Try.func52 (body_eq rfl) rfl rfl (by rfl) mixed _ _ trivial 1000 ?_
  simp only [bodyOf, Try.f52, Option.getD_some, argA, argE, List.length_cons, List.length_nil, Nat.reduceAdd, Nat.reduceSub, List.replicate, List.cons_append, List.nil_append]
  simp only [SX, simprocAttr, TYX, cellsE, foldE, foldN, cellsN, b_EN, k32, kA, kB]
  simp only [SX, simprocAttr, TYX, cellsE, foldE, foldN, cellsN, b_EN, k32, kA, kB, h0, h1]
  refine CallVC.intro hl ⟨rfl, trivial⟩ rfl rfl ?_
  simp only [SX, simprocAttr, TYX, cellsE, foldE, foldN, cellsN, b_EN, k32, kA, kB]
  refine X0 ?_
  simp only [SX, simprocAttr, TYX, cellsE, foldE, foldN, cellsN, b_EN, k32, kA, kB]
/-- The reference of a field. -/
structure RS (s : Int) (m : Nat) : Prop where
  one : 1 < m
  half : m * 2 ≤ W256
  sorts : ((s = 0 ∨ s = 1) ∧ m < 4294967296 ∧ Contract Try.prog 53 [.val (.int .i64 s)] [.val (u64 m)]) ∨ (s = 2 ∨ s = 3)
  modulus : Contract Try.prog 27 [.val (.int .i64 s)] [.val (EN m), .val (.int .i64 0)]
  of : ∀ a, a < W256 → Contract Try.prog 52 [.val (.int .i64 s), .val (EN a)] [.val (EN (a % m))]
theorem RA : RS 0 PA := ⟨by decide, by decide, .inl ⟨.inl rfl, by decide, r_lit0⟩, r_mod0, c_OfL 0 PA (by decide) (by decide) (.inl rfl) r_lit0⟩
theorem RB : RS 1 PB := ⟨by decide, by decide, .inl ⟨.inr rfl, by decide, r_lit1⟩, r_mod1, c_OfL 1 PB (by decide) (by decide) (.inr rfl) r_lit1⟩
theorem RC : RS 2 PC := ⟨by decide, by decide, .inr (.inl rfl), r_mod2, c_OfG 2 PC (by decide) (by decide) (by decide) (.inl rfl) r_mod2⟩
theorem RD : RS 3 PD := ⟨by decide, by decide, .inr (.inr rfl), r_mod3, c_OfG 3 PD (by decide) (by decide) (by decide) (.inr rfl) r_mod3⟩
structure RN (s : Int) : Prop where
  h0 : (s == 0) = false
  h1 : (s == 1) = false
  modulus : Contract Try.prog 27 [.val (.int .i64 s)] [.val (EN 0), .val (.int .i64 20)]
  of : ∀ a, Contract Try.prog 52 [.val (.int .i64 s), .val (EN a)] [.val (EN 0)]
theorem RN.mk' (s : Int) (h0 : (s == 0) = false) (h1 : (s == 1) = false) (h2 : (s == 2) = false) (h3 : (s == 3) = false) : RN s :=
  ⟨h0, h1, r_mod9 s h0 h1 h2 h3, c_Of9 s h0 h1 (r_mod9 s h0 h1 h2 h3)⟩
theorem NS.mk' (s : Int) (h0 : (s == 0) = false) (h1 : (s == 1) = false) (h2 : (s == 2) = false) (h3 : (s == 3) = false) : NS s := ⟨c_of9 s h0 h1 h2 h3⟩
section
variable {s : Int} {m : Nat}
theorem RS.lt (F : RS s m) : m < W256 := by have := F.half; have := F.one; omega
theorem RS.mod (F : RS s m) (x : Nat) : x % m < m := Nat.mod_lt _ (by have := F.one; omega)
theorem RS.mod2 (F : RS s m) (x : Nat) : x % m < W256 := Nat.lt_trans (F.mod x) F.lt
theorem r_Neg (F : RS s m) (a : Nat) (ha : a < W256) : Contract Try.prog 32 [.val (.int .i64 s), .val (EN a)] [.val (EN ((m - a % m) % m))] := by
  have h1 := F.mod a
  have h3 := F.lt
  have e : (m + W256 - a % m) % W256 = m - a % m := by unfold W256 at *; omega
  refine contract_of (N := _) (vars := _) (c := bodyOf Try.f32) Try.func32 (body_eq rfl) rfl rfl (by rfl) mixed _ _ trivial 1000 ?_
  simp only [bodyOf, Try.f32, Option.getD_some, argA, argE, List.length_cons, List.length_nil, Nat.reduceAdd, Nat.reduceSub, List.replicate, List.cons_append, List.nil_append]
  simp only [SX, simprocAttr, TYX, cellsE, foldE, foldN, cellsN, b_EN, k32, kA, kB]
  refine CallVC.intro F.modulus ⟨rfl, trivial⟩ rfl rfl ?_
  simp only [SX, simprocAttr, TYX, cellsE, foldE, foldN, cellsN, b_EN, k32, kA, kB]
  refine ⟨by kernel_rfl, ?_⟩
  refine CallVC.intro (F.of a ha) ⟨rfl, rfl, trivial⟩ rfl rfl ?_
  simp only [SX, simprocAttr, TYX, cellsE, foldE, foldN, cellsN, b_EN, k32, kA, kB]
  refine CallVC.intro (c_minus m _ F.lt (F.mod2 a)) ⟨rfl, rfl, trivial⟩ rfl rfl ?_
  simp only [SX, simprocAttr, TYX, cellsE, foldE, foldN, cellsN, b_EN, k32, kA, kB, e]
  refine CallVC.intro (F.of (m - a % m) (by omega)) ⟨rfl, rfl, trivial⟩ rfl rfl ?_
  simp only [SX, simprocAttr, TYX, cellsE, foldE, foldN, cellsN, b_EN, k32, kA, kB]
theorem rn_Neg (F : RN s) (a : Nat) : Contract Try.prog 32 [.val (.int .i64 s), .val (EN a)] [.val (EN 0)] := by
  refine contract_of (N := _) (vars := _) (c := bodyOf Try.f32) Try.func32 (body_eq rfl) rfl rfl (by rfl) mixed _ _ trivial 1000 ?_
  simp only [bodyOf, Try.f32, Option.getD_some, argA, argE, List.length_cons, List.length_nil, Nat.reduceAdd, Nat.reduceSub, List.replicate, List.cons_append, List.nil_append]
  simp only [SX, simprocAttr, TYX, cellsE, foldE, foldN, cellsN, b_EN, k32, kA, kB]
  refine CallVC.intro F.modulus ⟨rfl, trivial⟩ rfl rfl ?_
  simp only [SX, simprocAttr, TYX, cellsE, foldE, foldN, cellsN, b_EN, k32, kA, kB]
  refine X0 ?_
  simp only [SX, simprocAttr, TYX, cellsE, foldE, foldN, cellsN, b_EN, k32, kA, kB]
theorem L0_of (F : RS s m) (hm : m < 4294967296) (x : Nat) : L0 (x % m) = x % m := Nat.mod_eq_of_lt (by have := F.mod x; omega)
theorem add_law (F : RS s m) (hm : m < 4294967296) (a b : Nat) : E4 (urem (uadd (a % m) (b % m)) m) 0 0 0 = EN ((a + b) % m) := by
  have h1 := F.mod a
  have h2 := F.mod b
  have h3 := F.mod (a + b)
  rw [urem_eq, uadd_eq, Nat.mod_eq_of_lt (a := a % m + b % m) (by omega), ← Nat.add_mod, EN_small (by omega)]
theorem mul_law (F : RS s m) (hm : m < 4294967296) (a b : Nat) : E4 (urem (umul (a % m) (b % m)) m) 0 0 0 = EN ((a * b) % m) := by
  have h1 := F.mod a
  have h2 := F.mod b
  have h3 := F.mod (a * b)
  have h4 : a % m * (b % m) ≤ 4294967295 * 4294967295 := Nat.mul_le_mul (by omega) (by omega)
  rw [urem_eq, umul_eq, Nat.mod_eq_of_lt (a := a % m * (b % m)) (by omega), ← Nat.mul_mod, EN_small (by omega)]
theorem r_Add (F : RS s m) (a b : Nat) (ha : a < W256) (hb : b < W256) : Contract Try.prog 30 [.val (.int .i64 s), .val (EN a), .val (EN b)] [.val (EN ((a + b) % m))] := by
  have h1 := F.mod a
  have h2 := F.mod b
  have h3 := F.half
  have hmn : ¬ m = 0 := by have := F.one; omega
  have e : (a % m + b % m) % W256 = a % m + b % m := Nat.mod_eq_of_lt (by omega)
  rcases F.sorts with ⟨rfl | rfl, hm, hl⟩ | (rfl | rfl)
  ·
    refine contract_of (N := _) (vars := _) (c := bodyOf Try.f30) Try.func30 (body_eq rfl) rfl rfl (by rfl) mixed _ _ trivial 1000 ?_
    simp only [bodyOf, Try.f30, Option.getD_some, argA, argE, List.length_cons, List.length_nil, Nat.reduceAdd, Nat.reduceSub, List.replicate, List.cons_append, List.nil_append]
    simp only [SX, simprocAttr, TYX, cellsE, foldE, foldN, cellsN, b_EN, k32, kA, kB]
    refine ⟨by kernel_rfl, ?_⟩
    refine CallVC.intro (F.of a ha) ⟨rfl, rfl, trivial⟩ rfl rfl ?_
    simp only [SX, simprocAttr, TYX, cellsE, foldE, foldN, cellsN, b_EN, k32, kA, kB]
    refine XIx (u64 (L0 (a % m))) (by rfl) (by rfl) (by decide) (by decide) rfl ?_
    simp only [SX, simprocAttr, TYX, cellsE, foldE, foldN, cellsN, b_EN, k32, kA, kB]
    refine CallVC.intro (F.of b hb) ⟨rfl, rfl, trivial⟩ rfl rfl ?_
    simp only [SX, simprocAttr, TYX, cellsE, foldE, foldN, cellsN, b_EN, k32, kA, kB]
    refine XIx (u64 (L0 (b % m))) (by rfl) (by rfl) (by decide) (by decide) rfl ?_
    simp only [SX, simprocAttr, TYX, cellsE, foldE, foldN, cellsN, b_EN, k32, kA, kB]
    refine CallVC.intro hl ⟨rfl, trivial⟩ rfl rfl ?_
    simp only [SX, simprocAttr, TYX, cellsE, foldE, foldN, cellsN, b_EN, k32, kA, kB]
    refine ⟨hmn, ?_⟩
    refine X1 _ (by rfl) ?_
    rw [L0_of F hm, L0_of F hm, add_law F hm]
    simp only [SX, simprocAttr, TYX, cellsE, foldE, foldN, cellsN, b_EN, k32, kA, kB]
  ·
    refine contract_of (N := _) (vars := _) (c := bodyOf Try.f30) Try.func30 (body_eq rfl) rfl rfl (by rfl) mixed _ _ trivial 1000 ?_
    simp only [bodyOf, Try.f30, Option.getD_some, argA, argE, List.length_cons, List.length_nil, Nat.reduceAdd, Nat.reduceSub, List.replicate, List.cons_append, List.nil_append]
    simp only [SX, simprocAttr, TYX, cellsE, foldE, foldN, cellsN, b_EN, k32, kA, kB]
    refine ⟨by kernel_rfl, ?_⟩
    refine CallVC.intro (F.of a ha) ⟨rfl, rfl, trivial⟩ rfl rfl ?_
    simp only [SX, simprocAttr, TYX, cellsE, foldE, foldN, cellsN, b_EN, k32, kA, kB]
    refine XIx (u64 (L0 (a % m))) (by rfl) (by rfl) (by decide) (by decide) rfl ?_
    simp only [SX, simprocAttr, TYX, cellsE, foldE, foldN, cellsN, b_EN, k32, kA, kB]
    refine CallVC.intro (F.of b hb) ⟨rfl, rfl, trivial⟩ rfl rfl ?_
    simp only [SX, simprocAttr, TYX, cellsE, foldE, foldN, cellsN, b_EN, k32, kA, kB]
    refine XIx (u64 (L0 (b % m))) (by rfl) (by rfl) (by decide) (by decide) rfl ?_
    simp only [SX, simprocAttr, TYX, cellsE, foldE, foldN, cellsN, b_EN, k32, kA, kB]
    refine CallVC.intro hl ⟨rfl, trivial⟩ rfl rfl ?_
    simp only [SX, simprocAttr, TYX, cellsE, foldE, foldN, cellsN, b_EN, k32, kA, kB]
    refine ⟨hmn, ?_⟩
    refine X1 _ (by rfl) ?_
    rw [L0_of F hm, L0_of F hm, add_law F hm]
    simp only [SX, simprocAttr, TYX, cellsE, foldE, foldN, cellsN, b_EN, k32, kA, kB]
  ·
    refine contract_of (N := _) (vars := _) (c := bodyOf Try.f30) Try.func30 (body_eq rfl) rfl rfl (by rfl) mixed _ _ trivial 1000 ?_
    simp only [bodyOf, Try.f30, Option.getD_some, argA, argE, List.length_cons, List.length_nil, Nat.reduceAdd, Nat.reduceSub, List.replicate, List.cons_append, List.nil_append]
    simp only [SX, simprocAttr, TYX, cellsE, foldE, foldN, cellsN, b_EN, k32, kA, kB]
    refine ⟨by kernel_rfl, ?_⟩
    refine CallVC.intro (F.of a ha) ⟨rfl, rfl, trivial⟩ rfl rfl ?_
    simp only [SX, simprocAttr, TYX, cellsE, foldE, foldN, cellsN, b_EN, k32, kA, kB]
    refine CallVC.intro (F.of b hb) ⟨rfl, rfl, trivial⟩ rfl rfl ?_
    simp only [SX, simprocAttr, TYX, cellsE, foldE, foldN, cellsN, b_EN, k32, kA, kB]
    refine CallVC.intro (c_plus _ _ (F.mod2 a) (F.mod2 b)) ⟨rfl, rfl, trivial⟩ rfl rfl ?_
    simp only [SX, simprocAttr, TYX, cellsE, foldE, foldN, cellsN, b_EN, k32, kA, kB, e]
    refine CallVC.intro (F.of (a % m + b % m) (by omega)) ⟨rfl, rfl, trivial⟩ rfl rfl ?_
    simp only [SX, simprocAttr, TYX, cellsE, foldE, foldN, cellsN, b_EN, k32, kA, kB, ← Nat.add_mod]
  ·
    refine contract_of (N := _) (vars := _) (c := bodyOf Try.f30) Try.func30 (body_eq rfl) rfl rfl (by rfl) mixed _ _ trivial 1000 ?_
    simp only [bodyOf, Try.f30, Option.getD_some, argA, argE, List.length_cons, List.length_nil, Nat.reduceAdd, Nat.reduceSub, List.replicate, List.cons_append, List.nil_append]
    simp only [SX, simprocAttr, TYX, cellsE, foldE, foldN, cellsN, b_EN, k32, kA, kB]
    refine ⟨by kernel_rfl, ?_⟩
    refine CallVC.intro (F.of a ha) ⟨rfl, rfl, trivial⟩ rfl rfl ?_
    simp only [SX, simprocAttr, TYX, cellsE, foldE, foldN, cellsN, b_EN, k32, kA, kB]
    refine CallVC.intro (F.of b hb) ⟨rfl, rfl, trivial⟩ rfl rfl ?_
    simp only [SX, simprocAttr, TYX, cellsE, foldE, foldN, cellsN, b_EN, k32, kA, kB]
    refine CallVC.intro (c_plus _ _ (F.mod2 a) (F.mod2 b)) ⟨rfl, rfl, trivial⟩ rfl rfl ?_
    simp only [SX, simprocAttr, TYX, cellsE, foldE, foldN, cellsN, b_EN, k32, kA, kB, e]
    refine CallVC.intro (F.of (a % m + b % m) (by omega)) ⟨rfl, rfl, trivial⟩ rfl rfl ?_
    simp only [SX, simprocAttr, TYX, cellsE, foldE, foldN, cellsN, b_EN, k32, kA, kB, ← Nat.add_mod]
theorem rn_Add (F : RN s) (a b : Nat) : Contract Try.prog 30 [.val (.int .i64 s), .val (EN a), .val (EN b)] [.val (EN 0)] := by
  refine contract_of (N := _) (vars := _) (c := bodyOf Try.f30) Try.func30 (body_eq rfl) rfl rfl (by rfl) mixed _ _ trivial 1000 ?_
  simp only [bodyOf, Try.f30, Option.getD_some, argA, argE, List.length_cons, List.length_nil, Nat.reduceAdd, Nat.reduceSub, List.replicate, List.cons_append, List.nil_append]
  simp only [SX, simprocAttr, TYX, cellsE, foldE, foldN, cellsN, b_EN, k32, kA, kB]
  simp only [SX, simprocAttr, TYX, cellsE, foldE, foldN, cellsN, b_EN, k32, kA, kB, F.h0, F.h1]
  refine ⟨by kernel_rfl, ?_⟩
  refine CallVC.intro (F.of a) ⟨rfl, rfl, trivial⟩ rfl rfl ?_
  simp only [SX, simprocAttr, TYX, cellsE, foldE, foldN, cellsN, b_EN, k32, kA, kB]
  refine CallVC.intro (F.of b) ⟨rfl, rfl, trivial⟩ rfl rfl ?_
  simp only [SX, simprocAttr, TYX, cellsE, foldE, foldN, cellsN, b_EN, k32, kA, kB]
  refine CallVC.intro (c_plus 0 0 (by decide) (by decide)) ⟨rfl, rfl, trivial⟩ rfl rfl ?_
  simp only [SX, simprocAttr, TYX, cellsE, foldE, foldN, cellsN, b_EN, k32, kA, kB]
  refine CallVC.intro (F.of 0) ⟨rfl, rfl, trivial⟩ rfl rfl ?_
  simp only [SX, simprocAttr, TYX, cellsE, foldE, foldN, cellsN, b_EN, k32, kA, kB]
theorem r_Sub (F : RS s m) (a b : Nat) (ha : a < W256) (hb : b < W256) : Contract Try.prog 31 [.val (.int .i64 s), .val (EN a), .val (EN b)] [.val (EN ((a + (m - b % m) % m) % m))] := by
  refine contract_of (N := _) (vars := _) (c := bodyOf Try.f31) Try.func31 (body_eq rfl) rfl rfl (by rfl) mixed _ _ trivial 1000 ?_
  simp only [bodyOf, Try.f31, Option.getD_some, argA, argE, List.length_cons, List.length_nil, Nat.reduceAdd, Nat.reduceSub, List.replicate, List.cons_append, List.nil_append]
  simp only [SX, simprocAttr, TYX, cellsE, foldE, foldN, cellsN, b_EN, k32, kA, kB]
  refine ⟨by kernel_rfl, ?_⟩
  refine CallVC.intro (r_Neg F b hb) ⟨rfl, rfl, trivial⟩ rfl rfl ?_
  simp only [SX, simprocAttr, TYX, cellsE, foldE, foldN, cellsN, b_EN, k32, kA, kB]
  refine CallVC.intro (r_Add F a _ ha (F.mod2 _)) ⟨rfl, rfl, rfl, trivial⟩ rfl rfl ?_
  simp only [SX, simprocAttr, TYX, cellsE, foldE, foldN, cellsN, b_EN, k32, kA, kB]
theorem rn_Sub (F : RN s) (a b : Nat) : Contract Try.prog 31 [.val (.int .i64 s), .val (EN a), .val (EN b)] [.val (EN 0)] := by
  refine contract_of (N := _) (vars := _) (c := bodyOf Try.f31) Try.func31 (body_eq rfl) rfl rfl (by rfl) mixed _ _ trivial 1000 ?_
  simp only [bodyOf, Try.f31, Option.getD_some, argA, argE, List.length_cons, List.length_nil, Nat.reduceAdd, Nat.reduceSub, List.replicate, List.cons_append, List.nil_append]
  simp only [SX, simprocAttr, TYX, cellsE, foldE, foldN, cellsN, b_EN, k32, kA, kB]
  refine ⟨by kernel_rfl, ?_⟩
  refine CallVC.intro (rn_Neg F b) ⟨rfl, rfl, trivial⟩ rfl rfl ?_
  simp only [SX, simprocAttr, TYX, cellsE, foldE, foldN, cellsN, b_EN, k32, kA, kB]
  refine CallVC.intro (rn_Add F a _) ⟨rfl, rfl, rfl, trivial⟩ rfl rfl ?_
  simp only [SX, simprocAttr, TYX, cellsE, foldE, foldN, cellsN, b_EN, k32, kA, kB]
theorem rn_Mul (F : RN s) (a b : Nat) : Contract Try.prog 14 [.val (.int .i64 s), .val (EN a), .val (EN b)] [.val (EN 0)] := by
  refine contract_of (N := _) (vars := _) (c := bodyOf Try.f14) Try.func14 (body_eq rfl) rfl rfl (by rfl) mixed _ _ trivial 1000 ?_
  simp only [bodyOf, Try.f14, Option.getD_some, argA, argE, List.length_cons, List.length_nil, Nat.reduceAdd, Nat.reduceSub, List.replicate, List.cons_append, List.nil_append]
  simp only [SX, simprocAttr, TYX, cellsE, foldE, foldN, cellsN, b_EN, k32, kA, kB]
  simp only [SX, simprocAttr, TYX, cellsE, foldE, foldN, cellsN, b_EN, k32, kA, kB, F.h0, F.h1]
  refine CallVC.intro F.modulus ⟨rfl, trivial⟩ rfl rfl ?_
  simp only [SX, simprocAttr, TYX, cellsE, foldE, foldN, cellsN, b_EN, k32, kA, kB]
  refine X0 ?_
  simp only [SX, simprocAttr, TYX, cellsE, foldE, foldN, cellsN, b_EN, k32, kA, kB]
end
end Go.Sx
