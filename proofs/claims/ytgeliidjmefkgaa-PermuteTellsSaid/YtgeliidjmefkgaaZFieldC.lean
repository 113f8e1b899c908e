/-
  Walks of the references: Of, Add, Neg, Sub, Mul, Exp. Walks of the references: Mul. Walks of the references: Exp. No conditions.
-/
import Derived.Test.YtgeliidjmefkgaaZFieldB
namespace Go.Sx
open Go.Proofs
-- TY: TYX, cellsE, foldE, foldN, cellsN, b_EN, k32, kA, kB
set_option maxRecDepth 100000
set_option linter.unusedSimpArgs false
set_option pp.deepTerms false
set_option pp.deepTerms.threshold 3
theorem c_OfG (s : Int) (m : Nat) (hm1 : m < W256) (hm4 : W256 ≤ m * 4) (hm : 0 < m) (hs : s = 2 ∨ s = 3) (hl : Contract Try.prog 111 [.val (.int .i64 s)] [.val (EN m), .val (.int .i64 0)]) (a : Nat) (ha : a < W256) :
    Contract Try.prog 69 [.val (.int .i64 s), .val (EN a)] [.val (EN (a % m))] := by
  rcases hs with rfl | rfl
  ·
    refine contract_of (N := _) (vars := _) (c := bodyOf Try.f69) Try.func69 (body_eq rfl) rfl rfl (by rfl) mixed _ _ trivial 1000 ?_
    simp only [bodyOf, Try.f69, Option.getD_some, argA, argE, List.length_cons, List.length_nil, Nat.reduceAdd, Nat.reduceSub, List.replicate, List.cons_append, List.nil_append]
    simp only [SX, simprocAttr, TYX, cellsE, foldE, foldN, cellsN, b_EN, k32, kA, kB]
    refine CallVC.intro hl ⟨rfl, trivial⟩ rfl rfl ?_
    simp only [SX, simprocAttr, TYX, cellsE, foldE, foldN, cellsN, b_EN, k32, kA, kB]
    refine loop_rounds 4 ?_
    refine RoundsVC.step mixed trivial 1000 ?_
    simp only [SX, simprocAttr, TYX, cellsE, foldE, foldN, cellsN, b_EN, k32, kA, kB]
    refine CallVC.intro (c_below (a) m ha hm1) ⟨rfl, rfl, trivial⟩ rfl rfl ?_
    simp only [SX, simprocAttr, TYX, cellsE, foldE, foldN, cellsN, b_EN, k32, kA, kB]
    refine cond_split (fun h0 => ?_) (fun h0 => ?_)
    rotate_left
    · have h0 : a < m := by simpa using h0
      simp only [SX, simprocAttr, TYX, cellsE, foldE, foldN, cellsN, b_EN, k32, kA, kB]
      rw [Nat.mod_eq_of_lt h0]
    have h1 : m ≤ a := by simpa using h0
    simp only [SX, simprocAttr, TYX, cellsE, foldE, foldN, cellsN, b_EN, k32, kA, kB]
    refine CallVC.intro (c_minus (a) m ha hm1) ⟨rfl, rfl, trivial⟩ rfl rfl ?_
    rw [sub_of ha h1, Nat.mod_eq_sub_mod h1]
    simp only [SX, simprocAttr, TYX, cellsE, foldE, foldN, cellsN, b_EN, k32, kA, kB]
    have ha1 : a - m < W256 := by omega
    refine RoundsVC.step mixed trivial 1000 ?_
    simp only [SX, simprocAttr, TYX, cellsE, foldE, foldN, cellsN, b_EN, k32, kA, kB]
    refine CallVC.intro (c_below (a - m) m ha1 hm1) ⟨rfl, rfl, trivial⟩ rfl rfl ?_
    simp only [SX, simprocAttr, TYX, cellsE, foldE, foldN, cellsN, b_EN, k32, kA, kB]
    refine cond_split (fun h0 => ?_) (fun h0 => ?_)
    rotate_left
    · have h0 : a - m < m := by simpa using h0
      simp only [SX, simprocAttr, TYX, cellsE, foldE, foldN, cellsN, b_EN, k32, kA, kB]
      rw [Nat.mod_eq_of_lt h0]
    have h2 : m ≤ a - m := by simpa using h0
    simp only [SX, simprocAttr, TYX, cellsE, foldE, foldN, cellsN, b_EN, k32, kA, kB]
    refine CallVC.intro (c_minus (a - m) m ha1 hm1) ⟨rfl, rfl, trivial⟩ rfl rfl ?_
    rw [sub_of ha1 h2, Nat.mod_eq_sub_mod h2]
    simp only [SX, simprocAttr, TYX, cellsE, foldE, foldN, cellsN, b_EN, k32, kA, kB]
    have ha2 : a - m - m < W256 := by omega
    refine RoundsVC.step mixed trivial 1000 ?_
    simp only [SX, simprocAttr, TYX, cellsE, foldE, foldN, cellsN, b_EN, k32, kA, kB]
    refine CallVC.intro (c_below (a - m - m) m ha2 hm1) ⟨rfl, rfl, trivial⟩ rfl rfl ?_
    simp only [SX, simprocAttr, TYX, cellsE, foldE, foldN, cellsN, b_EN, k32, kA, kB]
    refine cond_split (fun h0 => ?_) (fun h0 => ?_)
    rotate_left
    · have h0 : a - m - m < m := by simpa using h0
      simp only [SX, simprocAttr, TYX, cellsE, foldE, foldN, cellsN, b_EN, k32, kA, kB]
      rw [Nat.mod_eq_of_lt h0]
    have h3 : m ≤ a - m - m := by simpa using h0
    simp only [SX, simprocAttr, TYX, cellsE, foldE, foldN, cellsN, b_EN, k32, kA, kB]
    refine CallVC.intro (c_minus (a - m - m) m ha2 hm1) ⟨rfl, rfl, trivial⟩ rfl rfl ?_
    rw [sub_of ha2 h3, Nat.mod_eq_sub_mod h3]
    simp only [SX, simprocAttr, TYX, cellsE, foldE, foldN, cellsN, b_EN, k32, kA, kB]
    have ha3 : a - m - m - m < W256 := by omega
    refine RoundsVC.step mixed trivial 1000 ?_
    simp only [SX, simprocAttr, TYX, cellsE, foldE, foldN, cellsN, b_EN, k32, kA, kB]
    refine CallVC.intro (c_below (a - m - m - m) m ha3 hm1) ⟨rfl, rfl, trivial⟩ rfl rfl ?_
    simp only [SX, simprocAttr, TYX, cellsE, foldE, foldN, cellsN, b_EN, k32, kA, kB]
    refine cond_split (fun h0 => ?_) (fun h0 => ?_)
    rotate_left
    · have h0 : a - m - m - m < m := by simpa using h0
      simp only [SX, simprocAttr, TYX, cellsE, foldE, foldN, cellsN, b_EN, k32, kA, kB]
      rw [Nat.mod_eq_of_lt h0]
    have h4 : m ≤ a - m - m - m := by simpa using h0
    omega
  ·
    refine contract_of (N := _) (vars := _) (c := bodyOf Try.f69) Try.func69 (body_eq rfl) rfl rfl (by rfl) mixed _ _ trivial 1000 ?_
    simp only [bodyOf, Try.f69, Option.getD_some, argA, argE, List.length_cons, List.length_nil, Nat.reduceAdd, Nat.reduceSub, List.replicate, List.cons_append, List.nil_append]
    simp only [SX, simprocAttr, TYX, cellsE, foldE, foldN, cellsN, b_EN, k32, kA, kB]
    refine CallVC.intro hl ⟨rfl, trivial⟩ rfl rfl ?_
    simp only [SX, simprocAttr, TYX, cellsE, foldE, foldN, cellsN, b_EN, k32, kA, kB]
    refine loop_rounds 4 ?_
    refine RoundsVC.step mixed trivial 1000 ?_
    simp only [SX, simprocAttr, TYX, cellsE, foldE, foldN, cellsN, b_EN, k32, kA, kB]
    refine CallVC.intro (c_below (a) m ha hm1) ⟨rfl, rfl, trivial⟩ rfl rfl ?_
    simp only [SX, simprocAttr, TYX, cellsE, foldE, foldN, cellsN, b_EN, k32, kA, kB]
    refine cond_split (fun h0 => ?_) (fun h0 => ?_)
    rotate_left
    · have h0 : a < m := by simpa using h0
      simp only [SX, simprocAttr, TYX, cellsE, foldE, foldN, cellsN, b_EN, k32, kA, kB]
      rw [Nat.mod_eq_of_lt h0]
    have h1 : m ≤ a := by simpa using h0
    simp only [SX, simprocAttr, TYX, cellsE, foldE, foldN, cellsN, b_EN, k32, kA, kB]
    refine CallVC.intro (c_minus (a) m ha hm1) ⟨rfl, rfl, trivial⟩ rfl rfl ?_
    rw [sub_of ha h1, Nat.mod_eq_sub_mod h1]
    simp only [SX, simprocAttr, TYX, cellsE, foldE, foldN, cellsN, b_EN, k32, kA, kB]
    have ha1 : a - m < W256 := by omega
    refine RoundsVC.step mixed trivial 1000 ?_
    simp only [SX, simprocAttr, TYX, cellsE, foldE, foldN, cellsN, b_EN, k32, kA, kB]
    refine CallVC.intro (c_below (a - m) m ha1 hm1) ⟨rfl, rfl, trivial⟩ rfl rfl ?_
    simp only [SX, simprocAttr, TYX, cellsE, foldE, foldN, cellsN, b_EN, k32, kA, kB]
    refine cond_split (fun h0 => ?_) (fun h0 => ?_)
    rotate_left
    · have h0 : a - m < m := by simpa using h0
      simp only [SX, simprocAttr, TYX, cellsE, foldE, foldN, cellsN, b_EN, k32, kA, kB]
      rw [Nat.mod_eq_of_lt h0]
    have h2 : m ≤ a - m := by simpa using h0
    simp only [SX, simprocAttr, TYX, cellsE, foldE, foldN, cellsN, b_EN, k32, kA, kB]
    refine CallVC.intro (c_minus (a - m) m ha1 hm1) ⟨rfl, rfl, trivial⟩ rfl rfl ?_
    rw [sub_of ha1 h2, Nat.mod_eq_sub_mod h2]
    simp only [SX, simprocAttr, TYX, cellsE, foldE, foldN, cellsN, b_EN, k32, kA, kB]
    have ha2 : a - m - m < W256 := by omega
    refine RoundsVC.step mixed trivial 1000 ?_
    simp only [SX, simprocAttr, TYX, cellsE, foldE, foldN, cellsN, b_EN, k32, kA, kB]
    refine CallVC.intro (c_below (a - m - m) m ha2 hm1) ⟨rfl, rfl, trivial⟩ rfl rfl ?_
    simp only [SX, simprocAttr, TYX, cellsE, foldE, foldN, cellsN, b_EN, k32, kA, kB]
    refine cond_split (fun h0 => ?_) (fun h0 => ?_)
    rotate_left
    · have h0 : a - m - m < m := by simpa using h0
      simp only [SX, simprocAttr, TYX, cellsE, foldE, foldN, cellsN, b_EN, k32, kA, kB]
      rw [Nat.mod_eq_of_lt h0]
    have h3 : m ≤ a - m - m := by simpa using h0
    simp only [SX, simprocAttr, TYX, cellsE, foldE, foldN, cellsN, b_EN, k32, kA, kB]
    refine CallVC.intro (c_minus (a - m - m) m ha2 hm1) ⟨rfl, rfl, trivial⟩ rfl rfl ?_
    rw [sub_of ha2 h3, Nat.mod_eq_sub_mod h3]
    simp only [SX, simprocAttr, TYX, cellsE, foldE, foldN, cellsN, b_EN, k32, kA, kB]
    have ha3 : a - m - m - m < W256 := by omega
    refine RoundsVC.step mixed trivial 1000 ?_
    simp only [SX, simprocAttr, TYX, cellsE, foldE, foldN, cellsN, b_EN, k32, kA, kB]
    refine CallVC.intro (c_below (a - m - m - m) m ha3 hm1) ⟨rfl, rfl, trivial⟩ rfl rfl ?_
    simp only [SX, simprocAttr, TYX, cellsE, foldE, foldN, cellsN, b_EN, k32, kA, kB]
    refine cond_split (fun h0 => ?_) (fun h0 => ?_)
    rotate_left
    · have h0 : a - m - m - m < m := by simpa using h0
      simp only [SX, simprocAttr, TYX, cellsE, foldE, foldN, cellsN, b_EN, k32, kA, kB]
      rw [Nat.mod_eq_of_lt h0]
    have h4 : m ≤ a - m - m - m := by simpa using h0
    omega
theorem c_Of9 (s : Int) (h0 : (s == 0) = false) (h1 : (s == 1) = false) (hl : Contract Try.prog 111 [.val (.int .i64 s)] [.val (EN 0), .val (.int .i64 20)]) (a : Nat) :
    Contract Try.prog 69 [.val (.int .i64 s), .val (EN a)] [.val (EN 0)] := by
  refine contract_of (N := _) (vars := _) (c := bodyOf Try.f69) Try.func69 (body_eq rfl) rfl rfl (by rfl) mixed _ _ trivial 1000 ?_
  simp only [bodyOf, Try.f69, Option.getD_some, argA, argE, List.length_cons, List.length_nil, Nat.reduceAdd, Nat.reduceSub, List.replicate, List.cons_append, List.nil_append]
  simp only [SX, simprocAttr, TYX, cellsE, foldE, foldN, cellsN, b_EN, k32, kA, kB]
  simp only [SX, simprocAttr, TYX, cellsE, foldE, foldN, cellsN, b_EN, k32, kA, kB, h0, h1]
  refine CallVC.intro hl ⟨rfl, trivial⟩ rfl rfl ?_
  simp only [SX, simprocAttr, TYX, cellsE, foldE, foldN, cellsN, b_EN, k32, kA, kB]
  refine X0 ?_
  simp only [SX, simprocAttr, TYX, cellsE, foldE, foldN, cellsN, b_EN, k32, kA, kB]
/-- The reference of a field. -/
structure RS (s : Int) (m : Nat) : Prop where
  one : 1 < m
  half : m * 2 ≤ W256
  sorts : ((s = 0 ∨ s = 1) ∧ m < 4294967296 ∧ Contract Try.prog 110 [.val (.int .i64 s)] [.val (u64 m)]) ∨ (s = 2 ∨ s = 3)
  modulus : Contract Try.prog 111 [.val (.int .i64 s)] [.val (EN m), .val (.int .i64 0)]
  of : ∀ a, a < W256 → Contract Try.prog 69 [.val (.int .i64 s), .val (EN a)] [.val (EN (a % m))]
theorem RA : RS 0 PA := ⟨by decide, by decide, .inl ⟨.inl rfl, by decide, r_lit0⟩, r_mod0, c_OfL 0 PA (by decide) (by decide) (.inl rfl) r_lit0⟩
theorem RB : RS 1 PB := ⟨by decide, by decide, .inl ⟨.inr rfl, by decide, r_lit1⟩, r_mod1, c_OfL 1 PB (by decide) (by decide) (.inr rfl) r_lit1⟩
theorem RC : RS 2 PC := ⟨by decide, by decide, .inr (.inl rfl), r_mod2, c_OfG 2 PC (by decide) (by decide) (by decide) (.inl rfl) r_mod2⟩
theorem RD : RS 3 PD := ⟨by decide, by decide, .inr (.inr rfl), r_mod3, c_OfG 3 PD (by decide) (by decide) (by decide) (.inr rfl) r_mod3⟩
structure RN (s : Int) : Prop where
  h0 : (s == 0) = false
  h1 : (s == 1) = false
  modulus : Contract Try.prog 111 [.val (.int .i64 s)] [.val (EN 0), .val (.int .i64 20)]
  of : ∀ a, Contract Try.prog 69 [.val (.int .i64 s), .val (EN a)] [.val (EN 0)]
theorem RN.mk' (s : Int) (h0 : (s == 0) = false) (h1 : (s == 1) = false) (h2 : (s == 2) = false) (h3 : (s == 3) = false) : RN s :=
  ⟨h0, h1, r_mod9 s h0 h1 h2 h3, c_Of9 s h0 h1 (r_mod9 s h0 h1 h2 h3)⟩
theorem NS.mk' (s : Int) (h0 : (s == 0) = false) (h1 : (s == 1) = false) (h2 : (s == 2) = false) (h3 : (s == 3) = false) : NS s := ⟨c_of9 s h0 h1 h2 h3⟩
section
variable {s : Int} {m : Nat}
theorem RS.lt (F : RS s m) : m < W256 := by have := F.half; have := F.one; omega
theorem RS.mod (F : RS s m) (x : Nat) : x % m < m := Nat.mod_lt _ (by have := F.one; omega)
theorem RS.mod2 (F : RS s m) (x : Nat) : x % m < W256 := Nat.lt_trans (F.mod x) F.lt
end
end Go.Sx
namespace Go.Sx
open Go.Proofs
-- TY: TYX, cellsE, foldE, foldN, cellsN, b_EN, k32, kA, kB, ud3, it63, Int.toNat_natCast
set_option maxRecDepth 100000
set_option linter.unusedSimpArgs false
set_option pp.deepTerms false
set_option pp.deepTerms.threshold 3
/-- What stands of a counter that goes down. -/
structure Down (i : Nat) : Prop where
  lt : i < 256
theorem Down.hz (i : Nat) : ((i + 1 : Nat) : Int) - 1 = (i : Int) := by omega
theorem Down.ge (i : Nat) : decide ((0 : Int) ≤ (i : Int)) = true := by simp
theorem Down.quo {i : Nat} (h : i < 256) : IntKind.i64.wrap ((i : Int).tdiv 64) = ((i / 64 : Nat) : Int) := by
  rw [IntKind.wrap_i64, Int.tdiv_eq_ediv_of_nonneg (by omega)]
  omega
theorem Down.rem (i : Nat) : (i : Int).tmod 64 = ((i % 64 : Nat) : Int) := by
  rw [Int.tmod_eq_emod_of_nonneg (by omega)]
  omega
theorem Down.conv (i : Nat) : (((i % 64 : Nat) : Int) % 18446744073709551616).toNat = i % 64 := by omega
theorem Down.j4 {i : Nat} (h : i < 256) : (((i / 64 : Nat) : Int) < 4) = True := by simp; omega
theorem Down.j {i : Nat} (h : i < 256) : (i / 64 < 4) = True := by simp; omega
theorem Down.next {i : Nat} (h : i < 256) : IntKind.i64.wrap ((i : Int) - 1) = (i : Int) - 1 := by
  rw [IntKind.wrap_i64]
  omega
section
variable {s : Int} {m : Nat}
end
end Go.Sx
namespace Go.Sx
open Go.Proofs
-- TY: TYX, cellsE, foldE, foldN, cellsN, b_EN, k32, kA, kB, ud3, it63, Int.toNat_natCast
set_option maxRecDepth 100000
set_option linter.unusedSimpArgs false
set_option pp.deepTerms false
set_option pp.deepTerms.threshold 3
section
variable {s : Int} {m : Nat}
end
end Go.Sx
