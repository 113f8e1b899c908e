/-
  Walks: add, neg0; accumulate, redc, mul. No conditions.
-/
import Derived.Test.YtmgheellmllfpaaFldE
namespace Go.Sx
open Go.Proofs
-- TY: TYX, cellsE, foldE, foldN, cellsN, b_EN, cellsNV, foldNV
set_option maxRecDepth 100000
set_option linter.unusedSimpArgs false
set_option pp.deepTerms false
set_option pp.deepTerms.threshold 3
/-- What is asked of a field's numbers. -/
structure FN (m : Nat) (ad : Int) (sm ng sq : Nat) : Prop where
  one : 1 < m
  half : m * 2 ≤ W256
  reduce : ∀ a, a < W256 → Contract Try.prog 57 [.val (NV m ad sm ng sq), .val (EN a)] [.val (EN (a % m))]
theorem FA : FN PA 9 PA 0 0 := ⟨by decide, by decide, c_reduceA⟩
theorem FB : FN PB 11 PB 0 0 := ⟨by decide, by decide, c_reduceB⟩
theorem FC : FN PC 32 0 0x992d30ecffffffff SC := ⟨by decide, by decide, c_reduceC⟩
theorem FD : FN PD 32 0 0x8c46eb20ffffffff SD := ⟨by decide, by decide, c_reduceD⟩
section
variable {m sm ng sq : Nat} {ad : Int}
theorem FN.lt (F : FN m ad sm ng sq) : m < W256 := by have := F.half; have := F.one; omega
theorem FN.mod (F : FN m ad sm ng sq) (x : Nat) : x % m < m := Nat.mod_lt _ (by have := F.one; omega)
theorem FN.mod2 (F : FN m ad sm ng sq) (x : Nat) : x % m < W256 := Nat.lt_trans (F.mod x) F.lt
theorem c_add (F : FN m ad sm ng sq) (a b : Nat) (ha : a < W256) (hb : b < W256) : Contract Try.prog 59 [.val (NV m ad sm ng sq), .val (EN a), .val (EN b)] [.val (EN ((a + b) % m))] := by
  have h1 := F.mod a
  have h2 := F.mod b
  have h3 := F.half
  have e : (a % m + b % m) % W256 = a % m + b % m := Nat.mod_eq_of_lt (by omega)
  refine contract_of (N := _) (vars := _) (c := bodyOf Try.f59) Try.func59 (body_eq rfl) rfl rfl (by rfl) mixed _ _ trivial 1000 ?_
  simp only [bodyOf, Try.f59, Option.getD_some, argA, argE, List.length_cons, List.length_nil, Nat.reduceAdd, Nat.reduceSub, List.replicate, List.cons_append, List.nil_append]
  simp only [SX, simprocAttr, TYX, cellsE, foldE, foldN, cellsN, b_EN, cellsNV, foldNV]
  refine ⟨by kernel_rfl, ?_⟩
  refine CallVC.intro (F.reduce a ha) ⟨rfl, rfl, trivial⟩ rfl rfl ?_
  simp only [SX, simprocAttr, TYX, cellsE, foldE, foldN, cellsN, b_EN, cellsNV, foldNV]
  refine CallVC.intro (F.reduce b hb) ⟨rfl, rfl, trivial⟩ rfl rfl ?_
  simp only [SX, simprocAttr, TYX, cellsE, foldE, foldN, cellsN, b_EN, cellsNV, foldNV]
  refine CallVC.intro (c_word_add _ _ (F.mod2 a) (F.mod2 b)) ⟨rfl, rfl, trivial⟩ rfl rfl ?_
  simp only [SX, simprocAttr, TYX, cellsE, foldE, foldN, cellsN, b_EN, cellsNV, foldNV, e]
  refine CallVC.intro (F.reduce (a % m + b % m) (by omega)) ⟨rfl, rfl, trivial⟩ rfl rfl ?_
  simp only [SX, simprocAttr, TYX, cellsE, foldE, foldN, cellsN, b_EN, cellsNV, foldNV, ← Nat.add_mod]
theorem c_neg0 (F : FN m ad sm ng sq) (a : Nat) (ha : a < W256) : Contract Try.prog 60 [.val (NV m ad sm ng sq), .val (EN a)] [.val (EN ((m - a % m) % m))] := by
  have h1 := F.mod a
  have h3 := F.lt
  have e : (m + W256 - a % m) % W256 = m - a % m := by unfold W256 at *; omega
  refine contract_of (N := _) (vars := _) (c := bodyOf Try.f60) Try.func60 (body_eq rfl) rfl rfl (by rfl) mixed _ _ trivial 1000 ?_
  simp only [bodyOf, Try.f60, Option.getD_some, argA, argE, List.length_cons, List.length_nil, Nat.reduceAdd, Nat.reduceSub, List.replicate, List.cons_append, List.nil_append]
  simp only [SX, simprocAttr, TYX, cellsE, foldE, foldN, cellsN, b_EN, cellsNV, foldNV]
  refine ⟨by kernel_rfl, ?_⟩
  refine CallVC.intro (F.reduce a ha) ⟨rfl, rfl, trivial⟩ rfl rfl ?_
  simp only [SX, simprocAttr, TYX, cellsE, foldE, foldN, cellsN, b_EN, cellsNV, foldNV]
  refine CallVC.intro (c_word_sub m _ F.lt (F.mod2 a)) ⟨rfl, rfl, trivial⟩ rfl rfl ?_
  simp only [SX, simprocAttr, TYX, cellsE, foldE, foldN, cellsN, b_EN, cellsNV, foldNV, e]
  refine CallVC.intro (F.reduce (m - a % m) (by omega)) ⟨rfl, rfl, trivial⟩ rfl rfl ?_
  simp only [SX, simprocAttr, TYX, cellsE, foldE, foldN, cellsN, b_EN, cellsNV, foldNV]
end
end Go.Sx
