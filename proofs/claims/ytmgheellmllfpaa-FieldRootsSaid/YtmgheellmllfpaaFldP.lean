/-
  Walks: Inv; alive. No conditions.
-/
import Derived.Test.YtmgheellmllfpaaFldJ
import Derived.Test.YtmgheellmllfpaaNumb
namespace Go.Sx
open Go.Proofs
-- TY: TYX, cellsE, foldE, foldN, cellsN, b_EN, cellsNV, foldNV
set_option maxRecDepth 100000
set_option linter.unusedSimpArgs false
set_option pp.deepTerms false
set_option pp.deepTerms.threshold 3
section
variable {s : Int} {m sm ng sq : Nat} {ad : Int}
theorem c_Inv0 (F : FS s m ad sm ng sq) (a : Nat) (ha : a < W256) (h : a % m = 0) : Contract Try.prog 20 [.val (.int .i64 s), .val (EN a)] [.val (EN 0), .val (.int .i64 10)] := by
  refine contract_of (N := _) (vars := _) (c := bodyOf Try.f20) Try.func20 (body_eq rfl) rfl rfl (by rfl) mixed _ _ trivial 1000 ?_
  simp only [bodyOf, Try.f20, Option.getD_some, argA, argE, List.length_cons, List.length_nil, Nat.reduceAdd, Nat.reduceSub, List.replicate, List.cons_append, List.nil_append]
  simp only [SX, simprocAttr, TYX, cellsE, foldE, foldN, cellsN, b_EN, cellsNV, foldNV]
  refine CallVC.intro F.of ⟨rfl, trivial⟩ rfl rfl ?_
  simp only [SX, simprocAttr, TYX, cellsE, foldE, foldN, cellsN, b_EN, cellsNV, foldNV]
  refine CallVC.intro (F.reduce a ha) ⟨rfl, rfl, trivial⟩ rfl rfl ?_
  rw [h]
  simp only [SX, simprocAttr, TYX, cellsE, foldE, foldN, cellsN, b_EN, cellsNV, foldNV]
  refine X0 ?_
  simp only [SX, simprocAttr, TYX, cellsE, foldE, foldN, cellsN, b_EN, cellsNV, foldNV]
  refine XEq 0 0 (by decide) (by decide) (by rfl) (by rfl) ?_
  simp only [SX, simprocAttr, TYX, cellsE, foldE, foldN, cellsN, b_EN, cellsNV, foldNV]
  refine X0 ?_
  simp only [SX, simprocAttr, TYX, cellsE, foldE, foldN, cellsN, b_EN, cellsNV, foldNV]
theorem c_Inv (F : FS s m ad sm ng sq) (a : Nat) (ha : a < W256) (h : a % m ≠ 0) : Contract Try.prog 20 [.val (.int .i64 s), .val (EN a)] [.val (EN (a ^ (m - 2) % m)), .val (.int .i64 0)] := by
  have h1 := F.one
  have h2 := F.lt
  have hb : (a % m == 0) = false := by simpa using h
  refine contract_of (N := _) (vars := _) (c := bodyOf Try.f20) Try.func20 (body_eq rfl) rfl rfl (by rfl) mixed _ _ trivial 1000 ?_
  simp only [bodyOf, Try.f20, Option.getD_some, argA, argE, List.length_cons, List.length_nil, Nat.reduceAdd, Nat.reduceSub, List.replicate, List.cons_append, List.nil_append]
  simp only [SX, simprocAttr, TYX, cellsE, foldE, foldN, cellsN, b_EN, cellsNV, foldNV]
  refine CallVC.intro F.of ⟨rfl, trivial⟩ rfl rfl ?_
  simp only [SX, simprocAttr, TYX, cellsE, foldE, foldN, cellsN, b_EN, cellsNV, foldNV]
  refine CallVC.intro (F.reduce a ha) ⟨rfl, rfl, trivial⟩ rfl rfl ?_
  simp only [SX, simprocAttr, TYX, cellsE, foldE, foldN, cellsN, b_EN, cellsNV, foldNV]
  refine X0 ?_
  simp only [SX, simprocAttr, TYX, cellsE, foldE, foldN, cellsN, b_EN, cellsNV, foldNV]
  refine XEq (a % m) 0 (F.mod2 a) (by decide) (by rfl) (by rfl) ?_
  simp only [SX, simprocAttr, TYX, cellsE, foldE, foldN, cellsN, b_EN, cellsNV, foldNV, hb]
  refine X1 2 (by rfl) ?_
  rw [EN_small (by decide)]
  simp only [SX, simprocAttr, TYX, cellsE, foldE, foldN, cellsN, b_EN, cellsNV, foldNV]
  refine CallVC.intro (c_word_sub m 2 h2 (by decide)) ⟨rfl, rfl, trivial⟩ rfl rfl ?_
  rw [sub_of h2 h1]
  simp only [SX, simprocAttr, TYX, cellsE, foldE, foldN, cellsN, b_EN, cellsNV, foldNV]
  refine CallVC.intro (c_Exp F a (m - 2) ha (by omega)) ⟨rfl, rfl, rfl, trivial⟩ rfl rfl ?_
  simp only [SX, simprocAttr, TYX, cellsE, foldE, foldN, cellsN, b_EN, cellsNV, foldNV]
theorem n_Inv (F : NS s) (a : Nat) : Contract Try.prog 20 [.val (.int .i64 s), .val (EN a)] [.val (EN 0), .val (.int .i64 20)] := by
  refine contract_of (N := _) (vars := _) (c := bodyOf Try.f20) Try.func20 (body_eq rfl) rfl rfl (by rfl) mixed _ _ trivial 1000 ?_
  simp only [bodyOf, Try.f20, Option.getD_some, argA, argE, List.length_cons, List.length_nil, Nat.reduceAdd, Nat.reduceSub, List.replicate, List.cons_append, List.nil_append]
  simp only [SX, simprocAttr, TYX, cellsE, foldE, foldN, cellsN, b_EN, cellsNV, foldNV]
  refine CallVC.intro F.of ⟨rfl, trivial⟩ rfl rfl ?_
  simp only [SX, simprocAttr, TYX, cellsE, foldE, foldN, cellsN, b_EN, cellsNV, foldNV]
  refine X0 ?_
  simp only [SX, simprocAttr, TYX, cellsE, foldE, foldN, cellsN, b_EN, cellsNV, foldNV]
end
theorem inv2 : 2 ^ (PA - 2) % PA = 8256769 := by
  exact Num.pow_of (f := 24) (by decide +kernel) (by decide +kernel)
theorem sum1 : (16513536 + 2) % PA = 1 := by decide
theorem c_alive : Contract Try.prog 12 [] [.val (.bool true)] := by
  refine contract_of (N := _) (vars := _) (c := bodyOf Try.f12) Try.func12 (body_eq rfl) rfl rfl (by rfl) mixed _ _ trivial 1000 ?_
  simp only [bodyOf, Try.f12, Option.getD_some, argA, argE, List.length_cons, List.length_nil, Nat.reduceAdd, Nat.reduceSub, List.replicate, List.cons_append, List.nil_append]
  simp only [SX, simprocAttr, TYX, cellsE, foldE, foldN, cellsN, b_EN, cellsNV, foldNV]
  refine X1 2 (by rfl) ?_
  rw [EN_small (by decide)]
  simp only [SX, simprocAttr, TYX, cellsE, foldE, foldN, cellsN, b_EN, cellsNV, foldNV]
  refine CallVC.intro (c_Inv SA' 2 (by decide) (by decide)) ⟨rfl, rfl, trivial⟩ rfl rfl ?_
  rw [inv2]
  simp only [SX, simprocAttr, TYX, cellsE, foldE, foldN, cellsN, b_EN, cellsNV, foldNV]
  refine X1 8256769 (by rfl) ?_
  rw [EN_small (by decide)]
  simp only [SX, simprocAttr, TYX, cellsE, foldE, foldN, cellsN, b_EN, cellsNV, foldNV]
  refine XEq 8256769 8256769 (by decide) (by decide) (by rfl) (by rfl) ?_
  simp only [SX, simprocAttr, TYX, cellsE, foldE, foldN, cellsN, b_EN, cellsNV, foldNV]
  refine X1 16513536 (by rfl) ?_
  rw [EN_small (by decide)]
  simp only [SX, simprocAttr, TYX, cellsE, foldE, foldN, cellsN, b_EN, cellsNV, foldNV]
  refine X1 2 (by rfl) ?_
  rw [EN_small (by decide)]
  simp only [SX, simprocAttr, TYX, cellsE, foldE, foldN, cellsN, b_EN, cellsNV, foldNV]
  refine CallVC.intro (c_Add SA' 16513536 2 (by decide) (by decide)) ⟨rfl, rfl, rfl, trivial⟩ rfl rfl ?_
  rw [sum1]
  simp only [SX, simprocAttr, TYX, cellsE, foldE, foldN, cellsN, b_EN, cellsNV, foldNV]
  refine X1 1 (by rfl) ?_
  rw [EN_small (by decide)]
  simp only [SX, simprocAttr, TYX, cellsE, foldE, foldN, cellsN, b_EN, cellsNV, foldNV]
  refine XEq 1 1 (by decide) (by decide) (by rfl) (by rfl) ?_
  simp only [SX, simprocAttr, TYX, cellsE, foldE, foldN, cellsN, b_EN, cellsNV, foldNV]
/-- A sort is one of four, or none. -/
theorem sort_cases (s : Int) : s = 0 ∨ s = 1 ∨ s = 2 ∨ s = 3 ∨ ((s == 0) = false ∧ (s == 1) = false ∧ (s == 2) = false ∧ (s == 3) = false) := by
  by_cases h0 : s = 0
  · exact .inl h0
  by_cases h1 : s = 1
  · exact .inr (.inl h1)
  by_cases h2 : s = 2
  · exact .inr (.inr (.inl h2))
  by_cases h3 : s = 3
  · exact .inr (.inr (.inr (.inl h3)))
  exact .inr (.inr (.inr (.inr ⟨by simpa using h0, by simpa using h1, by simpa using h2, by simpa using h3⟩)))
end Go.Sx
