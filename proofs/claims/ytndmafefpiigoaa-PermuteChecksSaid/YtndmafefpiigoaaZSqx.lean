/-
  Root of both; the laws FieldRoots and FieldSquares. No conditions.
-/
import Derived.Test.YtndmafefpiigoaaZSqv
namespace Go.Sx
open Go.Proofs Go.Num
-- SY
-- TY: TYX, cellsNV, foldNV
set_option maxRecDepth 100000
set_option linter.unusedSimpArgs false
set_option pp.deepTerms true
set_option pp.maxSteps 100000
/-- Is there a root of the order 2^k? -/
def rkO (s k : Int) : Prop := 0 ≤ k ∧ k ≤ adc s
instance (s k : Int) : Decidable (rkO s k) := by unfold rkO; infer_instance
def rk (s k : Int) : Nat := if kn s = true ∧ rkO s k then 5 ^ ((md s - 1) / 2 ^ k.toNat) % md s else 0
def eR (s k : Int) : Int := if kn s then (if rkO s k then 0 else 60) else 20
theorem rk_w (s k : Int) : rk s k < md s := by unfold rk; split; exact md_mod _ _; exact md_pos s
theorem u_Root (s k : Int) : Contract Try.prog 87 [.val (.int .i64 s), .val (.int .i64 k)] [.val (EN (rk s k)), .val (.int .i64 (eR s k))] := by
  cases srt s with
  | no hk he hm F =>
    have e1 : rk s k = 0 := by simp [rk, hk]
    have e2 : eR s k = 20 := by simp [eR, hk]
    rw [e1, e2]
    refine contract_of (N := _) (vars := _) (c := bodyOf Try.f87) Try.func87 (body_eq rfl) rfl rfl (by rfl) mixed _ _ trivial 1000 ?_
    simp only [bodyOf, Try.f87, Option.getD_some, argA, argE, List.length_cons, List.length_nil, Nat.reduceAdd, Nat.reduceSub, List.replicate, List.cons_append, List.nil_append]
    simp only [↓PX, SX, SYX, EY, simprocAttr, TYX, cellsNV, foldNV]
    refine CallVC.intro (F.of) ⟨rfl, trivial⟩ rfl rfl ?_
    simp only [↓PX, SX, SYX, EY, simprocAttr, TYX, cellsNV, foldNV, he]
  | yes hk he sm ng sq F R P h2 =>
    by_cases h0 : k < 0
    · have hn : ¬ rkO s k := by unfold rkO; omega
      have e1 : rk s k = 0 := by simp [rk, hn]
      have e2 : eR s k = 60 := by simp [eR, hk, hn]
      have d1 : decide (k < 0) = true := by simpa using h0
      rw [e1, e2]
      refine contract_of (N := _) (vars := _) (c := bodyOf Try.f87) Try.func87 (body_eq rfl) rfl rfl (by rfl) mixed _ _ trivial 1000 ?_
      simp only [bodyOf, Try.f87, Option.getD_some, argA, argE, List.length_cons, List.length_nil, Nat.reduceAdd, Nat.reduceSub, List.replicate, List.cons_append, List.nil_append]
      simp only [↓PX, SX, SYX, EY, simprocAttr, TYX, cellsNV, foldNV]
      refine CallVC.intro (F.of) ⟨rfl, trivial⟩ rfl rfl ?_
      simp only [↓PX, SX, SYX, EY, simprocAttr, TYX, cellsNV, foldNV, he, d1]
    · have d1 : decide (k < 0) = false := by simpa using h0
      by_cases h1 : adc s < k
      · have hn : ¬ rkO s k := by unfold rkO; omega
        have e1 : rk s k = 0 := by simp [rk, hn]
        have e2 : eR s k = 60 := by simp [eR, hk, hn]
        have d2 : decide (adc s < k) = true := by simpa using h1
        rw [e1, e2]
        refine contract_of (N := _) (vars := _) (c := bodyOf Try.f87) Try.func87 (body_eq rfl) rfl rfl (by rfl) mixed _ _ trivial 1000 ?_
        simp only [bodyOf, Try.f87, Option.getD_some, argA, argE, List.length_cons, List.length_nil, Nat.reduceAdd, Nat.reduceSub, List.replicate, List.cons_append, List.nil_append]
        simp only [↓PX, SX, SYX, EY, simprocAttr, TYX, cellsNV, foldNV]
        refine CallVC.intro (F.of) ⟨rfl, trivial⟩ rfl rfl ?_
        simp only [↓PX, SX, SYX, EY, simprocAttr, TYX, cellsNV, foldNV, he, d1, d2]
      · have d2 : decide (adc s < k) = false := by simpa using h1
        have hn : rkO s k := by unfold rkO; omega
        have e1 : rk s k = 5 ^ ((md s - 1) / 2 ^ k.toNat) % md s := by simp [rk, hk, hn]
        have e2 : eR s k = 0 := by simp [eR, hk, hn]
        have hw : md s < W256 := by have := md_lt s; omega
        have e3 : (md s + W256 - 1) % W256 = md s - 1 := sub_of hw (by omega)
        obtain ⟨j, hj⟩ : ∃ j : Nat, k = (j : Int) := ⟨k.toNat, by omega⟩
        have hj32 : j ≤ 32 := by
          have := adc_S s hk
          have hs31 : sS s ≤ 31 := by unfold sS; split <;> (try split) <;> omega
          omega
        subst hj
        rw [e1, e2]
        have hdl := Nat.div_le_self (md s - 1) (2 ^ j)
        have hdw : (md s - 1) / 2 ^ j < W256 := by omega
        have h5 : (5 : Nat) < W256 := by decide
        refine contract_of (N := _) (vars := _) (c := bodyOf Try.f87) Try.func87 (body_eq rfl) rfl rfl (by rfl) mixed _ _ trivial 1000 ?_
        simp only [bodyOf, Try.f87, Option.getD_some, argA, argE, List.length_cons, List.length_nil, Nat.reduceAdd, Nat.reduceSub, List.replicate, List.cons_append, List.nil_append]
        simp only [↓PX, SX, SYX, EY, simprocAttr, TYX, cellsNV, foldNV]
        refine CallVC.intro (F.of) ⟨rfl, trivial⟩ rfl rfl ?_
        simp only [↓PX, SX, SYX, EY, simprocAttr, TYX, cellsNV, foldNV, he, d1, d2]
        refine CallVC.intro (c_word_sub (md s) 1 hw (by decide)) ⟨rfl, rfl, trivial⟩ rfl rfl ?_
        simp only [↓PX, SX, SYX, EY, simprocAttr, TYX, cellsNV, foldNV, e3]
        repeat (first | refine DrawVC.intro (by kernel_rfl) ?_ | refine And.intro (by omega) ?_ | exact trivial)
        refine CallVC.intro (c_halves (md s - 1) j (by omega) (by omega)) ⟨rfl, rfl, trivial⟩ rfl rfl ?_
        simp only [↓PX, SX, SYX, EY, simprocAttr, TYX, cellsNV, foldNV]
        repeat (first
          | (refine DrawVC.intro (by kernel_rfl) ?_)
          | exact trivial
          | (refine CallVC.intro (u_Exp _ _ _ (by first | assumption | exact md_w _ _ | exact md_w2 (inv_lt _ _) | decide | omega) (by first | assumption | exact md_w _ _ | exact md_w2 (inv_lt _ _) | decide | omega)) ⟨rfl, rfl, rfl, trivial⟩ rfl rfl ?_; simp only [↓PX, SX, SYX, EY, simprocAttr, TYX, cellsNV, foldNV, Int.toNat_natCast]))
end Go.Sx
