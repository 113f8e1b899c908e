/-
  The references' helpers over lists of elements: CopyElems, SpareElems, SameElems; the reference's Inv. No conditions.
-/
import Derived.Test.YtndmafefpiigoaaZFieldD
namespace Go.Sx
open Go.Proofs
-- SY
-- TY: TYX
set_option maxRecDepth 100000
set_option linter.unusedSimpArgs false
set_option pp.deepTerms true
set_option pp.maxSteps 100000
theorem v_Inv (s : Int) (a : Nat) (ha : a < W256) : Contract Try.prog 106 [.val (.int .i64 s), .val (EN a)] [.val (EN (inv s a)), .val (.int .i64 (eI s a))] := by
  cases srt s with
  | no hk he hm =>
    have e1 : eI s a = 20 := by simp [eI, hk]
    have e2 : inv s a = 0 := by unfold inv; rw [hm, Nat.mod_one]
    rw [e1, e2]
    refine contract_of (N := _) (vars := _) (c := bodyOf Try.f106) Try.func106 (body_eq rfl) rfl rfl (by rfl) mixed _ _ trivial 1000 ?_
    simp only [bodyOf, Try.f106, Option.getD_some, argA, argE, List.length_cons, List.length_nil, Nat.reduceAdd, Nat.reduceSub, List.replicate, List.cons_append, List.nil_append]
    simp only [↓PX, SX, SYX, EY, simprocAttr, TYX]
    repeat (first
      | (refine DrawVC.intro (by kernel_rfl) ?_)
      | exact trivial
      | (refine CallVC.intro (v_Modulus _) ⟨rfl, trivial⟩ rfl rfl ?_; simp only [↓PX, SX, SYX, EY, simprocAttr, TYX, he]))
  | yes hk he _ _ _ F R P h2 =>
    have e0 : mN s = md s := by simp [mN, hk]
    by_cases h : a % md s = 0
    · have e1 : eI s a = 10 := by simp [eI, hk, h]
      have e2 : inv s a = 0 := by unfold inv; rw [Nat.pow_mod, h, Nat.zero_pow (by omega), Nat.zero_mod]
      rw [e1, e2]
      refine contract_of (N := _) (vars := _) (c := bodyOf Try.f106) Try.func106 (body_eq rfl) rfl rfl (by rfl) mixed _ _ trivial 1000 ?_
      simp only [bodyOf, Try.f106, Option.getD_some, argA, argE, List.length_cons, List.length_nil, Nat.reduceAdd, Nat.reduceSub, List.replicate, List.cons_append, List.nil_append]
      simp only [↓PX, SX, SYX, EY, simprocAttr, TYX]
      repeat (first
        | (refine DrawVC.intro (by kernel_rfl) ?_)
        | exact trivial
        | (refine CallVC.intro (v_Modulus _) ⟨rfl, trivial⟩ rfl rfl ?_; simp only [↓PX, SX, SYX, EY, simprocAttr, TYX, he, h])
        | (refine CallVC.intro (v_Of _ _ (by first | assumption | exact md_w _ _ | exact md_w2 (inv_lt _ _) | decide | omega)) ⟨rfl, rfl, trivial⟩ rfl rfl ?_; simp only [↓PX, SX, SYX, EY, simprocAttr, TYX, he, h]))
    · have e1 : eI s a = 0 := by simp [eI, hk, h]
      have e3 : eqN (a % md s) 0 = false := by rw [eqN_eq (md_w s a) (by decide)]; simpa using h
      have e4 : (md s + W256 - 2) % W256 = md s - 2 := sub_of (by have := md_lt s; omega) (by omega)
      have hw : md s < W256 := by have := md_lt s; omega
      have hw2 : md s - 2 < W256 := by omega
      rw [e1]
      unfold inv
      refine contract_of (N := _) (vars := _) (c := bodyOf Try.f106) Try.func106 (body_eq rfl) rfl rfl (by rfl) mixed _ _ trivial 1000 ?_
      simp only [bodyOf, Try.f106, Option.getD_some, argA, argE, List.length_cons, List.length_nil, Nat.reduceAdd, Nat.reduceSub, List.replicate, List.cons_append, List.nil_append]
      simp only [↓PX, SX, SYX, EY, simprocAttr, TYX]
      repeat (first
        | (refine DrawVC.intro (by kernel_rfl) ?_)
        | exact trivial
        | (refine CallVC.intro (v_Modulus _) ⟨rfl, trivial⟩ rfl rfl ?_; simp only [↓PX, SX, SYX, EY, simprocAttr, TYX, he, e3, e0, e4])
        | (refine CallVC.intro (v_Of _ _ (by first | assumption | exact md_w _ _ | exact md_w2 (inv_lt _ _) | decide | omega)) ⟨rfl, rfl, trivial⟩ rfl rfl ?_; simp only [↓PX, SX, SYX, EY, simprocAttr, TYX, he, e3, e0, e4])
        | (refine CallVC.intro (v_Exp _ _ _ (by first | assumption | exact md_w _ _ | exact md_w2 (inv_lt _ _) | decide | omega) (by first | assumption | exact md_w _ _ | exact md_w2 (inv_lt _ _) | decide | omega)) ⟨rfl, rfl, rfl, trivial⟩ rfl rfl ?_; simp only [↓PX, SX, SYX, EY, simprocAttr, TYX, he, e3, e0, e4])
        | (refine CallVC.intro (c_minus _ _ (by first | assumption | exact md_w _ _ | exact md_w2 (inv_lt _ _) | decide | omega) (by first | assumption | exact md_w _ _ | exact md_w2 (inv_lt _ _) | decide | omega)) ⟨rfl, rfl, trivial⟩ rfl rfl ?_; simp only [↓PX, SX, SYX, EY, simprocAttr, TYX, he, e3, e0, e4]))
theorem getD_lt {l : List Nat} {B : Nat} (h : ∀ x ∈ l, x < B) {i : Nat} (hi : i < l.length) : l.getD i 0 < B := by
  have : l.getD i 0 = l[i] := by simp [List.getD, hi]
  rw [this]
  exact h _ (List.getElem_mem hi)
end Go.Sx
