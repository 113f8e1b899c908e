/-
  Walks of the references: below, minus, plus, Modulus, little. No conditions.
-/
import Derived.Test.YtmgheellmllfpaaFldJ
namespace Go.Sx
open Go.Proofs
-- TY: TYX, cellsE, foldE, foldN, cellsN, b_EN
set_option maxRecDepth 100000
set_option linter.unusedSimpArgs false
set_option pp.deepTerms false
set_option pp.deepTerms.threshold 3
theorem c_below (a b : Nat) (ha : a < W256) (hb : b < W256) : Contract Try.prog 55 [.val (EN a), .val (EN b)] [.val (.bool (decide (a < b)))] := by
  obtain ⟨a0, a1, a2, a3, ha0, ha1, ha2, ha3, rfl⟩ := EN_ex ha
  obtain ⟨b0, b1, b2, b3, hb0, hb1, hb2, hb3, rfl⟩ := EN_ex hb
  rw [EN_of ha0 ha1 ha2 ha3 rfl, EN_of hb0 hb1 hb2 hb3 rfl]
  clear ha hb
  obtain ⟨R, hR⟩ : ∃ R : Bool, decide (a0 + 18446744073709551616 * a1 + 340282366920938463463374607431768211456 * a2 + 6277101735386680763835789423207666416102355444464034512896 * a3 < b0 + 18446744073709551616 * b1 + 340282366920938463463374607431768211456 * b2 + 6277101735386680763835789423207666416102355444464034512896 * b3) = R := ⟨_, rfl⟩
  rw [hR]
  refine contract_of (N := _) (vars := _) (c := bodyOf Try.f55) Try.func55 (body_eq rfl) rfl rfl (by rfl) mixed _ _ trivial 1000 ?_
  simp only [bodyOf, Try.f55, Option.getD_some, argA, argE, List.length_cons, List.length_nil, Nat.reduceAdd, Nat.reduceSub, List.replicate, List.cons_append, List.nil_append]
  simp only [SX, simprocAttr, TYX, cellsE, foldE, foldN, cellsN, b_EN]
  refine loop_rounds 5 ?_
  refine RoundsVC.step mixed trivial 1000 ?_
  simp only [SX, simprocAttr, TYX, cellsE, foldE, foldN, cellsN, b_EN]
  refine ⟨by kernel_rfl, ?_⟩
  refine cond_split (fun h3 => ?_) (fun h3 => ?_)
  · have h3 : a3 ≠ b3 := by simpa using h3
    simp only [SX, simprocAttr, TYX, cellsE, foldE, foldN, cellsN, b_EN]
    refine ⟨by kernel_rfl, ?_⟩
    refine congrArg Value.bool ?_
    rw [← hR, Bool.eq_iff_iff]; simp only [decide_eq_true_eq]; omega
  have h3 : a3 = b3 := by simpa using h3
  subst h3
  simp only [SX, simprocAttr, TYX, cellsE, foldE, foldN, cellsN, b_EN]
  refine RoundsVC.step mixed trivial 1000 ?_
  simp only [SX, simprocAttr, TYX, cellsE, foldE, foldN, cellsN, b_EN]
  refine ⟨by kernel_rfl, ?_⟩
  refine cond_split (fun h2 => ?_) (fun h2 => ?_)
  · have h2 : a2 ≠ b2 := by simpa using h2
    simp only [SX, simprocAttr, TYX, cellsE, foldE, foldN, cellsN, b_EN]
    refine ⟨by kernel_rfl, ?_⟩
    refine congrArg Value.bool ?_
    rw [← hR, Bool.eq_iff_iff]; simp only [decide_eq_true_eq]; omega
  have h2 : a2 = b2 := by simpa using h2
  subst h2
  simp only [SX, simprocAttr, TYX, cellsE, foldE, foldN, cellsN, b_EN]
  refine RoundsVC.step mixed trivial 1000 ?_
  simp only [SX, simprocAttr, TYX, cellsE, foldE, foldN, cellsN, b_EN]
  refine ⟨by kernel_rfl, ?_⟩
  refine cond_split (fun h1 => ?_) (fun h1 => ?_)
  · have h1 : a1 ≠ b1 := by simpa using h1
    simp only [SX, simprocAttr, TYX, cellsE, foldE, foldN, cellsN, b_EN]
    refine ⟨by kernel_rfl, ?_⟩
    refine congrArg Value.bool ?_
    rw [← hR, Bool.eq_iff_iff]; simp only [decide_eq_true_eq]; omega
  have h1 : a1 = b1 := by simpa using h1
  subst h1
  simp only [SX, simprocAttr, TYX, cellsE, foldE, foldN, cellsN, b_EN]
  refine RoundsVC.step mixed trivial 1000 ?_
  simp only [SX, simprocAttr, TYX, cellsE, foldE, foldN, cellsN, b_EN]
  refine ⟨by kernel_rfl, ?_⟩
  refine cond_split (fun h0 => ?_) (fun h0 => ?_)
  · have h0 : a0 ≠ b0 := by simpa using h0
    simp only [SX, simprocAttr, TYX, cellsE, foldE, foldN, cellsN, b_EN]
    refine ⟨by kernel_rfl, ?_⟩
    refine congrArg Value.bool ?_
    rw [← hR, Bool.eq_iff_iff]; simp only [decide_eq_true_eq]; omega
  have h0 : a0 = b0 := by simpa using h0
  subst h0
  simp only [SX, simprocAttr, TYX, cellsE, foldE, foldN, cellsN, b_EN]
  refine RoundsVC.step mixed trivial 1000 ?_
  simp only [SX, simprocAttr, TYX, cellsE, foldE, foldN, cellsN, b_EN]
  rw [← hR]
  simp
noncomputable def mB (x y c : Nat) : Nat := if x < y ∨ usub x y < c then 1 else 0
noncomputable def mD (x y c : Nat) : Nat := usub (usub x y) c
theorem m_chain {x y c : Nat} (hx : x < 18446744073709551616) (hy : y < 18446744073709551616) (hc : c ≤ 1) : mD x y c + y + c = x + 18446744073709551616 * mB x y c ∧ mD x y c < 18446744073709551616 ∧ mB x y c ≤ 1 := by
  unfold mD mB
  rw [usub_eq, usub_eq]
  by_cases h : x < y
  · simp only [h, true_or, if_true]; omega
  · by_cases h2 : x - y < c
    · have : (x + (18446744073709551616 - y % 18446744073709551616)) % 18446744073709551616 < c := by omega
      simp only [this, or_true, if_true]; omega
    · have : ¬ (x + (18446744073709551616 - y % 18446744073709551616)) % 18446744073709551616 < c := by omega
      simp only [h, this, or_false, if_false]; omega
theorem C5ex : ∃ f : Nat → Nat → Nat → Nat → Nat → Nat → Nat, ∀ a b c d e, f a b c d e 0 = a ∧ f a b c d e 1 = b ∧ f a b c d e 2 = c ∧ f a b c d e 3 = d ∧ f a b c d e 4 = e :=
  ⟨fun a b c d e k => match k with | 0 => a | 1 => b | 2 => c | 3 => d | _ => e, fun _ _ _ _ _ => ⟨rfl, rfl, rfl, rfl, rfl⟩⟩
noncomputable def C5 : Nat → Nat → Nat → Nat → Nat → Nat → Nat := Classical.choose C5ex
theorem C5_0 (a b c d e : Nat) : C5 a b c d e 0 = a := (Classical.choose_spec C5ex a b c d e).1
theorem C5_1 (a b c d e : Nat) : C5 a b c d e 1 = b := (Classical.choose_spec C5ex a b c d e).2.1
theorem C5_2 (a b c d e : Nat) : C5 a b c d e 2 = c := (Classical.choose_spec C5ex a b c d e).2.2.1
theorem C5_3 (a b c d e : Nat) : C5 a b c d e 3 = d := (Classical.choose_spec C5ex a b c d e).2.2.2.1
theorem C5_4 (a b c d e : Nat) : C5 a b c d e 4 = e := (Classical.choose_spec C5ex a b c d e).2.2.2.2
noncomputable def I5 (k : Nat) : Int := (C5 0 1 2 3 4 k : Int)
theorem I5_0 : I5 0 = 0 := by unfold I5; rw [C5_0]; rfl
theorem I5_1 : I5 1 = 1 := by unfold I5; rw [C5_1]; rfl
theorem I5_2 : I5 2 = 2 := by unfold I5; rw [C5_2]; rfl
theorem I5_3 : I5 3 = 3 := by unfold I5; rw [C5_3]; rfl
theorem I5_4 : I5 4 = 4 := by unfold I5; rw [C5_4]; rfl
theorem c_minus4 (a0 a1 a2 a3 b0 b1 b2 b3 c1 c2 c3 c4 : Nat) (h0 : mB a0 b0 0 = c1) (h1 : mB a1 b1 c1 = c2) (h2 : mB a2 b2 c2 = c3) (h3 : mB a3 b3 c3 = c4) :
    Contract Try.prog 56 [.val (E4 a0 a1 a2 a3), .val (E4 b0 b1 b2 b3)] [.val (E4 (mD a0 b0 0) (mD a1 b1 c1) (mD a2 b2 c2) (mD a3 b3 c3))] := by
  unfold mD
  refine contract_of (N := _) (vars := _) (c := bodyOf Try.f56) Try.func56 (body_eq rfl) rfl rfl (by rfl) mixed _ _ trivial 1000 ?_
  simp only [bodyOf, Try.f56, Option.getD_some, argA, argE, List.length_cons, List.length_nil, Nat.reduceAdd, Nat.reduceSub, List.replicate, List.cons_append, List.nil_append]
  simp only [SX, simprocAttr, TYX, cellsE, foldE, foldN, cellsN, b_EN]
  refine X0 ?_
  simp only [SX, simprocAttr, TYX, cellsE, foldE, foldN, cellsN, b_EN]
  refine loop_inv mixed (by trivial) (γ := Nat) (fun k => ⟨[.o .any, .o .any, .o (.p 2 0), .o (.p 6 0), .o (.p 10 0), .o (.p 18 0), .o (.v (u64 (C5 0 c1 c2 c3 c4 k))), .o (.v (.int .i64 (I5 k))), .o .any, .o .any, .o .any, .o .any, .o .any, .o .any, .o .any, .o .any, .o .any, .o .any, .o .any, .o .any, .o .any, .o .any, .o .any, .o .any, .o .any, .o .any, .o .any, .o .any, .o .any, .o .any, .o .any, .o .any, .o .any, .o .any, .o .any, .o .any, .o .any, .o .any, .o .any],
    [(18, .box [u64 (C5 (L0 0) (usub (usub a0 b0) 0) (usub (usub a0 b0) 0) (usub (usub a0 b0) 0) (usub (usub a0 b0) 0) k), u64 (C5 (L1 0) (L1 0) (usub (usub a1 b1) c1) (usub (usub a1 b1) c1) (usub (usub a1 b1) c1) k), u64 (C5 (L2 0) (L2 0) (L2 0) (usub (usub a2 b2) c2) (usub (usub a2 b2) c2) k), u64 (C5 (L3 0) (L3 0) (L3 0) (L3 0) (usub (usub a3 b3) c3) k)]),
     (10, .box [u64 0, u64 0, u64 0, u64 0]), (6, .box [u64 b0, u64 b1, u64 b2, u64 b3]), (2, .box [u64 a0, u64 a1, u64 a2, u64 a3])], 1000⟩)
    (fun k => k ≤ 4) (fun k => 4 - k) 0 (by decide) (St.le_of id (by simp [Tle, AVle, A0le, Mem.get, C5_0, C5_1, C5_2, C5_3, C5_4, I5_0, I5_1, I5_2, I5_3, I5_4]) (by simp [Mle, Ele, Mem.get, C5_0, C5_1, C5_2, C5_3, C5_4, I5_0, I5_1, I5_2, I5_3, I5_4]) (by simp) (by simp)) 1000 ?_
  intro k hk
  have hk : k = 0 ∨ k = 1 ∨ k = 2 ∨ k = 3 ∨ k = 4 := by omega
  rcases hk with rfl | rfl | rfl | rfl | rfl
  · simp only [SX, simprocAttr, TYX, cellsE, foldE, foldN, cellsN, b_EN, C5_0, C5_1, C5_2, C5_3, C5_4, I5_0, I5_1, I5_2, I5_3, I5_4]
    refine ⟨by kernel_rfl, ?_⟩
    refine ⟨by kernel_rfl, ?_⟩
    refine guard_split (fun hc => ?_) (fun hc => ?_)
    · have hc' : c1 = 1 := by rw [← h0]; unfold mB; simp at hc; simp [hc]
      simp only [SX, simprocAttr, TYX, cellsE, foldE, foldN, cellsN, b_EN, C5_0, C5_1, C5_2, C5_3, C5_4, I5_0, I5_1, I5_2, I5_3, I5_4]
      refine ⟨1, by decide, by decide, (St.le_of id (by simp [Tle, AVle, A0le, Mem.get, C5_0, C5_1, C5_2, C5_3, C5_4, I5_0, I5_1, I5_2, I5_3, I5_4, hc']) (by simp [Mle, Ele, Mem.get, C5_0, C5_1, C5_2, C5_3, C5_4, I5_0, I5_1, I5_2, I5_3, I5_4, hc']) (by simp) (by simp))⟩
    · have hc' : c1 = 0 := by rw [← h0]; unfold mB; simp at hc; simp; omega
      simp only [SX, simprocAttr, TYX, cellsE, foldE, foldN, cellsN, b_EN, C5_0, C5_1, C5_2, C5_3, C5_4, I5_0, I5_1, I5_2, I5_3, I5_4]
      refine ⟨1, by decide, by decide, (St.le_of id (by simp [Tle, AVle, A0le, Mem.get, C5_0, C5_1, C5_2, C5_3, C5_4, I5_0, I5_1, I5_2, I5_3, I5_4, hc']) (by simp [Mle, Ele, Mem.get, C5_0, C5_1, C5_2, C5_3, C5_4, I5_0, I5_1, I5_2, I5_3, I5_4, hc']) (by simp) (by simp))⟩
  · simp only [SX, simprocAttr, TYX, cellsE, foldE, foldN, cellsN, b_EN, C5_0, C5_1, C5_2, C5_3, C5_4, I5_0, I5_1, I5_2, I5_3, I5_4]
    refine ⟨by kernel_rfl, ?_⟩
    refine ⟨by kernel_rfl, ?_⟩
    refine guard_split (fun hc => ?_) (fun hc => ?_)
    · have hc' : c2 = 1 := by rw [← h1]; unfold mB; simp at hc; simp [hc]
      simp only [SX, simprocAttr, TYX, cellsE, foldE, foldN, cellsN, b_EN, C5_0, C5_1, C5_2, C5_3, C5_4, I5_0, I5_1, I5_2, I5_3, I5_4]
      refine ⟨2, by decide, by decide, (St.le_of id (by simp [Tle, AVle, A0le, Mem.get, C5_0, C5_1, C5_2, C5_3, C5_4, I5_0, I5_1, I5_2, I5_3, I5_4, hc']) (by simp [Mle, Ele, Mem.get, C5_0, C5_1, C5_2, C5_3, C5_4, I5_0, I5_1, I5_2, I5_3, I5_4, hc']) (by simp) (by simp))⟩
    · simp only [SX, simprocAttr, TYX, cellsE, foldE, foldN, cellsN, b_EN, C5_0, C5_1, C5_2, C5_3, C5_4, I5_0, I5_1, I5_2, I5_3, I5_4]
      refine cond_split (fun hd => ?_) (fun hd => ?_)
      · have hc' : c2 = 1 := by rw [← h1]; unfold mB; simp at hd; simp [hd]
        simp only [SX, simprocAttr, TYX, cellsE, foldE, foldN, cellsN, b_EN, C5_0, C5_1, C5_2, C5_3, C5_4, I5_0, I5_1, I5_2, I5_3, I5_4]
        refine ⟨2, by decide, by decide, (St.le_of id (by simp [Tle, AVle, A0le, Mem.get, C5_0, C5_1, C5_2, C5_3, C5_4, I5_0, I5_1, I5_2, I5_3, I5_4, hc']) (by simp [Mle, Ele, Mem.get, C5_0, C5_1, C5_2, C5_3, C5_4, I5_0, I5_1, I5_2, I5_3, I5_4, hc']) (by simp) (by simp))⟩
      · have hc' : c2 = 0 := by rw [← h1]; unfold mB; simp at hc hd; simp; omega
        simp only [SX, simprocAttr, TYX, cellsE, foldE, foldN, cellsN, b_EN, C5_0, C5_1, C5_2, C5_3, C5_4, I5_0, I5_1, I5_2, I5_3, I5_4]
        refine ⟨2, by decide, by decide, (St.le_of id (by simp [Tle, AVle, A0le, Mem.get, C5_0, C5_1, C5_2, C5_3, C5_4, I5_0, I5_1, I5_2, I5_3, I5_4, hc']) (by simp [Mle, Ele, Mem.get, C5_0, C5_1, C5_2, C5_3, C5_4, I5_0, I5_1, I5_2, I5_3, I5_4, hc']) (by simp) (by simp))⟩
  · simp only [SX, simprocAttr, TYX, cellsE, foldE, foldN, cellsN, b_EN, C5_0, C5_1, C5_2, C5_3, C5_4, I5_0, I5_1, I5_2, I5_3, I5_4]
    refine ⟨by kernel_rfl, ?_⟩
    refine ⟨by kernel_rfl, ?_⟩
    refine guard_split (fun hc => ?_) (fun hc => ?_)
    · have hc' : c3 = 1 := by rw [← h2]; unfold mB; simp at hc; simp [hc]
      simp only [SX, simprocAttr, TYX, cellsE, foldE, foldN, cellsN, b_EN, C5_0, C5_1, C5_2, C5_3, C5_4, I5_0, I5_1, I5_2, I5_3, I5_4]
      refine ⟨3, by decide, by decide, (St.le_of id (by simp [Tle, AVle, A0le, Mem.get, C5_0, C5_1, C5_2, C5_3, C5_4, I5_0, I5_1, I5_2, I5_3, I5_4, hc']) (by simp [Mle, Ele, Mem.get, C5_0, C5_1, C5_2, C5_3, C5_4, I5_0, I5_1, I5_2, I5_3, I5_4, hc']) (by simp) (by simp))⟩
    · simp only [SX, simprocAttr, TYX, cellsE, foldE, foldN, cellsN, b_EN, C5_0, C5_1, C5_2, C5_3, C5_4, I5_0, I5_1, I5_2, I5_3, I5_4]
      refine cond_split (fun hd => ?_) (fun hd => ?_)
      · have hc' : c3 = 1 := by rw [← h2]; unfold mB; simp at hd; simp [hd]
        simp only [SX, simprocAttr, TYX, cellsE, foldE, foldN, cellsN, b_EN, C5_0, C5_1, C5_2, C5_3, C5_4, I5_0, I5_1, I5_2, I5_3, I5_4]
        refine ⟨3, by decide, by decide, (St.le_of id (by simp [Tle, AVle, A0le, Mem.get, C5_0, C5_1, C5_2, C5_3, C5_4, I5_0, I5_1, I5_2, I5_3, I5_4, hc']) (by simp [Mle, Ele, Mem.get, C5_0, C5_1, C5_2, C5_3, C5_4, I5_0, I5_1, I5_2, I5_3, I5_4, hc']) (by simp) (by simp))⟩
      · have hc' : c3 = 0 := by rw [← h2]; unfold mB; simp at hc hd; simp; omega
        simp only [SX, simprocAttr, TYX, cellsE, foldE, foldN, cellsN, b_EN, C5_0, C5_1, C5_2, C5_3, C5_4, I5_0, I5_1, I5_2, I5_3, I5_4]
        refine ⟨3, by decide, by decide, (St.le_of id (by simp [Tle, AVle, A0le, Mem.get, C5_0, C5_1, C5_2, C5_3, C5_4, I5_0, I5_1, I5_2, I5_3, I5_4, hc']) (by simp [Mle, Ele, Mem.get, C5_0, C5_1, C5_2, C5_3, C5_4, I5_0, I5_1, I5_2, I5_3, I5_4, hc']) (by simp) (by simp))⟩
  · simp only [SX, simprocAttr, TYX, cellsE, foldE, foldN, cellsN, b_EN, C5_0, C5_1, C5_2, C5_3, C5_4, I5_0, I5_1, I5_2, I5_3, I5_4]
    refine ⟨by kernel_rfl, ?_⟩
    refine ⟨by kernel_rfl, ?_⟩
    refine guard_split (fun hc => ?_) (fun hc => ?_)
    · have hc' : c4 = 1 := by rw [← h3]; unfold mB; simp at hc; simp [hc]
      simp only [SX, simprocAttr, TYX, cellsE, foldE, foldN, cellsN, b_EN, C5_0, C5_1, C5_2, C5_3, C5_4, I5_0, I5_1, I5_2, I5_3, I5_4]
      refine ⟨4, by decide, by decide, (St.le_of id (by simp [Tle, AVle, A0le, Mem.get, C5_0, C5_1, C5_2, C5_3, C5_4, I5_0, I5_1, I5_2, I5_3, I5_4, hc']) (by simp [Mle, Ele, Mem.get, C5_0, C5_1, C5_2, C5_3, C5_4, I5_0, I5_1, I5_2, I5_3, I5_4, hc']) (by simp) (by simp))⟩
    · simp only [SX, simprocAttr, TYX, cellsE, foldE, foldN, cellsN, b_EN, C5_0, C5_1, C5_2, C5_3, C5_4, I5_0, I5_1, I5_2, I5_3, I5_4]
      refine cond_split (fun hd => ?_) (fun hd => ?_)
      · have hc' : c4 = 1 := by rw [← h3]; unfold mB; simp at hd; simp [hd]
        simp only [SX, simprocAttr, TYX, cellsE, foldE, foldN, cellsN, b_EN, C5_0, C5_1, C5_2, C5_3, C5_4, I5_0, I5_1, I5_2, I5_3, I5_4]
        refine ⟨4, by decide, by decide, (St.le_of id (by simp [Tle, AVle, A0le, Mem.get, C5_0, C5_1, C5_2, C5_3, C5_4, I5_0, I5_1, I5_2, I5_3, I5_4, hc']) (by simp [Mle, Ele, Mem.get, C5_0, C5_1, C5_2, C5_3, C5_4, I5_0, I5_1, I5_2, I5_3, I5_4, hc']) (by simp) (by simp))⟩
      · have hc' : c4 = 0 := by rw [← h3]; unfold mB; simp at hc hd; simp; omega
        simp only [SX, simprocAttr, TYX, cellsE, foldE, foldN, cellsN, b_EN, C5_0, C5_1, C5_2, C5_3, C5_4, I5_0, I5_1, I5_2, I5_3, I5_4]
        refine ⟨4, by decide, by decide, (St.le_of id (by simp [Tle, AVle, A0le, Mem.get, C5_0, C5_1, C5_2, C5_3, C5_4, I5_0, I5_1, I5_2, I5_3, I5_4, hc']) (by simp [Mle, Ele, Mem.get, C5_0, C5_1, C5_2, C5_3, C5_4, I5_0, I5_1, I5_2, I5_3, I5_4, hc']) (by simp) (by simp))⟩
  · simp only [SX, simprocAttr, TYX, cellsE, foldE, foldN, cellsN, b_EN, C5_0, C5_1, C5_2, C5_3, C5_4, I5_0, I5_1, I5_2, I5_3, I5_4]
noncomputable def pB (x y c : Nat) : Nat := if uadd x y < x ∨ uadd (uadd x y) c < uadd x y then 1 else 0
noncomputable def pD (x y c : Nat) : Nat := uadd (uadd x y) c
theorem p_chain {x y c : Nat} (hx : x < 18446744073709551616) (hy : y < 18446744073709551616) (hc : c ≤ 1) : pD x y c + 18446744073709551616 * pB x y c = x + y + c ∧ pD x y c < 18446744073709551616 ∧ pB x y c ≤ 1 := by
  unfold pD pB
  rw [uadd_eq, uadd_eq]
  by_cases h : x + y < 18446744073709551616
  · have e : (x + y) % 18446744073709551616 = x + y := Nat.mod_eq_of_lt h
    rw [e]
    have : ¬ x + y < x := by omega
    by_cases h2 : x + y + c < 18446744073709551616
    · have : ¬ (x + y + c) % 18446744073709551616 < x + y := by omega
      simp only [*, or_self, if_false]; omega
    · have : (x + y + c) % 18446744073709551616 < x + y := by omega
      simp only [*, or_true, if_true]; omega
  · have : (x + y) % 18446744073709551616 < x := by omega
    simp only [this, true_or, if_true]; omega
theorem c_plus4 (a0 a1 a2 a3 b0 b1 b2 b3 c1 c2 c3 c4 : Nat) (h0 : pB a0 b0 0 = c1) (h1 : pB a1 b1 c1 = c2) (h2 : pB a2 b2 c2 = c3) (h3 : pB a3 b3 c3 = c4) :
    Contract Try.prog 54 [.val (E4 a0 a1 a2 a3), .val (E4 b0 b1 b2 b3)] [.val (E4 (pD a0 b0 0) (pD a1 b1 c1) (pD a2 b2 c2) (pD a3 b3 c3))] := by
  unfold pD
  refine contract_of (N := _) (vars := _) (c := bodyOf Try.f54) Try.func54 (body_eq rfl) rfl rfl (by rfl) mixed _ _ trivial 1000 ?_
  simp only [bodyOf, Try.f54, Option.getD_some, argA, argE, List.length_cons, List.length_nil, Nat.reduceAdd, Nat.reduceSub, List.replicate, List.cons_append, List.nil_append]
  simp only [SX, simprocAttr, TYX, cellsE, foldE, foldN, cellsN, b_EN]
  refine X0 ?_
  simp only [SX, simprocAttr, TYX, cellsE, foldE, foldN, cellsN, b_EN]
  refine loop_inv mixed (by trivial) (γ := Nat) (fun k => ⟨[.o .any, .o .any, .o (.p 2 0), .o (.p 6 0), .o (.p 10 0), .o (.p 18 0), .o (.v (u64 (C5 0 c1 c2 c3 c4 k))), .o (.v (.int .i64 (I5 k))), .o .any, .o .any, .o .any, .o .any, .o .any, .o .any, .o .any, .o .any, .o .any, .o .any, .o .any, .o .any, .o .any, .o .any, .o .any, .o .any, .o .any, .o .any, .o .any, .o .any, .o .any, .o .any, .o .any, .o .any, .o .any, .o .any, .o .any, .o .any, .o .any, .o .any, .o .any],
    [(18, .box [u64 (C5 (L0 0) (uadd (uadd a0 b0) 0) (uadd (uadd a0 b0) 0) (uadd (uadd a0 b0) 0) (uadd (uadd a0 b0) 0) k), u64 (C5 (L1 0) (L1 0) (uadd (uadd a1 b1) c1) (uadd (uadd a1 b1) c1) (uadd (uadd a1 b1) c1) k), u64 (C5 (L2 0) (L2 0) (L2 0) (uadd (uadd a2 b2) c2) (uadd (uadd a2 b2) c2) k), u64 (C5 (L3 0) (L3 0) (L3 0) (L3 0) (uadd (uadd a3 b3) c3) k)]),
     (10, .box [u64 0, u64 0, u64 0, u64 0]), (6, .box [u64 b0, u64 b1, u64 b2, u64 b3]), (2, .box [u64 a0, u64 a1, u64 a2, u64 a3])], 1000⟩)
    (fun k => k ≤ 4) (fun k => 4 - k) 0 (by decide) (St.le_of id (by simp [Tle, AVle, A0le, Mem.get, C5_0, C5_1, C5_2, C5_3, C5_4, I5_0, I5_1, I5_2, I5_3, I5_4]) (by simp [Mle, Ele, Mem.get, C5_0, C5_1, C5_2, C5_3, C5_4, I5_0, I5_1, I5_2, I5_3, I5_4]) (by simp) (by simp)) 1000 ?_
  intro k hk
  have hk : k = 0 ∨ k = 1 ∨ k = 2 ∨ k = 3 ∨ k = 4 := by omega
  rcases hk with rfl | rfl | rfl | rfl | rfl
  · simp only [SX, simprocAttr, TYX, cellsE, foldE, foldN, cellsN, b_EN, C5_0, C5_1, C5_2, C5_3, C5_4, I5_0, I5_1, I5_2, I5_3, I5_4]
    refine ⟨by kernel_rfl, ?_⟩
    refine guard_split (fun hc => ?_) (fun hc => ?_)
    · have hc' : c1 = 1 := by rw [← h0]; unfold pB; simp at hc; simp [hc]
      simp only [SX, simprocAttr, TYX, cellsE, foldE, foldN, cellsN, b_EN, C5_0, C5_1, C5_2, C5_3, C5_4, I5_0, I5_1, I5_2, I5_3, I5_4]
      refine ⟨1, by decide, by decide, (St.le_of id (by simp [Tle, AVle, A0le, Mem.get, C5_0, C5_1, C5_2, C5_3, C5_4, I5_0, I5_1, I5_2, I5_3, I5_4, hc']) (by simp [Mle, Ele, Mem.get, C5_0, C5_1, C5_2, C5_3, C5_4, I5_0, I5_1, I5_2, I5_3, I5_4, hc']) (by simp) (by simp))⟩
    · simp only [SX, simprocAttr, TYX, cellsE, foldE, foldN, cellsN, b_EN, C5_0, C5_1, C5_2, C5_3, C5_4, I5_0, I5_1, I5_2, I5_3, I5_4]
      refine cond_split (fun hd => ?_) (fun hd => ?_)
      · have hc' : c1 = 1 := by rw [← h0]; unfold pB; simp at hd; simp [hd]
        simp only [SX, simprocAttr, TYX, cellsE, foldE, foldN, cellsN, b_EN, C5_0, C5_1, C5_2, C5_3, C5_4, I5_0, I5_1, I5_2, I5_3, I5_4]
        refine ⟨1, by decide, by decide, (St.le_of id (by simp [Tle, AVle, A0le, Mem.get, C5_0, C5_1, C5_2, C5_3, C5_4, I5_0, I5_1, I5_2, I5_3, I5_4, hc']) (by simp [Mle, Ele, Mem.get, C5_0, C5_1, C5_2, C5_3, C5_4, I5_0, I5_1, I5_2, I5_3, I5_4, hc']) (by simp) (by simp))⟩
      · have hc' : c1 = 0 := by rw [← h0]; unfold pB; simp at hc hd; simp; omega
        simp only [SX, simprocAttr, TYX, cellsE, foldE, foldN, cellsN, b_EN, C5_0, C5_1, C5_2, C5_3, C5_4, I5_0, I5_1, I5_2, I5_3, I5_4]
        refine ⟨1, by decide, by decide, (St.le_of id (by simp [Tle, AVle, A0le, Mem.get, C5_0, C5_1, C5_2, C5_3, C5_4, I5_0, I5_1, I5_2, I5_3, I5_4, hc']) (by simp [Mle, Ele, Mem.get, C5_0, C5_1, C5_2, C5_3, C5_4, I5_0, I5_1, I5_2, I5_3, I5_4, hc']) (by simp) (by simp))⟩
  · simp only [SX, simprocAttr, TYX, cellsE, foldE, foldN, cellsN, b_EN, C5_0, C5_1, C5_2, C5_3, C5_4, I5_0, I5_1, I5_2, I5_3, I5_4]
    refine ⟨by kernel_rfl, ?_⟩
    refine guard_split (fun hc => ?_) (fun hc => ?_)
    · have hc' : c2 = 1 := by rw [← h1]; unfold pB; simp at hc; simp [hc]
      simp only [SX, simprocAttr, TYX, cellsE, foldE, foldN, cellsN, b_EN, C5_0, C5_1, C5_2, C5_3, C5_4, I5_0, I5_1, I5_2, I5_3, I5_4]
      refine ⟨2, by decide, by decide, (St.le_of id (by simp [Tle, AVle, A0le, Mem.get, C5_0, C5_1, C5_2, C5_3, C5_4, I5_0, I5_1, I5_2, I5_3, I5_4, hc']) (by simp [Mle, Ele, Mem.get, C5_0, C5_1, C5_2, C5_3, C5_4, I5_0, I5_1, I5_2, I5_3, I5_4, hc']) (by simp) (by simp))⟩
    · simp only [SX, simprocAttr, TYX, cellsE, foldE, foldN, cellsN, b_EN, C5_0, C5_1, C5_2, C5_3, C5_4, I5_0, I5_1, I5_2, I5_3, I5_4]
      refine cond_split (fun hd => ?_) (fun hd => ?_)
      · have hc' : c2 = 1 := by rw [← h1]; unfold pB; simp at hd; simp [hd]
        simp only [SX, simprocAttr, TYX, cellsE, foldE, foldN, cellsN, b_EN, C5_0, C5_1, C5_2, C5_3, C5_4, I5_0, I5_1, I5_2, I5_3, I5_4]
        refine ⟨2, by decide, by decide, (St.le_of id (by simp [Tle, AVle, A0le, Mem.get, C5_0, C5_1, C5_2, C5_3, C5_4, I5_0, I5_1, I5_2, I5_3, I5_4, hc']) (by simp [Mle, Ele, Mem.get, C5_0, C5_1, C5_2, C5_3, C5_4, I5_0, I5_1, I5_2, I5_3, I5_4, hc']) (by simp) (by simp))⟩
      · have hc' : c2 = 0 := by rw [← h1]; unfold pB; simp at hc hd; simp; omega
        simp only [SX, simprocAttr, TYX, cellsE, foldE, foldN, cellsN, b_EN, C5_0, C5_1, C5_2, C5_3, C5_4, I5_0, I5_1, I5_2, I5_3, I5_4]
        refine ⟨2, by decide, by decide, (St.le_of id (by simp [Tle, AVle, A0le, Mem.get, C5_0, C5_1, C5_2, C5_3, C5_4, I5_0, I5_1, I5_2, I5_3, I5_4, hc']) (by simp [Mle, Ele, Mem.get, C5_0, C5_1, C5_2, C5_3, C5_4, I5_0, I5_1, I5_2, I5_3, I5_4, hc']) (by simp) (by simp))⟩
  · simp only [SX, simprocAttr, TYX, cellsE, foldE, foldN, cellsN, b_EN, C5_0, C5_1, C5_2, C5_3, C5_4, I5_0, I5_1, I5_2, I5_3, I5_4]
    refine ⟨by kernel_rfl, ?_⟩
    refine guard_split (fun hc => ?_) (fun hc => ?_)
    · have hc' : c3 = 1 := by rw [← h2]; unfold pB; simp at hc; simp [hc]
      simp only [SX, simprocAttr, TYX, cellsE, foldE, foldN, cellsN, b_EN, C5_0, C5_1, C5_2, C5_3, C5_4, I5_0, I5_1, I5_2, I5_3, I5_4]
      refine ⟨3, by decide, by decide, (St.le_of id (by simp [Tle, AVle, A0le, Mem.get, C5_0, C5_1, C5_2, C5_3, C5_4, I5_0, I5_1, I5_2, I5_3, I5_4, hc']) (by simp [Mle, Ele, Mem.get, C5_0, C5_1, C5_2, C5_3, C5_4, I5_0, I5_1, I5_2, I5_3, I5_4, hc']) (by simp) (by simp))⟩
    · simp only [SX, simprocAttr, TYX, cellsE, foldE, foldN, cellsN, b_EN, C5_0, C5_1, C5_2, C5_3, C5_4, I5_0, I5_1, I5_2, I5_3, I5_4]
      refine cond_split (fun hd => ?_) (fun hd => ?_)
      · have hc' : c3 = 1 := by rw [← h2]; unfold pB; simp at hd; simp [hd]
        simp only [SX, simprocAttr, TYX, cellsE, foldE, foldN, cellsN, b_EN, C5_0, C5_1, C5_2, C5_3, C5_4, I5_0, I5_1, I5_2, I5_3, I5_4]
        refine ⟨3, by decide, by decide, (St.le_of id (by simp [Tle, AVle, A0le, Mem.get, C5_0, C5_1, C5_2, C5_3, C5_4, I5_0, I5_1, I5_2, I5_3, I5_4, hc']) (by simp [Mle, Ele, Mem.get, C5_0, C5_1, C5_2, C5_3, C5_4, I5_0, I5_1, I5_2, I5_3, I5_4, hc']) (by simp) (by simp))⟩
      · have hc' : c3 = 0 := by rw [← h2]; unfold pB; simp at hc hd; simp; omega
        simp only [SX, simprocAttr, TYX, cellsE, foldE, foldN, cellsN, b_EN, C5_0, C5_1, C5_2, C5_3, C5_4, I5_0, I5_1, I5_2, I5_3, I5_4]
        refine ⟨3, by decide, by decide, (St.le_of id (by simp [Tle, AVle, A0le, Mem.get, C5_0, C5_1, C5_2, C5_3, C5_4, I5_0, I5_1, I5_2, I5_3, I5_4, hc']) (by simp [Mle, Ele, Mem.get, C5_0, C5_1, C5_2, C5_3, C5_4, I5_0, I5_1, I5_2, I5_3, I5_4, hc']) (by simp) (by simp))⟩
  · simp only [SX, simprocAttr, TYX, cellsE, foldE, foldN, cellsN, b_EN, C5_0, C5_1, C5_2, C5_3, C5_4, I5_0, I5_1, I5_2, I5_3, I5_4]
    refine ⟨by kernel_rfl, ?_⟩
    refine guard_split (fun hc => ?_) (fun hc => ?_)
    · have hc' : c4 = 1 := by rw [← h3]; unfold pB; simp at hc; simp [hc]
      simp only [SX, simprocAttr, TYX, cellsE, foldE, foldN, cellsN, b_EN, C5_0, C5_1, C5_2, C5_3, C5_4, I5_0, I5_1, I5_2, I5_3, I5_4]
      refine ⟨4, by decide, by decide, (St.le_of id (by simp [Tle, AVle, A0le, Mem.get, C5_0, C5_1, C5_2, C5_3, C5_4, I5_0, I5_1, I5_2, I5_3, I5_4, hc']) (by simp [Mle, Ele, Mem.get, C5_0, C5_1, C5_2, C5_3, C5_4, I5_0, I5_1, I5_2, I5_3, I5_4, hc']) (by simp) (by simp))⟩
    · simp only [SX, simprocAttr, TYX, cellsE, foldE, foldN, cellsN, b_EN, C5_0, C5_1, C5_2, C5_3, C5_4, I5_0, I5_1, I5_2, I5_3, I5_4]
      refine cond_split (fun hd => ?_) (fun hd => ?_)
      · have hc' : c4 = 1 := by rw [← h3]; unfold pB; simp at hd; simp [hd]
        simp only [SX, simprocAttr, TYX, cellsE, foldE, foldN, cellsN, b_EN, C5_0, C5_1, C5_2, C5_3, C5_4, I5_0, I5_1, I5_2, I5_3, I5_4]
        refine ⟨4, by decide, by decide, (St.le_of id (by simp [Tle, AVle, A0le, Mem.get, C5_0, C5_1, C5_2, C5_3, C5_4, I5_0, I5_1, I5_2, I5_3, I5_4, hc']) (by simp [Mle, Ele, Mem.get, C5_0, C5_1, C5_2, C5_3, C5_4, I5_0, I5_1, I5_2, I5_3, I5_4, hc']) (by simp) (by simp))⟩
      · have hc' : c4 = 0 := by rw [← h3]; unfold pB; simp at hc hd; simp; omega
        simp only [SX, simprocAttr, TYX, cellsE, foldE, foldN, cellsN, b_EN, C5_0, C5_1, C5_2, C5_3, C5_4, I5_0, I5_1, I5_2, I5_3, I5_4]
        refine ⟨4, by decide, by decide, (St.le_of id (by simp [Tle, AVle, A0le, Mem.get, C5_0, C5_1, C5_2, C5_3, C5_4, I5_0, I5_1, I5_2, I5_3, I5_4, hc']) (by simp [Mle, Ele, Mem.get, C5_0, C5_1, C5_2, C5_3, C5_4, I5_0, I5_1, I5_2, I5_3, I5_4, hc']) (by simp) (by simp))⟩
  · simp only [SX, simprocAttr, TYX, cellsE, foldE, foldN, cellsN, b_EN, C5_0, C5_1, C5_2, C5_3, C5_4, I5_0, I5_1, I5_2, I5_3, I5_4]
end Go.Sx
