/-
  sigilref01: minus. No conditions.
-/
import Derived.Test.YtmgheellmllfpaaZBeo
namespace Go.Sx
open Go.Proofs Go.Num
-- SY
-- TY: TYX
set_option maxRecDepth 100000
set_option linter.unusedSimpArgs false
set_option pp.deepTerms true
set_option pp.maxSteps 100000
theorem c_less4 (a0 a1 a2 a3 b0 b1 b2 b3 c1 c2 c3 c4 : Nat) (h0 : mB a0 b0 0 = c1) (h1 : mB a1 b1 c1 = c2) (h2 : mB a2 b2 c2 = c3) (h3 : mB a3 b3 c3 = c4) :
    Contract Try.prog 79 [.val (E4 a0 a1 a2 a3), .val (E4 b0 b1 b2 b3)] [.val (E4 (mD a0 b0 0) (mD a1 b1 c1) (mD a2 b2 c2) (mD a3 b3 c3))] := by
  unfold mD
  refine contract_of (N := _) (vars := _) (c := bodyOf Try.f79) Try.func79 (body_eq rfl) rfl rfl (by rfl) mixed _ _ trivial 1000 ?_
  simp only [bodyOf, Try.f79, Option.getD_some, argA, argE, List.length_cons, List.length_nil, Nat.reduceAdd, Nat.reduceSub, List.replicate, List.cons_append, List.nil_append]
  simp only [↓PX, SX, SYX, EY, simprocAttr, TYX]
  refine loop_hav ?_
  simp only [↓PX, SX, SYX, EY, simprocAttr, TYX]
  refine loop_go mixed (by trivial) (γ := Nat) (fun k => k ≤ 4) (fun k => 4 - k) (fun k => [(6, .o (.v (u64 (C5 0 c1 c2 c3 c4 k)))), (7, .o (.v (.int .i64 (I5 k))))]) (fun k => [(18, .box [u64 (C5 (L0 0) (usub (usub a0 b0) 0) (usub (usub a0 b0) 0) (usub (usub a0 b0) 0) (usub (usub a0 b0) 0) k), u64 (C5 (L1 0) (L1 0) (usub (usub a1 b1) c1) (usub (usub a1 b1) c1) (usub (usub a1 b1) c1) k), u64 (C5 (L2 0) (L2 0) (L2 0) (usub (usub a2 b2) c2) (usub (usub a2 b2) c2) k), u64 (C5 (L3 0) (L3 0) (L3 0) (L3 0) (usub (usub a3 b3) c3) k)])]) 0 (by decide) (St.le_of id (by simp [-List.getD_eq_getElem?_getD, SYX, iv, Tle, AVle, A0le, Mem.get, C5_0, C5_1, C5_2, C5_3, C5_4, I5_0, I5_1, I5_2, I5_3, I5_4]) (by simp [-List.getD_eq_getElem?_getD, SYX, Mle, Ele, Mem.get, C5_0, C5_1, C5_2, C5_3, C5_4, I5_0, I5_1, I5_2, I5_3, I5_4]) (by simp [SYX]) (by simp [SYX])) ?_
  intro k hk
  have hk : k = 0 ∨ k = 1 ∨ k = 2 ∨ k = 3 ∨ k = 4 := by omega
  rcases hk with rfl | rfl | rfl | rfl | rfl
  · simp only [↓PX, SX, SYX, EY, simprocAttr, TYX, C5_0, C5_1, C5_2, C5_3, C5_4, I5_0, I5_1, I5_2, I5_3, I5_4]
    repeat (first | refine DrawVC.intro (by kernel_rfl) ?_ | refine And.intro (by omega) ?_ | exact trivial)
    refine guard_split (fun hc => ?_) (fun hc => ?_)
    · have hc' : c1 = 1 := by rw [← h0]; unfold mB; simp at hc; simp [hc]
      simp only [↓PX, SX, SYX, EY, simprocAttr, TYX, C5_0, C5_1, C5_2, C5_3, C5_4, I5_0, I5_1, I5_2, I5_3, I5_4]
      exact ⟨1, by decide, by decide, (St.le_of id (by simp [-List.getD_eq_getElem?_getD, SYX, iv, Tle, AVle, A0le, Mem.get, C5_0, C5_1, C5_2, C5_3, C5_4, I5_0, I5_1, I5_2, I5_3, I5_4, hc']) (by simp [-List.getD_eq_getElem?_getD, SYX, Mle, Ele, Mem.get, C5_0, C5_1, C5_2, C5_3, C5_4, I5_0, I5_1, I5_2, I5_3, I5_4, hc']) (by simp [SYX]) (by simp [SYX]))⟩
    · have hc' : c1 = 0 := by rw [← h0]; unfold mB; simp at hc; simp; omega
      simp only [↓PX, SX, SYX, EY, simprocAttr, TYX, C5_0, C5_1, C5_2, C5_3, C5_4, I5_0, I5_1, I5_2, I5_3, I5_4]
      exact ⟨1, by decide, by decide, (St.le_of id (by simp [-List.getD_eq_getElem?_getD, SYX, iv, Tle, AVle, A0le, Mem.get, C5_0, C5_1, C5_2, C5_3, C5_4, I5_0, I5_1, I5_2, I5_3, I5_4, hc']) (by simp [-List.getD_eq_getElem?_getD, SYX, Mle, Ele, Mem.get, C5_0, C5_1, C5_2, C5_3, C5_4, I5_0, I5_1, I5_2, I5_3, I5_4, hc']) (by simp [SYX]) (by simp [SYX]))⟩
  · simp only [↓PX, SX, SYX, EY, simprocAttr, TYX, C5_0, C5_1, C5_2, C5_3, C5_4, I5_0, I5_1, I5_2, I5_3, I5_4]
    repeat (first | refine DrawVC.intro (by kernel_rfl) ?_ | refine And.intro (by omega) ?_ | exact trivial)
    refine guard_split (fun hc => ?_) (fun hc => ?_)
    · have hc' : c2 = 1 := by rw [← h1]; unfold mB; simp at hc; simp [hc]
      simp only [↓PX, SX, SYX, EY, simprocAttr, TYX, C5_0, C5_1, C5_2, C5_3, C5_4, I5_0, I5_1, I5_2, I5_3, I5_4]
      exact ⟨2, by decide, by decide, (St.le_of id (by simp [-List.getD_eq_getElem?_getD, SYX, iv, Tle, AVle, A0le, Mem.get, C5_0, C5_1, C5_2, C5_3, C5_4, I5_0, I5_1, I5_2, I5_3, I5_4, hc']) (by simp [-List.getD_eq_getElem?_getD, SYX, Mle, Ele, Mem.get, C5_0, C5_1, C5_2, C5_3, C5_4, I5_0, I5_1, I5_2, I5_3, I5_4, hc']) (by simp [SYX]) (by simp [SYX]))⟩
    · simp only [↓PX, SX, SYX, EY, simprocAttr, TYX, C5_0, C5_1, C5_2, C5_3, C5_4, I5_0, I5_1, I5_2, I5_3, I5_4]
      refine cond_split (fun hd => ?_) (fun hd => ?_)
      · have hc' : c2 = 1 := by rw [← h1]; unfold mB; simp at hd; simp [hd]
        simp only [↓PX, SX, SYX, EY, simprocAttr, TYX, C5_0, C5_1, C5_2, C5_3, C5_4, I5_0, I5_1, I5_2, I5_3, I5_4]
        exact ⟨2, by decide, by decide, (St.le_of id (by simp [-List.getD_eq_getElem?_getD, SYX, iv, Tle, AVle, A0le, Mem.get, C5_0, C5_1, C5_2, C5_3, C5_4, I5_0, I5_1, I5_2, I5_3, I5_4, hc']) (by simp [-List.getD_eq_getElem?_getD, SYX, Mle, Ele, Mem.get, C5_0, C5_1, C5_2, C5_3, C5_4, I5_0, I5_1, I5_2, I5_3, I5_4, hc']) (by simp [SYX]) (by simp [SYX]))⟩
      · have hc' : c2 = 0 := by rw [← h1]; unfold mB; simp at hc hd; simp; omega
        simp only [↓PX, SX, SYX, EY, simprocAttr, TYX, C5_0, C5_1, C5_2, C5_3, C5_4, I5_0, I5_1, I5_2, I5_3, I5_4]
        exact ⟨2, by decide, by decide, (St.le_of id (by simp [-List.getD_eq_getElem?_getD, SYX, iv, Tle, AVle, A0le, Mem.get, C5_0, C5_1, C5_2, C5_3, C5_4, I5_0, I5_1, I5_2, I5_3, I5_4, hc']) (by simp [-List.getD_eq_getElem?_getD, SYX, Mle, Ele, Mem.get, C5_0, C5_1, C5_2, C5_3, C5_4, I5_0, I5_1, I5_2, I5_3, I5_4, hc']) (by simp [SYX]) (by simp [SYX]))⟩
  · simp only [↓PX, SX, SYX, EY, simprocAttr, TYX, C5_0, C5_1, C5_2, C5_3, C5_4, I5_0, I5_1, I5_2, I5_3, I5_4]
    repeat (first | refine DrawVC.intro (by kernel_rfl) ?_ | refine And.intro (by omega) ?_ | exact trivial)
    refine guard_split (fun hc => ?_) (fun hc => ?_)
    · have hc' : c3 = 1 := by rw [← h2]; unfold mB; simp at hc; simp [hc]
      simp only [↓PX, SX, SYX, EY, simprocAttr, TYX, C5_0, C5_1, C5_2, C5_3, C5_4, I5_0, I5_1, I5_2, I5_3, I5_4]
      exact ⟨3, by decide, by decide, (St.le_of id (by simp [-List.getD_eq_getElem?_getD, SYX, iv, Tle, AVle, A0le, Mem.get, C5_0, C5_1, C5_2, C5_3, C5_4, I5_0, I5_1, I5_2, I5_3, I5_4, hc']) (by simp [-List.getD_eq_getElem?_getD, SYX, Mle, Ele, Mem.get, C5_0, C5_1, C5_2, C5_3, C5_4, I5_0, I5_1, I5_2, I5_3, I5_4, hc']) (by simp [SYX]) (by simp [SYX]))⟩
    · simp only [↓PX, SX, SYX, EY, simprocAttr, TYX, C5_0, C5_1, C5_2, C5_3, C5_4, I5_0, I5_1, I5_2, I5_3, I5_4]
      refine cond_split (fun hd => ?_) (fun hd => ?_)
      · have hc' : c3 = 1 := by rw [← h2]; unfold mB; simp at hd; simp [hd]
        simp only [↓PX, SX, SYX, EY, simprocAttr, TYX, C5_0, C5_1, C5_2, C5_3, C5_4, I5_0, I5_1, I5_2, I5_3, I5_4]
        exact ⟨3, by decide, by decide, (St.le_of id (by simp [-List.getD_eq_getElem?_getD, SYX, iv, Tle, AVle, A0le, Mem.get, C5_0, C5_1, C5_2, C5_3, C5_4, I5_0, I5_1, I5_2, I5_3, I5_4, hc']) (by simp [-List.getD_eq_getElem?_getD, SYX, Mle, Ele, Mem.get, C5_0, C5_1, C5_2, C5_3, C5_4, I5_0, I5_1, I5_2, I5_3, I5_4, hc']) (by simp [SYX]) (by simp [SYX]))⟩
      · have hc' : c3 = 0 := by rw [← h2]; unfold mB; simp at hc hd; simp; omega
        simp only [↓PX, SX, SYX, EY, simprocAttr, TYX, C5_0, C5_1, C5_2, C5_3, C5_4, I5_0, I5_1, I5_2, I5_3, I5_4]
        exact ⟨3, by decide, by decide, (St.le_of id (by simp [-List.getD_eq_getElem?_getD, SYX, iv, Tle, AVle, A0le, Mem.get, C5_0, C5_1, C5_2, C5_3, C5_4, I5_0, I5_1, I5_2, I5_3, I5_4, hc']) (by simp [-List.getD_eq_getElem?_getD, SYX, Mle, Ele, Mem.get, C5_0, C5_1, C5_2, C5_3, C5_4, I5_0, I5_1, I5_2, I5_3, I5_4, hc']) (by simp [SYX]) (by simp [SYX]))⟩
  · simp only [↓PX, SX, SYX, EY, simprocAttr, TYX, C5_0, C5_1, C5_2, C5_3, C5_4, I5_0, I5_1, I5_2, I5_3, I5_4]
    repeat (first | refine DrawVC.intro (by kernel_rfl) ?_ | refine And.intro (by omega) ?_ | exact trivial)
    refine guard_split (fun hc => ?_) (fun hc => ?_)
    · have hc' : c4 = 1 := by rw [← h3]; unfold mB; simp at hc; simp [hc]
      simp only [↓PX, SX, SYX, EY, simprocAttr, TYX, C5_0, C5_1, C5_2, C5_3, C5_4, I5_0, I5_1, I5_2, I5_3, I5_4]
      exact ⟨4, by decide, by decide, (St.le_of id (by simp [-List.getD_eq_getElem?_getD, SYX, iv, Tle, AVle, A0le, Mem.get, C5_0, C5_1, C5_2, C5_3, C5_4, I5_0, I5_1, I5_2, I5_3, I5_4, hc']) (by simp [-List.getD_eq_getElem?_getD, SYX, Mle, Ele, Mem.get, C5_0, C5_1, C5_2, C5_3, C5_4, I5_0, I5_1, I5_2, I5_3, I5_4, hc']) (by simp [SYX]) (by simp [SYX]))⟩
    · simp only [↓PX, SX, SYX, EY, simprocAttr, TYX, C5_0, C5_1, C5_2, C5_3, C5_4, I5_0, I5_1, I5_2, I5_3, I5_4]
      refine cond_split (fun hd => ?_) (fun hd => ?_)
      · have hc' : c4 = 1 := by rw [← h3]; unfold mB; simp at hd; simp [hd]
        simp only [↓PX, SX, SYX, EY, simprocAttr, TYX, C5_0, C5_1, C5_2, C5_3, C5_4, I5_0, I5_1, I5_2, I5_3, I5_4]
        exact ⟨4, by decide, by decide, (St.le_of id (by simp [-List.getD_eq_getElem?_getD, SYX, iv, Tle, AVle, A0le, Mem.get, C5_0, C5_1, C5_2, C5_3, C5_4, I5_0, I5_1, I5_2, I5_3, I5_4, hc']) (by simp [-List.getD_eq_getElem?_getD, SYX, Mle, Ele, Mem.get, C5_0, C5_1, C5_2, C5_3, C5_4, I5_0, I5_1, I5_2, I5_3, I5_4, hc']) (by simp [SYX]) (by simp [SYX]))⟩
      · have hc' : c4 = 0 := by rw [← h3]; unfold mB; simp at hc hd; simp; omega
        simp only [↓PX, SX, SYX, EY, simprocAttr, TYX, C5_0, C5_1, C5_2, C5_3, C5_4, I5_0, I5_1, I5_2, I5_3, I5_4]
        exact ⟨4, by decide, by decide, (St.le_of id (by simp [-List.getD_eq_getElem?_getD, SYX, iv, Tle, AVle, A0le, Mem.get, C5_0, C5_1, C5_2, C5_3, C5_4, I5_0, I5_1, I5_2, I5_3, I5_4, hc']) (by simp [-List.getD_eq_getElem?_getD, SYX, Mle, Ele, Mem.get, C5_0, C5_1, C5_2, C5_3, C5_4, I5_0, I5_1, I5_2, I5_3, I5_4, hc']) (by simp [SYX]) (by simp [SYX]))⟩
  · simp only [↓PX, SX, SYX, EY, simprocAttr, TYX, C5_0, C5_1, C5_2, C5_3, C5_4, I5_0, I5_1, I5_2, I5_3, I5_4]
theorem c_less (a b : Nat) (ha : a < W256) (hb : b < W256) : Contract Try.prog 79 [.val (EN a), .val (EN b)] [.val (EN ((a + W256 - b) % W256))] := by
  obtain ⟨a0, a1, a2, a3, ha0, ha1, ha2, ha3, rfl⟩ := EN_ex ha
  obtain ⟨b0, b1, b2, b3, hb0, hb1, hb2, hb3, rfl⟩ := EN_ex hb
  rw [EN_of ha0 ha1 ha2 ha3 rfl, EN_of hb0 hb1 hb2 hb3 rfl]
  obtain ⟨s0, f0, l0⟩ := m_chain ha0 hb0 (Nat.zero_le 1)
  obtain ⟨s1, f1, l1⟩ := m_chain ha1 hb1 l0
  obtain ⟨s2, f2, l2⟩ := m_chain ha2 hb2 l1
  obtain ⟨s3, f3, l3⟩ := m_chain ha3 hb3 l2
  have h := c_less4 a0 a1 a2 a3 b0 b1 b2 b3 _ _ _ _ rfl rfl rfl rfl
  generalize mB a3 b3 (mB a2 b2 (mB a1 b1 (mB a0 b0 0))) = c4 at *
  generalize mD a3 b3 (mB a2 b2 (mB a1 b1 (mB a0 b0 0))) = r3 at *
  generalize mB a2 b2 (mB a1 b1 (mB a0 b0 0)) = c3 at *
  generalize mD a2 b2 (mB a1 b1 (mB a0 b0 0)) = r2 at *
  generalize mB a1 b1 (mB a0 b0 0) = c2 at *
  generalize mD a1 b1 (mB a0 b0 0) = r1 at *
  generalize mB a0 b0 0 = c1 at *
  generalize mD a0 b0 0 = r0 at *
  unfold W256
  rw [EN_of (a := r0) (b := r1) (c := r2) (d := r3) f0 f1 f2 f3 (by omega)]
  exact h
end Go.Sx
