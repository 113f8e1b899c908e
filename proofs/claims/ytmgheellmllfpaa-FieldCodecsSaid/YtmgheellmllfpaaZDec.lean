/-
  The number of bytes; Decode of both; the law FieldRound. No conditions.
-/
import Derived.Test.YtmgheellmllfpaaZCod
namespace Go.Sx
open Go.Proofs Go.Num
-- SY
-- TY: TYX, cellsNV, foldNV, BY
set_option maxRecDepth 100000
set_option linter.unusedSimpArgs false
set_option pp.deepTerms true
set_option pp.maxSteps 100000
theorem lb_hi {x k : Nat} (h : x < 2 ^ (64 * k)) : lb x k = 0 := by unfold lb; rw [Nat.div_eq_of_lt h, Nat.zero_mod]
theorem lb_lo {x k t : Nat} : lb (x + t * 2 ^ (64 * (k + 1))) k = lb x k := by
  unfold lb
  have e : t * 2 ^ (64 * (k + 1)) = 2 ^ (64 * k) * (18446744073709551616 * t) := by
    rw [show 64 * (k + 1) = 64 * k + 64 by omega, Nat.pow_add, show (2 : Nat) ^ 64 = 18446744073709551616 by rfl, Nat.mul_comm t, Nat.mul_assoc]
  rw [e, Nat.add_mul_div_left _ _ (Nat.pos_of_ne_zero (by simp)), Nat.add_mul_mod_self_left]
theorem p256 {i : Nat} : 256 ^ i = 2 ^ (64 * (i / 8)) * 256 ^ (i % 8) := by
  rw [pow256, pow256, ← Nat.pow_add]; congr 1; omega
theorem lb_mid {x c i : Nat} (hx : x < 256 ^ i) (hc : c < 256) : lb (x + c * 256 ^ i) (i / 8) = uor (lb x (i / 8)) (ushl c (8 * (i % 8))) := by
  have hr : i % 8 < 8 := Nat.mod_lt _ (by decide)
  have hp : 256 ^ (i % 8) * 256 ≤ 18446744073709551616 := by
    rw [← Nat.pow_succ, show (18446744073709551616 : Nat) = 256 ^ 8 by rfl]
    exact Nat.pow_le_pow_right (by decide) (by omega)
  have h1 : x / 2 ^ (64 * (i / 8)) < 256 ^ (i % 8) := by
    rw [p256] at hx
    exact Nat.div_lt_of_lt_mul hx
  have h2 : (x + c * 256 ^ i) / 2 ^ (64 * (i / 8)) = x / 2 ^ (64 * (i / 8)) + c * 256 ^ (i % 8) := by
    rw [p256, Nat.mul_left_comm, Nat.add_mul_div_left _ _ (Nat.pos_of_ne_zero (by simp))]
  have h3 : c * 256 ^ (i % 8) ≤ 255 * 256 ^ (i % 8) := Nat.mul_le_mul_right _ (by omega)
  unfold lb
  rw [h2, ushl_eq]
  unfold sh
  rw [Nat.min_eq_left (show 8 * (i % 8) ≤ 64 by omega), ← pow256]
  generalize hA : x / 2 ^ (64 * (i / 8)) = A at *
  rw [Nat.mod_eq_of_lt (show A + c * 256 ^ (i % 8) < 18446744073709551616 by omega), Nat.mod_eq_of_lt (show A < 18446744073709551616 by omega), Nat.mod_eq_of_lt (show c * 256 ^ (i % 8) < 18446744073709551616 by omega)]
  exact (uor_addK _ (c * 256 ^ (i % 8)) (8 * (i % 8)) (256 ^ (i % 8)) (pow256 _) h1 (Nat.dvd_mul_left _ _) (by omega)).1.symm
theorem lb_other {x c i k : Nat} (hx : x < 256 ^ i) (hc : c < 256) (h : k ≠ i / 8) : lb (x + c * 256 ^ i) k = lb x k := by
  rcases Nat.lt_or_gt_of_ne h with h1 | h1
  · have e : c * 256 ^ i = c * (2 ^ (64 * (i / 8 - k - 1)) * 256 ^ (i % 8)) * 2 ^ (64 * (k + 1)) := by
      rw [p256, show 64 * (i / 8) = 64 * (i / 8 - k - 1) + 64 * (k + 1) by omega, Nat.pow_add, Nat.mul_assoc c, Nat.mul_right_comm (2 ^ _)]
    rw [e, lb_lo]
  · have h2 : x + c * 256 ^ i < 256 ^ (i + 1) := by
      have h3 : c * 256 ^ i ≤ 255 * 256 ^ i := Nat.mul_le_mul_right _ (by omega)
      rw [Nat.pow_succ]; omega
    have h3 : (256 : Nat) ^ (i + 1) ≤ 2 ^ (64 * k) := by
      rw [pow256]; exact Nat.pow_le_pow_right (by decide) (by omega)
    have h4 : x ≤ x + c * 256 ^ i := Nat.le_add_right _ _
    rw [lb_hi (by omega), lb_hi (by omega)]
theorem st_limb {x c i : Nat} (hi : i < 32) (hx : x < 256 ^ i) (hc : c < 256) :
    List.take (i / 8) [u64 (L0 x), u64 (L1 x), u64 (L2 x), u64 (L3 x)] ++ [u64 (uor (lb x (i / 8)) (ushl c (8 * (i % 8))))] ++ List.drop (i / 8 + 1) [u64 (L0 x), u64 (L1 x), u64 (L2 x), u64 (L3 x)] =
      [u64 (L0 (x + c * 256 ^ i)), u64 (L1 (x + c * 256 ^ i)), u64 (L2 (x + c * 256 ^ i)), u64 (L3 (x + c * 256 ^ i))] := by
  rw [← lb_mid hx hc]
  have ho := fun k h => lb_other (k := k) hx hc h
  simp only [← lb_0, ← lb_1, ← lb_2, ← lb_3]
  have hj : i / 8 = 0 ∨ i / 8 = 1 ∨ i / 8 = 2 ∨ i / 8 = 3 := by omega
  rcases hj with h | h | h | h <;> rw [h] at ho ⊢
  · rw [ho 1 (by decide), ho 2 (by decide), ho 3 (by decide)]; rfl
  · rw [ho 0 (by decide), ho 2 (by decide), ho 3 (by decide)]; rfl
  · rw [ho 0 (by decide), ho 1 (by decide), ho 3 (by decide)]; rfl
  · rw [ho 0 (by decide), ho 1 (by decide), ho 2 (by decide)]; rfl
theorem st_limb' {x c i : Nat} (hi : i < 32) (hx : x < 256 ^ i) (hc : c < 256) :
    List.take (i / 8) [u64 (L0 x), u64 (L1 x), u64 (L2 x), u64 (L3 x)] ++ [u64 (uor (lb x (i / 8)) (ushl c (8 * (i % 8))))] ++ List.drop (i / 8) [u64 (L1 x), u64 (L2 x), u64 (L3 x)] =
      [u64 (L0 (x + c * 256 ^ i)), u64 (L1 (x + c * 256 ^ i)), u64 (L2 (x + c * 256 ^ i)), u64 (L3 (x + c * 256 ^ i))] := st_limb hi hx hc
theorem nb_w {l : List Nat} (hl : ∀ x ∈ l, x < 256) (h : l.length = 32) : nb l 32 < W256 := nb_lt hl 32 (by omega)
theorem u_number (l : List Nat) (hl : ∀ x ∈ l, x < 256) (h32 : l.length = 32) : Contract Try.prog 65 [.sl 32 1 (LC bC l)] [.val (EN (nb l 32))] := by
  have hfull : List.take 32 (LC bC l) = LC bC l := by rw [← h32]; exact bL_full
  refine contract_of (N := _) (vars := _) (c := bodyOf Try.f65) Try.func65 (body_eq rfl) rfl rfl (by rfl) mixed _ _ trivial 1000 ?_
  simp only [bodyOf, Try.f65, Option.getD_some, argA, argE, List.length_cons, List.length_nil, Nat.reduceAdd, Nat.reduceSub, List.replicate, List.cons_append, List.nil_append]
  simp only [↓PX, SX, SYX, EY, simprocAttr, TYX, cellsNV, foldNV, BY]
  refine loop_hav ?_
  simp only [↓PX, SX, SYX, EY, simprocAttr, TYX, cellsNV, foldNV, BY]
  refine loop_go mixed (by trivial) (γ := Nat) (fun i => i ≤ 32) (fun i => 32 - i) (fun i => [(8, iv i)]) (fun i => [(5, .box (eC (nb l i)))]) 0 (by omega)
    (St.le_of id (by simp [-List.getD_eq_getElem?_getD, SYX, iv, Tle, AVle, A0le, Mem.get, eC, nb, L0, L1, L2, L3]) (by simp [-List.getD_eq_getElem?_getD, SYX, Mle, Ele, Mem.get, eC, nb, L0, L1, L2, L3]) (by simp [SYX]) (by simp [SYX])) ?_
  intro i hi
  simp only [↓PX, SX, SYX, EY, simprocAttr, TYX, cellsNV, foldNV, BY]
  refine cond_split (fun h0 => ?_) (fun h0 => ?_)
  · have h0 : i < 32 := by
      have : (i : Int) < 32 := by simpa using h0
      omega
    have h1 : i / 8 < 4 := by omega
    have h2 : 8 * (i % 8) < 18446744073709551616 := by omega
    have hx := nb_lt hl i (by omega)
    have hc : l.getD i 0 < 256 := getD_lt hl (by omega)
    have hst := st_limb' h0 hx hc
    simp only [↓PX, SX, SYX, EY, simprocAttr, TYX, cellsNV, foldNV, BY, q8 (i := i) (by omega), r8 (i := i), m8 (i := i), lb_at h1, uN h2, uN (y := l.getD i 0) (by omega), bL_ld (l := l) (j := i) (by omega), wS (j := i) (by omega), h32, hst]
    repeat (first | refine DrawVC.intro (by kernel_rfl) ?_ | refine And.intro (by omega) ?_ | exact trivial)
    exact ⟨i + 1, by omega, by omega, (St.le_of id (by simp [-List.getD_eq_getElem?_getD, SYX, iv, Tle, AVle, A0le, Mem.get, nb]) (by simp [-List.getD_eq_getElem?_getD, SYX, Mle, Ele, Mem.get, nb]) (by simp [SYX]) (by simp [SYX]))⟩
  · have h0 : i = 32 := by
      have : (32 : Int) ≤ (i : Int) := by simpa using h0
      omega
    subst h0
    simp only [↓PX, SX, SYX, EY, simprocAttr, TYX, cellsNV, foldNV, BY]
theorem v_number (l : List Nat) (hl : ∀ x ∈ l, x < 256) (h32 : l.length = 32) : Contract Try.prog 68 [.sl 32 1 (LC bC l)] [.val (EN (nb l 32))] := by
  have hfull : List.take 32 (LC bC l) = LC bC l := by rw [← h32]; exact bL_full
  refine contract_of (N := _) (vars := _) (c := bodyOf Try.f68) Try.func68 (body_eq rfl) rfl rfl (by rfl) mixed _ _ trivial 1000 ?_
  simp only [bodyOf, Try.f68, Option.getD_some, argA, argE, List.length_cons, List.length_nil, Nat.reduceAdd, Nat.reduceSub, List.replicate, List.cons_append, List.nil_append]
  simp only [↓PX, SX, SYX, EY, simprocAttr, TYX, cellsNV, foldNV, BY]
  refine loop_hav ?_
  simp only [↓PX, SX, SYX, EY, simprocAttr, TYX, cellsNV, foldNV, BY]
  refine loop_go mixed (by trivial) (γ := Nat) (fun i => i ≤ 32) (fun i => 32 - i) (fun i => [(4, iv i)]) (fun i => [(9, .box (eC (nb l i)))]) 0 (by omega)
    (St.le_of id (by simp [-List.getD_eq_getElem?_getD, SYX, iv, Tle, AVle, A0le, Mem.get, eC, nb, L0, L1, L2, L3]) (by simp [-List.getD_eq_getElem?_getD, SYX, Mle, Ele, Mem.get, eC, nb, L0, L1, L2, L3]) (by simp [SYX]) (by simp [SYX])) ?_
  intro i hi
  simp only [↓PX, SX, SYX, EY, simprocAttr, TYX, cellsNV, foldNV, BY]
  refine cond_split (fun h0 => ?_) (fun h0 => ?_)
  · have h0 : i < 32 := by
      have : (i : Int) < 32 := by simpa using h0
      omega
    have h1 : i / 8 < 4 := by omega
    have h2 : 8 * (i % 8) < 18446744073709551616 := by omega
    have hx := nb_lt hl i (by omega)
    have hc : l.getD i 0 < 256 := getD_lt hl (by omega)
    have hst := st_limb' h0 hx hc
    simp only [↓PX, SX, SYX, EY, simprocAttr, TYX, cellsNV, foldNV, BY, q8 (i := i) (by omega), r8 (i := i), m8 (i := i), lb_at h1, uN h2, uN (y := l.getD i 0) (by omega), bL_ld (l := l) (j := i) (by omega), wS (j := i) (by omega), h32, hst]
    repeat (first | refine DrawVC.intro (by kernel_rfl) ?_ | refine And.intro (by omega) ?_ | exact trivial)
    exact ⟨i + 1, by omega, by omega, (St.le_of id (by simp [-List.getD_eq_getElem?_getD, SYX, iv, Tle, AVle, A0le, Mem.get, nb]) (by simp [-List.getD_eq_getElem?_getD, SYX, Mle, Ele, Mem.get, nb]) (by simp [SYX]) (by simp [SYX]))⟩
  · have h0 : i = 32 := by
      have : (32 : Int) ≤ (i : Int) := by simpa using h0
      omega
    subst h0
    simp only [↓PX, SX, SYX, EY, simprocAttr, TYX, cellsNV, foldNV, BY]
end Go.Sx
