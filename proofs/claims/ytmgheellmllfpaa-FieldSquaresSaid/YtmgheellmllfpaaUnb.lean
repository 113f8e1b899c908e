/-
  Adicity, Int and the reference's Inv, for every sort at once; the law FieldSums. No conditions.
-/
import Derived.Test.YtmgheellmllfpaaUni
namespace Go.Sx
open Go.Proofs
-- SY
-- TY: TYX
set_option maxRecDepth 100000
set_option linter.unusedSimpArgs false
set_option pp.deepTerms false
set_option pp.deepTerms.threshold 8
theorem u_Adicity (s : Int) : Contract Try.prog 28 [.val (.int .i64 s)] [.val (.int .i64 (adc s)), .val (.int .i64 (eS s))] := by
  obtain ⟨sm, ng, sq, F⟩ := u_of s
  refine contract_of (N := _) (vars := _) (c := bodyOf Try.f28) Try.func28 (body_eq rfl) rfl rfl (by rfl) mixed _ _ trivial 1000 ?_
  simp only [bodyOf, Try.f28, Option.getD_some, argA, argE, List.length_cons, List.length_nil, Nat.reduceAdd, Nat.reduceSub, List.replicate, List.cons_append, List.nil_append]
  simp only [↓PX, SX, SYX, EY, simprocAttr, TYX]
  refine CallVC.intro (F) ⟨rfl, trivial⟩ rfl rfl ?_
  simp only [↓PX, SX, SYX, EY, simprocAttr, TYX, foldNV, cellsNV]
theorem kn_or (s : Int) (h : kn s = true) : s = 0 ∨ s = 1 ∨ s = 2 ∨ s = 3 := by
  simp only [kn, Bool.or_eq_true, beq_iff_eq] at h
  omega
theorem v_Adicity (s : Int) : Contract Try.prog 29 [.val (.int .i64 s)] [.val (.int .i64 (adc s)), .val (.int .i64 (eS s))] := by
  cases srt s with
  | no hk he _ _ _ ha h =>
    rw [ha, he]
    clear ha he hk
    have hs : decide (s < 0) = true ∨ decide (s < 0) = false ∧ decide (3 < s) = true := by simp only [decide_eq_true_eq, decide_eq_false_iff_not]; omega
    rcases hs with h1 | ⟨h1, h2⟩
    · refine contract_of (N := _) (vars := _) (c := bodyOf Try.f29) Try.func29 (body_eq rfl) rfl rfl (by rfl) mixed _ _ trivial 1000 ?_
      simp only [bodyOf, Try.f29, Option.getD_some, argA, argE, List.length_cons, List.length_nil, Nat.reduceAdd, Nat.reduceSub, List.replicate, List.cons_append, List.nil_append]
      simp only [↓PX, SX, SYX, EY, simprocAttr, TYX]
      simp only [↓PX, SX, SYX, EY, simprocAttr, TYX, h1]
    · refine contract_of (N := _) (vars := _) (c := bodyOf Try.f29) Try.func29 (body_eq rfl) rfl rfl (by rfl) mixed _ _ trivial 1000 ?_
      simp only [bodyOf, Try.f29, Option.getD_some, argA, argE, List.length_cons, List.length_nil, Nat.reduceAdd, Nat.reduceSub, List.replicate, List.cons_append, List.nil_append]
      simp only [↓PX, SX, SYX, EY, simprocAttr, TYX]
      simp only [↓PX, SX, SYX, EY, simprocAttr, TYX, h1, h2]
  | yes hk =>
    have h := kn_or s hk
    rcases h with rfl | rfl | rfl | rfl
    · refine contract_of (N := _) (vars := _) (c := bodyOf Try.f29) Try.func29 (body_eq rfl) rfl rfl (by rfl) mixed _ _ trivial 1000 ?_
      simp only [bodyOf, Try.f29, Option.getD_some, argA, argE, List.length_cons, List.length_nil, Nat.reduceAdd, Nat.reduceSub, List.replicate, List.cons_append, List.nil_append]
      simp only [↓PX, SX, SYX, EY, simprocAttr, TYX]
      exact ⟨rfl, rfl⟩
    · refine contract_of (N := _) (vars := _) (c := bodyOf Try.f29) Try.func29 (body_eq rfl) rfl rfl (by rfl) mixed _ _ trivial 1000 ?_
      simp only [bodyOf, Try.f29, Option.getD_some, argA, argE, List.length_cons, List.length_nil, Nat.reduceAdd, Nat.reduceSub, List.replicate, List.cons_append, List.nil_append]
      simp only [↓PX, SX, SYX, EY, simprocAttr, TYX]
      exact ⟨rfl, rfl⟩
    · refine contract_of (N := _) (vars := _) (c := bodyOf Try.f29) Try.func29 (body_eq rfl) rfl rfl (by rfl) mixed _ _ trivial 1000 ?_
      simp only [bodyOf, Try.f29, Option.getD_some, argA, argE, List.length_cons, List.length_nil, Nat.reduceAdd, Nat.reduceSub, List.replicate, List.cons_append, List.nil_append]
      simp only [↓PX, SX, SYX, EY, simprocAttr, TYX]
      exact ⟨rfl, rfl⟩
    · refine contract_of (N := _) (vars := _) (c := bodyOf Try.f29) Try.func29 (body_eq rfl) rfl rfl (by rfl) mixed _ _ trivial 1000 ?_
      simp only [bodyOf, Try.f29, Option.getD_some, argA, argE, List.length_cons, List.length_nil, Nat.reduceAdd, Nat.reduceSub, List.replicate, List.cons_append, List.nil_append]
      simp only [↓PX, SX, SYX, EY, simprocAttr, TYX]
      exact ⟨rfl, rfl⟩
def iN (s n : Int) : Nat := if 0 ≤ n then n.toNat % md s else (md s - (-n).toNat % md s) % md s
theorem iN_lt (s n : Int) : iN s n < md s := by unfold iN; split <;> exact md_mod _ _
theorem u_Int (s n : Int) (h0 : -9223372036854775808 ≤ n) (h1 : n < 9223372036854775808) : Contract Try.prog 33 [.val (.int .i64 s), .val (.int .i64 n)] [.val (EN (iN s n))] := by
  unfold iN
  by_cases hn : 0 ≤ n
  · rw [if_pos hn]
    have hd : decide (n < 0) = false := by simpa using hn
    have e : (n % 18446744073709551616).toNat = n.toNat := by omega
    have hb : n.toNat < 18446744073709551616 := by omega
    have hw : n.toNat < W256 := by unfold W256; omega
    refine contract_of (N := _) (vars := _) (c := bodyOf Try.f33) Try.func33 (body_eq rfl) rfl rfl (by rfl) mixed _ _ trivial 1000 ?_
    simp only [bodyOf, Try.f33, Option.getD_some, argA, argE, List.length_cons, List.length_nil, Nat.reduceAdd, Nat.reduceSub, List.replicate, List.cons_append, List.nil_append]
    simp only [↓PX, SX, SYX, EY, simprocAttr, TYX]
    simp only [↓PX, SX, SYX, EY, simprocAttr, TYX, hd, e, hb]
    repeat (first
      | (refine DrawVC.intro (by kernel_rfl) ?_)
      | (show orderOK _ = true; kernel_rfl)
      | (refine CallVC.intro (u_Add _ _ _ (by first | assumption | exact md_w _ _ | exact md_w2 (inv_lt _ _) | decide | omega) (by first | assumption | exact md_w _ _ | exact md_w2 (inv_lt _ _) | decide | omega)) ⟨rfl, rfl, rfl, trivial⟩ rfl rfl ?_; simp only [↓PX, SX, SYX, EY, simprocAttr, TYX]))
  · rw [if_neg hn]
    have hd : decide (n < 0) = true := by simpa using hn
    have e : usub 0 (n % 18446744073709551616).toNat = (-n).toNat := by rw [usub_eq]; omega
    have hb : (-n).toNat < 18446744073709551616 := by omega
    have hw : (-n).toNat < W256 := by unfold W256; omega
    refine contract_of (N := _) (vars := _) (c := bodyOf Try.f33) Try.func33 (body_eq rfl) rfl rfl (by rfl) mixed _ _ trivial 1000 ?_
    simp only [bodyOf, Try.f33, Option.getD_some, argA, argE, List.length_cons, List.length_nil, Nat.reduceAdd, Nat.reduceSub, List.replicate, List.cons_append, List.nil_append]
    simp only [↓PX, SX, SYX, EY, simprocAttr, TYX]
    simp only [↓PX, SX, SYX, EY, simprocAttr, TYX, hd, e, hb]
    repeat (first
      | (refine DrawVC.intro (by kernel_rfl) ?_)
      | (show orderOK _ = true; kernel_rfl)
      | (refine CallVC.intro (u_Neg _ _ (by first | assumption | exact md_w _ _ | exact md_w2 (inv_lt _ _) | decide | omega)) ⟨rfl, rfl, trivial⟩ rfl rfl ?_; simp only [↓PX, SX, SYX, EY, simprocAttr, TYX]))
theorem v_Int (s n : Int) (h0 : -9223372036854775808 ≤ n) (h1 : n < 9223372036854775808) : Contract Try.prog 34 [.val (.int .i64 s), .val (.int .i64 n)] [.val (EN (iN s n))] := by
  unfold iN
  by_cases hn : 0 ≤ n
  · rw [if_pos hn]
    have hd : decide (0 ≤ n) = true := by simpa using hn
    have e : (n % 18446744073709551616).toNat = n.toNat := by omega
    have hb : n.toNat < 18446744073709551616 := by omega
    have hw : n.toNat < W256 := by unfold W256; omega
    refine contract_of (N := _) (vars := _) (c := bodyOf Try.f34) Try.func34 (body_eq rfl) rfl rfl (by rfl) mixed _ _ trivial 1000 ?_
    simp only [bodyOf, Try.f34, Option.getD_some, argA, argE, List.length_cons, List.length_nil, Nat.reduceAdd, Nat.reduceSub, List.replicate, List.cons_append, List.nil_append]
    simp only [↓PX, SX, SYX, EY, simprocAttr, TYX]
    simp only [↓PX, SX, SYX, EY, simprocAttr, TYX, hd, e, hb]
    repeat (first
      | (refine DrawVC.intro (by kernel_rfl) ?_)
      | (show orderOK _ = true; kernel_rfl)
      | (refine CallVC.intro (v_Of _ _ (by first | assumption | exact md_w _ _ | exact md_w2 (inv_lt _ _) | decide | omega)) ⟨rfl, rfl, trivial⟩ rfl rfl ?_; simp only [↓PX, SX, SYX, EY, simprocAttr, TYX]))
  · rw [if_neg hn]
    have hd : decide (0 ≤ n) = false := by simpa using hn
    have e : usub 0 (n % 18446744073709551616).toNat = (-n).toNat := by rw [usub_eq]; omega
    have hb : (-n).toNat < 18446744073709551616 := by omega
    have hw : (-n).toNat < W256 := by unfold W256; omega
    refine contract_of (N := _) (vars := _) (c := bodyOf Try.f34) Try.func34 (body_eq rfl) rfl rfl (by rfl) mixed _ _ trivial 1000 ?_
    simp only [bodyOf, Try.f34, Option.getD_some, argA, argE, List.length_cons, List.length_nil, Nat.reduceAdd, Nat.reduceSub, List.replicate, List.cons_append, List.nil_append]
    simp only [↓PX, SX, SYX, EY, simprocAttr, TYX]
    simp only [↓PX, SX, SYX, EY, simprocAttr, TYX, hd, e, hb]
    repeat (first
      | (refine DrawVC.intro (by kernel_rfl) ?_)
      | (show orderOK _ = true; kernel_rfl)
      | (refine CallVC.intro (v_Neg _ _ (by first | assumption | exact md_w _ _ | exact md_w2 (inv_lt _ _) | decide | omega)) ⟨rfl, rfl, trivial⟩ rfl rfl ?_; simp only [↓PX, SX, SYX, EY, simprocAttr, TYX]))
theorem c_sums (s : Int) (a b : Nat) (n : Int) (ha : a < W256) (hb : b < W256) (h0 : -9223372036854775808 ≤ n) (h1 : n < 9223372036854775808) :
    Contract Try.prog 6 [.val (.int .i64 s), .val (EN a), .val (EN b), .val (.int .i64 n)] [.val (.bool true)] := by
  refine contract_of (N := _) (vars := _) (c := bodyOf Try.f6) Try.func6 (body_eq rfl) rfl rfl (by rfl) mixed _ _ trivial 1000 ?_
  simp only [bodyOf, Try.f6, Option.getD_some, argA, argE, List.length_cons, List.length_nil, Nat.reduceAdd, Nat.reduceSub, List.replicate, List.cons_append, List.nil_append]
  simp only [↓PX, SX, SYX, EY, simprocAttr, TYX]
  repeat (first
    | (refine DrawVC.intro (by kernel_rfl) ?_)
    | (show orderOK _ = true; kernel_rfl)
    | (refine CallVC.intro (c_alive) trivial rfl rfl ?_; simp only [↓PX, SX, SYX, EY, simprocAttr, TYX])
    | (refine CallVC.intro (u_Modulus _) ⟨rfl, trivial⟩ rfl rfl ?_; simp only [↓PX, SX, SYX, EY, simprocAttr, TYX])
    | (refine CallVC.intro (v_Modulus _) ⟨rfl, trivial⟩ rfl rfl ?_; simp only [↓PX, SX, SYX, EY, simprocAttr, TYX])
    | (refine CallVC.intro (u_Adicity _) ⟨rfl, trivial⟩ rfl rfl ?_; simp only [↓PX, SX, SYX, EY, simprocAttr, TYX])
    | (refine CallVC.intro (v_Adicity _) ⟨rfl, trivial⟩ rfl rfl ?_; simp only [↓PX, SX, SYX, EY, simprocAttr, TYX])
    | (refine CallVC.intro (u_Add _ _ _ (by first | assumption | exact md_w _ _ | exact md_w2 (inv_lt _ _) | decide | omega) (by first | assumption | exact md_w _ _ | exact md_w2 (inv_lt _ _) | decide | omega)) ⟨rfl, rfl, rfl, trivial⟩ rfl rfl ?_; simp only [↓PX, SX, SYX, EY, simprocAttr, TYX])
    | (refine CallVC.intro (v_Add _ _ _ (by first | assumption | exact md_w _ _ | exact md_w2 (inv_lt _ _) | decide | omega) (by first | assumption | exact md_w _ _ | exact md_w2 (inv_lt _ _) | decide | omega)) ⟨rfl, rfl, rfl, trivial⟩ rfl rfl ?_; simp only [↓PX, SX, SYX, EY, simprocAttr, TYX])
    | (refine CallVC.intro (u_Sub _ _ _ (by first | assumption | exact md_w _ _ | exact md_w2 (inv_lt _ _) | decide | omega) (by first | assumption | exact md_w _ _ | exact md_w2 (inv_lt _ _) | decide | omega)) ⟨rfl, rfl, rfl, trivial⟩ rfl rfl ?_; simp only [↓PX, SX, SYX, EY, simprocAttr, TYX])
    | (refine CallVC.intro (v_Sub _ _ _ (by first | assumption | exact md_w _ _ | exact md_w2 (inv_lt _ _) | decide | omega) (by first | assumption | exact md_w _ _ | exact md_w2 (inv_lt _ _) | decide | omega)) ⟨rfl, rfl, rfl, trivial⟩ rfl rfl ?_; simp only [↓PX, SX, SYX, EY, simprocAttr, TYX])
    | (refine CallVC.intro (u_Neg _ _ (by first | assumption | exact md_w _ _ | exact md_w2 (inv_lt _ _) | decide | omega)) ⟨rfl, rfl, trivial⟩ rfl rfl ?_; simp only [↓PX, SX, SYX, EY, simprocAttr, TYX])
    | (refine CallVC.intro (v_Neg _ _ (by first | assumption | exact md_w _ _ | exact md_w2 (inv_lt _ _) | decide | omega)) ⟨rfl, rfl, trivial⟩ rfl rfl ?_; simp only [↓PX, SX, SYX, EY, simprocAttr, TYX])
    | (refine CallVC.intro (u_Int _ _ (by first | assumption | exact md_w _ _ | exact md_w2 (inv_lt _ _) | decide | omega) (by first | assumption | exact md_w _ _ | exact md_w2 (inv_lt _ _) | decide | omega)) ⟨rfl, rfl, trivial⟩ rfl rfl ?_; simp only [↓PX, SX, SYX, EY, simprocAttr, TYX])
    | (refine CallVC.intro (v_Int _ _ (by first | assumption | exact md_w _ _ | exact md_w2 (inv_lt _ _) | decide | omega) (by first | assumption | exact md_w _ _ | exact md_w2 (inv_lt _ _) | decide | omega)) ⟨rfl, rfl, trivial⟩ rfl rfl ?_; simp only [↓PX, SX, SYX, EY, simprocAttr, TYX]))
end Go.Sx
