/-
  Decode of both; the law FieldRound. No conditions.
-/
import Derived.Test.YtmgheellmllfpaaZDec
namespace Go.Sx
open Go.Proofs Go.Num
-- SY
-- TY: TYX, cellsNV, foldNV, BY
set_option maxRecDepth 100000
set_option linter.unusedSimpArgs false
set_option pp.deepTerms true
set_option pp.maxSteps 100000
theorem c_Less (a b : Nat) (ha : a < W256) (hb : b < W256) : Contract Try.prog 64 [.val (EN a), .val (EN b)] [.val (.bool (decide (a < b)))] := by
  refine contract_of (N := _) (vars := _) (c := bodyOf Try.f64) Try.func64 (body_eq rfl) rfl rfl (by rfl) mixed _ _ trivial 1000 ?_
  simp only [bodyOf, Try.f64, Option.getD_some, argA, argE, List.length_cons, List.length_nil, Nat.reduceAdd, Nat.reduceSub, List.replicate, List.cons_append, List.nil_append]
  simp only [↓PX, SX, SYX, EY, simprocAttr, TYX, cellsNV, foldNV, BY]
  refine CallVC.intro (c_word_sub a b ha hb) ⟨rfl, rfl, trivial⟩ rfl rfl ?_
  simp only [↓PX, SX, SYX, EY, simprocAttr, TYX, cellsNV, foldNV, BY]
def dOK (s : Int) (l : List Nat) : Prop := l.length = 32 ∧ nb l 32 < md s
instance (s : Int) (l : List Nat) : Decidable (dOK s l) := by unfold dOK; infer_instance
def dV (s : Int) (l : List Nat) : Nat := if kn s = true ∧ dOK s l then nb l 32 else 0
def dE (s : Int) (l : List Nat) : Int := if kn s then (if dOK s l then 0 else 21) else 20
theorem dV_w (s : Int) (l : List Nat) : dV s l < md s := by
  unfold dV
  split
  · rename_i h; exact h.2.2
  · exact md_pos s
theorem u_Decode (s : Int) (l : List Nat) (hl : ∀ x ∈ l, x < 256) (hb : l.length < 9223372036854775807) : Contract Try.prog 41 [.val (.int .i64 s), .sl l.length 1 (LC bC l)] [.val (EN (dV s l)), .val (.int .i64 (dE s l))] := by
  cases srt s with
  | no hk he hm F =>
    have e1 : dV s l = 0 := by simp [dV, hk]
    have e2 : dE s l = 20 := by simp [dE, hk]
    rw [e1, e2]
    refine contract_of (N := _) (vars := _) (c := bodyOf Try.f41) Try.func41 (body_eq rfl) rfl rfl (by rfl) mixed _ _ trivial 1000 ?_
    simp only [bodyOf, Try.f41, Option.getD_some, argA, argE, List.length_cons, List.length_nil, Nat.reduceAdd, Nat.reduceSub, List.replicate, List.cons_append, List.nil_append]
    simp only [↓PX, SX, SYX, EY, simprocAttr, TYX, cellsNV, foldNV, BY]
    refine CallVC.intro (F.of) ⟨rfl, trivial⟩ rfl rfl ?_
    simp only [↓PX, SX, SYX, EY, simprocAttr, TYX, cellsNV, foldNV, BY, he]
  | yes hk he sm ng sq F R P h2 =>
    have hmw : md s < W256 := by have := md_lt s; omega
    by_cases h32 : l.length = 32
    · have hnw := nb_w hl h32
      have hfull : List.take 32 (LC bC l) = LC bC l := by rw [← h32]; exact bL_full
      by_cases hlt : nb l 32 < md s
      · have hok : dOK s l := ⟨h32, hlt⟩
        have e1 : dV s l = nb l 32 := by simp [dV, hk, hok]
        have e2 : dE s l = 0 := by simp [dE, hk, hok]
        have d1 : decide (nb l 32 < md s) = true := by simpa using hlt
        rw [e1, e2, h32]
        refine contract_of (N := _) (vars := _) (c := bodyOf Try.f41) Try.func41 (body_eq rfl) rfl rfl (by rfl) mixed _ _ trivial 1000 ?_
        simp only [bodyOf, Try.f41, Option.getD_some, argA, argE, List.length_cons, List.length_nil, Nat.reduceAdd, Nat.reduceSub, List.replicate, List.cons_append, List.nil_append]
        simp only [↓PX, SX, SYX, EY, simprocAttr, TYX, cellsNV, foldNV, BY]
        refine CallVC.intro (F.of) ⟨rfl, trivial⟩ rfl rfl ?_
        simp only [↓PX, SX, SYX, EY, simprocAttr, TYX, cellsNV, foldNV, BY, he, hfull]
        repeat (first | refine DrawVC.intro (by kernel_rfl) ?_ | refine And.intro (by omega) ?_ | exact trivial)
        refine CallVC.intro (u_number l hl h32) ⟨(by simp only [argMatch, SX, SYX, EY, simprocAttr, and_self, List.length_append, List.length_map, List.length_set, TYX, cellsNV, foldNV, BY, hfull, h32]), trivial⟩ rfl rfl ?_
        simp only [↓PX, SX, SYX, EY, simprocAttr, TYX, cellsNV, foldNV, BY, hfull, h32]
        refine CallVC.intro (c_Less _ _ hnw hmw) ⟨rfl, rfl, trivial⟩ rfl rfl ?_
        simp only [↓PX, SX, SYX, EY, simprocAttr, TYX, cellsNV, foldNV, BY, d1, hfull]
        refine CallVC.intro (u_number l hl h32) ⟨(by simp only [argMatch, SX, SYX, EY, simprocAttr, and_self, List.length_append, List.length_map, List.length_set, TYX, cellsNV, foldNV, BY, hfull, h32]), trivial⟩ rfl rfl ?_
        simp only [↓PX, SX, SYX, EY, simprocAttr, TYX, cellsNV, foldNV, BY, hfull, h32]
      · have hok : ¬ dOK s l := fun h => hlt h.2
        have e1 : dV s l = 0 := by simp [dV, hok]
        have e2 : dE s l = 21 := by simp [dE, hk, hok]
        have d1 : decide (nb l 32 < md s) = false := by simpa using hlt
        rw [e1, e2, h32]
        refine contract_of (N := _) (vars := _) (c := bodyOf Try.f41) Try.func41 (body_eq rfl) rfl rfl (by rfl) mixed _ _ trivial 1000 ?_
        simp only [bodyOf, Try.f41, Option.getD_some, argA, argE, List.length_cons, List.length_nil, Nat.reduceAdd, Nat.reduceSub, List.replicate, List.cons_append, List.nil_append]
        simp only [↓PX, SX, SYX, EY, simprocAttr, TYX, cellsNV, foldNV, BY]
        refine CallVC.intro (F.of) ⟨rfl, trivial⟩ rfl rfl ?_
        simp only [↓PX, SX, SYX, EY, simprocAttr, TYX, cellsNV, foldNV, BY, he, hfull]
        repeat (first | refine DrawVC.intro (by kernel_rfl) ?_ | refine And.intro (by omega) ?_ | exact trivial)
        refine CallVC.intro (u_number l hl h32) ⟨(by simp only [argMatch, SX, SYX, EY, simprocAttr, and_self, List.length_append, List.length_map, List.length_set, TYX, cellsNV, foldNV, BY, hfull, h32]), trivial⟩ rfl rfl ?_
        simp only [↓PX, SX, SYX, EY, simprocAttr, TYX, cellsNV, foldNV, BY, hfull, h32]
        refine CallVC.intro (c_Less _ _ hnw hmw) ⟨rfl, rfl, trivial⟩ rfl rfl ?_
        simp only [↓PX, SX, SYX, EY, simprocAttr, TYX, cellsNV, foldNV, BY, d1, hfull]
    · have hok : ¬ dOK s l := fun h => h32 h.1
      have e1 : dV s l = 0 := by simp [dV, hok]
      have e2 : dE s l = 21 := by simp [dE, hk, hok]
      have d1 : ((l.length : Int) != 32) = true := by simp; omega
      rw [e1, e2]
      refine contract_of (N := _) (vars := _) (c := bodyOf Try.f41) Try.func41 (body_eq rfl) rfl rfl (by rfl) mixed _ _ trivial 1000 ?_
      simp only [bodyOf, Try.f41, Option.getD_some, argA, argE, List.length_cons, List.length_nil, Nat.reduceAdd, Nat.reduceSub, List.replicate, List.cons_append, List.nil_append]
      simp only [↓PX, SX, SYX, EY, simprocAttr, TYX, cellsNV, foldNV, BY]
      refine CallVC.intro (F.of) ⟨rfl, trivial⟩ rfl rfl ?_
      simp only [↓PX, SX, SYX, EY, simprocAttr, TYX, cellsNV, foldNV, BY, he, d1]
      repeat (first | refine DrawVC.intro (by kernel_rfl) ?_ | refine And.intro (by omega) ?_ | exact trivial)
theorem v_Decode (s : Int) (l : List Nat) (hl : ∀ x ∈ l, x < 256) (hb : l.length < 9223372036854775807) : Contract Try.prog 47 [.val (.int .i64 s), .sl l.length 1 (LC bC l)] [.val (EN (dV s l)), .val (.int .i64 (dE s l))] := by
  cases srt s with
  | no hk he hm F =>
    have e1 : dV s l = 0 := by simp [dV, hk]
    have e2 : dE s l = 20 := by simp [dE, hk]
    rw [e1, e2]
    refine contract_of (N := _) (vars := _) (c := bodyOf Try.f47) Try.func47 (body_eq rfl) rfl rfl (by rfl) mixed _ _ trivial 1000 ?_
    simp only [bodyOf, Try.f47, Option.getD_some, argA, argE, List.length_cons, List.length_nil, Nat.reduceAdd, Nat.reduceSub, List.replicate, List.cons_append, List.nil_append]
    simp only [↓PX, SX, SYX, EY, simprocAttr, TYX, cellsNV, foldNV, BY]
    refine CallVC.intro (v_Modulus s) ⟨rfl, trivial⟩ rfl rfl ?_
    simp only [↓PX, SX, SYX, EY, simprocAttr, TYX, cellsNV, foldNV, BY, he]
  | yes hk he sm ng sq F R P h2 =>
    have hmw : md s < W256 := by have := md_lt s; omega
    have e0 : mN s = md s := by simp [mN, hk]
    by_cases h32 : l.length = 32
    · have hnw := nb_w hl h32
      have hfull : List.take 32 (LC bC l) = LC bC l := by rw [← h32]; exact bL_full
      by_cases hlt : nb l 32 < md s
      · have hok : dOK s l := ⟨h32, hlt⟩
        have e1 : dV s l = nb l 32 := by simp [dV, hk, hok]
        have e2 : dE s l = 0 := by simp [dE, hk, hok]
        have d1 : decide (nb l 32 < md s) = true := by simpa using hlt
        rw [e1, e2, h32]
        refine contract_of (N := _) (vars := _) (c := bodyOf Try.f47) Try.func47 (body_eq rfl) rfl rfl (by rfl) mixed _ _ trivial 1000 ?_
        simp only [bodyOf, Try.f47, Option.getD_some, argA, argE, List.length_cons, List.length_nil, Nat.reduceAdd, Nat.reduceSub, List.replicate, List.cons_append, List.nil_append]
        simp only [↓PX, SX, SYX, EY, simprocAttr, TYX, cellsNV, foldNV, BY]
        refine CallVC.intro (v_Modulus s) ⟨rfl, trivial⟩ rfl rfl ?_
        simp only [↓PX, SX, SYX, EY, simprocAttr, TYX, cellsNV, foldNV, BY, he, e0, hfull]
        repeat (first | refine DrawVC.intro (by kernel_rfl) ?_ | refine And.intro (by omega) ?_ | exact trivial)
        refine CallVC.intro (v_number l hl h32) ⟨(by simp only [argMatch, SX, SYX, EY, simprocAttr, and_self, List.length_append, List.length_map, List.length_set, TYX, cellsNV, foldNV, BY, hfull, h32]), trivial⟩ rfl rfl ?_
        simp only [↓PX, SX, SYX, EY, simprocAttr, TYX, cellsNV, foldNV, BY, hfull, h32]
        refine CallVC.intro (c_below _ _ hnw hmw) ⟨rfl, rfl, trivial⟩ rfl rfl ?_
        simp only [↓PX, SX, SYX, EY, simprocAttr, TYX, cellsNV, foldNV, BY, d1, hfull]
        refine CallVC.intro (v_number l hl h32) ⟨(by simp only [argMatch, SX, SYX, EY, simprocAttr, and_self, List.length_append, List.length_map, List.length_set, TYX, cellsNV, foldNV, BY, hfull, h32]), trivial⟩ rfl rfl ?_
        simp only [↓PX, SX, SYX, EY, simprocAttr, TYX, cellsNV, foldNV, BY, hfull, h32]
      · have hok : ¬ dOK s l := fun h => hlt h.2
        have e1 : dV s l = 0 := by simp [dV, hok]
        have e2 : dE s l = 21 := by simp [dE, hk, hok]
        have d1 : decide (nb l 32 < md s) = false := by simpa using hlt
        rw [e1, e2, h32]
        refine contract_of (N := _) (vars := _) (c := bodyOf Try.f47) Try.func47 (body_eq rfl) rfl rfl (by rfl) mixed _ _ trivial 1000 ?_
        simp only [bodyOf, Try.f47, Option.getD_some, argA, argE, List.length_cons, List.length_nil, Nat.reduceAdd, Nat.reduceSub, List.replicate, List.cons_append, List.nil_append]
        simp only [↓PX, SX, SYX, EY, simprocAttr, TYX, cellsNV, foldNV, BY]
        refine CallVC.intro (v_Modulus s) ⟨rfl, trivial⟩ rfl rfl ?_
        simp only [↓PX, SX, SYX, EY, simprocAttr, TYX, cellsNV, foldNV, BY, he, e0, hfull]
        repeat (first | refine DrawVC.intro (by kernel_rfl) ?_ | refine And.intro (by omega) ?_ | exact trivial)
        refine CallVC.intro (v_number l hl h32) ⟨(by simp only [argMatch, SX, SYX, EY, simprocAttr, and_self, List.length_append, List.length_map, List.length_set, TYX, cellsNV, foldNV, BY, hfull, h32]), trivial⟩ rfl rfl ?_
        simp only [↓PX, SX, SYX, EY, simprocAttr, TYX, cellsNV, foldNV, BY, hfull, h32]
        refine CallVC.intro (c_below _ _ hnw hmw) ⟨rfl, rfl, trivial⟩ rfl rfl ?_
        simp only [↓PX, SX, SYX, EY, simprocAttr, TYX, cellsNV, foldNV, BY, d1, hfull]
    · have hok : ¬ dOK s l := fun h => h32 h.1
      have e1 : dV s l = 0 := by simp [dV, hok]
      have e2 : dE s l = 21 := by simp [dE, hk, hok]
      have d1 : ((l.length : Int) != 32) = true := by simp; omega
      rw [e1, e2]
      refine contract_of (N := _) (vars := _) (c := bodyOf Try.f47) Try.func47 (body_eq rfl) rfl rfl (by rfl) mixed _ _ trivial 1000 ?_
      simp only [bodyOf, Try.f47, Option.getD_some, argA, argE, List.length_cons, List.length_nil, Nat.reduceAdd, Nat.reduceSub, List.replicate, List.cons_append, List.nil_append]
      simp only [↓PX, SX, SYX, EY, simprocAttr, TYX, cellsNV, foldNV, BY]
      refine CallVC.intro (v_Modulus s) ⟨rfl, trivial⟩ rfl rfl ?_
      simp only [↓PX, SX, SYX, EY, simprocAttr, TYX, cellsNV, foldNV, BY, he, d1]
      repeat (first | refine DrawVC.intro (by kernel_rfl) ?_ | refine And.intro (by omega) ?_ | exact trivial)
theorem ord5 {s : Int} (hk : kn s = true) : ∀ n, 0 < n → n < md s - 1 → 5 ^ n % md s ≠ 1 := by
  rcases kn_or s hk with rfl | rfl | rfl | rfl
  · exact fermat0_ord
  · exact fermat1_ord
  · exact fermat2_ord
  · exact fermat3_ord
/-- A root's powers: none before the last is 1. -/
theorem rk_ord {s : Int} (hk : kn s = true) {j : Nat} (hj : j ≤ sS s + 1) {r : Nat} (hr : r = 5 ^ ((md s - 1) / 2 ^ j) % md s) : (∀ i, i < j → r ^ 2 ^ i % md s ≠ 1) ∧ r ^ 2 ^ j % md s = 1 := by
  have G := sqf s hk
  have hq := G.qodd
  have e : (md s - 1) / 2 ^ j = 2 ^ (sS s + 1 - j) * qS s := by
    rw [G.fac, show sS s + 1 = j + (sS s + 1 - j) by omega, Nat.pow_add, Nat.mul_assoc, Nat.mul_div_cancel_left _ (Nat.pos_of_ne_zero (by simp)), show j + (sS s + 1 - j) - j = sS s + 1 - j by omega]
  have key : ∀ i, i ≤ j → r ^ 2 ^ i % md s = 5 ^ (2 ^ (sS s + 1 - (j - i)) * qS s) % md s := by
    intro i hi
    rw [hr, ← Nat.pow_mod, e, ← Nat.pow_mul, Nat.mul_right_comm, ← Nat.pow_add, show sS s + 1 - j + i = sS s + 1 - (j - i) by omega]
  have hp : ∀ k, 0 < 2 ^ k := fun k => Nat.pos_of_ne_zero (by simp)
  refine ⟨fun i hi => ?_, ?_⟩
  · rw [key i (by omega)]
    refine ord5 hk _ (Nat.mul_pos (hp _) (by omega)) ?_
    rw [G.fac]
    refine Nat.mul_lt_mul_of_pos_right (Nat.pow_lt_pow_right (by decide) (by omega)) (by omega)
  · rw [key j (Nat.le_refl _), Nat.sub_self, Nat.sub_zero, ← G.fac, ← κ_eq1 G.P.1, κ_pow]
    refine f_fermat G.P ?_
    rw [ne_eq, κ_eq0]
    rcases kn_or s hk with rfl | rfl | rfl | rfl <;> decide
theorem c_round (s : Int) (a : Nat) (l : List Nat) (k : Int) (ha : a < W256) (hl : ∀ x ∈ l, x < 256) (hb : l.length ≤ 140737488355328) (hk0 : -9223372036854775808 ≤ k) (hk1 : k < 9223372036854775808) :
    Contract Try.prog 9 [.val (.int .i64 s), .val (EN a), .sl l.length 1 (LC bC l), .val (.int .i64 k)] [.val (.bool true)] := by
  cases srt s with
  | no hk he hm F R ha' h =>
    have hs : decide (s < 0) = true ∨ decide (s < 0) = false ∧ decide (3 < s) = true := by simp only [decide_eq_true_eq, decide_eq_false_iff_not]; omega
    rcases hs with h1 | ⟨h1, h2⟩
    · refine contract_of (N := _) (vars := _) (c := bodyOf Try.f9) Try.func9 (body_eq rfl) rfl rfl (by rfl) mixed _ _ trivial 1000 ?_
      simp only [bodyOf, Try.f9, Option.getD_some, argA, argE, List.length_cons, List.length_nil, Nat.reduceAdd, Nat.reduceSub, List.replicate, List.cons_append, List.nil_append]
      simp only [↓PX, SX, SYX, EY, simprocAttr, TYX, cellsNV, foldNV, BY]
      repeat (first
        | (refine DrawVC.intro (by kernel_rfl) ?_)
        | exact trivial
        | (refine CallVC.intro (c_alive) trivial rfl rfl ?_; simp only [↓PX, SX, SYX, EY, simprocAttr, TYX, cellsNV, foldNV, BY, h1]))
    · refine contract_of (N := _) (vars := _) (c := bodyOf Try.f9) Try.func9 (body_eq rfl) rfl rfl (by rfl) mixed _ _ trivial 1000 ?_
      simp only [bodyOf, Try.f9, Option.getD_some, argA, argE, List.length_cons, List.length_nil, Nat.reduceAdd, Nat.reduceSub, List.replicate, List.cons_append, List.nil_append]
      simp only [↓PX, SX, SYX, EY, simprocAttr, TYX, cellsNV, foldNV, BY]
      repeat (first
        | (refine DrawVC.intro (by kernel_rfl) ?_)
        | exact trivial
        | (refine CallVC.intro (c_alive) trivial rfl rfl ?_; simp only [↓PX, SX, SYX, EY, simprocAttr, TYX, cellsNV, foldNV, BY, h1, h2]))
  | yes hk he sm ng sq F R P h2 =>
    have hs := kn_or s hk
    have d1 : decide (s < 0) = false := by simp; omega
    have d2 : decide (3 < s) = false := by simp; omega
    have e1 : encL s a = byL (a % md s) := by simp [encL, hk]
    have hmw : md s < W256 := by have := md_lt s; omega
    have e2 : nb (byL (a % md s)) 32 = a % md s := nb_byL (md_w s a)
    have hok : dOK s (byL (a % md s)) := ⟨byL_len _, by rw [e2]; exact md_mod _ _⟩
    have e3 : dV s (byL (a % md s)) = a % md s := by simp [dV, hk, hok, e2]
    have e4 : dE s (byL (a % md s)) = 0 := by simp [dE, hk, hok]
    have hd := u_Decode s (byL (a % md s)) (byL_lt _) (by rw [byL_len]; decide)
    rw [e3, e4] at hd
    refine contract_of (N := _) (vars := _) (c := bodyOf Try.f9) Try.func9 (body_eq rfl) rfl rfl (by rfl) mixed _ _ trivial 1000 ?_
    simp only [bodyOf, Try.f9, Option.getD_some, argA, argE, List.length_cons, List.length_nil, Nat.reduceAdd, Nat.reduceSub, List.replicate, List.cons_append, List.nil_append]
    simp only [↓PX, SX, SYX, EY, simprocAttr, TYX, cellsNV, foldNV, BY]
    refine CallVC.intro (c_alive) trivial rfl rfl ?_
    simp only [↓PX, SX, SYX, EY, simprocAttr, TYX, cellsNV, foldNV, BY, d1, d2]
    refine CallVC.intro (u_Encode s a ha) ⟨rfl, rfl, trivial⟩ rfl rfl ?_
    simp only [↓PX, SX, SYX, EY, simprocAttr, TYX, cellsNV, foldNV, BY, e1, byL_len]
    refine CallVC.intro (hd) ⟨rfl, (by simp only [argMatch, SX, SYX, EY, simprocAttr, and_self, List.length_append, List.length_map, List.length_set, TYX, cellsNV, foldNV, BY, byL_len]), trivial⟩ rfl rfl ?_
    simp only [↓PX, SX, SYX, EY, simprocAttr, TYX, cellsNV, foldNV, BY, byL_len]
    repeat (first
      | (refine DrawVC.intro (by kernel_rfl) ?_)
      | exact trivial
      | (refine CallVC.intro (u_Add _ _ _ (by first | assumption | exact md_w _ _ | exact md_w2 (inv_lt _ _) | decide | omega) (by first | assumption | exact md_w _ _ | exact md_w2 (inv_lt _ _) | decide | omega)) ⟨rfl, rfl, rfl, trivial⟩ rfl rfl ?_; simp only [↓PX, SX, SYX, EY, simprocAttr, TYX, cellsNV, foldNV, BY, Nat.add_zero]))
    refine CallVC.intro (c_CopyBytes l hb) ⟨(by simp only [argMatch, SX, SYX, EY, simprocAttr, and_self, List.length_append, List.length_map, List.length_set, TYX, cellsNV, foldNV, BY]), trivial⟩ rfl rfl ?_
    simp only [↓PX, SX, SYX, EY, simprocAttr, TYX, cellsNV, foldNV, BY]
    by_cases hok2 : dOK s l
    · have e5 : dE s l = 0 := by simp [dE, hk, hok2]
      have e6 : dV s l = nb l 32 := by simp [dV, hk, hok2]
      have e7 : encL s (nb l 32) = l := by simp only [encL, hk, if_true]; rw [Nat.mod_eq_of_lt hok2.2, byL_nb hl hok2.1]
      have hnw := nb_w hl hok2.1
      refine CallVC.intro (u_Decode s l hl (by omega)) ⟨rfl, (by simp only [argMatch, SX, SYX, EY, simprocAttr, and_self, List.length_append, List.length_map, List.length_set, TYX, cellsNV, foldNV, BY, e5, e6]), trivial⟩ rfl rfl ?_
      simp only [↓PX, SX, SYX, EY, simprocAttr, TYX, cellsNV, foldNV, BY, e5, e6]
      refine CallVC.intro (u_Encode s (nb l 32) hnw) ⟨rfl, rfl, trivial⟩ rfl rfl ?_
      simp only [↓PX, SX, SYX, EY, simprocAttr, TYX, cellsNV, foldNV, BY, e7]
      refine CallVC.intro (c_SameBytes l l (by omega)) ⟨(by simp only [argMatch, SX, SYX, EY, simprocAttr, and_self, List.length_append, List.length_map, List.length_set, TYX, cellsNV, foldNV, BY]), (by simp only [argMatch, SX, SYX, EY, simprocAttr, and_self, List.length_append, List.length_map, List.length_set, TYX, cellsNV, foldNV, BY]), trivial⟩ rfl rfl ?_
      simp only [↓PX, SX, SYX, EY, simprocAttr, TYX, cellsNV, foldNV, BY]
      by_cases hr : rkO s k
      · have e8 : eR s k = 0 := by simp [eR, hk, hr]
        obtain ⟨j, hj⟩ : ∃ j : Nat, k = (j : Int) := ⟨k.toNat, by have := hr.1; omega⟩
        subst hj
        have hS := adc_S s hk
        have hs31 : sS s ≤ 31 := by unfold sS; split <;> (try split) <;> omega
        have hj32 : j ≤ sS s + 1 := by have := hr.2; omega
        have e9 : rk s j = 5 ^ ((md s - 1) / 2 ^ j) % md s := by simp [rk, hk, hr]
        obtain ⟨o1, o2⟩ := rk_ord hk hj32 e9
        refine CallVC.intro (u_Root s j) ⟨rfl, rfl, trivial⟩ rfl rfl ?_
        simp only [↓PX, SX, SYX, EY, simprocAttr, TYX, cellsNV, foldNV, BY, e8]
        obtain ⟨r, hrr⟩ : ∃ r, r = rk s j := ⟨_, rfl⟩
        have hrl : r < md s := by rw [hrr]; exact rk_w s j
        rw [← hrr] at o1 o2
        rw [← hrr]
        refine loop_hav ?_
        simp only [↓PX, SX, SYX, EY, simprocAttr, TYX, cellsNV, foldNV, BY]
        refine loop_go mixed (by trivial) (γ := Nat) (fun i => i ≤ j) (fun i => j - i) (fun i => [(13, iv i)]) (fun i => [(256, .box (eC (r ^ 2 ^ i % md s)))]) 0 (by omega)
          (St.le_of id (by simp [-List.getD_eq_getElem?_getD, SYX, iv, Tle, AVle, A0le, Mem.get, eC, Nat.mod_eq_of_lt hrl]) (by simp [-List.getD_eq_getElem?_getD, SYX, Mle, Ele, Mem.get, eC, Nat.mod_eq_of_lt hrl]) (by simp [SYX]) (by simp [SYX])) ?_
        intro i hi
        have hpw := md_w s (r ^ 2 ^ i)
        by_cases hij : i < j
        · have d3 : decide ((i : Int) < (j : Int)) = true := by simp; omega
          have d4 : decide ((i : Int) < 64) = true := by simp; omega
          have d5 : eqN (r ^ 2 ^ i % md s) 1 = false := by rw [eqN_eq hpw (by decide)]; simpa using o1 i hij
          have e10 : (r ^ 2 ^ i % md s) * (r ^ 2 ^ i % md s) % md s = r ^ 2 ^ (i + 1) % md s := by rw [← Nat.mul_mod, Nat.pow_succ, Nat.mul_two, Nat.pow_add]
          have e11 : r ^ 2 ^ i * r ^ 2 ^ i % md s = r ^ 2 ^ (i + 1) % md s := by rw [Nat.pow_succ 2, Nat.mul_two, Nat.pow_add]
          simp only [↓PX, SX, SYX, EY, simprocAttr, TYX, cellsNV, foldNV, BY, d3, d4, d5]
          refine CallVC.intro (u_Mul s _ _ hpw hpw) ⟨rfl, rfl, rfl, trivial⟩ rfl rfl ?_
          simp only [↓PX, SX, SYX, EY, simprocAttr, TYX, cellsNV, foldNV, BY, wS (j := i) (by omega)]
          exact ⟨i + 1, by omega, by omega, (St.le_of id (by simp [-List.getD_eq_getElem?_getD, SYX, iv, Tle, AVle, A0le, Mem.get, e10, e11]) (by simp [-List.getD_eq_getElem?_getD, SYX, Mle, Ele, Mem.get, e10, e11]) (by simp [SYX]) (by simp [SYX]))⟩
        · have h0 : i = j := by omega
          subst h0
          have d3 : decide ((i : Int) < (i : Int)) = false := by simp
          have d5 : eqN (r ^ 2 ^ i % md s) 1 = true := by rw [eqN_eq hpw (by decide)]; simpa using o2
          simp only [↓PX, SX, SYX, EY, simprocAttr, TYX, cellsNV, foldNV, BY, d3, d5]
      · have e8 : eR s k = 60 := by simp [eR, hk, hr]
        have e9 : rk s k = 0 := by simp [rk, hr]
        refine CallVC.intro (u_Root s k) ⟨rfl, rfl, trivial⟩ rfl rfl ?_
        simp only [↓PX, SX, SYX, EY, simprocAttr, TYX, cellsNV, foldNV, BY, e8, e9]
    · have e5 : dE s l = 21 := by simp [dE, hk, hok2]
      refine CallVC.intro (u_Decode s l hl (by omega)) ⟨rfl, (by simp only [argMatch, SX, SYX, EY, simprocAttr, and_self, List.length_append, List.length_map, List.length_set, TYX, cellsNV, foldNV, BY, e5]), trivial⟩ rfl rfl ?_
      simp only [↓PX, SX, SYX, EY, simprocAttr, TYX, cellsNV, foldNV, BY, e5]
      by_cases hr : rkO s k
      · have e8 : eR s k = 0 := by simp [eR, hk, hr]
        obtain ⟨j, hj⟩ : ∃ j : Nat, k = (j : Int) := ⟨k.toNat, by have := hr.1; omega⟩
        subst hj
        have hS := adc_S s hk
        have hs31 : sS s ≤ 31 := by unfold sS; split <;> (try split) <;> omega
        have hj32 : j ≤ sS s + 1 := by have := hr.2; omega
        have e9 : rk s j = 5 ^ ((md s - 1) / 2 ^ j) % md s := by simp [rk, hk, hr]
        obtain ⟨o1, o2⟩ := rk_ord hk hj32 e9
        refine CallVC.intro (u_Root s j) ⟨rfl, rfl, trivial⟩ rfl rfl ?_
        simp only [↓PX, SX, SYX, EY, simprocAttr, TYX, cellsNV, foldNV, BY, e8]
        obtain ⟨r, hrr⟩ : ∃ r, r = rk s j := ⟨_, rfl⟩
        have hrl : r < md s := by rw [hrr]; exact rk_w s j
        rw [← hrr] at o1 o2
        rw [← hrr]
        refine loop_hav ?_
        simp only [↓PX, SX, SYX, EY, simprocAttr, TYX, cellsNV, foldNV, BY]
        refine loop_go mixed (by trivial) (γ := Nat) (fun i => i ≤ j) (fun i => j - i) (fun i => [(13, iv i)]) (fun i => [(256, .box (eC (r ^ 2 ^ i % md s)))]) 0 (by omega)
          (St.le_of id (by simp [-List.getD_eq_getElem?_getD, SYX, iv, Tle, AVle, A0le, Mem.get, eC, Nat.mod_eq_of_lt hrl]) (by simp [-List.getD_eq_getElem?_getD, SYX, Mle, Ele, Mem.get, eC, Nat.mod_eq_of_lt hrl]) (by simp [SYX]) (by simp [SYX])) ?_
        intro i hi
        have hpw := md_w s (r ^ 2 ^ i)
        by_cases hij : i < j
        · have d3 : decide ((i : Int) < (j : Int)) = true := by simp; omega
          have d4 : decide ((i : Int) < 64) = true := by simp; omega
          have d5 : eqN (r ^ 2 ^ i % md s) 1 = false := by rw [eqN_eq hpw (by decide)]; simpa using o1 i hij
          have e10 : (r ^ 2 ^ i % md s) * (r ^ 2 ^ i % md s) % md s = r ^ 2 ^ (i + 1) % md s := by rw [← Nat.mul_mod, Nat.pow_succ, Nat.mul_two, Nat.pow_add]
          have e11 : r ^ 2 ^ i * r ^ 2 ^ i % md s = r ^ 2 ^ (i + 1) % md s := by rw [Nat.pow_succ 2, Nat.mul_two, Nat.pow_add]
          simp only [↓PX, SX, SYX, EY, simprocAttr, TYX, cellsNV, foldNV, BY, d3, d4, d5]
          refine CallVC.intro (u_Mul s _ _ hpw hpw) ⟨rfl, rfl, rfl, trivial⟩ rfl rfl ?_
          simp only [↓PX, SX, SYX, EY, simprocAttr, TYX, cellsNV, foldNV, BY, wS (j := i) (by omega)]
          exact ⟨i + 1, by omega, by omega, (St.le_of id (by simp [-List.getD_eq_getElem?_getD, SYX, iv, Tle, AVle, A0le, Mem.get, e10, e11]) (by simp [-List.getD_eq_getElem?_getD, SYX, Mle, Ele, Mem.get, e10, e11]) (by simp [SYX]) (by simp [SYX]))⟩
        · have h0 : i = j := by omega
          subst h0
          have d3 : decide ((i : Int) < (i : Int)) = false := by simp
          have d5 : eqN (r ^ 2 ^ i % md s) 1 = true := by rw [eqN_eq hpw (by decide)]; simpa using o2
          simp only [↓PX, SX, SYX, EY, simprocAttr, TYX, cellsNV, foldNV, BY, d3, d5]
      · have e8 : eR s k = 60 := by simp [eR, hk, hr]
        have e9 : rk s k = 0 := by simp [rk, hr]
        refine CallVC.intro (u_Root s k) ⟨rfl, rfl, trivial⟩ rfl rfl ?_
        simp only [↓PX, SX, SYX, EY, simprocAttr, TYX, cellsNV, foldNV, BY, e8, e9]
end Go.Sx
