/-
  PolyLimits. No conditions.
-/
import Derived.Test.YtndmafefpiigoaaZPox
namespace Go.Sx
open Go.Proofs Go.Num
-- SY
-- TY: TYX, UX
set_option maxRecDepth 100000
set_option linter.unusedSimpArgs false
set_option pp.deepTerms true
set_option pp.maxSteps 100000
/-- All zeros but one. -/
def mon (N i v : Nat) : List Nat := (List.replicate N 0).set i v
theorem mon_len {N i v : Nat} : (mon N i v).length = N := by simp [mon]
theorem mon_at {N i v j : Nat} (hi : i < N) : (mon N i v).getD j 0 = if j = i then v else 0 := by
  unfold mon
  rw [List.getD_eq_getElem?_getD, List.getElem?_set]
  by_cases h : i = j
  · subst h; simp [hi]
  · have : ¬ j = i := fun e => h e.symm
    simp only [h, this, if_false, List.getElem?_replicate]
    split <;> rfl
theorem mon_w {N i v : Nat} (hv : v < W256) : ∀ x ∈ mon N i v, x < W256 := by
  intro x hx
  rcases List.mem_or_eq_of_mem_set hx with h | rfl
  · rw [List.mem_replicate] at h; rw [h.2]; decide
  · exact hv
theorem tp_mon_len {m N i v : Nat} (hi : i < N) (hv : v % m ≠ 0) : (tp m (mon N i v)).length = i + 1 := by
  refine tp_len_eq (fun j hj => ?_) (.inr ?_)
  · rw [mon_at hi, if_neg (by omega), Nat.zero_mod]
  · rw [Nat.add_sub_cancel, mon_at hi, if_pos rfl]; exact hv
theorem tp_mon_at {m N i v j : Nat} (hi : i < N) (hv : v < m) : (tp m (mon N i v)).getD j 0 = if j = i then v else 0 := by
  rw [tp_getD, mon_at hi]
  split
  · exact Nat.mod_eq_of_lt hv
  · exact Nat.zero_mod _
theorem sb_0 {m : Nat} : sb m 0 0 = 0 := by simp [sb]
/-- A monomial over one: the rest is nothing. -/
theorem lim_rest {s : Int} (P : PR (md s)) (h2 : 2 < md s) {n k : Nat} (hk : 1 ≤ k) (hkn : k ≤ n) (t j : Nat) : dRs s (mon (n + 3) (n - 1) 1) (mon k (k - 1) 2) (t + 1) j = 0 := by
  have lA : (tp (md s) (mon (n + 3) (n - 1) 1)).length = n := by rw [tp_mon_len (by omega) (by rw [Nat.mod_eq_of_lt (by omega)]; decide)]; omega
  have lB : (tp (md s) (mon k (k - 1) 2)).length = k := by rw [tp_mon_len (by omega) (by rw [Nat.mod_eq_of_lt (by omega)]; decide)]; omega
  have hl : ldD s (mon k (k - 1) 2) * 2 % md s = 1 := by
    have e : κ (md s) 2 ≠ 0 := by rw [Ne, κ_eq0, Nat.mod_eq_of_lt (by omega)]; decide
    have e1 := ι_mul P e
    unfold ldD
    rw [lB, tp_mon_at (by omega) (by omega), if_pos rfl]
    rw [← κ_eq1 (m := md s) (by omega), κ_mul, κ_inv, ← e1]
    grind
  unfold dRs
  induction t generalizing j with
  | zero =>
    unfold dR dR
    rw [lA, lB]
    simp only [Nat.sub_zero]
    have ea : ∀ j, (tp (md s) (mon (n + 3) (n - 1) 1)).getD j 0 = if j = n - 1 then 1 else 0 := fun j => tp_mon_at (by omega) (by omega)
    have eb : ∀ j, (tp (md s) (mon k (k - 1) 2)).getD j 0 = if j = k - 1 then 2 else 0 := fun j => tp_mon_at (by omega) (by omega)
    rw [ea, ea, eb, if_pos rfl, Nat.one_mul]
    by_cases hj : j = n - 1
    · subst hj
      rw [if_pos (by omega), if_pos rfl, if_pos (by omega), Nat.mod_mul_mod, hl]
      unfold sb
      rw [Nat.mod_eq_of_lt (show 1 < md s by omega), Nat.mod_eq_of_lt (show md s - 1 < md s by omega), show 1 + (md s - 1) = md s by omega, Nat.mod_self]
    · rw [if_neg hj]
      split
      · rw [if_neg (by omega), Nat.mul_zero, Nat.zero_mod, sb_0]
      · rfl
  | succ t ih =>
    unfold dR
    rw [ih, ih, Nat.zero_mul, Nat.zero_mod, Nat.zero_mul, Nat.zero_mod, sb_0]
    split <;> rfl
theorem lim_R {s : Int} (P : PR (md s)) (h2 : 2 < md s) {n k : Nat} (hk : 1 ≤ k) (hkn : k ≤ n) : dvR s (mon (n + 3) (n - 1) 1) (mon k (k - 1) 2) = [] := by
  unfold dvR
  split
  · refine List.eq_nil_of_length_eq_zero (Nat.le_zero.1 (tp_len_le fun i _ => ?_))
    have lA : (tp (md s) (mon (n + 3) (n - 1) 1)).length = n := by rw [tp_mon_len (by omega) (by rw [Nat.mod_eq_of_lt (by omega)]; decide)]; omega
    have lB : (tp (md s) (mon k (k - 1) 2)).length = k := by rw [tp_mon_len (by omega) (by rw [Nat.mod_eq_of_lt (by omega)]; decide)]; omega
    have hN : nD s (mon (n + 3) (n - 1) 1) (mon k (k - 1) 2) = n - k + 1 := by unfold nD; rw [lA, lB]; omega
    rw [hN]
    by_cases h : i < (tp (md s) (mon (n + 3) (n - 1) 1)).length
    · rw [tab_at h, lim_rest P h2 hk hkn, Nat.zero_mod]
    · rw [tab_out (by omega), Nat.zero_mod]
  · rfl
theorem lim_P {s : Int} (P : PR (md s)) (h2 : 2 < md s) (hk0 : kn s = true) {n k : Nat} (hn : 1 ≤ n) (hk : 1 ≤ k) (h : n + k ≤ 1024) : (pM s (mon (n + 3) (n - 1) 1) (mon k (k - 1) 2)).length = n + k - 1 := by
  have lA : (tp (md s) (mon (n + 3) (n - 1) 1)).length = n := by rw [tp_mon_len (by omega) (by rw [Nat.mod_eq_of_lt (by omega)]; decide)]; omega
  have lB : (tp (md s) (mon k (k - 1) 2)).length = k := by rw [tp_mon_len (by omega) (by rw [Nat.mod_eq_of_lt (by omega)]; decide)]; omega
  have e : pM s (mon (n + 3) (n - 1) 1) (mon k (k - 1) 2) = mulR (md s) (tp (md s) (mon (n + 3) (n - 1) 1)) (tp (md s) (mon k (k - 1) 2)) := by
    rw [mulR_tp P (nrm_tp (md_pos s) _) (nrm_tp (md_pos s) _)]
    unfold pM okM
    rw [lA, lB]
    simp [hk0, h]
  rw [e]
  unfold mulR
  rw [if_neg (by rw [lA, lB]; omega), tab_len, lA, lB]
theorem lim_e {s : Int} (h2 : 2 < md s) (hk0 : kn s = true) {n k : Nat} (hn : 1 ≤ n) (hk : 1 ≤ k) : eM s (mon (n + 3) (n - 1) 1) (mon k (k - 1) 2) = if n + k ≤ 1024 then 0 else 70 := by
  have lA : (tp (md s) (mon (n + 3) (n - 1) 1)).length = n := by rw [tp_mon_len (by omega) (by rw [Nat.mod_eq_of_lt (by omega)]; decide)]; omega
  have lB : (tp (md s) (mon k (k - 1) 2)).length = k := by rw [tp_mon_len (by omega) (by rw [Nat.mod_eq_of_lt (by omega)]; decide)]; omega
  unfold eM
  rw [hk0, lA, lB]; rfl
theorem lim_d {s : Int} (h2 : 2 < md s) (hk0 : kn s = true) {n k : Nat} (hn : 1 ≤ n) (hk : 1 ≤ k) : eDv s (mon (n + 3) (n - 1) 1) (mon k (k - 1) 2) = if n ≤ 1024 then 0 else 70 := by
  have lA : (tp (md s) (mon (n + 3) (n - 1) 1)).length = n := by rw [tp_mon_len (by omega) (by rw [Nat.mod_eq_of_lt (by omega)]; decide)]; omega
  have lB : (tp (md s) (mon k (k - 1) 2)).length = k := by rw [tp_mon_len (by omega) (by rw [Nat.mod_eq_of_lt (by omega)]; decide)]; omega
  unfold eDv
  rw [hk0, lA, lB, if_pos rfl, if_neg (by omega)]
theorem X_bne {P : Program} {T : Nat → AV} {x y : Operand} {ty ty' : TypeId} {a b : Bool} (hty : P.underlying ty = some .bool) (hx : ev T x = .o (.v (.bool a))) (hy : ev T y = .o (.v (.bool b))) :
    pureOp P T (.binOp .neq ty x y ty') (.bool (a != b)) := by
  intro o f w ho hf _
  have e1 := hf x (by simp [Op.operands]) _ hx
  have e2 := hf y (by simp [Op.operands]) _ hy
  have h3 := run_equal_bool (P := P) w ty a b hty
  simp [execOp, ho, e1, e2, resolve, eqGuard, binOp, h3]
  cases a <;> cases b <;> rfl
theorem c_PolyLimits (s n k : Int) (hs : -9223372036854775808 ≤ s ∧ s < 9223372036854775808) (hn : -9223372036854775808 ≤ n ∧ n < 9223372036854775808) (hk : -9223372036854775808 ≤ k ∧ k < 9223372036854775808) :
    Contract Try.prog 5 [.val (.int .i64 s), .val (.int .i64 n), .val (.int .i64 k)] [.val (.bool true)] := by
  cases d0 : decide (s < 0) with
  | true =>
    refine contract_of (N := _) (vars := _) (c := bodyOf Try.f5) Try.func5 (body_eq rfl) rfl rfl (by rfl) mixed _ _ trivial 1000 ?_
    simp only [bodyOf, Try.f5, Option.getD_some, argA, argE, List.length_cons, List.length_nil, Nat.reduceAdd, Nat.reduceSub, List.replicate, List.cons_append, List.nil_append]
    simp only [↓PX, SX, SYX, EY, simprocAttr, TYX, UX]
    refine CallVC.intro (c_alive7) trivial rfl rfl ?_
    simp only [↓PX, SX, SYX, EY, simprocAttr, TYX, UX, d0]
  | false =>
    cases d1 : decide (3 < s) with
    | true =>
      refine contract_of (N := _) (vars := _) (c := bodyOf Try.f5) Try.func5 (body_eq rfl) rfl rfl (by rfl) mixed _ _ trivial 1000 ?_
      simp only [bodyOf, Try.f5, Option.getD_some, argA, argE, List.length_cons, List.length_nil, Nat.reduceAdd, Nat.reduceSub, List.replicate, List.cons_append, List.nil_append]
      simp only [↓PX, SX, SYX, EY, simprocAttr, TYX, UX]
      refine CallVC.intro (c_alive7) trivial rfl rfl ?_
      simp only [↓PX, SX, SYX, EY, simprocAttr, TYX, UX, d0, d1]
    | false =>
      cases d2 : decide (n < 1) with
      | true =>
        refine contract_of (N := _) (vars := _) (c := bodyOf Try.f5) Try.func5 (body_eq rfl) rfl rfl (by rfl) mixed _ _ trivial 1000 ?_
        simp only [bodyOf, Try.f5, Option.getD_some, argA, argE, List.length_cons, List.length_nil, Nat.reduceAdd, Nat.reduceSub, List.replicate, List.cons_append, List.nil_append]
        simp only [↓PX, SX, SYX, EY, simprocAttr, TYX, UX]
        refine CallVC.intro (c_alive7) trivial rfl rfl ?_
        simp only [↓PX, SX, SYX, EY, simprocAttr, TYX, UX, d0, d1, d2]
      | false =>
        cases d3 : decide (k < 1) with
        | true =>
          refine contract_of (N := _) (vars := _) (c := bodyOf Try.f5) Try.func5 (body_eq rfl) rfl rfl (by rfl) mixed _ _ trivial 1000 ?_
          simp only [bodyOf, Try.f5, Option.getD_some, argA, argE, List.length_cons, List.length_nil, Nat.reduceAdd, Nat.reduceSub, List.replicate, List.cons_append, List.nil_append]
          simp only [↓PX, SX, SYX, EY, simprocAttr, TYX, UX]
          refine CallVC.intro (c_alive7) trivial rfl rfl ?_
          simp only [↓PX, SX, SYX, EY, simprocAttr, TYX, UX, d0, d1, d2, d3]
        | false =>
          cases d4 : decide (1100 < n) with
          | true =>
            refine contract_of (N := _) (vars := _) (c := bodyOf Try.f5) Try.func5 (body_eq rfl) rfl rfl (by rfl) mixed _ _ trivial 1000 ?_
            simp only [bodyOf, Try.f5, Option.getD_some, argA, argE, List.length_cons, List.length_nil, Nat.reduceAdd, Nat.reduceSub, List.replicate, List.cons_append, List.nil_append]
            simp only [↓PX, SX, SYX, EY, simprocAttr, TYX, UX]
            refine CallVC.intro (c_alive7) trivial rfl rfl ?_
            simp only [↓PX, SX, SYX, EY, simprocAttr, TYX, UX, d0, d1, d2, d3, d4]
          | false =>
            cases d5 : decide (40 < k) with
            | true =>
              refine contract_of (N := _) (vars := _) (c := bodyOf Try.f5) Try.func5 (body_eq rfl) rfl rfl (by rfl) mixed _ _ trivial 1000 ?_
              simp only [bodyOf, Try.f5, Option.getD_some, argA, argE, List.length_cons, List.length_nil, Nat.reduceAdd, Nat.reduceSub, List.replicate, List.cons_append, List.nil_append]
              simp only [↓PX, SX, SYX, EY, simprocAttr, TYX, UX]
              refine CallVC.intro (c_alive7) trivial rfl rfl ?_
              simp only [↓PX, SX, SYX, EY, simprocAttr, TYX, UX, d0, d1, d2, d3, d4, d5]
            | false =>
              have e0 := of_decide_eq_false d0
              have e1 := of_decide_eq_false d1
              have e2 := of_decide_eq_false d2
              have e3 := of_decide_eq_false d3
              have e4 := of_decide_eq_false d4
              have e5 := of_decide_eq_false d5
              obtain ⟨n, rfl⟩ : ∃ m : Nat, n = m := ⟨n.toNat, by omega⟩
              obtain ⟨k, rfl⟩ : ∃ m : Nat, k = m := ⟨k.toNat, by omega⟩
              cases srt s with
              | no _ _ _ _ _ _ hx => omega
              | yes hk0 _ _ _ _ _ _ P h2 =>
                have w1 : IntKind.i64.wrap ((n : Int) + 3) = ((n + 3 : Nat) : Int) := by rw [wI (by omega) (by omega)]; rfl
                have w2 : IntKind.i64.wrap ((n : Int) - 1) = ((n - 1 : Nat) : Int) := wP (by omega) (by omega)
                have w3 : IntKind.i64.wrap ((k : Int) - 1) = ((k - 1 : Nat) : Int) := wP (by omega) (by omega)
                refine contract_of (N := _) (vars := _) (c := bodyOf Try.f5) Try.func5 (body_eq rfl) rfl rfl (by rfl) mixed _ _ trivial 1000 ?_
                simp only [bodyOf, Try.f5, Option.getD_some, argA, argE, List.length_cons, List.length_nil, Nat.reduceAdd, Nat.reduceSub, List.replicate, List.cons_append, List.nil_append]
                simp only [↓PX, SX, SYX, EY, simprocAttr, TYX, UX]
                refine CallVC.intro (c_alive7) trivial rfl rfl ?_
                simp only [↓PX, SX, SYX, EY, simprocAttr, TYX, UX, d0, d1, d2, d3, d4, d5, w1, w2, w3]
                repeat (first | refine DrawVC.intro (by kernel_rfl) ?_ | refine And.intro (by omega) ?_ | exact trivial)
                have lr1 : (List.replicate (n + 3) 0).length = n + 3 := by simp
                have lr2 : (List.replicate k 0).length = k := by simp
                have m1 := eL_st (l := List.replicate (n + 3) 0) (j := n - 1) (v := 1) (by rw [lr1]; omega)
                have m2 := eL_st (l := List.replicate k 0) (j := k - 1) (v := 2) (by rw [lr2]; omega)
                rw [show (List.replicate (n + 3) 0).set (n - 1) 1 = mon (n + 3) (n - 1) 1 from rfl] at m1
                rw [show (List.replicate k 0).set (k - 1) 2 = mon k (k - 1) 2 from rfl] at m2
                have c1 := u_PMul s (mon (n + 3) (n - 1) 1) (mon k (k - 1) 2) (mon_w (by decide)) (mon_w (by decide)) (by rw [mon_len]; omega) (by rw [mon_len]; omega)
                have c2 := u_Divide s (mon (n + 3) (n - 1) 1) (mon k (k - 1) 2) (mon_w (by decide)) (mon_w (by decide)) (by rw [mon_len]; omega) (by rw [mon_len]; omega)
                rw [lim_e h2 hk0 (by omega) (by omega), mon_len, mon_len] at c1
                rw [lim_d h2 hk0 (by omega) (by omega), mon_len, mon_len] at c2
                simp only [↓PX, SX, SYX, EY, simprocAttr, TYX, UX, lr1, lr2, m1, m2]
                repeat (first | refine DrawVC.intro (by kernel_rfl) ?_ | refine And.intro (by omega) ?_ | exact trivial)
                refine CallVC.intro (c1) ⟨rfl, (by simp only [argMatch, SX, SYX, EY, simprocAttr, and_self, List.length_append, List.length_map, List.length_set, TYX, UX, mon_len]), (by simp only [argMatch, SX, SYX, EY, simprocAttr, and_self, List.length_append, List.length_map, List.length_set, TYX, UX, mon_len]), trivial⟩ rfl rfl ?_
                simp only [↓PX, SX, SYX, EY, simprocAttr, TYX, UX, mon_len]
                refine CallVC.intro (c2) ⟨rfl, (by simp only [argMatch, SX, SYX, EY, simprocAttr, and_self, List.length_append, List.length_map, List.length_set, TYX, UX, mon_len]), (by simp only [argMatch, SX, SYX, EY, simprocAttr, and_self, List.length_append, List.length_map, List.length_set, TYX, UX, mon_len]), trivial⟩ rfl rfl ?_
                simp only [↓PX, SX, SYX, EY, simprocAttr, TYX, UX, mon_len]
                have w4 : IntKind.i64.wrap ((n : Int) + (k : Int)) = ((n + k : Nat) : Int) := by rw [wI (by omega) (by omega)]; rfl
                have w5 : IntKind.i64.wrap (((n + k : Nat) : Int) - 1) = ((n + k - 1 : Nat) : Int) := wP (by omega) (by omega)
                have z1 : decide ((1024 : Int) < ((n + k : Nat) : Int)) = !decide (n + k ≤ 1024) := by rw [Bool.eq_iff_iff]; simp; omega
                have z2 : decide ((1024 : Int) < (n : Int)) = !decide (n ≤ 1024) := by rw [Bool.eq_iff_iff]; simp; omega
                have z3 : ((if n + k ≤ 1024 then (0 : Int) else 70) == 70) = !decide (n + k ≤ 1024) := by split <;> simp_all
                have z4 : ((if n ≤ 1024 then (0 : Int) else 70) == 70) = !decide (n ≤ 1024) := by split <;> simp_all
                refine ExVC.intro _ (X_bne Try.underlying4 rfl rfl) ?_
                simp only [↓PX, SX, SYX, EY, simprocAttr, TYX, UX, w4, z1, z3, bne_self_eq_false]
                refine ExVC.intro _ (X_bne Try.underlying4 rfl rfl) ?_
                simp only [↓PX, SX, SYX, EY, simprocAttr, TYX, UX, w4, z2, z4, bne_self_eq_false]
                by_cases hkn : k ≤ n
                · have z5 := lim_R (s := s) P h2 (n := n) (k := k) (by omega) hkn
                  simp only [↓PX, SX, SYX, EY, simprocAttr, TYX, UX, z5, List.length_nil, Int.ofNat_zero, bne_self_eq_false]
                  by_cases hA : n + k ≤ 1024
                  · have z8 := lim_P (s := s) P h2 hk0 (n := n) (k := k) (by omega) (by omega) hA
                    simp only [↓PX, SX, SYX, EY, simprocAttr, TYX, UX, hA, z8, w4, w5, if_true]
                  · simp only [↓PX, SX, SYX, EY, simprocAttr, TYX, UX, hA, if_false]
                · have z5 : decide ((k : Int) ≤ (n : Int)) = false := by simp only [decide_eq_false_iff_not]; omega
                  have z6 : n ≤ 1024 := by omega
                  simp only [↓PX, SX, SYX, EY, simprocAttr, TYX, UX, z5, z6, if_true, bne_self_eq_false]
                  refine guard_split (fun h => ?_) (fun h => ?_)
                  · simp only [↓PX, SX, SYX, EY, simprocAttr, TYX, UX, z5, z6, if_true, bne_self_eq_false]
                    by_cases hA : n + k ≤ 1024
                    · have z8 := lim_P (s := s) P h2 hk0 (n := n) (k := k) (by omega) (by omega) hA
                      simp only [↓PX, SX, SYX, EY, simprocAttr, TYX, UX, hA, z8, w4, w5, if_true]
                    · simp only [↓PX, SX, SYX, EY, simprocAttr, TYX, UX, hA, if_false]
                  · simp only [↓PX, SX, SYX, EY, simprocAttr, TYX, UX, z5, z6, if_true, bne_self_eq_false]
                    by_cases hA : n + k ≤ 1024
                    · have z8 := lim_P (s := s) P h2 hk0 (n := n) (k := k) (by omega) (by omega) hA
                      simp only [↓PX, SX, SYX, EY, simprocAttr, TYX, UX, hA, z8, w4, w5, if_true]
                    · simp only [↓PX, SX, SYX, EY, simprocAttr, TYX, UX, hA, if_false]
end Go.Sx
