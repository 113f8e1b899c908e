/-
  Lagrange of the reference. No conditions.
-/
import Derived.Test.YtndmafefpiigoaaZDoc
namespace Go.Sx
open Go.Proofs Go.Num
-- SY
-- TY: TYX, UX
set_option maxRecDepth 100000
set_option linter.unusedSimpArgs false
set_option pp.deepTerms true
set_option pp.maxSteps 100000
/-- The product over the other points. -/
def lgP (s k : Int) (i x : Nat) : Nat → Nat
  | 0 => 1
  | j + 1 => if j = i then lgP s k i x j else lgP s k i x j * sb (md s) x (pt s k j) % md s
theorem lgP_w (s k : Int) (i x : Nat) : ∀ j, lgP s k i x j < W256
  | 0 => by unfold lgP; decide
  | j + 1 => by
    unfold lgP
    split
    · exact lgP_w s k i x j
    · exact md_w s _
def lgV (s k i : Int) (x : Nat) : Nat := if inL s k i then lgP s k i.toNat x (2 ^ k.toNat) * inv s (lgP s k i.toNat (pt s k i.toNat) (2 ^ k.toNat)) % md s else 0
theorem v_Lagrange (s k i : Int) (x : Nat) (hx : x < W256) : Contract Try.prog 49 [.val (.int .i64 s), .val (.int .i64 k), .val (.int .i64 i), .val (EN x)] [.val (EN (lgV s k i x)), .val (.int .i64 (lgE s k i))] := by
  cases h : ptO s k with
  | false =>
    have e1 : lgV s k i x = 0 := by simp [lgV, inL, h]
    have e2 : lgE s k i = eK s k := by simp [lgE, h]
    have e3 : eK s k ≠ 0 := fun e => by rw [eK_0.1 e] at h; cases h
    have e4 : (eK s k != 0) = true := by simp [e3]
    rw [e1, e2]
    refine contract_of (N := _) (vars := _) (c := bodyOf Try.f49) Try.func49 (body_eq rfl) rfl rfl (by rfl) mixed _ _ trivial 1000 ?_
    simp only [bodyOf, Try.f49, Option.getD_some, argA, argE, List.length_cons, List.length_nil, Nat.reduceAdd, Nat.reduceSub, List.replicate, List.cons_append, List.nil_append]
    simp only [↓PX, SX, SYX, EY, simprocAttr, TYX, UX]
    refine CallVC.intro (v_Points s k) ⟨rfl, rfl, trivial⟩ rfl rfl ?_
    simp only [↓PX, SX, SYX, EY, simprocAttr, TYX, UX, e4]
  | true =>
    obtain ⟨h1, h2, h3⟩ := ptO_iff.1 h
    have e2 : eK s k = 0 := eK_0.2 h
    have hp := pow_le9 (k := k.toNat) (by omega)
    have hlen := ptL_len h
    have c1 := v_Points s k
    rw [e2, hlen] at c1
    obtain ⟨N, hN⟩ : ∃ N, 2 ^ k.toNat = N := ⟨_, rfl⟩
    rw [hN] at hp hlen c1
    cases d0 : decide (i < 0) with
    | true =>
      have := of_decide_eq_true d0
      have hin : inL s k i = false := by simp [inL]; omega
      have e1 : lgV s k i x = 0 := by simp [lgV, hin]
      have e3 : lgE s k i = 50 := by simp [lgE, h, hin]
      rw [e1, e3]
      refine contract_of (N := _) (vars := _) (c := bodyOf Try.f49) Try.func49 (body_eq rfl) rfl rfl (by rfl) mixed _ _ trivial 1000 ?_
      simp only [bodyOf, Try.f49, Option.getD_some, argA, argE, List.length_cons, List.length_nil, Nat.reduceAdd, Nat.reduceSub, List.replicate, List.cons_append, List.nil_append]
      simp only [↓PX, SX, SYX, EY, simprocAttr, TYX, UX]
      refine CallVC.intro (c1) ⟨rfl, rfl, trivial⟩ rfl rfl ?_
      simp only [↓PX, SX, SYX, EY, simprocAttr, TYX, UX, d0]
    | false =>
      have q0 := of_decide_eq_false d0
      cases d1 : decide ((N : Int) ≤ i) with
      | true =>
        have := of_decide_eq_true d1
        have hin : inL s k i = false := by simp only [inL, hN, Bool.and_eq_false_iff, decide_eq_false_iff_not]; omega
        have e1 : lgV s k i x = 0 := by simp [lgV, hin]
        have e3 : lgE s k i = 50 := by simp [lgE, h, hin]
        rw [e1, e3]
        refine contract_of (N := _) (vars := _) (c := bodyOf Try.f49) Try.func49 (body_eq rfl) rfl rfl (by rfl) mixed _ _ trivial 1000 ?_
        simp only [bodyOf, Try.f49, Option.getD_some, argA, argE, List.length_cons, List.length_nil, Nat.reduceAdd, Nat.reduceSub, List.replicate, List.cons_append, List.nil_append]
        simp only [↓PX, SX, SYX, EY, simprocAttr, TYX, UX]
        refine CallVC.intro (c1) ⟨rfl, rfl, trivial⟩ rfl rfl ?_
        simp only [↓PX, SX, SYX, EY, simprocAttr, TYX, UX, d0, d1]
      | false =>
        have q1 := of_decide_eq_false d1
        obtain ⟨j, rfl⟩ : ∃ j : Nat, i = j := ⟨i.toNat, by omega⟩
        have hj : j < (ptL s k).length := by omega
        have hin : inL s k j = true := by simp only [inL, h, hN, Bool.true_and, Bool.and_eq_true, decide_eq_true_eq]; omega
        have e3 : lgE s k j = 0 := by simp [lgE, h, hin]
        have e1 : lgV s k j x = lgP s k j x N * inv s (lgP s k j (pt s k j) N) % md s := by
          unfold lgV; rw [if_pos hin, hN]; rfl
        have hld := eL_ld hj
        rw [ptL_at h (by omega)] at hld
        have hpw := pt_w s k j
        rw [e1, e3]
        refine contract_of (N := _) (vars := _) (c := bodyOf Try.f49) Try.func49 (body_eq rfl) rfl rfl (by rfl) mixed _ _ trivial 1000 ?_
        simp only [bodyOf, Try.f49, Option.getD_some, argA, argE, List.length_cons, List.length_nil, Nat.reduceAdd, Nat.reduceSub, List.replicate, List.cons_append, List.nil_append]
        simp only [↓PX, SX, SYX, EY, simprocAttr, TYX, UX]
        refine CallVC.intro (c1) ⟨rfl, rfl, trivial⟩ rfl rfl ?_
        simp only [↓PX, SX, SYX, EY, simprocAttr, TYX, UX, d0, d1]
        refine loop_hav ?_
        simp only [↓PX, SX, SYX, EY, simprocAttr, TYX, UX]
        refine loop_go mixed (by trivial) (γ := Nat) (fun l => l ≤ N) (fun l => N - l) (fun l => [(14, iv l)]) (fun l => [(92, .box (eC (lgP s k j x l))), (104, .box (eC (lgP s k j (pt s k j) l)))]) 0 (by omega)
          (St.le_of id (by simp [-List.getD_eq_getElem?_getD, SYX, iv, Tle, AVle, A0le, Mem.get, lgP, eC]) (by simp [-List.getD_eq_getElem?_getD, SYX, Mle, Ele, Hle, Tle, AVle, A0le, Mem.get, lgP, eC]) (by simp [SYX]) (by simp [SYX])) ?_
        intro l hl
        simp only [↓PX, SX, SYX, EY, simprocAttr, TYX, UX]
        refine cond_split (fun h4 => ?_) (fun h4 => ?_)
        · have h4 : l < N := by simpa using h4
          have hll : l < (ptL s k).length := by omega
          have hle := eL_ld hll
          rw [ptL_at h (by omega)] at hle
          have hlw := pt_w s k l
          by_cases hlj : l = j
          · have d5 : ((l : Int) != (j : Int)) = false := by simp [hlj]
            have g1 : lgP s k j x (l + 1) = lgP s k j x l := by rw [lgP, if_pos hlj]
            have g2 : lgP s k j (pt s k j) (l + 1) = lgP s k j (pt s k j) l := by rw [lgP, if_pos hlj]
            simp only [↓PX, SX, SYX, EY, simprocAttr, TYX, UX, d5, wS (j := l) (by omega)]
            exact ⟨l + 1, by omega, by omega, (St.le_of id (by simp [-List.getD_eq_getElem?_getD, SYX, iv, Tle, AVle, A0le, Mem.get, g1, g2]) (by simp [-List.getD_eq_getElem?_getD, SYX, Mle, Ele, Hle, Tle, AVle, A0le, Mem.get, g1, g2]) (by simp [SYX]) (by simp [SYX]))⟩
          · have d5 : ((l : Int) != (j : Int)) = true := by simp; omega
            have g1 : lgP s k j x (l + 1) = lgP s k j x l * sb (md s) x (pt s k l) % md s := by rw [lgP, if_neg hlj]
            have g2 : lgP s k j (pt s k j) (l + 1) = lgP s k j (pt s k j) l * sb (md s) (pt s k j) (pt s k l) % md s := by rw [lgP, if_neg hlj]
            have m1 := v_Mul s (lgP s k j x l) (sb (md s) x (pt s k l)) (lgP_w s k j x l) (sb_w s _ _)
            have m2 := v_Mul s (lgP s k j (pt s k j) l) (sb (md s) (pt s k j) (pt s k l)) (lgP_w s k j _ l) (sb_w s _ _)
            rw [← g1] at m1
            rw [← g2] at m2
            simp only [↓PX, SX, SYX, EY, simprocAttr, TYX, UX, d5, hlen, hle, hld]
            repeat (first | refine DrawVC.intro (by kernel_rfl) ?_ | refine And.intro (by omega) ?_ | exact trivial)
            refine CallVC.intro (v_Sub' s x _ hx hlw) ⟨rfl, rfl, rfl, trivial⟩ rfl rfl ?_
            simp only [↓PX, SX, SYX, EY, simprocAttr, TYX, UX]
            refine CallVC.intro (m1) ⟨rfl, rfl, rfl, trivial⟩ rfl rfl ?_
            simp only [↓PX, SX, SYX, EY, simprocAttr, TYX, UX]
            repeat (first | refine DrawVC.intro (by kernel_rfl) ?_ | refine And.intro (by omega) ?_ | exact trivial)
            simp only [↓PX, SX, SYX, EY, simprocAttr, TYX, UX, hlen, hle, hld]
            repeat (first | refine DrawVC.intro (by kernel_rfl) ?_ | refine And.intro (by omega) ?_ | exact trivial)
            refine CallVC.intro (v_Sub' s _ _ hpw hlw) ⟨rfl, rfl, rfl, trivial⟩ rfl rfl ?_
            simp only [↓PX, SX, SYX, EY, simprocAttr, TYX, UX]
            refine CallVC.intro (m2) ⟨rfl, rfl, rfl, trivial⟩ rfl rfl ?_
            simp only [↓PX, SX, SYX, EY, simprocAttr, TYX, UX, wS (j := l) (by omega)]
            exact ⟨l + 1, by omega, by omega, (St.le_of id (by simp [-List.getD_eq_getElem?_getD, SYX, iv, Tle, AVle, A0le, Mem.get, eC]) (by simp [-List.getD_eq_getElem?_getD, SYX, Mle, Ele, Hle, Tle, AVle, A0le, Mem.get, eC]) (by simp [SYX]) (by simp [SYX]))⟩
        · have h4 : l = N := by
            have : N ≤ l := by simpa using h4
            omega
          subst h4
          simp only [↓PX, SX, SYX, EY, simprocAttr, TYX, UX]
          refine CallVC.intro (v_By s _ _ (lgP_w s k j x l) (lgP_w s k j (pt s k j) l)) ⟨rfl, rfl, rfl, trivial⟩ rfl rfl ?_
          simp only [↓PX, SX, SYX, EY, simprocAttr, TYX, UX]
end Go.Sx
