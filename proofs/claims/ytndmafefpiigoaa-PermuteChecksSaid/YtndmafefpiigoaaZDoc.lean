/-
  Lagrange of domain and of the reference. No conditions.
-/
import Derived.Test.YtndmafefpiigoaaZDoa
namespace Go.Sx
open Go.Proofs Go.Num
-- SY
-- TY: TYX, UX
set_option maxRecDepth 100000
set_option linter.unusedSimpArgs false
set_option pp.deepTerms true
set_option pp.maxSteps 100000
/-- A point. -/
def pt (s k : Int) (i : Nat) : Nat := pw s 1 (rk s k) i
theorem pt_w (s k : Int) (i : Nat) : pt s k i < W256 := pw_w (by decide) i
theorem ptL_some {s k : Int} (h : ptO s k = true) {i : Nat} (hi : i < 2 ^ k.toNat) : (ptL s k)[i]? = some (pt s k i) := by
  unfold ptL; rw [if_pos h, tab_some hi]; rfl
def inL (s k i : Int) : Bool := ptO s k && decide (0 ≤ i) && decide (i < ((2 ^ k.toNat : Nat) : Int))
def lgE (s k i : Int) : Int := if ptO s k then (if inL s k i then 0 else 50) else eK s k
def lgD (s k i : Int) (x : Nat) : Nat := iN s ((2 ^ k.toNat : Nat) : Int) * sb (md s) x (pt s k i.toNat) % md s
def lgU (s k i : Int) (x : Nat) : Nat := if inL s k i then (if lgD s k i x = 0 then 1 else pt s k i.toNat * vaN s k x % md s * inv s (lgD s k i x) % md s) else 0
theorem lgU_w (s k i : Int) (x : Nat) : lgU s k i x < W256 := by
  unfold lgU
  split
  · split
    · decide
    · exact md_w s _
  · decide
theorem u_Lagrange (s k i : Int) (x : Nat) (hx : x < W256) : Contract Try.prog 48 [.val (.int .i64 s), .val (.int .i64 k), .val (.int .i64 i), .val (EN x)] [.val (EN (lgU s k i x)), .val (.int .i64 (lgE s k i))] := by
  cases h : ptO s k with
  | false =>
    have e1 : lgU s k i x = 0 := by simp [lgU, inL, h]
    have e2 : lgE s k i = eK s k := by simp [lgE, h]
    have e3 : eK s k ≠ 0 := fun e => by rw [eK_0.1 e] at h; cases h
    have e4 : (eK s k != 0) = true := by simp [e3]
    rw [e1, e2]
    refine contract_of (N := _) (vars := _) (c := bodyOf Try.f48) Try.func48 (body_eq rfl) rfl rfl (by rfl) mixed _ _ trivial 1000 ?_
    simp only [bodyOf, Try.f48, Option.getD_some, argA, argE, List.length_cons, List.length_nil, Nat.reduceAdd, Nat.reduceSub, List.replicate, List.cons_append, List.nil_append]
    simp only [↓PX, SX, SYX, EY, simprocAttr, TYX, UX]
    refine CallVC.intro (u_Points s k) ⟨rfl, rfl, trivial⟩ rfl rfl ?_
    simp only [↓PX, SX, SYX, EY, simprocAttr, TYX, UX, e4]
  | true =>
    obtain ⟨h1, h2, h3⟩ := ptO_iff.1 h
    have e2 : eK s k = 0 := eK_0.2 h
    have hp := pow_le9 (k := k.toNat) (by omega)
    have hlen := ptL_len h
    have c1 := u_Points s k
    rw [e2, hlen] at c1
    obtain ⟨N, hN⟩ : ∃ N, 2 ^ k.toNat = N := ⟨_, rfl⟩
    rw [hN] at hp hlen c1
    cases d0 : decide (i < 0) with
    | true =>
      have := of_decide_eq_true d0
      have hin : inL s k i = false := by simp [inL]; omega
      have e1 : lgU s k i x = 0 := by simp [lgU, hin]
      have e3 : lgE s k i = 50 := by simp [lgE, h, hin]
      rw [e1, e3]
      refine contract_of (N := _) (vars := _) (c := bodyOf Try.f48) Try.func48 (body_eq rfl) rfl rfl (by rfl) mixed _ _ trivial 1000 ?_
      simp only [bodyOf, Try.f48, Option.getD_some, argA, argE, List.length_cons, List.length_nil, Nat.reduceAdd, Nat.reduceSub, List.replicate, List.cons_append, List.nil_append]
      simp only [↓PX, SX, SYX, EY, simprocAttr, TYX, UX]
      refine CallVC.intro (c1) ⟨rfl, rfl, trivial⟩ rfl rfl ?_
      simp only [↓PX, SX, SYX, EY, simprocAttr, TYX, UX, d0]
    | false =>
      have q0 := of_decide_eq_false d0
      cases d1 : decide ((N : Int) ≤ i) with
      | true =>
        have := of_decide_eq_true d1
        have hin : inL s k i = false := by simp only [inL, hN, Bool.and_eq_false_iff, decide_eq_false_iff_not]; omega
        have e1 : lgU s k i x = 0 := by simp [lgU, hin]
        have e3 : lgE s k i = 50 := by simp [lgE, h, hin]
        rw [e1, e3]
        refine contract_of (N := _) (vars := _) (c := bodyOf Try.f48) Try.func48 (body_eq rfl) rfl rfl (by rfl) mixed _ _ trivial 1000 ?_
        simp only [bodyOf, Try.f48, Option.getD_some, argA, argE, List.length_cons, List.length_nil, Nat.reduceAdd, Nat.reduceSub, List.replicate, List.cons_append, List.nil_append]
        simp only [↓PX, SX, SYX, EY, simprocAttr, TYX, UX]
        refine CallVC.intro (c1) ⟨rfl, rfl, trivial⟩ rfl rfl ?_
        simp only [↓PX, SX, SYX, EY, simprocAttr, TYX, UX, d0, d1]
      | false =>
        have q1 := of_decide_eq_false d1
        obtain ⟨j, rfl⟩ : ∃ j : Nat, i = j := ⟨i.toNat, by omega⟩
        have hj : j < (ptL s k).length := by omega
        have hin : inL s k j = true := by simp only [inL, h, hN, Bool.true_and, Bool.and_eq_true, decide_eq_true_eq]; omega
        have e3 : lgE s k j = 0 := by simp [lgE, h, hin]
        have hld : List.take 4 (List.drop (j * 4) (LC eC (ptL s k))) = eC (pt s k j) := LC_at eC_len (ptL_some h (by omega))
        have hpw := pt_w s k j
        rw [e3]
        refine contract_of (N := _) (vars := _) (c := bodyOf Try.f48) Try.func48 (body_eq rfl) rfl rfl (by rfl) mixed _ _ trivial 1000 ?_
        simp only [bodyOf, Try.f48, Option.getD_some, argA, argE, List.length_cons, List.length_nil, Nat.reduceAdd, Nat.reduceSub, List.replicate, List.cons_append, List.nil_append]
        simp only [↓PX, SX, SYX, EY, simprocAttr, TYX, UX]
        refine CallVC.intro (c1) ⟨rfl, rfl, trivial⟩ rfl rfl ?_
        simp only [↓PX, SX, SYX, EY, simprocAttr, TYX, UX, d0, d1]
        repeat (first | refine DrawVC.intro (by kernel_rfl) ?_ | refine And.intro (by omega) ?_ | exact trivial)
        simp only [↓PX, SX, SYX, EY, simprocAttr, TYX, UX, hlen, hld, eC]
        repeat (first | refine DrawVC.intro (by kernel_rfl) ?_ | refine And.intro (by omega) ?_ | exact trivial)
        have c2 := u_Int s N (by omega) (by omega)
        have c3 := u_Mul s (iN s N) (sb (md s) x (pt s k j)) (md_w2 (iN_lt _ _)) (sb_w s _ _)
        have hD : iN s N * sb (md s) x (pt s k j) % md s = lgD s k j x := by unfold lgD; rw [hN]; rfl
        rw [hD] at c3
        have hDl : lgD s k j x < md s := by rw [← hD]; exact md_mod _ _
        have c4 := u_Inv s (lgD s k j x) (md_w2 hDl)
        have c5 := u_Vanish s k x hx
        rw [e2] at c5
        by_cases hz : lgD s k j x = 0
        · have e5 : eI s (lgD s k j x) = 10 := by unfold eI; rw [if_pos h1, hz, Nat.zero_mod, if_pos rfl]
          have e6 : lgU s k j x = 1 := by unfold lgU; rw [if_pos hin, if_pos hz]
          rw [e6]
          rw [e5] at c4
          refine CallVC.intro (c2) ⟨rfl, rfl, trivial⟩ rfl rfl ?_
          simp only [↓PX, SX, SYX, EY, simprocAttr, TYX, UX]
          refine CallVC.intro (u_Sub' s x _ hx hpw) ⟨rfl, rfl, rfl, trivial⟩ rfl rfl ?_
          simp only [↓PX, SX, SYX, EY, simprocAttr, TYX, UX]
          refine CallVC.intro (c3) ⟨rfl, rfl, rfl, trivial⟩ rfl rfl ?_
          simp only [↓PX, SX, SYX, EY, simprocAttr, TYX, UX]
          refine CallVC.intro (c4) ⟨rfl, rfl, trivial⟩ rfl rfl ?_
          simp only [↓PX, SX, SYX, EY, simprocAttr, TYX, UX]
        · have e5 : eI s (lgD s k j x) = 0 := by unfold eI; rw [if_pos h1, if_neg (by rw [Nat.mod_eq_of_lt hDl]; exact hz)]
          have e6 : lgU s k j x = pt s k j * vaN s k x % md s * inv s (lgD s k j x) % md s := by unfold lgU; rw [if_pos hin, if_neg hz]; rfl
          rw [e6]
          rw [e5] at c4
          refine CallVC.intro (c2) ⟨rfl, rfl, trivial⟩ rfl rfl ?_
          simp only [↓PX, SX, SYX, EY, simprocAttr, TYX, UX]
          refine CallVC.intro (u_Sub' s x _ hx hpw) ⟨rfl, rfl, rfl, trivial⟩ rfl rfl ?_
          simp only [↓PX, SX, SYX, EY, simprocAttr, TYX, UX]
          refine CallVC.intro (c3) ⟨rfl, rfl, rfl, trivial⟩ rfl rfl ?_
          simp only [↓PX, SX, SYX, EY, simprocAttr, TYX, UX]
          refine CallVC.intro (c4) ⟨rfl, rfl, trivial⟩ rfl rfl ?_
          simp only [↓PX, SX, SYX, EY, simprocAttr, TYX, UX]
          refine CallVC.intro (c5) ⟨rfl, rfl, rfl, trivial⟩ rfl rfl ?_
          simp only [↓PX, SX, SYX, EY, simprocAttr, TYX, UX]
          repeat (first | refine DrawVC.intro (by kernel_rfl) ?_ | refine And.intro (by omega) ?_ | exact trivial)
          refine CallVC.intro (u_Mul s _ _ hpw (vaN_w s k x)) ⟨rfl, rfl, rfl, trivial⟩ rfl rfl ?_
          simp only [↓PX, SX, SYX, EY, simprocAttr, TYX, UX]
          refine CallVC.intro (u_Mul s _ _ (md_w s _) (md_w2 (inv_lt _ _))) ⟨rfl, rfl, rfl, trivial⟩ rfl rfl ?_
          simp only [↓PX, SX, SYX, EY, simprocAttr, TYX, UX]
end Go.Sx
