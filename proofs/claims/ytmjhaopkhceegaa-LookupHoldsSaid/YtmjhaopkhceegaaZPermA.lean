/-
  Place of permute and of the reference. What the laws of layer 16 begin with; PermutePlaces. Helpers of permute's Checks, here and in the reference. Checks of permute. Checks of the reference. PermuteChecks. No conditions.
-/
import Derived.Test.YtmjhaopkhceegaaZDos
import Derived.Test.YtmjhaopkhceegaaZStq
namespace Go.Sx
open Go.Proofs Go.Num
-- SY
-- TY: TYX, UX
set_option maxRecDepth 100000
set_option linter.unusedSimpArgs false
set_option pp.deepTerms true
set_option pp.maxSteps 100000
/-- Four elements as one value. -/
def SN (a b c d : Nat) : Value := Value.agg [u64 (L0 a), u64 (L1 a), u64 (L2 a), u64 (L3 a), u64 (L0 b), u64 (L1 b), u64 (L2 b), u64 (L3 b), u64 (L0 c), u64 (L1 c), u64 (L2 c), u64 (L3 c), u64 (L0 d), u64 (L1 d), u64 (L2 d), u64 (L3 d)].toArray
theorem SN_0 : SN 0 0 0 0 = Value.agg [u64 0, u64 0, u64 0, u64 0, u64 0, u64 0, u64 0, u64 0, u64 0, u64 0, u64 0, u64 0, u64 0, u64 0, u64 0, u64 0].toArray := rfl
def szP (k : Int) : Bool := decide (3 ≤ k) && decide (k ≤ 5)
def plE (s k : Int) : Int := if kn s then (if szP k then 0 else 60) else 20
theorem u_size (s k : Int) : Contract Try.prog 54 [.val (.int .i64 s), .val (.int .i64 k)] [.val (.int .i64 (plE s k))] := by
  cases hk : kn s with
  | false =>
    have he : eS s = 20 := by simp [eS, hk]
    have e1 : plE s k = 20 := by simp [plE, hk]
    rw [e1]
    refine contract_of (N := _) (vars := _) (c := bodyOf Try.f54) Try.func54 (body_eq rfl) rfl rfl (by rfl) mixed _ _ trivial 1000 ?_
    simp only [bodyOf, Try.f54, Option.getD_some, argA, argE, List.length_cons, List.length_nil, Nat.reduceAdd, Nat.reduceSub, List.replicate, List.cons_append, List.nil_append]
    simp only [↓PX, SX, SYX, EY, simprocAttr, TYX, UX]
    refine CallVC.intro (u_Modulus s) ⟨rfl, trivial⟩ rfl rfl ?_
    simp only [↓PX, SX, SYX, EY, simprocAttr, TYX, UX, he]
  | true =>
    have he : eS s = 0 := by simp [eS, hk]
    cases d0 : decide (k < 3) with
    | true =>
      have := of_decide_eq_true d0
      have e1 : plE s k = 60 := by simp [plE, hk, szP]; omega
      rw [e1]
      refine contract_of (N := _) (vars := _) (c := bodyOf Try.f54) Try.func54 (body_eq rfl) rfl rfl (by rfl) mixed _ _ trivial 1000 ?_
      simp only [bodyOf, Try.f54, Option.getD_some, argA, argE, List.length_cons, List.length_nil, Nat.reduceAdd, Nat.reduceSub, List.replicate, List.cons_append, List.nil_append]
      simp only [↓PX, SX, SYX, EY, simprocAttr, TYX, UX]
      refine CallVC.intro (u_Modulus s) ⟨rfl, trivial⟩ rfl rfl ?_
      simp only [↓PX, SX, SYX, EY, simprocAttr, TYX, UX, he, d0]
    | false =>
      have q0 := of_decide_eq_false d0
      cases d1 : decide ((5 : Int) < k) with
      | true =>
        have q1 := of_decide_eq_true d1
        have e1 : plE s k = 60 := by simp [plE, hk, szP]; omega
        rw [e1]
        refine contract_of (N := _) (vars := _) (c := bodyOf Try.f54) Try.func54 (body_eq rfl) rfl rfl (by rfl) mixed _ _ trivial 1000 ?_
        simp only [bodyOf, Try.f54, Option.getD_some, argA, argE, List.length_cons, List.length_nil, Nat.reduceAdd, Nat.reduceSub, List.replicate, List.cons_append, List.nil_append]
        simp only [↓PX, SX, SYX, EY, simprocAttr, TYX, UX]
        refine CallVC.intro (u_Modulus s) ⟨rfl, trivial⟩ rfl rfl ?_
        simp only [↓PX, SX, SYX, EY, simprocAttr, TYX, UX, he, d0, d1]
      | false =>
        have q1 := of_decide_eq_false d1
        have e1 : plE s k = 0 := by simp [plE, hk, szP]; omega
        rw [e1]
        refine contract_of (N := _) (vars := _) (c := bodyOf Try.f54) Try.func54 (body_eq rfl) rfl rfl (by rfl) mixed _ _ trivial 1000 ?_
        simp only [bodyOf, Try.f54, Option.getD_some, argA, argE, List.length_cons, List.length_nil, Nat.reduceAdd, Nat.reduceSub, List.replicate, List.cons_append, List.nil_append]
        simp only [↓PX, SX, SYX, EY, simprocAttr, TYX, UX]
        refine CallVC.intro (u_Modulus s) ⟨rfl, trivial⟩ rfl rfl ?_
        simp only [↓PX, SX, SYX, EY, simprocAttr, TYX, UX, he, d0, d1]
theorem plE_0 {s k : Int} : plE s k = 0 ↔ kn s = true ∧ 3 ≤ k ∧ k ≤ 5 := by
  unfold plE szP
  cases kn s <;> simp
def sC (a b c d : Nat) : List Value := [u64 (L0 a), u64 (L1 a), u64 (L2 a), u64 (L3 a), u64 (L0 b), u64 (L1 b), u64 (L2 b), u64 (L3 b), u64 (L0 c), u64 (L1 c), u64 (L2 c), u64 (L3 c), u64 (L0 d), u64 (L1 d), u64 (L2 d), u64 (L3 d)]
theorem L0_0 : L0 0 = 0 := rfl
theorem L1_0 : L1 0 = 0 := rfl
theorem L2_0 : L2 0 = 0 := rfl
theorem L3_0 : L3 0 = 0 := rfl
/-- The first polynomial, when it has been put. -/
def fiF (s k : Int) (x : Nat) : Nat → Nat
  | 0 => 0
  | _ + 1 => lgU s k 0 x
/-- The sum of the first polynomials. -/
def usN (s k : Int) (x i : Nat) : Nat := sumN s (fun j : Nat => lgU s k j x) i
def plS (s k : Int) (x : Nat) : Value := if plE s k = 0 then SN (x % md s) (lgU s k 0 x) (lgU s k ((2 ^ k.toNat - 4 : Nat) : Int) x) (usN s k x (2 ^ k.toNat - 4)) else SN 0 0 0 0
set_option maxHeartbeats 1600000 in
theorem u_Place (s k : Int) (x : Nat) (hx : x < W256) : Contract Try.prog 28 [.val (.int .i64 s), .val (.int .i64 k), .val (EN x)] [.val (plS s k x), .val (.int .i64 (plE s k))] := by
  by_cases he : plE s k = 0
  · obtain ⟨h1, h2, h3⟩ := plE_0.1 he
    obtain ⟨n, rfl⟩ : ∃ n : Nat, k = n := ⟨k.toNat, by omega⟩
    have hp := pow_le9 (k := n) (by omega)
    have hs2 := shl_i (k := n) (by omega)
    have h8 : 8 ≤ 2 ^ n := by
      have : 2 ^ 3 ≤ 2 ^ n := Nat.pow_le_pow_right (by decide) (by omega)
      omega
    obtain ⟨u, hu⟩ : ∃ u, 2 ^ n = u + 4 := ⟨2 ^ n - 4, by omega⟩
    rw [hu] at hp hs2 h8
    have ew : IntKind.i64.wrap (((u + 4 : Nat) : Int) - 4) = (u : Int) := by rw [wI (by omega) (by omega)]; omega
    have e1 : plS s n x = SN (x % md s) (lgU s n 0 x) (lgU s n u x) (usN s n x u) := by
      unfold plS; rw [if_pos he, Int.toNat_natCast, hu, Nat.add_sub_cancel]
    have cx := u_Add s x 0 hx (by decide)
    rw [Nat.add_zero] at cx
    rw [e1, he]
    refine contract_of (N := _) (vars := _) (c := bodyOf Try.f28) Try.func28 (body_eq rfl) rfl rfl (by rfl) mixed _ _ trivial 1000 ?_
    simp only [bodyOf, Try.f28, Option.getD_some, argA, argE, List.length_cons, List.length_nil, Nat.reduceAdd, Nat.reduceSub, List.replicate, List.cons_append, List.nil_append]
    simp only [↓PX, SX, SYX, EY, simprocAttr, TYX, UX]
    have cz := u_size s n
    rw [he] at cz
    refine CallVC.intro (cz) ⟨rfl, rfl, trivial⟩ rfl rfl ?_
    simp only [↓PX, SX, SYX, EY, simprocAttr, TYX, UX, hs2, ew]
    repeat (first | refine DrawVC.intro (by kernel_rfl) ?_ | refine And.intro (by omega) ?_ | exact trivial)
    refine CallVC.intro (cx) ⟨rfl, rfl, rfl, trivial⟩ rfl rfl ?_
    simp only [↓PX, SX, SYX, EY, simprocAttr, TYX, UX, wS (j := u) (by omega)]
    refine loop_hav ?_
    simp only [↓PX, SX, SYX, EY, simprocAttr, TYX, UX]
    have hfE : ∀ j, fiF s n x (j + 1) = lgU s n 0 x := fun _ => rfl
    have hf0 : fiF s n x 0 = 0 := rfl
    refine loop_go mixed (by trivial) (γ := Nat) (fun i => i ≤ u) (fun i => u - i) (fun i => [(31, iv i)]) (fun i => [(75, .box (sC (x % md s) (fiF s n x i) 0 (usN s n x i)))]) 0 (by omega)
      (St.le_of id (by simp [-List.getD_eq_getElem?_getD, SYX, iv, Tle, AVle, A0le, Mem.get, sC, hf0, usN, sumN, L0_0, L1_0, L2_0, L3_0]) (by simp [-List.getD_eq_getElem?_getD, SYX, Mle, Ele, Hle, Tle, AVle, A0le, Mem.get, sC, hf0, usN, sumN, L0_0, L1_0, L2_0, L3_0]) (by simp [SYX]) (by simp [SYX])) ?_
    intro i hi
    have dd : decide ((i : Int) < ((u + 1 : Nat) : Int)) = true := by simp; omega
    have cl := u_Lagrange s n i x hx
    have hle : lgE s n i = 0 := by
      have hpt : ptO s n = true := ptO_iff.2 ⟨h1, by omega, by omega⟩
      have : inL s n i = true := by
        simp only [inL, hpt, Bool.true_and, Bool.and_eq_true, decide_eq_true_eq, Int.toNat_natCast]; omega
      unfold lgE; rw [if_pos hpt, if_pos this]
    rw [hle] at cl
    have hsn : (usN s n x i + lgU s n i x) % md s = usN s n x (i + 1) := rfl
    have cs := u_Add s (usN s n x i) (lgU s n i x) (sumN_w _ _ _) (lgU_w _ _ _ _)
    rw [hsn] at cs
    by_cases hz : i = 0
    · subst hz
      have b2 : ((0 : Int) == (u : Int)) = false := by simp; omega
      have dd : decide ((0 : Int) < ((u + 1 : Nat) : Int)) = true := decide_eq_true (by omega)
      have cl : Contract Try.prog 55 [.val (.int .i64 s), .val (.int .i64 n), .val (.int .i64 0), .val (EN x)] [.val (EN (lgU s n 0 x)), .val (.int .i64 0)] := cl
      have cs : Contract Try.prog 19 [.val (.int .i64 s), .val (EN (usN s n x 0)), .val (EN (lgU s n 0 x))] [.val (EN (usN s n x 1))] := cs
      simp only [↓PX, SX, SYX, EY, simprocAttr, TYX, UX, dd, sC]
      refine CallVC.intro (cl) ⟨rfl, rfl, rfl, rfl, trivial⟩ rfl rfl ?_
      simp only [↓PX, SX, SYX, EY, simprocAttr, TYX, UX, b2, sC]
      refine CallVC.intro (cs) ⟨rfl, rfl, rfl, trivial⟩ rfl rfl ?_
      simp only [↓PX, SX, SYX, EY, simprocAttr, TYX, UX, sC]
      exact ⟨1, by omega, by omega, (St.le_of id (by simp [-List.getD_eq_getElem?_getD, SYX, iv, Tle, AVle, A0le, Mem.get, sC, hf0, hfE, fiF]) (by simp [-List.getD_eq_getElem?_getD, SYX, Mle, Ele, Hle, Tle, AVle, A0le, Mem.get, sC, hf0, hfE, fiF]) (by simp [SYX]) (by simp [SYX]))⟩
    · obtain ⟨j, rfl⟩ : ∃ j, i = j + 1 := ⟨i - 1, by omega⟩
      have b1 : (((j + 1 : Nat) : Int) == 0) = false := by simp; omega
      by_cases hu2 : j + 1 = u
      · have b2 : (((j + 1 : Nat) : Int) == (u : Int)) = true := by simp; omega
        simp only [↓PX, SX, SYX, EY, simprocAttr, TYX, UX, dd, sC]
        refine CallVC.intro (cl) ⟨rfl, rfl, rfl, rfl, trivial⟩ rfl rfl ?_
        simp only [↓PX, SX, SYX, EY, simprocAttr, TYX, UX, b1, b2, sC]
        subst hu2
        rfl
      · have b2 : (((j + 1 : Nat) : Int) == (u : Int)) = false := by simp; omega
        simp only [↓PX, SX, SYX, EY, simprocAttr, TYX, UX, dd, sC]
        refine CallVC.intro (cl) ⟨rfl, rfl, rfl, rfl, trivial⟩ rfl rfl ?_
        simp only [↓PX, SX, SYX, EY, simprocAttr, TYX, UX, b1, b2, sC]
        refine CallVC.intro (cs) ⟨rfl, rfl, rfl, trivial⟩ rfl rfl ?_
        simp only [↓PX, SX, SYX, EY, simprocAttr, TYX, UX, sC, wS (j := j + 1) (by omega)]
        exact ⟨j + 1 + 1, by omega, by omega, (St.le_of id (by simp [-List.getD_eq_getElem?_getD, SYX, iv, Tle, AVle, A0le, Mem.get, sC, fiF]) (by simp [-List.getD_eq_getElem?_getD, SYX, Mle, Ele, Hle, Tle, AVle, A0le, Mem.get, sC, fiF]) (by simp [SYX]) (by simp [SYX]))⟩
  · have he' : (plE s k != 0) = true := by simp [he]
    have e1 : plS s k x = SN 0 0 0 0 := by unfold plS; rw [if_neg he]
    rw [e1, SN_0]
    refine contract_of (N := _) (vars := _) (c := bodyOf Try.f28) Try.func28 (body_eq rfl) rfl rfl (by rfl) mixed _ _ trivial 1000 ?_
    simp only [bodyOf, Try.f28, Option.getD_some, argA, argE, List.length_cons, List.length_nil, Nat.reduceAdd, Nat.reduceSub, List.replicate, List.cons_append, List.nil_append]
    simp only [↓PX, SX, SYX, EY, simprocAttr, TYX, UX]
    refine CallVC.intro (u_size s k) ⟨rfl, rfl, trivial⟩ rfl rfl ?_
    simp only [↓PX, SX, SYX, EY, simprocAttr, TYX, UX, he']
end Go.Sx
namespace Go.Sx
open Go.Proofs Go.Num
-- SY
-- TY: TYX, UX
set_option maxRecDepth 100000
set_option linter.unusedSimpArgs false
set_option pp.deepTerms true
set_option pp.maxSteps 100000
end Go.Sx
namespace Go.Sx
open Go.Proofs Go.Num
-- SY
-- TY: TYX, UX
set_option maxRecDepth 100000
set_option linter.unusedSimpArgs false
set_option pp.deepTerms true
set_option pp.maxSteps 100000
/-- What makes the factors. -/
def TN (s : Int) (β γ : Nat) : Value := Value.agg [.int .i64 s, u64 (L0 β), u64 (L1 β), u64 (L2 β), u64 (L3 β), u64 (L0 γ), u64 (L1 γ), u64 (L2 γ), u64 (L3 γ)].toArray
end Go.Sx
namespace Go.Sx
open Go.Proofs Go.Num
-- SY
-- TY: TYX, UX
set_option maxRecDepth 100000
set_option linter.unusedSimpArgs false
set_option pp.deepTerms true
set_option pp.maxSteps 100000
end Go.Sx
namespace Go.Sx
open Go.Proofs Go.Num
-- SY
-- TY: TYX, UX
set_option maxRecDepth 100000
set_option linter.unusedSimpArgs false
set_option pp.deepTerms true
set_option pp.maxSteps 100000
end Go.Sx
namespace Go.Sx
open Go.Proofs Go.Num
-- SY
-- TY: TYX, UX, guard_un
set_option maxRecDepth 100000
set_option linter.unusedSimpArgs false
set_option pp.deepTerms true
set_option pp.maxSteps 100000
end Go.Sx
