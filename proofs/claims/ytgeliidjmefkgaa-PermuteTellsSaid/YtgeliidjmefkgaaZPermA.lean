/-
  Place of permute and of the reference. What the laws of layer 16 begin with; PermutePlaces. Helpers of permute's Checks, here and in the reference. Checks of permute. Checks of the reference. PermuteChecks. No conditions.
-/
import Derived.Test.YtgeliidjmefkgaaZDos
import Derived.Test.YtgeliidjmefkgaaZStq
namespace Go.Sx
open Go.Proofs Go.Num
-- SY
-- TY: TYX, UX
set_option maxRecDepth 100000
set_option linter.unusedSimpArgs false
set_option pp.deepTerms true
set_option pp.maxSteps 100000
/-- Four elements as one value. -/
def SN (a b c d : Nat) : Value := Value.agg [u64 (L0 a), u64 (L1 a), u64 (L2 a), u64 (L3 a), u64 (L0 b), u64 (L1 b), u64 (L2 b), u64 (L3 b), u64 (L0 c), u64 (L1 c), u64 (L2 c), u64 (L3 c), u64 (L0 d), u64 (L1 d), u64 (L2 d), u64 (L3 d)].toArray
theorem SN_0 : SN 0 0 0 0 = Value.agg [u64 0, u64 0, u64 0, u64 0, u64 0, u64 0, u64 0, u64 0, u64 0, u64 0, u64 0, u64 0, u64 0, u64 0, u64 0, u64 0].toArray := rfl
def szP (k : Int) : Bool := decide (3 ≤ k) && decide (k ≤ 5)
def plE (s k : Int) : Int := if kn s then (if szP k then 0 else 60) else 20
theorem u_size (s k : Int) : Contract Try.prog 99 [.val (.int .i64 s), .val (.int .i64 k)] [.val (.int .i64 (plE s k))] := by
  cases hk : kn s with
  | false =>
    have he : eS s = 20 := by simp [eS, hk]
    have e1 : plE s k = 20 := by simp [plE, hk]
    rw [e1]
    refine contract_of (N := _) (vars := _) (c := bodyOf Try.f99) Try.func99 (body_eq rfl) rfl rfl (by rfl) mixed _ _ trivial 1000 ?_
    simp only [bodyOf, Try.f99, Option.getD_some, argA, argE, List.length_cons, List.length_nil, Nat.reduceAdd, Nat.reduceSub, List.replicate, List.cons_append, List.nil_append]
    simp only [↓PX, SX, SYX, EY, simprocAttr, TYX, UX]
    refine CallVC.intro (u_Modulus s) ⟨rfl, trivial⟩ rfl rfl ?_
    simp only [↓PX, SX, SYX, EY, simprocAttr, TYX, UX, he]
  | true =>
    have he : eS s = 0 := by simp [eS, hk]
    cases d0 : decide (k < 3) with
    | true =>
      have := of_decide_eq_true d0
      have e1 : plE s k = 60 := by simp [plE, hk, szP]; omega
      rw [e1]
      refine contract_of (N := _) (vars := _) (c := bodyOf Try.f99) Try.func99 (body_eq rfl) rfl rfl (by rfl) mixed _ _ trivial 1000 ?_
      simp only [bodyOf, Try.f99, Option.getD_some, argA, argE, List.length_cons, List.length_nil, Nat.reduceAdd, Nat.reduceSub, List.replicate, List.cons_append, List.nil_append]
      simp only [↓PX, SX, SYX, EY, simprocAttr, TYX, UX]
      refine CallVC.intro (u_Modulus s) ⟨rfl, trivial⟩ rfl rfl ?_
      simp only [↓PX, SX, SYX, EY, simprocAttr, TYX, UX, he, d0]
    | false =>
      have q0 := of_decide_eq_false d0
      cases d1 : decide ((5 : Int) < k) with
      | true =>
        have q1 := of_decide_eq_true d1
        have e1 : plE s k = 60 := by simp [plE, hk, szP]; omega
        rw [e1]
        refine contract_of (N := _) (vars := _) (c := bodyOf Try.f99) Try.func99 (body_eq rfl) rfl rfl (by rfl) mixed _ _ trivial 1000 ?_
        simp only [bodyOf, Try.f99, Option.getD_some, argA, argE, List.length_cons, List.length_nil, Nat.reduceAdd, Nat.reduceSub, List.replicate, List.cons_append, List.nil_append]
        simp only [↓PX, SX, SYX, EY, simprocAttr, TYX, UX]
        refine CallVC.intro (u_Modulus s) ⟨rfl, trivial⟩ rfl rfl ?_
        simp only [↓PX, SX, SYX, EY, simprocAttr, TYX, UX, he, d0, d1]
      | false =>
        have q1 := of_decide_eq_false d1
        have e1 : plE s k = 0 := by simp [plE, hk, szP]; omega
        rw [e1]
        refine contract_of (N := _) (vars := _) (c := bodyOf Try.f99) Try.func99 (body_eq rfl) rfl rfl (by rfl) mixed _ _ trivial 1000 ?_
        simp only [bodyOf, Try.f99, Option.getD_some, argA, argE, List.length_cons, List.length_nil, Nat.reduceAdd, Nat.reduceSub, List.replicate, List.cons_append, List.nil_append]
        simp only [↓PX, SX, SYX, EY, simprocAttr, TYX, UX]
        refine CallVC.intro (u_Modulus s) ⟨rfl, trivial⟩ rfl rfl ?_
        simp only [↓PX, SX, SYX, EY, simprocAttr, TYX, UX, he, d0, d1]
theorem plE_0 {s k : Int} : plE s k = 0 ↔ kn s = true ∧ 3 ≤ k ∧ k ≤ 5 := by
  unfold plE szP
  cases kn s <;> simp
def sC (a b c d : Nat) : List Value := [u64 (L0 a), u64 (L1 a), u64 (L2 a), u64 (L3 a), u64 (L0 b), u64 (L1 b), u64 (L2 b), u64 (L3 b), u64 (L0 c), u64 (L1 c), u64 (L2 c), u64 (L3 c), u64 (L0 d), u64 (L1 d), u64 (L2 d), u64 (L3 d)]
theorem L0_0 : L0 0 = 0 := rfl
theorem L1_0 : L1 0 = 0 := rfl
theorem L2_0 : L2 0 = 0 := rfl
theorem L3_0 : L3 0 = 0 := rfl
/-- The first polynomial, when it has been put. -/
def fiF (s k : Int) (x : Nat) : Nat → Nat
  | 0 => 0
  | _ + 1 => lgU s k 0 x
/-- The sum of the first polynomials. -/
def usN (s k : Int) (x i : Nat) : Nat := sumN s (fun j : Nat => lgU s k j x) i
def plS (s k : Int) (x : Nat) : Value := if plE s k = 0 then SN (x % md s) (lgU s k 0 x) (lgU s k ((2 ^ k.toNat - 4 : Nat) : Int) x) (usN s k x (2 ^ k.toNat - 4)) else SN 0 0 0 0
set_option maxHeartbeats 1600000 in
theorem u_Place (s k : Int) (x : Nat) (hx : x < W256) : Contract Try.prog 57 [.val (.int .i64 s), .val (.int .i64 k), .val (EN x)] [.val (plS s k x), .val (.int .i64 (plE s k))] := by
  by_cases he : plE s k = 0
  · obtain ⟨h1, h2, h3⟩ := plE_0.1 he
    obtain ⟨n, rfl⟩ : ∃ n : Nat, k = n := ⟨k.toNat, by omega⟩
    have hp := pow_le9 (k := n) (by omega)
    have hs2 := shl_i (k := n) (by omega)
    have h8 : 8 ≤ 2 ^ n := by
      have : 2 ^ 3 ≤ 2 ^ n := Nat.pow_le_pow_right (by decide) (by omega)
      omega
    obtain ⟨u, hu⟩ : ∃ u, 2 ^ n = u + 4 := ⟨2 ^ n - 4, by omega⟩
    rw [hu] at hp hs2 h8
    have ew : IntKind.i64.wrap (((u + 4 : Nat) : Int) - 4) = (u : Int) := by rw [wI (by omega) (by omega)]; omega
    have e1 : plS s n x = SN (x % md s) (lgU s n 0 x) (lgU s n u x) (usN s n x u) := by
      unfold plS; rw [if_pos he, Int.toNat_natCast, hu, Nat.add_sub_cancel]
    have cx := u_Add s x 0 hx (by decide)
    rw [Nat.add_zero] at cx
    rw [e1, he]
    refine contract_of (N := _) (vars := _) (c := bodyOf Try.f57) Try.func57 (body_eq rfl) rfl rfl (by rfl) mixed _ _ trivial 1000 ?_
    simp only [bodyOf, Try.f57, Option.getD_some, argA, argE, List.length_cons, List.length_nil, Nat.reduceAdd, Nat.reduceSub, List.replicate, List.cons_append, List.nil_append]
    simp only [↓PX, SX, SYX, EY, simprocAttr, TYX, UX]
    have cz := u_size s n
    rw [he] at cz
    refine CallVC.intro (cz) ⟨rfl, rfl, trivial⟩ rfl rfl ?_
    simp only [↓PX, SX, SYX, EY, simprocAttr, TYX, UX, hs2, ew]
    repeat (first | refine DrawVC.intro (by kernel_rfl) ?_ | refine And.intro (by omega) ?_ | exact trivial)
    refine CallVC.intro (cx) ⟨rfl, rfl, rfl, trivial⟩ rfl rfl ?_
    simp only [↓PX, SX, SYX, EY, simprocAttr, TYX, UX, wS (j := u) (by omega)]
    refine loop_hav ?_
    simp only [↓PX, SX, SYX, EY, simprocAttr, TYX, UX]
    have hfE : ∀ j, fiF s n x (j + 1) = lgU s n 0 x := fun _ => rfl
    have hf0 : fiF s n x 0 = 0 := rfl
    refine loop_go mixed (by trivial) (γ := Nat) (fun i => i ≤ u) (fun i => u - i) (fun i => [(31, iv i)]) (fun i => [(75, .box (sC (x % md s) (fiF s n x i) 0 (usN s n x i)))]) 0 (by omega)
      (St.le_of id (by simp [-List.getD_eq_getElem?_getD, SYX, iv, Tle, AVle, A0le, Mem.get, sC, hf0, usN, sumN, L0_0, L1_0, L2_0, L3_0]) (by simp [-List.getD_eq_getElem?_getD, SYX, Mle, Ele, Hle, Tle, AVle, A0le, Mem.get, sC, hf0, usN, sumN, L0_0, L1_0, L2_0, L3_0]) (by simp [SYX]) (by simp [SYX])) ?_
    intro i hi
    have dd : decide ((i : Int) < ((u + 1 : Nat) : Int)) = true := by simp; omega
    have cl := u_Lagrange s n i x hx
    have hle : lgE s n i = 0 := by
      have hpt : ptO s n = true := ptO_iff.2 ⟨h1, by omega, by omega⟩
      have : inL s n i = true := by
        simp only [inL, hpt, Bool.true_and, Bool.and_eq_true, decide_eq_true_eq, Int.toNat_natCast]; omega
      unfold lgE; rw [if_pos hpt, if_pos this]
    rw [hle] at cl
    have hsn : (usN s n x i + lgU s n i x) % md s = usN s n x (i + 1) := rfl
    have cs := u_Add s (usN s n x i) (lgU s n i x) (sumN_w _ _ _) (lgU_w _ _ _ _)
    rw [hsn] at cs
    by_cases hz : i = 0
    · subst hz
      have b2 : ((0 : Int) == (u : Int)) = false := by simp; omega
      have dd : decide ((0 : Int) < ((u + 1 : Nat) : Int)) = true := decide_eq_true (by omega)
      have cl : Contract Try.prog 45 [.val (.int .i64 s), .val (.int .i64 n), .val (.int .i64 0), .val (EN x)] [.val (EN (lgU s n 0 x)), .val (.int .i64 0)] := cl
      have cs : Contract Try.prog 50 [.val (.int .i64 s), .val (EN (usN s n x 0)), .val (EN (lgU s n 0 x))] [.val (EN (usN s n x 1))] := cs
      simp only [↓PX, SX, SYX, EY, simprocAttr, TYX, UX, dd, sC]
      refine CallVC.intro (cl) ⟨rfl, rfl, rfl, rfl, trivial⟩ rfl rfl ?_
      simp only [↓PX, SX, SYX, EY, simprocAttr, TYX, UX, b2, sC]
      refine CallVC.intro (cs) ⟨rfl, rfl, rfl, trivial⟩ rfl rfl ?_
      simp only [↓PX, SX, SYX, EY, simprocAttr, TYX, UX, sC]
      exact ⟨1, by omega, by omega, (St.le_of id (by simp [-List.getD_eq_getElem?_getD, SYX, iv, Tle, AVle, A0le, Mem.get, sC, hf0, hfE, fiF]) (by simp [-List.getD_eq_getElem?_getD, SYX, Mle, Ele, Hle, Tle, AVle, A0le, Mem.get, sC, hf0, hfE, fiF]) (by simp [SYX]) (by simp [SYX]))⟩
    · obtain ⟨j, rfl⟩ : ∃ j, i = j + 1 := ⟨i - 1, by omega⟩
      have b1 : (((j + 1 : Nat) : Int) == 0) = false := by simp; omega
      by_cases hu2 : j + 1 = u
      · have b2 : (((j + 1 : Nat) : Int) == (u : Int)) = true := by simp; omega
        simp only [↓PX, SX, SYX, EY, simprocAttr, TYX, UX, dd, sC]
        refine CallVC.intro (cl) ⟨rfl, rfl, rfl, rfl, trivial⟩ rfl rfl ?_
        simp only [↓PX, SX, SYX, EY, simprocAttr, TYX, UX, b1, b2, sC]
        subst hu2
        rfl
      · have b2 : (((j + 1 : Nat) : Int) == (u : Int)) = false := by simp; omega
        simp only [↓PX, SX, SYX, EY, simprocAttr, TYX, UX, dd, sC]
        refine CallVC.intro (cl) ⟨rfl, rfl, rfl, rfl, trivial⟩ rfl rfl ?_
        simp only [↓PX, SX, SYX, EY, simprocAttr, TYX, UX, b1, b2, sC]
        refine CallVC.intro (cs) ⟨rfl, rfl, rfl, trivial⟩ rfl rfl ?_
        simp only [↓PX, SX, SYX, EY, simprocAttr, TYX, UX, sC, wS (j := j + 1) (by omega)]
        exact ⟨j + 1 + 1, by omega, by omega, (St.le_of id (by simp [-List.getD_eq_getElem?_getD, SYX, iv, Tle, AVle, A0le, Mem.get, sC, fiF]) (by simp [-List.getD_eq_getElem?_getD, SYX, Mle, Ele, Hle, Tle, AVle, A0le, Mem.get, sC, fiF]) (by simp [SYX]) (by simp [SYX]))⟩
  · have he' : (plE s k != 0) = true := by simp [he]
    have e1 : plS s k x = SN 0 0 0 0 := by unfold plS; rw [if_neg he]
    rw [e1, SN_0]
    refine contract_of (N := _) (vars := _) (c := bodyOf Try.f57) Try.func57 (body_eq rfl) rfl rfl (by rfl) mixed _ _ trivial 1000 ?_
    simp only [bodyOf, Try.f57, Option.getD_some, argA, argE, List.length_cons, List.length_nil, Nat.reduceAdd, Nat.reduceSub, List.replicate, List.cons_append, List.nil_append]
    simp only [↓PX, SX, SYX, EY, simprocAttr, TYX, UX]
    refine CallVC.intro (u_size s k) ⟨rfl, rfl, trivial⟩ rfl rfl ?_
    simp only [↓PX, SX, SYX, EY, simprocAttr, TYX, UX, he']
end Go.Sx
namespace Go.Sx
open Go.Proofs Go.Num
-- SY
-- TY: TYX, UX
set_option maxRecDepth 100000
set_option linter.unusedSimpArgs false
set_option pp.deepTerms true
set_option pp.maxSteps 100000
theorem pt0_one {s k : Int} : pt s k 0 = 1 := rfl
/-- At the first point: 1, 0, 1. -/
theorem place_1 : plS 0 3 1 = SN 1 1 0 1 ∧ plE 0 3 = 0 := by
  have h : ptO 0 (3 : Nat) = true := by decide
  have e : plE 0 3 = 0 := by decide
  refine ⟨?_, e⟩
  have l : ∀ i : Nat, i < 8 → lgU 0 (3 : Nat) i 1 = if i = 0 then 1 else 0 := fun i hi => by
    have := lg_pt h (i := i) (j := 0) (by simpa using hi) (by decide)
    rw [pt0_one] at this
    exact this
  have l0 : lgU 0 3 0 1 = 1 := l 0 (by decide)
  have l4 : lgU 0 3 4 1 = 0 := l 4 (by decide)
  have u4 : usN 0 3 1 4 = 1 := by
    have l0 : lgU 0 3 ((0 : Nat) : Int) 1 = 1 := l 0 (by decide)
    have l1 : lgU 0 3 ((1 : Nat) : Int) 1 = 0 := l 1 (by decide)
    have l2 : lgU 0 3 ((2 : Nat) : Int) 1 = 0 := l 2 (by decide)
    have l3 : lgU 0 3 ((3 : Nat) : Int) 1 = 0 := l 3 (by decide)
    unfold usN sumN sumN sumN sumN sumN
    rw [l0, l1, l2, l3]
    decide +kernel
  unfold plS
  rw [if_pos e, l0, show ((2 ^ Int.toNat 3 - 4 : Nat) : Int) = 4 by decide, show (2 ^ Int.toNat 3 - 4 : Nat) = 4 by decide, l4, u4, show 1 % md 0 = 1 by decide +kernel]
theorem c_alive16 : Contract Try.prog 56 [] [.val (.bool true)] := by
  have c1 := u_Place 0 3 1 (by decide)
  rw [place_1.1, place_1.2] at c1
  refine contract_of (N := _) (vars := _) (c := bodyOf Try.f56) Try.func56 (body_eq rfl) rfl rfl (by rfl) mixed _ _ trivial 1000 ?_
  simp only [bodyOf, Try.f56, Option.getD_some, argA, argE, List.length_cons, List.length_nil, Nat.reduceAdd, Nat.reduceSub, List.replicate, List.cons_append, List.nil_append]
  simp only [↓PX, SX, SYX, EY, simprocAttr, TYX, UX]
  refine CallVC.intro (c1) ⟨rfl, rfl, rfl, trivial⟩ rfl rfl ?_
  simp only [↓PX, SX, SYX, EY, simprocAttr, TYX, UX, SN, b_agg]
  refine ExVC.intro _ (X_eqSpot (l := [1, 1, 0, 1]) (l' := [1, 1, 0, 1]) rfl rfl rfl rfl) ?_
  simp only [↓PX, SX, SYX, EY, simprocAttr, TYX, UX, eqL_self]
end Go.Sx
namespace Go.Sx
open Go.Proofs Go.Num
-- SY
-- TY: TYX, UX
set_option maxRecDepth 100000
set_option linter.unusedSimpArgs false
set_option pp.deepTerms true
set_option pp.maxSteps 100000
/-- The labels' d. -/
def dlN (s : Int) : Nat := 5 ^ 2 ^ (adc s).toNat % md s
/-- A factor: a value, beta times a label, and gamma. -/
def tmN (s : Int) (v β lab γ : Nat) : Nat := ((v + β * lab % md s) % md s + γ) % md s
theorem tmN_w (s : Int) (v β lab γ : Nat) : tmN s v β lab γ < W256 := md_w s _
/-- What makes the factors. -/
def TN (s : Int) (β γ : Nat) : Value := Value.agg [.int .i64 s, u64 (L0 β), u64 (L1 β), u64 (L2 β), u64 (L3 β), u64 (L0 γ), u64 (L1 γ), u64 (L2 γ), u64 (L3 γ)].toArray
theorem u_tmof (s : Int) (β γ v lab : Nat) (hβ : β < W256) (hγ : γ < W256) (hv : v < W256) (hl : lab < W256) : Contract Try.prog 103 [.val (TN s β γ), .val (EN v), .val (EN lab)] [.val (EN (tmN s v β lab γ))] := by
  unfold TN
  refine contract_of (N := _) (vars := _) (c := bodyOf Try.f103) Try.func103 (body_eq rfl) rfl rfl (by rfl) mixed _ _ trivial 1000 ?_
  simp only [bodyOf, Try.f103, Option.getD_some, argA, argE, List.length_cons, List.length_nil, Nat.reduceAdd, Nat.reduceSub, List.replicate, List.cons_append, List.nil_append]
  simp only [↓PX, SX, SYX, EY, simprocAttr, TYX, UX]
  repeat (first | refine DrawVC.intro (by kernel_rfl) ?_ | refine And.intro (by omega) ?_ | exact trivial)
  refine CallVC.intro (u_Mul s β lab hβ hl) ⟨rfl, rfl, rfl, trivial⟩ rfl rfl ?_
  simp only [↓PX, SX, SYX, EY, simprocAttr, TYX, UX]
  refine CallVC.intro (u_Add s v _ hv (md_w s _)) ⟨rfl, rfl, rfl, trivial⟩ rfl rfl ?_
  simp only [↓PX, SX, SYX, EY, simprocAttr, TYX, UX]
  refine CallVC.intro (u_Add s _ γ (md_w s _) hγ) ⟨rfl, rfl, rfl, trivial⟩ rfl rfl ?_
  simp only [↓PX, SX, SYX, EY, simprocAttr, TYX, UX]
  rfl
theorem adc_pw (s : Int) (h : kn s = true) : ∃ a : Nat, adc s = a ∧ a ≤ 32 ∧ 2 ^ a ≤ 4294967296 := by
  rcases kn_or s h with rfl | rfl | rfl | rfl
  · exact ⟨9, rfl, by decide, by decide⟩
  · exact ⟨11, rfl, by decide, by decide⟩
  · exact ⟨32, rfl, by decide, by decide⟩
  · exact ⟨32, rfl, by decide, by decide⟩
theorem ushl_one {a : Nat} (h : a ≤ 32) (h2 : 2 ^ a ≤ 4294967296) : ushl 1 a = 2 ^ a := by
  rw [ushl_eq]; unfold sh; rw [Nat.min_eq_left (by omega)]
  exact (congrArg (· % 18446744073709551616) (Nat.one_mul _)).trans (Nat.mod_eq_of_lt (by omega))
theorem u_shifts (s : Int) (n : Nat) (hk : kn s = true) (hn : n ≤ 1000) : Contract Try.prog 101 [.val (.int .i64 s), .val (.int .i64 n)] [.row 25 4 (max n 1) (LC eC (tab (max n 1) (pw s 1 (dlN s))))] := by
  obtain ⟨a, ha, ha2, ha3⟩ := adc_pw s hk
  have hes : eS s = 0 := by simp [eS, hk]
  have cd := u_Exp s 5 (2 ^ a) (by decide) (by unfold W256; omega)
  have hd : 5 ^ 2 ^ a % md s = dlN s := by unfold dlN; rw [ha]; rfl
  rw [hd, ← EN_small (a := 2 ^ a) (by omega)] at cd
  have ca := u_Adicity s
  rw [ha, hes] at ca
  refine contract_of (N := _) (vars := _) (c := bodyOf Try.f101) Try.func101 (body_eq rfl) rfl rfl (by rfl) mixed _ _ trivial 1000 ?_
  simp only [bodyOf, Try.f101, Option.getD_some, argA, argE, List.length_cons, List.length_nil, Nat.reduceAdd, Nat.reduceSub, List.replicate, List.cons_append, List.nil_append]
  simp only [↓PX, SX, SYX, EY, simprocAttr, TYX, UX]
  refine CallVC.intro (ca) ⟨rfl, trivial⟩ rfl rfl ?_
  simp only [↓PX, SX, SYX, EY, simprocAttr, TYX, UX, ushl_one ha2 ha3]
  repeat (first | refine DrawVC.intro (by kernel_rfl) ?_ | refine And.intro (by omega) ?_ | exact trivial)
  refine CallVC.intro (cd) ⟨rfl, rfl, rfl, trivial⟩ rfl rfl ?_
  simp only [↓PX, SX, SYX, EY, simprocAttr, TYX, UX]
  refine loop_hav ?_
  simp only [↓PX, SX, SYX, EY, simprocAttr, TYX, UX]
  have hdw : dlN s < W256 := md_w s _
  have e1 : [u64 (L0 1), u64 (L1 1), u64 (L2 1), u64 (L3 1)] = LC eC (tab 1 (pw s 1 (dlN s))) := rfl
  refine loop_go mixed (by trivial) (γ := Nat) (fun j => 1 ≤ j ∧ j ≤ max n 1) (fun j => max n 1 - j) (fun j => [(21, .o .any), (8, .o (.r 70 j))]) (fun j => [(70, .row 25 4 j (LC eC (tab j (pw s 1 (dlN s)))))]) 1 (by omega)
    (St.le_of id (by simp [-List.getD_eq_getElem?_getD, SYX, iv, Tle, AVle, A0le, Mem.get, e1]) (by simp [-List.getD_eq_getElem?_getD, SYX, Mle, Ele, Hle, Tle, AVle, A0le, Mem.get, e1]) (by simp [SYX]) (by simp [SYX])) ?_
  rintro j ⟨hj1, hj⟩
  simp only [↓PX, SX, SYX, EY, simprocAttr, TYX, UX]
  refine cond_split (fun h0 => ?_) (fun h0 => ?_)
  · have h0 : j < n := by simpa using h0
    have hl : (tab j (pw s 1 (dlN s))).length = j := tab_len
    have hlt : j - 1 < (tab j (pw s 1 (dlN s))).length := by omega
    have hld := eL_ld hlt
    rw [tab_at (by omega)] at hld
    have hpw : pw s 1 (dlN s) (j - 1) * dlN s % md s = pw s 1 (dlN s) j := by
      obtain ⟨i, rfl⟩ : ∃ i, j = i + 1 := ⟨j - 1, by omega⟩
      rfl
    have cm := u_Mul s (pw s 1 (dlN s) (j - 1)) (dlN s) (pw_w (by decide) _) hdw
    rw [hpw] at cm
    simp only [↓PX, SX, SYX, EY, simprocAttr, TYX, UX, wP (j := j) (by omega) (by omega), hl, hld]
    repeat (first | refine DrawVC.intro (by kernel_rfl) ?_ | refine And.intro (by omega) ?_ | exact trivial)
    refine CallVC.intro (cm) ⟨rfl, rfl, rfl, trivial⟩ rfl rfl ?_
    simp only [↓PX, SX, SYX, EY, simprocAttr, TYX, UX, tab_snoc]
    repeat (first | refine DrawVC.intro (by kernel_rfl) ?_ | refine And.intro (by omega) ?_ | exact trivial)
    exact ⟨j + 1, by omega, by omega, (St.le_of (ren [(70, 138)]) (by simp [-List.getD_eq_getElem?_getD, SYX, iv, ren, Tle, AVle, A0le, Mem.get, Nat.add_assoc]) (by simp [-List.getD_eq_getElem?_getD, SYX, ren, Mle, Ele, Mem.get, Nat.add_assoc]) (by simp [SYX, ren]) (by simp [SYX]))⟩
  · have h0 : j = max n 1 := by
      have : n ≤ j := by simpa using h0
      omega
    rw [h0]
    simp only [↓PX, SX, SYX, EY, simprocAttr, TYX, UX]
end Go.Sx
namespace Go.Sx
open Go.Proofs Go.Num
-- SY
-- TY: TYX, UX
set_option maxRecDepth 100000
set_option linter.unusedSimpArgs false
set_option pp.deepTerms true
set_option pp.maxSteps 100000
theorem X_min {P : Program} {T : Nat → AV} {x y : Operand} {tys : Array TypeId} {a b : Int} (hx : ev T x = .o (.v (.int .i64 a))) (hy : ev T y = .o (.v (.int .i64 b))) :
    pureOp P T (.call { callee := .builtin .min, args := #[x, y], argTypes := tys }) (.int .i64 (min a b)) := by
  intro o f w ho hf _
  have e1 := hf x (by simp [Op.operands, Go.Call.operands]) _ hx
  have e2 := hf y (by simp [Op.operands, Go.Call.operands]) _ hy
  simp [execOp, ho, resolve, invoke, builtin, Builtin.min_, e1, e2, Builtin.min2]
  split <;> omega
/-- A value of a check at a row: F (a - b). -/
def fsN (s : Int) (F a b : Nat) : Nat := F * sb (md s) a b % md s
theorem u_first (s : Int) (X F L U a b : Nat) (hF : F < W256) (ha : a < W256) (hb : b < W256) : Contract Try.prog 102 [.val (EN a), .val (EN b), .bx [.int .i64 s], .bx (sC X F L U)] [.val (EN (fsN s F a b))] := by
  unfold sC
  refine contract_of (N := _) (vars := _) (c := bodyOf Try.f102) Try.func102 (body_eq rfl) rfl rfl (by rfl) mixed _ _ trivial 1000 ?_
  simp only [bodyOf, Try.f102, Option.getD_some, argA, argE, List.length_cons, List.length_nil, Nat.reduceAdd, Nat.reduceSub, List.replicate, List.cons_append, List.nil_append]
  simp only [↓PX, SX, SYX, EY, simprocAttr, TYX, UX]
  repeat (first | refine DrawVC.intro (by kernel_rfl) ?_ | refine And.intro (by omega) ?_ | exact trivial)
  refine CallVC.intro (u_Sub' s a b ha hb) ⟨rfl, rfl, rfl, trivial⟩ rfl rfl ?_
  simp only [↓PX, SX, SYX, EY, simprocAttr, TYX, UX]
  refine CallVC.intro (u_Mul s F _ hF (sb_w _ _ _)) ⟨rfl, rfl, rfl, trivial⟩ rfl rfl ?_
  simp only [↓PX, SX, SYX, EY, simprocAttr, TYX, UX]
  rfl
/-- A chunk: its value here, at the next row, and at the last one of the chunk ahead. -/
def cC (z : Nat × Nat × Nat) : List Value := eC z.1 ++ eC z.2.1 ++ eC z.2.2
theorem cC_len (z : Nat × Nat × Nat) : (cC z).length = 12 := rfl
def zAt (zs : List (Nat × Nat × Nat)) (j : Nat) : Nat := (zs.getD j (0, 0, 0)).1
def zNx (zs : List (Nat × Nat × Nat)) (j : Nat) : Nat := (zs.getD j (0, 0, 0)).2.1
def zLs (zs : List (Nat × Nat × Nat)) (j : Nat) : Nat := (zs.getD j (0, 0, 0)).2.2
def ckA (s : Int) (F : Nat) (zs : List (Nat × Nat × Nat)) : Nat → Nat
  | 0 => fsN s F 1 (zAt zs 0)
  | j + 1 => fsN s F (zAt zs (j + 1)) (zLs zs j)
def ckB (s : Int) (L a : Nat) : Nat := fsN s L (a * a % md s) a
def lpN (s : Int) (cols sig : List Nat) (β γ : Nat) (i z : Nat) : Nat → Nat
  | 0 => z
  | t + 1 => lpN s cols sig β γ i z t * tmN s (cols.getD (i + t) 0) β (sig.getD (i + t) 0) γ % md s
def rpN (s : Int) (cols : List Nat) (X β γ : Nat) (i z : Nat) : Nat → Nat
  | 0 => z
  | t + 1 => rpN s cols X β γ i z t * tmN s (cols.getD (i + t) 0) β (pw s 1 (dlN s) (i + t) * X % md s) γ % md s
def rdN (n j : Nat) : Nat := min (2 * j + 2) n - 2 * j
def ckC (s : Int) (U X β γ : Nat) (cols sig : List Nat) (zs : List (Nat × Nat × Nat)) (j : Nat) : Nat :=
  fsN s U (lpN s cols sig β γ (2 * j) (zNx zs j) (rdN cols.length j)) (rpN s cols X β γ (2 * j) (zAt zs j) (rdN cols.length j))
def ckO (s : Int) (cols sig : List Nat) (zs : List (Nat × Nat × Nat)) : Bool := kn s && cols.length == sig.length && cols.length != 0 && zs.length == (cols.length + 1) / 2
def ckL (s : Int) (X F L U : Nat) (cols sig : List Nat) (zs : List (Nat × Nat × Nat)) (β γ : Nat) : List Nat :=
  if ckO s cols sig zs then tab zs.length (ckA s F zs) ++ [ckB s L (zAt zs (zs.length - 1))] ++ tab zs.length (ckC s U X β γ cols sig zs) else []
def zsW (zs : List (Nat × Nat × Nat)) : Prop := ∀ z ∈ zs, z.1 < W256 ∧ z.2.1 < W256 ∧ z.2.2 < W256
theorem zs_at {zs : List (Nat × Nat × Nat)} (h : zsW zs) (j : Nat) : zAt zs j < W256 ∧ zNx zs j < W256 ∧ zLs zs j < W256 := by
  unfold zAt zNx zLs
  rcases Nat.lt_or_ge j zs.length with hj | hj
  · have : zs.getD j (0, 0, 0) ∈ zs := by simp [List.getD, hj]
    exact h _ this
  · have : zs.getD j (0, 0, 0) = (0, 0, 0) := by simp [List.getD, List.getElem?_eq_none hj]
    rw [this]; exact ⟨by decide, by decide, by decide⟩
theorem cC_at {zs : List (Nat × Nat × Nat)} {j : Nat} (h : j < zs.length) : ((LC cC zs).drop (j * 12)).take 12 = [u64 (L0 (zAt zs j)), u64 (L1 (zAt zs j)), u64 (L2 (zAt zs j)), u64 (L3 (zAt zs j)), u64 (L0 (zNx zs j)), u64 (L1 (zNx zs j)), u64 (L2 (zNx zs j)), u64 (L3 (zNx zs j)), u64 (L0 (zLs zs j)), u64 (L1 (zLs zs j)), u64 (L2 (zLs zs j)), u64 (L3 (zLs zs j))] := by
  rw [LC_at cC_len (x := zs.getD j (0, 0, 0)) (by simp [List.getD, h])]; rfl
theorem cC_fld {zs : List (Nat × Nat × Nat)} {j : Nat} (h : j < zs.length) : Value.agg (((LC cC zs).drop (j * 12)).take 4).toArray = EN (zAt zs j) ∧ Value.agg (((LC cC zs).drop (j * 12 + 4)).take 4).toArray = EN (zNx zs j) ∧ Value.agg (((LC cC zs).drop (j * 12 + 8)).take 4).toArray = EN (zLs zs j) := by
  have h0 := cC_at h
  have hl : (LC cC zs).length = zs.length * 12 := LC_len cC_len zs
  refine ⟨?_, ?_, ?_⟩
  · have := congrArg (List.take 4) h0
    rw [List.take_take] at this
    rw [show min 4 12 = 4 by decide] at this
    rw [this]; rfl
  · have := congrArg (fun l => List.take 4 (List.drop 4 l)) h0
    simp only [List.drop_take, List.take_take, List.drop_drop] at this
    rw [show min 4 (12 - 4) = 4 by decide] at this
    rw [this]; rfl
  · have := congrArg (fun l => List.take 4 (List.drop 8 l)) h0
    simp only [List.drop_take, List.take_take, List.drop_drop] at this
    rw [show min 4 (12 - 8) = 4 by decide] at this
    rw [this]; rfl
set_option maxHeartbeats 3200000 in
theorem u_Checks (s : Int) (X F L U : Nat) (cols sig : List Nat) (zs : List (Nat × Nat × Nat)) (β γ : Nat) (hX : X < W256) (hF : F < W256) (hL : L < W256) (hU : U < W256) (hc : ∀ x ∈ cols, x < W256) (hs : ∀ x ∈ sig, x < W256) (hz : zsW zs) (hβ : β < W256) (hγ : γ < W256) (hn : cols.length ≤ 20) (hn2 : sig.length ≤ 20) (hm : zs.length ≤ 20) :
    Contract Try.prog 59 [.val (.int .i64 s), .val (SN X F L U), .sl cols.length 4 (LC eC cols), .sl sig.length 4 (LC eC sig), .sl zs.length 12 (LC cC zs), .val (EN β), .val (EN γ)] [.row 25 4 (ckL s X F L U cols sig zs β γ).length (LC eC (ckL s X F L U cols sig zs β γ))] := by
  unfold SN
  cases hk : kn s with
  | false =>
    have he : (eS s != 0) = true := by simp [eS, hk]
    have e1 : ckL s X F L U cols sig zs β γ = [] := by unfold ckL ckO; rw [hk]; rfl
    rw [e1]
    refine contract_of (N := _) (vars := _) (c := bodyOf Try.f59) Try.func59 (body_eq rfl) rfl rfl (by rfl) mixed _ _ trivial 1000 ?_
    simp only [bodyOf, Try.f59, Option.getD_some, argA, argE, List.length_cons, List.length_nil, Nat.reduceAdd, Nat.reduceSub, List.replicate, List.cons_append, List.nil_append]
    simp only [↓PX, SX, SYX, EY, simprocAttr, TYX, UX]
    refine CallVC.intro (u_Modulus s) ⟨rfl, trivial⟩ rfl rfl ?_
    simp only [↓PX, SX, SYX, EY, simprocAttr, TYX, UX, he]
  | true =>
    have he : eS s = 0 := by simp [eS, hk]
    cases d1 : ((cols.length : Int) != (sig.length : Int)) with
    | true =>
      have e1 : ckL s X F L U cols sig zs β γ = [] := by
        have : (cols.length == sig.length) = false := by
          rw [beq_eq_false_iff_ne]; intro e; rw [e] at d1; simp at d1
        unfold ckL ckO; rw [hk, this]; rfl
      rw [e1]
      refine contract_of (N := _) (vars := _) (c := bodyOf Try.f59) Try.func59 (body_eq rfl) rfl rfl (by rfl) mixed _ _ trivial 1000 ?_
      simp only [bodyOf, Try.f59, Option.getD_some, argA, argE, List.length_cons, List.length_nil, Nat.reduceAdd, Nat.reduceSub, List.replicate, List.cons_append, List.nil_append]
      simp only [↓PX, SX, SYX, EY, simprocAttr, TYX, UX]
      refine CallVC.intro (u_Modulus s) ⟨rfl, trivial⟩ rfl rfl ?_
      simp only [↓PX, SX, SYX, EY, simprocAttr, TYX, UX, he, d1]
    | false =>
      have q1 : cols.length = sig.length := by
        have : (cols.length : Int) = (sig.length : Int) := by simpa using d1
        omega
      cases d2 : ((cols.length : Int) == 0) with
      | true =>
        have e1 : ckL s X F L U cols sig zs β γ = [] := by
          have : cols.length = 0 := by have := of_decide_eq_true d2; omega
          unfold ckL ckO; rw [hk, this]; simp
        rw [e1]
        refine contract_of (N := _) (vars := _) (c := bodyOf Try.f59) Try.func59 (body_eq rfl) rfl rfl (by rfl) mixed _ _ trivial 1000 ?_
        simp only [bodyOf, Try.f59, Option.getD_some, argA, argE, List.length_cons, List.length_nil, Nat.reduceAdd, Nat.reduceSub, List.replicate, List.cons_append, List.nil_append]
        simp only [↓PX, SX, SYX, EY, simprocAttr, TYX, UX]
        refine CallVC.intro (u_Modulus s) ⟨rfl, trivial⟩ rfl rfl ?_
        simp only [↓PX, SX, SYX, EY, simprocAttr, TYX, UX, he, d1, d2]
      | false =>
        have q2 : cols.length ≠ 0 := by
          intro e; rw [e] at d2; simp at d2
        have w1 : IntKind.i64.wrap ((cols.length : Int) + 2) = ((cols.length + 2 : Nat) : Int) := by rw [wI (by omega) (by omega)]; rfl
        have w2 : IntKind.i64.wrap (((cols.length + 2 : Nat) : Int) - 1) = ((cols.length + 1 : Nat) : Int) := by rw [wI (by omega) (by omega)]; omega
        have w3 : IntKind.i64.wrap (((cols.length + 1 : Nat) : Int).tdiv 2) = (((cols.length + 1) / 2 : Nat) : Int) := by
          have : ((cols.length + 1 : Nat) : Int).tdiv 2 = (((cols.length + 1) / 2 : Nat) : Int) := rfl
          rw [this]; exact wI (by omega) (by omega)
        cases d3 : ((zs.length : Int) != (((cols.length + 1) / 2 : Nat) : Int)) with
        | true =>
          have e1 : ckL s X F L U cols sig zs β γ = [] := by
            have : (zs.length == (cols.length + 1) / 2) = false := by
              rw [beq_eq_false_iff_ne]; intro e; rw [e] at d3; simp at d3
            unfold ckL ckO; rw [hk, this]; simp
          rw [e1]
          refine contract_of (N := _) (vars := _) (c := bodyOf Try.f59) Try.func59 (body_eq rfl) rfl rfl (by rfl) mixed _ _ trivial 1000 ?_
          simp only [bodyOf, Try.f59, Option.getD_some, argA, argE, List.length_cons, List.length_nil, Nat.reduceAdd, Nat.reduceSub, List.replicate, List.cons_append, List.nil_append]
          simp only [↓PX, SX, SYX, EY, simprocAttr, TYX, UX]
          refine CallVC.intro (u_Modulus s) ⟨rfl, trivial⟩ rfl rfl ?_
          simp only [↓PX, SX, SYX, EY, simprocAttr, TYX, UX, he, d1, d2, w1, w2, w3, d3]
        | false =>
          have q3 : zs.length = (cols.length + 1) / 2 := by
            have : (zs.length : Int) = (((cols.length + 1) / 2 : Nat) : Int) := by simpa using d3
            omega
          have e1 : ckL s X F L U cols sig zs β γ = tab zs.length (ckA s F zs) ++ [ckB s L (zAt zs (zs.length - 1))] ++ tab zs.length (ckC s U X β γ cols sig zs) := by
            have : (cols.length == sig.length) = true := by rw [q1]; simp
            have ho : ckO s cols sig zs = true := by
              unfold ckO
              rw [hk, this]
              simp only [Bool.true_and, Bool.and_eq_true, bne_iff_ne, beq_iff_eq]
              exact ⟨q2, q3⟩
            unfold ckL; rw [if_pos ho]
          rw [e1]
          have hmax : max cols.length 1 = cols.length := by omega
          have csh := u_shifts s cols.length hk (by omega)
          rw [hmax] at csh
          obtain ⟨f0, _, _⟩ := cC_fld (zs := zs) (j := 0) (by omega)
          rw [Nat.zero_mul, List.drop_zero] at f0
          refine contract_of (N := _) (vars := _) (c := bodyOf Try.f59) Try.func59 (body_eq rfl) rfl rfl (by rfl) mixed _ _ trivial 1000 ?_
          simp only [bodyOf, Try.f59, Option.getD_some, argA, argE, List.length_cons, List.length_nil, Nat.reduceAdd, Nat.reduceSub, List.replicate, List.cons_append, List.nil_append]
          simp only [↓PX, SX, SYX, EY, simprocAttr, TYX, UX]
          refine CallVC.intro (u_Modulus s) ⟨rfl, trivial⟩ rfl rfl ?_
          simp only [↓PX, SX, SYX, EY, simprocAttr, TYX, UX, he, d1, d2, w1, w2, w3, d3]
          have hlz : (LC cC zs).length = zs.length * 12 := LC_len cC_len zs
          refine CallVC.intro (csh) ⟨rfl, rfl, trivial⟩ rfl rfl ?_
          simp only [↓PX, SX, SYX, EY, simprocAttr, TYX, UX, f0, hlz]
          repeat (first | refine DrawVC.intro (by kernel_rfl) ?_ | refine And.intro (by omega) ?_ | exact trivial)
          have c0 := u_first s X F L U 1 (zAt zs 0) hF (by decide) (zs_at hz 0).1
          unfold sC at c0
          refine CloVC.intro (c0) ⟨rfl, rfl, (by simp only [argMatch, boxCells, List.drop_zero, SX, SYX, EY, simprocAttr, and_self, List.length_append, List.length_map, List.length_set, TYX, UX]), (by simp only [argMatch, boxCells, List.drop_zero, SX, SYX, EY, simprocAttr, and_self, List.length_append, List.length_map, List.length_set, TYX, UX]), trivial⟩ rfl rfl ?_
          simp only [↓PX, SX, SYX, EY, simprocAttr, TYX, UX]
          refine loop_hav ?_
          simp only [↓PX, SX, SYX, EY, simprocAttr, TYX, UX]
          obtain ⟨m, hm0⟩ : ∃ m, zs.length = m := ⟨_, rfl⟩
          have eA : [u64 (L0 (fsN s F 1 (zAt zs 0))), u64 (L1 (fsN s F 1 (zAt zs 0))), u64 (L2 (fsN s F 1 (zAt zs 0))), u64 (L3 (fsN s F 1 (zAt zs 0)))] = LC eC (tab 1 (ckA s F zs)) := rfl
          refine loop_go mixed (by trivial) (γ := Nat) (fun j => 1 ≤ j ∧ j ≤ zs.length) (fun j => zs.length - j) (fun j => [(21, iv j), (73, .o .any), (20, .o (.r 235 j))]) (fun j => [(235, .row 25 4 j (LC eC (tab j (ckA s F zs))))]) 1 (by omega)
            (St.le_of id (by simp [-List.getD_eq_getElem?_getD, SYX, iv, Tle, AVle, A0le, Mem.get, eA]) (by simp [-List.getD_eq_getElem?_getD, SYX, Mle, Ele, Hle, Tle, AVle, A0le, Mem.get, eA]) (by simp [SYX]) (by simp [SYX])) ?_
          rintro j ⟨hj1, hj⟩
          simp only [↓PX, SX, SYX, EY, simprocAttr, TYX, UX]
          refine cond_split (fun h0 => ?_) (fun h0 => ?_)
          · have h0 : j < zs.length := by simpa using h0
            obtain ⟨g0, _, _⟩ := cC_fld (zs := zs) (j := j) h0
            obtain ⟨_, _, g2⟩ := cC_fld (zs := zs) (j := j - 1) (by omega)
            have cj := u_first s X F L U (zAt zs j) (zLs zs (j - 1)) hF (zs_at hz j).1 (zs_at hz _).2.2
            have ej : fsN s F (zAt zs j) (zLs zs (j - 1)) = ckA s F zs j := by
              obtain ⟨i, rfl⟩ : ∃ i, j = i + 1 := ⟨j - 1, by omega⟩
              rfl
            unfold sC at cj
            rw [ej] at cj
            simp only [↓PX, SX, SYX, EY, simprocAttr, TYX, UX, wP (j := j) (by omega) (by omega), hlz, g0, g2]
            repeat (first | refine DrawVC.intro (by kernel_rfl) ?_ | refine And.intro (by omega) ?_ | exact trivial)
            refine CloVC.intro (cj) ⟨rfl, rfl, (by simp only [argMatch, boxCells, List.drop_zero, SX, SYX, EY, simprocAttr, and_self, List.length_append, List.length_map, List.length_set, TYX, UX, tab_snoc, wS (j := j) (by omega)]), (by simp only [argMatch, boxCells, List.drop_zero, SX, SYX, EY, simprocAttr, and_self, List.length_append, List.length_map, List.length_set, TYX, UX, tab_snoc, wS (j := j) (by omega)]), trivial⟩ rfl rfl ?_
            simp only [↓PX, SX, SYX, EY, simprocAttr, TYX, UX, tab_snoc, wS (j := j) (by omega)]
            repeat (first | refine DrawVC.intro (by kernel_rfl) ?_ | refine And.intro (by omega) ?_ | exact trivial)
            exact ⟨j + 1, by omega, by omega, (St.le_of (ren [(235, 323)]) (by simp [-List.getD_eq_getElem?_getD, SYX, iv, ren, Tle, AVle, A0le, Mem.get, Nat.add_assoc]) (by simp [-List.getD_eq_getElem?_getD, SYX, ren, Mle, Ele, Mem.get, Nat.add_assoc]) (by simp [SYX, ren]) (by simp [SYX]))⟩
          · have h0 : j = zs.length := by
              have : zs.length ≤ j := by simpa using h0
              omega
            obtain ⟨f1, _, _⟩ := cC_fld (zs := zs) (j := zs.length - 1) (by omega)
            rw [h0]
            simp only [↓PX, SX, SYX, EY, simprocAttr, TYX, UX, wP (j := zs.length) (by omega) (by omega), hlz, f1]
            repeat (first | refine DrawVC.intro (by kernel_rfl) ?_ | refine And.intro (by omega) ?_ | exact trivial)
            obtain ⟨a, ha⟩ : ∃ a, a = zAt zs (zs.length - 1) := ⟨_, rfl⟩
            have haw : a < W256 := by rw [ha]; exact (zs_at hz _).1
            rw [← ha]
            refine CallVC.intro (u_Mul s a a haw haw) ⟨rfl, rfl, rfl, trivial⟩ rfl rfl ?_
            simp only [↓PX, SX, SYX, EY, simprocAttr, TYX, UX]
            refine CallVC.intro (u_Sub' s _ a (md_w s _) haw) ⟨rfl, rfl, rfl, trivial⟩ rfl rfl ?_
            simp only [↓PX, SX, SYX, EY, simprocAttr, TYX, UX]
            refine CallVC.intro (u_Mul s L _ hL (sb_w _ _ _)) ⟨rfl, rfl, rfl, trivial⟩ rfl rfl ?_
            simp only [↓PX, SX, SYX, EY, simprocAttr, TYX, UX]
            repeat (first | refine DrawVC.intro (by kernel_rfl) ?_ | refine And.intro (by omega) ?_ | exact trivial)
            refine loop_hav ?_
            simp only [↓PX, SX, SYX, EY, simprocAttr, TYX, UX]
            have eB : L * sb (md s) (a * a % md s) a % md s = ckB s L a := rfl
            rw [eB]
            obtain ⟨P0, hP0⟩ : ∃ P0, P0 = tab zs.length (ckA s F zs) ++ [ckB s L a] := ⟨_, rfl⟩
            have hPl : P0.length = zs.length + 1 := by rw [hP0, List.length_append, tab_len]; rfl
            rw [← hP0]
            refine loop_go mixed (by trivial) (γ := Nat) (fun j => j ≤ zs.length) (fun j => zs.length - j) (fun j => [(119, iv j), (116, .o .any), (20, .o (.r 351 (zs.length + 1 + j)))]) (fun j => [(351, .row 25 4 (zs.length + 1 + j) (LC eC (P0 ++ tab j (ckC s U X β γ cols sig zs))))]) 0 (by omega)
              (St.le_of id (by simp [-List.getD_eq_getElem?_getD, SYX, iv, Tle, AVle, A0le, Mem.get, tab_0, List.append_nil]) (by simp [-List.getD_eq_getElem?_getD, SYX, Mle, Ele, Hle, Tle, AVle, A0le, Mem.get, tab_0, List.append_nil]) (by simp [SYX]) (by simp [SYX])) ?_
            intro j hj
            simp only [↓PX, SX, SYX, EY, simprocAttr, TYX, UX]
            refine cond_split (fun h0 => ?_) (fun h0 => ?_)
            · have h0 : j < zs.length := by simpa using h0
              have hcz := cC_at (zs := zs) (j := j) h0
              have w4 : IntKind.i64.wrap ((j : Int) * 2) = ((2 * j : Nat) : Int) := by rw [wI (by omega) (by omega)]; omega
              have hld : j * 12 + 12 ≤ (LC cC zs).length := by omega
              have hn1 : 2 * j < cols.length := by omega
              have hrd : 2 * j + rdN cols.length j = min (2 * j + 2) cols.length := by unfold rdN; omega
              obtain ⟨R, hR⟩ : ∃ R, rdN cols.length j = R := ⟨_, rfl⟩
              rw [hR] at hrd
              obtain ⟨z1, z2, z3⟩ := zs_at hz j
              have hCC : fsN s U (lpN s cols sig β γ (2 * j) (zNx zs j) R) (rpN s cols X β γ (2 * j) (zAt zs j) R) = ckC s U X β γ cols sig zs j := by unfold ckC; rw [hR]
              simp only [↓PX, SX, SYX, EY, simprocAttr, TYX, UX, hcz, hlz]
              repeat (first | refine DrawVC.intro (by kernel_rfl) ?_ | refine And.intro (by omega) ?_ | exact trivial)
              refine loop_hav ?_
              simp only [↓PX, SX, SYX, EY, simprocAttr, TYX, UX, w4]
              refine loop_go mixed (by trivial) (γ := Nat) (fun t => t ≤ R) (fun t => R - t) (fun t => [(27, iv (2 * j + t))]) (fun t => [(415, .box (eC (lpN s cols sig β γ (2 * j) (zNx zs j) t))), (419, .box (eC (rpN s cols X β γ (2 * j) (zAt zs j) t)))]) 0 (by omega)
                (St.le_of id (by simp [-List.getD_eq_getElem?_getD, SYX, iv, Tle, AVle, A0le, Mem.get, lpN, rpN, eC, Nat.add_zero]) (by simp [-List.getD_eq_getElem?_getD, SYX, Mle, Ele, Hle, Tle, AVle, A0le, Mem.get, lpN, rpN, eC, Nat.add_zero]) (by simp [SYX]) (by simp [SYX])) ?_
              intro t ht
              have w5 := wS (j := j) (by omega)
              have w6 : IntKind.i64.wrap (((j + 1 : Nat) : Int) * 2) = ((2 * j + 2 : Nat) : Int) := by rw [wI (by omega) (by omega)]; omega
              have wm : min ((2 * j + 2 : Nat) : Int) (cols.length : Int) = ((min (2 * j + 2) cols.length : Nat) : Int) := by omega
              simp only [↓PX, SX, SYX, EY, simprocAttr, TYX, UX, w5, w6]
              refine ExVC.intro _ (X_min rfl rfl) ?_
              rw [wm, ← hrd]
              simp only [↓PX, SX, SYX, EY, simprocAttr, TYX, UX]
              refine cond_split (fun h1 => ?_) (fun h1 => ?_)
              · have h1 : t < R := by
                  have := of_decide_eq_true h1
                  omega
                have hic : 2 * j + t < cols.length := by omega
                have his : 2 * j + t < sig.length := by omega
                have ld1 := eL_ld hic
                have ld2 := eL_ld his
                have hsl : (tab cols.length (pw s 1 (dlN s))).length = cols.length := tab_len
                have hid : 2 * j + t < (tab cols.length (pw s 1 (dlN s))).length := by omega
                have ld3 := eL_ld hid
                rw [tab_at hic] at ld3
                have hlw : lpN s cols sig β γ (2 * j) (zNx zs j) t < W256 := by
                  cases t with
                  | zero => exact z2
                  | succ t => exact md_w s _
                have hrw : rpN s cols X β γ (2 * j) (zAt zs j) t < W256 := by
                  cases t with
                  | zero => exact z1
                  | succ t => exact md_w s _
                have ct := u_tmof s β γ (cols.getD (2 * j + t) 0) (sig.getD (2 * j + t) 0) hβ hγ (getD_lt hc hic) (getD_lt hs his)
                have ct2 := u_tmof s β γ (cols.getD (2 * j + t) 0) (pw s 1 (dlN s) (2 * j + t) * X % md s) hβ hγ (getD_lt hc hic) (md_w s _)
                have em : lpN s cols sig β γ (2 * j) (zNx zs j) t * tmN s (cols.getD (2 * j + t) 0) β (sig.getD (2 * j + t) 0) γ % md s = lpN s cols sig β γ (2 * j) (zNx zs j) (t + 1) := rfl
                have em2 : rpN s cols X β γ (2 * j) (zAt zs j) t * tmN s (cols.getD (2 * j + t) 0) β (pw s 1 (dlN s) (2 * j + t) * X % md s) γ % md s = rpN s cols X β γ (2 * j) (zAt zs j) (t + 1) := rfl
                have cm := u_Mul s _ _ hlw (tmN_w s (cols.getD (2 * j + t) 0) β (sig.getD (2 * j + t) 0) γ)
                have cm2 := u_Mul s _ _ hrw (tmN_w s (cols.getD (2 * j + t) 0) β (pw s 1 (dlN s) (2 * j + t) * X % md s) γ)
                rw [em] at cm
                rw [em2] at cm2
                simp only [↓PX, SX, SYX, EY, simprocAttr, TYX, UX, ld1, ld2]
                repeat (first | refine DrawVC.intro (by kernel_rfl) ?_ | refine And.intro (by omega) ?_ | exact trivial)
                refine CallVC.intro (ct) ⟨rfl, rfl, rfl, trivial⟩ rfl rfl ?_
                simp only [↓PX, SX, SYX, EY, simprocAttr, TYX, UX]
                refine CallVC.intro (cm) ⟨rfl, rfl, rfl, trivial⟩ rfl rfl ?_
                simp only [↓PX, SX, SYX, EY, simprocAttr, TYX, UX, ld1, ld3, hsl]
                repeat (first | refine DrawVC.intro (by kernel_rfl) ?_ | refine And.intro (by omega) ?_ | exact trivial)
                refine CallVC.intro (u_Mul s (pw s 1 (dlN s) (2 * j + t)) X (pw_w (by decide) _) hX) ⟨rfl, rfl, rfl, trivial⟩ rfl rfl ?_
                simp only [↓PX, SX, SYX, EY, simprocAttr, TYX, UX]
                refine CallVC.intro (ct2) ⟨rfl, rfl, rfl, trivial⟩ rfl rfl ?_
                simp only [↓PX, SX, SYX, EY, simprocAttr, TYX, UX]
                refine CallVC.intro (cm2) ⟨rfl, rfl, rfl, trivial⟩ rfl rfl ?_
                simp only [↓PX, SX, SYX, EY, simprocAttr, TYX, UX, wS (j := 2 * j + t) (by omega)]
                exact ⟨t + 1, by omega, by omega, (St.le_of id (by simp [-List.getD_eq_getElem?_getD, SYX, iv, Tle, AVle, A0le, Mem.get, eC, Nat.add_assoc]) (by simp [-List.getD_eq_getElem?_getD, SYX, Mle, Ele, Hle, Tle, AVle, A0le, Mem.get, eC, Nat.add_assoc]) (by simp [SYX]) (by simp [SYX]))⟩
              · have h1 : t = R := by
                  have := of_decide_eq_false h1
                  omega
                rw [h1]
                have hlw : lpN s cols sig β γ (2 * j) (zNx zs j) R < W256 := by
                  cases R with
                  | zero => exact z2
                  | succ t => exact md_w s _
                have hrw : rpN s cols X β γ (2 * j) (zAt zs j) R < W256 := by
                  cases R with
                  | zero => exact z1
                  | succ t => exact md_w s _
                have cQ := u_Mul s U _ hU (sb_w s (lpN s cols sig β γ (2 * j) (zNx zs j) R) (rpN s cols X β γ (2 * j) (zAt zs j) R))
                rw [show U * sb (md s) (lpN s cols sig β γ (2 * j) (zNx zs j) R) (rpN s cols X β γ (2 * j) (zAt zs j) R) % md s = ckC s U X β γ cols sig zs j from hCC] at cQ
                have eap : P0 ++ tab j (ckC s U X β γ cols sig zs) ++ [ckC s U X β γ cols sig zs j] = P0 ++ tab (j + 1) (ckC s U X β γ cols sig zs) := by rw [List.append_assoc, tab_snoc]
                simp only [↓PX, SX, SYX, EY, simprocAttr, TYX, UX, eC]
                repeat (first | refine DrawVC.intro (by kernel_rfl) ?_ | refine And.intro (by omega) ?_ | exact trivial)
                refine CallVC.intro (u_Sub' s _ _ hlw hrw) ⟨rfl, rfl, rfl, trivial⟩ rfl rfl ?_
                simp only [↓PX, SX, SYX, EY, simprocAttr, TYX, UX]
                refine CallVC.intro (cQ) ⟨rfl, rfl, rfl, trivial⟩ rfl rfl ?_
                simp only [↓PX, SX, SYX, EY, simprocAttr, TYX, UX, eap, wS (j := j) (by omega)]
                repeat (first | refine DrawVC.intro (by kernel_rfl) ?_ | refine And.intro (by omega) ?_ | exact trivial)
                exact ⟨j + 1, by omega, by omega, (St.le_of (ren [(351, 515)]) (by simp [-List.getD_eq_getElem?_getD, SYX, iv, ren, Tle, AVle, A0le, Mem.get, Nat.add_assoc]) (by simp [-List.getD_eq_getElem?_getD, SYX, ren, Mle, Ele, Mem.get, Nat.add_assoc]) (by simp [SYX, ren]) (by simp [SYX]))⟩
            · have h0 : j = zs.length := by
                have : zs.length ≤ j := by simpa using h0
                omega
              have hlen2 : (P0 ++ tab zs.length (ckC s U X β γ cols sig zs)).length = zs.length + 1 + zs.length := by rw [List.length_append, hPl, tab_len]
              rw [h0, hlen2]
              simp only [↓PX, SX, SYX, EY, simprocAttr, TYX, UX]
end Go.Sx
namespace Go.Sx
open Go.Proofs Go.Num
-- SY
-- TY: TYX, UX
set_option maxRecDepth 100000
set_option linter.unusedSimpArgs false
set_option pp.deepTerms true
set_option pp.maxSteps 100000
end Go.Sx
namespace Go.Sx
open Go.Proofs Go.Num
-- SY
-- TY: TYX, UX, guard_un
set_option maxRecDepth 100000
set_option linter.unusedSimpArgs false
set_option pp.deepTerms true
set_option pp.maxSteps 100000
theorem ckL_w {s : Int} {X F L U : Nat} {cols sig : List Nat} {zs : List (Nat × Nat × Nat)} {β γ : Nat} : ∀ x ∈ ckL s X F L U cols sig zs β γ, x < W256 := by
  intro x hx
  unfold ckL at hx
  split at hx
  · rcases List.mem_append.1 hx with hx | hx
    · rcases List.mem_append.1 hx with hx | hx
      · exact tab_w (f := ckA s F zs) (fun i => by cases i <;> exact md_w s _) x hx
      · have : x = ckB s L (zAt zs (zs.length - 1)) := by simpa using hx
        rw [this]; exact md_w s _
    · exact tab_w (f := ckC s U X β γ cols sig zs) (fun i => md_w s _) x hx
  · simp at hx
theorem ckL_len {s : Int} {X F L U : Nat} {cols sig : List Nat} {zs : List (Nat × Nat × Nat)} {β γ : Nat} (h : zs.length ≤ 20) : (ckL s X F L U cols sig zs β γ).length ≤ 100 := by
  unfold ckL
  split
  · simp only [List.length_append, tab_len, List.length_cons, List.length_nil]; omega
  · simp
end Go.Sx
