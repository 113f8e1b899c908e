/-
  Helpers of permute's Checks, here and in the reference. No conditions.
-/
import Derived.Test.YtndmafefpiigoaaZPeb
namespace Go.Sx
open Go.Proofs Go.Num
-- SY
-- TY: TYX, UX
set_option maxRecDepth 100000
set_option linter.unusedSimpArgs false
set_option pp.deepTerms true
set_option pp.maxSteps 100000
/-- The labels' d. -/
def dlN (s : Int) : Nat := 5 ^ 2 ^ (adc s).toNat % md s
/-- A factor: a value, beta times a label, and gamma. -/
def tmN (s : Int) (v β lab γ : Nat) : Nat := ((v + β * lab % md s) % md s + γ) % md s
theorem tmN_w (s : Int) (v β lab γ : Nat) : tmN s v β lab γ < W256 := md_w s _
/-- What makes the factors. -/
def TN (s : Int) (β γ : Nat) : Value := Value.agg [.int .i64 s, u64 (L0 β), u64 (L1 β), u64 (L2 β), u64 (L3 β), u64 (L0 γ), u64 (L1 γ), u64 (L2 γ), u64 (L3 γ)].toArray
theorem u_tmof (s : Int) (β γ v lab : Nat) (hβ : β < W256) (hγ : γ < W256) (hv : v < W256) (hl : lab < W256) : Contract Try.prog 100 [.val (TN s β γ), .val (EN v), .val (EN lab)] [.val (EN (tmN s v β lab γ))] := by
  unfold TN
  refine contract_of (N := _) (vars := _) (c := bodyOf Try.f100) Try.func100 (body_eq rfl) rfl rfl (by rfl) mixed _ _ trivial 1000 ?_
  simp only [bodyOf, Try.f100, Option.getD_some, argA, argE, List.length_cons, List.length_nil, Nat.reduceAdd, Nat.reduceSub, List.replicate, List.cons_append, List.nil_append]
  simp only [↓PX, SX, SYX, EY, simprocAttr, TYX, UX]
  repeat (first | refine DrawVC.intro (by kernel_rfl) ?_ | refine And.intro (by omega) ?_ | exact trivial)
  refine CallVC.intro (u_Mul s β lab hβ hl) ⟨rfl, rfl, rfl, trivial⟩ rfl rfl ?_
  simp only [↓PX, SX, SYX, EY, simprocAttr, TYX, UX]
  refine CallVC.intro (u_Add s v _ hv (md_w s _)) ⟨rfl, rfl, rfl, trivial⟩ rfl rfl ?_
  simp only [↓PX, SX, SYX, EY, simprocAttr, TYX, UX]
  refine CallVC.intro (u_Add s _ γ (md_w s _) hγ) ⟨rfl, rfl, rfl, trivial⟩ rfl rfl ?_
  simp only [↓PX, SX, SYX, EY, simprocAttr, TYX, UX]
  rfl
theorem v_term (s : Int) (v β lab γ : Nat) (hβ : β < W256) (hγ : γ < W256) (hv : v < W256) (hl : lab < W256) : Contract Try.prog 103 [.val (.int .i64 s), .val (EN v), .val (EN β), .val (EN lab), .val (EN γ)] [.val (EN (tmN s v β lab γ))] := by
  refine contract_of (N := _) (vars := _) (c := bodyOf Try.f103) Try.func103 (body_eq rfl) rfl rfl (by rfl) mixed _ _ trivial 1000 ?_
  simp only [bodyOf, Try.f103, Option.getD_some, argA, argE, List.length_cons, List.length_nil, Nat.reduceAdd, Nat.reduceSub, List.replicate, List.cons_append, List.nil_append]
  simp only [↓PX, SX, SYX, EY, simprocAttr, TYX, UX]
  repeat (first | refine DrawVC.intro (by kernel_rfl) ?_ | refine And.intro (by omega) ?_ | exact trivial)
  refine CallVC.intro (v_Mul s β lab hβ hl) ⟨rfl, rfl, rfl, trivial⟩ rfl rfl ?_
  simp only [↓PX, SX, SYX, EY, simprocAttr, TYX, UX]
  refine CallVC.intro (v_Add s v _ hv (md_w s _)) ⟨rfl, rfl, rfl, trivial⟩ rfl rfl ?_
  simp only [↓PX, SX, SYX, EY, simprocAttr, TYX, UX]
  refine CallVC.intro (v_Add s _ γ (md_w s _) hγ) ⟨rfl, rfl, rfl, trivial⟩ rfl rfl ?_
  simp only [↓PX, SX, SYX, EY, simprocAttr, TYX, UX]
  rfl
theorem v_chunks (n : Nat) (hn : n < 1000) : Contract Try.prog 101 [.val (.int .i64 n)] [.val (.int .i64 ((n + 1) / 2 : Nat))] := by
  have e1 := wS (j := n) (by omega)
  have e2 : IntKind.i64.wrap (((n + 1 : Nat) : Int).tdiv 2) = (((n + 1) / 2 : Nat) : Int) := by
    have : ((n + 1 : Nat) : Int).tdiv 2 = (((n + 1) / 2 : Nat) : Int) := rfl
    rw [this]; exact wI (by omega) (by omega)
  refine contract_of (N := _) (vars := _) (c := bodyOf Try.f101) Try.func101 (body_eq rfl) rfl rfl (by rfl) mixed _ _ trivial 1000 ?_
  simp only [bodyOf, Try.f101, Option.getD_some, argA, argE, List.length_cons, List.length_nil, Nat.reduceAdd, Nat.reduceSub, List.replicate, List.cons_append, List.nil_append]
  simp only [↓PX, SX, SYX, EY, simprocAttr, TYX, UX]
  simp only [↓PX, SX, SYX, EY, simprocAttr, TYX, UX, e1, e2]
theorem v_endc (j n : Nat) (hj : j < 1000) (hn : n < 1000) : Contract Try.prog 102 [.val (.int .i64 j), .val (.int .i64 n)] [.val (.int .i64 (min (2 * j + 2) n : Nat))] := by
  have e1 : IntKind.i64.wrap ((2 : Int) * (j : Int)) = ((2 * j : Nat) : Int) := by rw [wI (by omega) (by omega)]; rfl
  have e2 : IntKind.i64.wrap (((2 * j : Nat) : Int) + 2) = ((2 * j + 2 : Nat) : Int) := by rw [wI (by omega) (by omega)]; rfl
  by_cases h : n < 2 * j + 2
  · have d : decide ((n : Int) < ((2 * j + 2 : Nat) : Int)) = true := decide_eq_true (by omega)
    rw [Nat.min_eq_right (by omega)]
    refine contract_of (N := _) (vars := _) (c := bodyOf Try.f102) Try.func102 (body_eq rfl) rfl rfl (by rfl) mixed _ _ trivial 1000 ?_
    simp only [bodyOf, Try.f102, Option.getD_some, argA, argE, List.length_cons, List.length_nil, Nat.reduceAdd, Nat.reduceSub, List.replicate, List.cons_append, List.nil_append]
    simp only [↓PX, SX, SYX, EY, simprocAttr, TYX, UX]
    simp only [↓PX, SX, SYX, EY, simprocAttr, TYX, UX, e1, e2, d]
  · have d : decide ((n : Int) < ((2 * j + 2 : Nat) : Int)) = false := decide_eq_false (by omega)
    rw [Nat.min_eq_left (by omega)]
    refine contract_of (N := _) (vars := _) (c := bodyOf Try.f102) Try.func102 (body_eq rfl) rfl rfl (by rfl) mixed _ _ trivial 1000 ?_
    simp only [bodyOf, Try.f102, Option.getD_some, argA, argE, List.length_cons, List.length_nil, Nat.reduceAdd, Nat.reduceSub, List.replicate, List.cons_append, List.nil_append]
    simp only [↓PX, SX, SYX, EY, simprocAttr, TYX, UX]
    simp only [↓PX, SX, SYX, EY, simprocAttr, TYX, UX, e1, e2, d]
theorem adc_pw (s : Int) (h : kn s = true) : ∃ a : Nat, adc s = a ∧ a ≤ 32 ∧ 2 ^ a ≤ 4294967296 := by
  rcases kn_or s h with rfl | rfl | rfl | rfl
  · exact ⟨9, rfl, by decide, by decide⟩
  · exact ⟨11, rfl, by decide, by decide⟩
  · exact ⟨32, rfl, by decide, by decide⟩
  · exact ⟨32, rfl, by decide, by decide⟩
theorem ushl_one {a : Nat} (h : a ≤ 32) (h2 : 2 ^ a ≤ 4294967296) : ushl 1 a = 2 ^ a := by
  rw [ushl_eq]; unfold sh; rw [Nat.min_eq_left (by omega)]
  exact (congrArg (· % 18446744073709551616) (Nat.one_mul _)).trans (Nat.mod_eq_of_lt (by omega))
theorem u_shifts (s : Int) (n : Nat) (hk : kn s = true) (hn : n ≤ 1000) : Contract Try.prog 98 [.val (.int .i64 s), .val (.int .i64 n)] [.row 25 4 (max n 1) (LC eC (tab (max n 1) (pw s 1 (dlN s))))] := by
  obtain ⟨a, ha, ha2, ha3⟩ := adc_pw s hk
  have hes : eS s = 0 := by simp [eS, hk]
  have cd := u_Exp s 5 (2 ^ a) (by decide) (by unfold W256; omega)
  have hd : 5 ^ 2 ^ a % md s = dlN s := by unfold dlN; rw [ha]; rfl
  rw [hd, ← EN_small (a := 2 ^ a) (by omega)] at cd
  have ca := u_Adicity s
  rw [ha, hes] at ca
  refine contract_of (N := _) (vars := _) (c := bodyOf Try.f98) Try.func98 (body_eq rfl) rfl rfl (by rfl) mixed _ _ trivial 1000 ?_
  simp only [bodyOf, Try.f98, Option.getD_some, argA, argE, List.length_cons, List.length_nil, Nat.reduceAdd, Nat.reduceSub, List.replicate, List.cons_append, List.nil_append]
  simp only [↓PX, SX, SYX, EY, simprocAttr, TYX, UX]
  refine CallVC.intro (ca) ⟨rfl, trivial⟩ rfl rfl ?_
  simp only [↓PX, SX, SYX, EY, simprocAttr, TYX, UX, ushl_one ha2 ha3]
  repeat (first | refine DrawVC.intro (by kernel_rfl) ?_ | refine And.intro (by omega) ?_ | exact trivial)
  refine CallVC.intro (cd) ⟨rfl, rfl, rfl, trivial⟩ rfl rfl ?_
  simp only [↓PX, SX, SYX, EY, simprocAttr, TYX, UX]
  refine loop_hav ?_
  simp only [↓PX, SX, SYX, EY, simprocAttr, TYX, UX]
  have hdw : dlN s < W256 := md_w s _
  have e1 : [u64 (L0 1), u64 (L1 1), u64 (L2 1), u64 (L3 1)] = LC eC (tab 1 (pw s 1 (dlN s))) := rfl
  refine loop_go mixed (by trivial) (γ := Nat) (fun j => 1 ≤ j ∧ j ≤ max n 1) (fun j => max n 1 - j) (fun j => [(21, .o .any), (8, .o (.r 70 j))]) (fun j => [(70, .row 25 4 j (LC eC (tab j (pw s 1 (dlN s)))))]) 1 (by omega)
    (St.le_of id (by simp [-List.getD_eq_getElem?_getD, SYX, iv, Tle, AVle, A0le, Mem.get, e1]) (by simp [-List.getD_eq_getElem?_getD, SYX, Mle, Ele, Hle, Tle, AVle, A0le, Mem.get, e1]) (by simp [SYX]) (by simp [SYX])) ?_
  rintro j ⟨hj1, hj⟩
  simp only [↓PX, SX, SYX, EY, simprocAttr, TYX, UX]
  refine cond_split (fun h0 => ?_) (fun h0 => ?_)
  · have h0 : j < n := by simpa using h0
    have hl : (tab j (pw s 1 (dlN s))).length = j := tab_len
    have hlt : j - 1 < (tab j (pw s 1 (dlN s))).length := by omega
    have hld := eL_ld hlt
    rw [tab_at (by omega)] at hld
    have hpw : pw s 1 (dlN s) (j - 1) * dlN s % md s = pw s 1 (dlN s) j := by
      obtain ⟨i, rfl⟩ : ∃ i, j = i + 1 := ⟨j - 1, by omega⟩
      rfl
    have cm := u_Mul s (pw s 1 (dlN s) (j - 1)) (dlN s) (pw_w (by decide) _) hdw
    rw [hpw] at cm
    simp only [↓PX, SX, SYX, EY, simprocAttr, TYX, UX, wP (j := j) (by omega) (by omega), hl, hld]
    repeat (first | refine DrawVC.intro (by kernel_rfl) ?_ | refine And.intro (by omega) ?_ | exact trivial)
    refine CallVC.intro (cm) ⟨rfl, rfl, rfl, trivial⟩ rfl rfl ?_
    simp only [↓PX, SX, SYX, EY, simprocAttr, TYX, UX, tab_snoc]
    repeat (first | refine DrawVC.intro (by kernel_rfl) ?_ | refine And.intro (by omega) ?_ | exact trivial)
    exact ⟨j + 1, by omega, by omega, (St.le_of (ren [(70, 138)]) (by simp [-List.getD_eq_getElem?_getD, SYX, iv, ren, Tle, AVle, A0le, Mem.get, Nat.add_assoc]) (by simp [-List.getD_eq_getElem?_getD, SYX, ren, Mle, Ele, Mem.get, Nat.add_assoc]) (by simp [SYX, ren]) (by simp [SYX]))⟩
  · have h0 : j = max n 1 := by
      have : n ≤ j := by simpa using h0
      omega
    rw [h0]
    simp only [↓PX, SX, SYX, EY, simprocAttr, TYX, UX]
theorem v_Shift (s : Int) (i : Nat) (hk : kn s = true) (hi : i ≤ 1000) : Contract Try.prog 104 [.val (.int .i64 s), .val (.int .i64 i)] [.val (EN (pw s 1 (dlN s) i))] := by
  obtain ⟨a, ha, ha2, ha3⟩ := adc_pw s hk
  have hes : eS s = 0 := by simp [eS, hk]
  have cd := v_Exp s 5 (2 ^ a) (by decide) (by unfold W256; omega)
  have hd : 5 ^ 2 ^ a % md s = dlN s := by unfold dlN; rw [ha]; rfl
  rw [hd, ← EN_small (a := 2 ^ a) (by omega)] at cd
  have ca := v_Adicity s
  rw [ha, hes] at ca
  have hw : dlN s < W256 := md_w s _
  have ce := v_Exp s (dlN s) i hw (by unfold W256; omega)
  have hp : dlN s ^ i % md s = pw s 1 (dlN s) i := by
    have P := pr_of hk
    have h1 : pw s 1 (dlN s) i < md s := by
      cases i with
      | zero => exact P.1
      | succ i => exact md_mod _ _
    have h2 := κ_pw (s := s) (x := dlN s) i
    rw [← κ_pow, κ_inj, Nat.mod_eq_of_lt h1] at h2
    exact h2.symm
  rw [hp, ← EN_small (a := i) (by omega)] at ce
  have ci : ((i : Int) % 18446744073709551616).toNat = i := by omega
  have cia : ((a : Int) % 18446744073709551616).toNat = a := by omega
  refine contract_of (N := _) (vars := _) (c := bodyOf Try.f104) Try.func104 (body_eq rfl) rfl rfl (by rfl) mixed _ _ trivial 1000 ?_
  simp only [bodyOf, Try.f104, Option.getD_some, argA, argE, List.length_cons, List.length_nil, Nat.reduceAdd, Nat.reduceSub, List.replicate, List.cons_append, List.nil_append]
  simp only [↓PX, SX, SYX, EY, simprocAttr, TYX, UX]
  refine CallVC.intro (ca) ⟨rfl, trivial⟩ rfl rfl ?_
  simp only [↓PX, SX, SYX, EY, simprocAttr, TYX, UX, cia, ushl_one ha2 ha3]
  refine CallVC.intro (cd) ⟨rfl, rfl, rfl, trivial⟩ rfl rfl ?_
  simp only [↓PX, SX, SYX, EY, simprocAttr, TYX, UX, ci]
  refine CallVC.intro (ce) ⟨rfl, rfl, rfl, trivial⟩ rfl rfl ?_
  simp only [↓PX, SX, SYX, EY, simprocAttr, TYX, UX]
end Go.Sx
