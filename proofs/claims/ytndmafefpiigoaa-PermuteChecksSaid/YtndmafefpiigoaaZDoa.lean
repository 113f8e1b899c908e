/-
  Layer 6: sizes, points, what vanishes, of domain and of the reference. No conditions.
-/
import Derived.Test.YtndmafefpiigoaaZPpd
import Derived.Test.YtndmafefpiigoaaZSqx
namespace Go.Sx
open Go.Proofs Go.Num
-- SY
-- TY: TYX, UX
set_option maxRecDepth 100000
set_option linter.unusedSimpArgs false
set_option pp.deepTerms true
set_option pp.maxSteps 100000
theorem shl_i {k : Nat} (h : k ≤ 9) : IntKind.i64.wrap (1 * 2 ^ (min k IntKind.i64.bits)) = ((2 ^ k : Nat) : Int) := by
  have : k = 0 ∨ k = 1 ∨ k = 2 ∨ k = 3 ∨ k = 4 ∨ k = 5 ∨ k = 6 ∨ k = 7 ∨ k = 8 ∨ k = 9 := by omega
  rcases this with h | h | h | h | h | h | h | h | h | h <;> subst h <;> decide
theorem shl_u {k : Nat} (h : k ≤ 9) : ushl 1 k = 2 ^ k := by
  rw [ushl_eq]
  have : k = 0 ∨ k = 1 ∨ k = 2 ∨ k = 3 ∨ k = 4 ∨ k = 5 ∨ k = 6 ∨ k = 7 ∨ k = 8 ∨ k = 9 := by omega
  rcases this with h | h | h | h | h | h | h | h | h | h <;> subst h <;> decide
theorem pow_le9 {k : Nat} (h : k ≤ 9) : 2 ^ k ≤ 512 := Nat.le_trans (Nat.pow_le_pow_right (by decide) h) (by decide)
/-- Is it a size? -/
def szO (k : Int) : Bool := decide (0 ≤ k) && decide (k ≤ 9)
def eK (s k : Int) : Int := if kn s then (if szO k then 0 else 60) else 20
theorem u_check (s k : Int) : Contract Try.prog 86 [.val (.int .i64 s), .val (.int .i64 k)] [.val (.int .i64 (eK s k))] := by
  cases hk : kn s with
  | false =>
    have he : eS s = 20 := by simp [eS, hk]
    have e1 : eK s k = 20 := by simp [eK, hk]
    rw [e1]
    refine contract_of (N := _) (vars := _) (c := bodyOf Try.f86) Try.func86 (body_eq rfl) rfl rfl (by rfl) mixed _ _ trivial 1000 ?_
    simp only [bodyOf, Try.f86, Option.getD_some, argA, argE, List.length_cons, List.length_nil, Nat.reduceAdd, Nat.reduceSub, List.replicate, List.cons_append, List.nil_append]
    simp only [↓PX, SX, SYX, EY, simprocAttr, TYX, UX]
    refine CallVC.intro (u_Modulus s) ⟨rfl, trivial⟩ rfl rfl ?_
    simp only [↓PX, SX, SYX, EY, simprocAttr, TYX, UX, he]
  | true =>
    have he : eS s = 0 := by simp [eS, hk]
    cases d0 : decide (k < 0) with
    | true =>
      have := of_decide_eq_true d0
      have e1 : eK s k = 60 := by simp [eK, hk, szO]; omega
      rw [e1]
      refine contract_of (N := _) (vars := _) (c := bodyOf Try.f86) Try.func86 (body_eq rfl) rfl rfl (by rfl) mixed _ _ trivial 1000 ?_
      simp only [bodyOf, Try.f86, Option.getD_some, argA, argE, List.length_cons, List.length_nil, Nat.reduceAdd, Nat.reduceSub, List.replicate, List.cons_append, List.nil_append]
      simp only [↓PX, SX, SYX, EY, simprocAttr, TYX, UX]
      refine CallVC.intro (u_Modulus s) ⟨rfl, trivial⟩ rfl rfl ?_
      simp only [↓PX, SX, SYX, EY, simprocAttr, TYX, UX, he, d0]
    | false =>
      have q0 := of_decide_eq_false d0
      cases d1 : decide ((9 : Int) < k) with
      | true =>
        have q1 := of_decide_eq_true d1
        have e1 : eK s k = 60 := by simp [eK, hk, szO]; omega
        rw [e1]
        refine contract_of (N := _) (vars := _) (c := bodyOf Try.f86) Try.func86 (body_eq rfl) rfl rfl (by rfl) mixed _ _ trivial 1000 ?_
        simp only [bodyOf, Try.f86, Option.getD_some, argA, argE, List.length_cons, List.length_nil, Nat.reduceAdd, Nat.reduceSub, List.replicate, List.cons_append, List.nil_append]
        simp only [↓PX, SX, SYX, EY, simprocAttr, TYX, UX]
        refine CallVC.intro (u_Modulus s) ⟨rfl, trivial⟩ rfl rfl ?_
        simp only [↓PX, SX, SYX, EY, simprocAttr, TYX, UX, he, d0, d1]
      | false =>
        have q1 := of_decide_eq_false d1
        have e1 : eK s k = 0 := by simp [eK, hk, szO]; omega
        rw [e1]
        refine contract_of (N := _) (vars := _) (c := bodyOf Try.f86) Try.func86 (body_eq rfl) rfl rfl (by rfl) mixed _ _ trivial 1000 ?_
        simp only [bodyOf, Try.f86, Option.getD_some, argA, argE, List.length_cons, List.length_nil, Nat.reduceAdd, Nat.reduceSub, List.replicate, List.cons_append, List.nil_append]
        simp only [↓PX, SX, SYX, EY, simprocAttr, TYX, UX]
        refine CallVC.intro (u_Modulus s) ⟨rfl, trivial⟩ rfl rfl ?_
        simp only [↓PX, SX, SYX, EY, simprocAttr, TYX, UX, he, d0, d1]
/-! ### powers -/
def pw (s : Int) (a x : Nat) : Nat → Nat
  | 0 => a
  | i + 1 => pw s a x i * x % md s
theorem pw_w {s : Int} {a x : Nat} (ha : a < W256) : ∀ i, pw s a x i < W256
  | 0 => ha
  | _ + 1 => md_w s _
def pwG (s : Int) (a x n i j : Nat) : Nat := if j < i then pw s a x j else 0
theorem u_powers (s : Int) (a x n : Nat) (ha : a < W256) (hx : x < W256) (hn : n ≤ 4096) : Contract Try.prog 88 [.val (.int .i64 s), .val (EN a), .val (EN x), .val (.int .i64 n)] [.row 25 4 n (LC eC (tab n (pw s a x)))] := by
  refine contract_of (N := _) (vars := _) (c := bodyOf Try.f88) Try.func88 (body_eq rfl) rfl rfl (by rfl) mixed _ _ trivial 1000 ?_
  simp only [bodyOf, Try.f88, Option.getD_some, argA, argE, List.length_cons, List.length_nil, Nat.reduceAdd, Nat.reduceSub, List.replicate, List.cons_append, List.nil_append]
  simp only [↓PX, SX, SYX, EY, simprocAttr, TYX, UX]
  repeat (first | refine DrawVC.intro (by kernel_rfl) ?_ | refine And.intro (by omega) ?_ | exact trivial)
  refine loop_hav ?_
  simp only [↓PX, SX, SYX, EY, simprocAttr, TYX, UX]
  have hN : ∀ i, (tab n (pwG s a x n i)).length = n := fun _ => tab_len
  have e0 : List.replicate n 0 = tab n (pwG s a x n 0) := by
    rw [tab_rep]; exact tab_congr fun j _ => by unfold pwG; rw [if_neg (by omega)]
  have e1 : tab n (pwG s a x n n) = tab n (pw s a x) := tab_congr fun j hj => by unfold pwG; rw [if_pos hj]
  refine loop_go mixed (by trivial) (γ := Nat) (fun i => i ≤ n) (fun i => n - i) (fun i => [(15, iv i)]) (fun i => [(4, .box (eC (pw s a x i))), (20, .row 25 4 n (LC eC (tab n (pwG s a x n i))))]) 0 (by omega)
    (St.le_of id (by simp [-List.getD_eq_getElem?_getD, SYX, iv, Tle, AVle, A0le, Mem.get, pw, eC, e0]) (by simp [-List.getD_eq_getElem?_getD, SYX, Mle, Ele, Hle, Tle, AVle, A0le, Mem.get, pw, eC, e0]) (by simp [SYX]) (by simp [SYX])) ?_
  intro i hi
  simp only [↓PX, SX, SYX, EY, simprocAttr, TYX, UX]
  refine cond_split (fun h0 => ?_) (fun h0 => ?_)
  · have h0 : i < n := by simpa using h0
    have hi' : i < (tab n (pwG s a x n i)).length := by rw [hN]; exact h0
    have e5 := eL_st (v := pw s a x i) hi'
    have e6 : (tab n (pwG s a x n i)).set i (pw s a x i) = tab n (pwG s a x n (i + 1)) := by
      rw [tab_set]
      refine tab_congr fun j _ => ?_
      unfold pwG
      by_cases hj : j = i
      · subst hj; rw [if_pos rfl, if_pos (by omega)]
      · have : (j < i + 1) = (j < i) := by rw [eq_iff_iff]; omega
        simp [hj, this]
    rw [e6] at e5
    simp only [↓PX, SX, SYX, EY, simprocAttr, TYX, UX, hN]
    repeat (first | refine DrawVC.intro (by kernel_rfl) ?_ | refine And.intro (by omega) ?_ | exact trivial)
    simp only [↓PX, SX, SYX, EY, simprocAttr, TYX, UX, e5]
    refine CallVC.intro (u_Mul s _ _ (pw_w ha i) hx) ⟨rfl, rfl, rfl, trivial⟩ rfl rfl ?_
    simp only [↓PX, SX, SYX, EY, simprocAttr, TYX, UX, e5, wS (j := i) (by omega)]
    exact ⟨i + 1, by omega, by omega, (St.le_of id (by simp [-List.getD_eq_getElem?_getD, SYX, iv, Tle, AVle, A0le, Mem.get, pw, eC]) (by simp [-List.getD_eq_getElem?_getD, SYX, Mle, Ele, Hle, Tle, AVle, A0le, Mem.get, pw, eC]) (by simp [SYX]) (by simp [SYX]))⟩
  · have h0 : i = n := by
      have : n ≤ i := by simpa using h0
      omega
    subst h0
    rw [← e1]
    simp only [↓PX, SX, SYX, EY, simprocAttr, TYX, UX]
/-! ### points -/
def ptO (s k : Int) : Bool := kn s && szO k
def ptL (s k : Int) : List Nat := if ptO s k then tab (2 ^ k.toNat) (pw s 1 (rk s k)) else []
theorem ptO_iff {s k : Int} : ptO s k = true ↔ kn s = true ∧ 0 ≤ k ∧ k ≤ 9 := by simp [ptO, szO]
theorem eK_0 {s k : Int} : eK s k = 0 ↔ ptO s k = true := by
  unfold eK ptO
  cases kn s <;> cases szO k <;> simp
theorem adc9 {s : Int} (h : kn s = true) : 9 ≤ adc s := by
  rcases sort_cases s with rfl | rfl | rfl | rfl | ⟨h0, h1, h2, h3⟩
  · decide
  · decide
  · decide
  · decide
  · exfalso; simp [kn, h0, h1, h2, h3] at h
theorem eR_0 {s k : Int} (h : ptO s k = true) : eR s k = 0 := by
  obtain ⟨h1, h2, h3⟩ := ptO_iff.1 h
  have := adc9 h1
  have hr : rkO s k := ⟨h2, by omega⟩
  unfold eR
  rw [if_pos h1, if_pos hr]
theorem ptL_len {s k : Int} (h : ptO s k = true) : (ptL s k).length = 2 ^ k.toNat := by unfold ptL; rw [if_pos h, tab_len]
theorem u_Points (s k : Int) : Contract Try.prog 46 [.val (.int .i64 s), .val (.int .i64 k)] [.row 25 4 (ptL s k).length (LC eC (ptL s k)), .val (.int .i64 (eK s k))] := by
  cases h : ptO s k with
  | false =>
    have e1 : ptL s k = [] := by simp [ptL, h]
    have e2 : eK s k ≠ 0 := fun e => by rw [eK_0.1 e] at h; cases h
    have e3 : (eK s k != 0) = true := by simp [e2]
    rw [e1]
    refine contract_of (N := _) (vars := _) (c := bodyOf Try.f46) Try.func46 (body_eq rfl) rfl rfl (by rfl) mixed _ _ trivial 1000 ?_
    simp only [bodyOf, Try.f46, Option.getD_some, argA, argE, List.length_cons, List.length_nil, Nat.reduceAdd, Nat.reduceSub, List.replicate, List.cons_append, List.nil_append]
    simp only [↓PX, SX, SYX, EY, simprocAttr, TYX, UX]
    refine CallVC.intro (u_check s k) ⟨rfl, rfl, trivial⟩ rfl rfl ?_
    simp only [↓PX, SX, SYX, EY, simprocAttr, TYX, UX, e3]
  | true =>
    obtain ⟨h1, h2, h3⟩ := ptO_iff.1 h
    obtain ⟨n, rfl⟩ : ∃ n : Nat, k = n := ⟨k.toNat, by omega⟩
    have e1 : ptL s n = tab (2 ^ n) (pw s 1 (rk s n)) := by simp [ptL, h]
    have e2 : eK s n = 0 := eK_0.2 h
    have hp := pow_le9 (k := n) (by omega)
    have c1 := u_powers s 1 (rk s n) (2 ^ n) (by decide) (md_w2 (rk_w _ _)) (by omega)
    have e3 := eR_0 h
    rw [e1, e2, tab_len]
    refine contract_of (N := _) (vars := _) (c := bodyOf Try.f46) Try.func46 (body_eq rfl) rfl rfl (by rfl) mixed _ _ trivial 1000 ?_
    simp only [bodyOf, Try.f46, Option.getD_some, argA, argE, List.length_cons, List.length_nil, Nat.reduceAdd, Nat.reduceSub, List.replicate, List.cons_append, List.nil_append]
    simp only [↓PX, SX, SYX, EY, simprocAttr, TYX, UX]
    refine CallVC.intro (u_check s n) ⟨rfl, rfl, trivial⟩ rfl rfl ?_
    simp only [↓PX, SX, SYX, EY, simprocAttr, TYX, UX, e2]
    refine CallVC.intro (u_Root s n) ⟨rfl, rfl, trivial⟩ rfl rfl ?_
    simp only [↓PX, SX, SYX, EY, simprocAttr, TYX, UX, e3, shl_i (k := n) (by omega)]
    repeat (first | refine DrawVC.intro (by kernel_rfl) ?_ | refine And.intro (by omega) ?_ | exact trivial)
    refine CallVC.intro (c1) ⟨rfl, rfl, rfl, rfl, trivial⟩ rfl rfl ?_
    simp only [↓PX, SX, SYX, EY, simprocAttr, TYX, UX]
/-! ### what vanishes at all points -/
def vaN (s k : Int) (x : Nat) : Nat := if ptO s k then sb (md s) (x ^ 2 ^ k.toNat % md s) 1 else 0
theorem vaN_w (s k : Int) (x : Nat) : vaN s k x < W256 := by
  unfold vaN
  split
  · exact sb_w _ _ _
  · decide
theorem u_Vanish (s k : Int) (x : Nat) (hx : x < W256) : Contract Try.prog 50 [.val (.int .i64 s), .val (.int .i64 k), .val (EN x)] [.val (EN (vaN s k x)), .val (.int .i64 (eK s k))] := by
  cases h : ptO s k with
  | false =>
    have e1 : vaN s k x = 0 := by simp [vaN, h]
    have e2 : eK s k ≠ 0 := fun e => by rw [eK_0.1 e] at h; cases h
    have e3 : (eK s k != 0) = true := by simp [e2]
    rw [e1]
    refine contract_of (N := _) (vars := _) (c := bodyOf Try.f50) Try.func50 (body_eq rfl) rfl rfl (by rfl) mixed _ _ trivial 1000 ?_
    simp only [bodyOf, Try.f50, Option.getD_some, argA, argE, List.length_cons, List.length_nil, Nat.reduceAdd, Nat.reduceSub, List.replicate, List.cons_append, List.nil_append]
    simp only [↓PX, SX, SYX, EY, simprocAttr, TYX, UX]
    refine CallVC.intro (u_check s k) ⟨rfl, rfl, trivial⟩ rfl rfl ?_
    simp only [↓PX, SX, SYX, EY, simprocAttr, TYX, UX, e3]
  | true =>
    obtain ⟨h1, h2, h3⟩ := ptO_iff.1 h
    obtain ⟨n, rfl⟩ : ∃ n : Nat, k = n := ⟨k.toNat, by omega⟩
    have e1 : vaN s n x = sb (md s) (x ^ 2 ^ n % md s) 1 := by simp [vaN, h]
    have e2 : eK s n = 0 := eK_0.2 h
    have hp := pow_le9 (k := n) (by omega)
    have hp' : 2 ^ n < W256 := by unfold W256; omega
    rw [e1, e2]
    refine contract_of (N := _) (vars := _) (c := bodyOf Try.f50) Try.func50 (body_eq rfl) rfl rfl (by rfl) mixed _ _ trivial 1000 ?_
    simp only [bodyOf, Try.f50, Option.getD_some, argA, argE, List.length_cons, List.length_nil, Nat.reduceAdd, Nat.reduceSub, List.replicate, List.cons_append, List.nil_append]
    simp only [↓PX, SX, SYX, EY, simprocAttr, TYX, UX]
    refine CallVC.intro (u_check s n) ⟨rfl, rfl, trivial⟩ rfl rfl ?_
    simp only [↓PX, SX, SYX, EY, simprocAttr, TYX, UX, e2, shl_u (k := n) (by omega)]
    repeat (first | refine DrawVC.intro (by kernel_rfl) ?_ | refine And.intro (by omega) ?_ | exact trivial)
    have cx := u_Exp s x (2 ^ n) hx hp'
    rw [← EN_small (a := 2 ^ n) (by omega)] at cx
    refine CallVC.intro (cx) ⟨rfl, rfl, rfl, trivial⟩ rfl rfl ?_
    simp only [↓PX, SX, SYX, EY, simprocAttr, TYX, UX]
    refine CallVC.intro (u_Sub' s _ 1 (md_w s _) (by decide)) ⟨rfl, rfl, rfl, trivial⟩ rfl rfl ?_
    simp only [↓PX, SX, SYX, EY, simprocAttr, TYX, UX]
end Go.Sx
