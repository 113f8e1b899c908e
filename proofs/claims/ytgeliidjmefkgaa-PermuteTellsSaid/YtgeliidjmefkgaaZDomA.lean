/-
  Layer 6: sizes, points, what vanishes, of domain and of the reference. Points of the reference; the powers of a root of unity. Lagrange of domain and of the reference. Lagrange of the reference. Roots of unity: points, what vanishes, Lagrange's polynomials. Lagrange's polynomials by one formula. Both Lagranges are one. Values of the reference; what is asked before a transform. Reversed bits. The transform in place: what it holds. The transform's law: what it holds at last are the values at the powers of the root. No conditions.
-/
import Derived.Test.YtgeliidjmefkgaaZPpg
import Derived.Test.YtgeliidjmefkgaaZSqrA
import Derived.Test.YtgeliidjmefkgaaZDed
namespace Go.Sx
open Go.Proofs Go.Num
-- SY
-- TY: TYX, UX
set_option maxRecDepth 100000
set_option linter.unusedSimpArgs false
set_option pp.deepTerms true
set_option pp.maxSteps 100000
theorem shl_i {k : Nat} (h : k ≤ 9) : IntKind.i64.wrap (1 * 2 ^ (min k IntKind.i64.bits)) = ((2 ^ k : Nat) : Int) := by
  have : k = 0 ∨ k = 1 ∨ k = 2 ∨ k = 3 ∨ k = 4 ∨ k = 5 ∨ k = 6 ∨ k = 7 ∨ k = 8 ∨ k = 9 := by omega
  rcases this with h | h | h | h | h | h | h | h | h | h <;> subst h <;> decide
theorem shl_u {k : Nat} (h : k ≤ 9) : ushl 1 k = 2 ^ k := by
  rw [ushl_eq]
  have : k = 0 ∨ k = 1 ∨ k = 2 ∨ k = 3 ∨ k = 4 ∨ k = 5 ∨ k = 6 ∨ k = 7 ∨ k = 8 ∨ k = 9 := by omega
  rcases this with h | h | h | h | h | h | h | h | h | h <;> subst h <;> decide
theorem pow_le9 {k : Nat} (h : k ≤ 9) : 2 ^ k ≤ 512 := Nat.le_trans (Nat.pow_le_pow_right (by decide) h) (by decide)
/-- Is it a size? -/
def szO (k : Int) : Bool := decide (0 ≤ k) && decide (k ≤ 9)
def eK (s k : Int) : Int := if kn s then (if szO k then 0 else 60) else 20
theorem u_check (s k : Int) : Contract Try.prog 85 [.val (.int .i64 s), .val (.int .i64 k)] [.val (.int .i64 (eK s k))] := by
  cases hk : kn s with
  | false =>
    have he : eS s = 20 := by simp [eS, hk]
    have e1 : eK s k = 20 := by simp [eK, hk]
    rw [e1]
    refine contract_of (N := _) (vars := _) (c := bodyOf Try.f85) Try.func85 (body_eq rfl) rfl rfl (by rfl) mixed _ _ trivial 1000 ?_
    simp only [bodyOf, Try.f85, Option.getD_some, argA, argE, List.length_cons, List.length_nil, Nat.reduceAdd, Nat.reduceSub, List.replicate, List.cons_append, List.nil_append]
    simp only [↓PX, SX, SYX, EY, simprocAttr, TYX, UX]
    refine CallVC.intro (u_Modulus s) ⟨rfl, trivial⟩ rfl rfl ?_
    simp only [↓PX, SX, SYX, EY, simprocAttr, TYX, UX, he]
  | true =>
    have he : eS s = 0 := by simp [eS, hk]
    cases d0 : decide (k < 0) with
    | true =>
      have := of_decide_eq_true d0
      have e1 : eK s k = 60 := by simp [eK, hk, szO]; omega
      rw [e1]
      refine contract_of (N := _) (vars := _) (c := bodyOf Try.f85) Try.func85 (body_eq rfl) rfl rfl (by rfl) mixed _ _ trivial 1000 ?_
      simp only [bodyOf, Try.f85, Option.getD_some, argA, argE, List.length_cons, List.length_nil, Nat.reduceAdd, Nat.reduceSub, List.replicate, List.cons_append, List.nil_append]
      simp only [↓PX, SX, SYX, EY, simprocAttr, TYX, UX]
      refine CallVC.intro (u_Modulus s) ⟨rfl, trivial⟩ rfl rfl ?_
      simp only [↓PX, SX, SYX, EY, simprocAttr, TYX, UX, he, d0]
    | false =>
      have q0 := of_decide_eq_false d0
      cases d1 : decide ((9 : Int) < k) with
      | true =>
        have q1 := of_decide_eq_true d1
        have e1 : eK s k = 60 := by simp [eK, hk, szO]; omega
        rw [e1]
        refine contract_of (N := _) (vars := _) (c := bodyOf Try.f85) Try.func85 (body_eq rfl) rfl rfl (by rfl) mixed _ _ trivial 1000 ?_
        simp only [bodyOf, Try.f85, Option.getD_some, argA, argE, List.length_cons, List.length_nil, Nat.reduceAdd, Nat.reduceSub, List.replicate, List.cons_append, List.nil_append]
        simp only [↓PX, SX, SYX, EY, simprocAttr, TYX, UX]
        refine CallVC.intro (u_Modulus s) ⟨rfl, trivial⟩ rfl rfl ?_
        simp only [↓PX, SX, SYX, EY, simprocAttr, TYX, UX, he, d0, d1]
      | false =>
        have q1 := of_decide_eq_false d1
        have e1 : eK s k = 0 := by simp [eK, hk, szO]; omega
        rw [e1]
        refine contract_of (N := _) (vars := _) (c := bodyOf Try.f85) Try.func85 (body_eq rfl) rfl rfl (by rfl) mixed _ _ trivial 1000 ?_
        simp only [bodyOf, Try.f85, Option.getD_some, argA, argE, List.length_cons, List.length_nil, Nat.reduceAdd, Nat.reduceSub, List.replicate, List.cons_append, List.nil_append]
        simp only [↓PX, SX, SYX, EY, simprocAttr, TYX, UX]
        refine CallVC.intro (u_Modulus s) ⟨rfl, trivial⟩ rfl rfl ?_
        simp only [↓PX, SX, SYX, EY, simprocAttr, TYX, UX, he, d0, d1]
/-! ### powers -/
def pw (s : Int) (a x : Nat) : Nat → Nat
  | 0 => a
  | i + 1 => pw s a x i * x % md s
theorem pw_w {s : Int} {a x : Nat} (ha : a < W256) : ∀ i, pw s a x i < W256
  | 0 => ha
  | _ + 1 => md_w s _
def pwG (s : Int) (a x n i j : Nat) : Nat := if j < i then pw s a x j else 0
theorem u_powers (s : Int) (a x n : Nat) (ha : a < W256) (hx : x < W256) (hn : n ≤ 4096) : Contract Try.prog 87 [.val (.int .i64 s), .val (EN a), .val (EN x), .val (.int .i64 n)] [.row 25 4 n (LC eC (tab n (pw s a x)))] := by
  refine contract_of (N := _) (vars := _) (c := bodyOf Try.f87) Try.func87 (body_eq rfl) rfl rfl (by rfl) mixed _ _ trivial 1000 ?_
  simp only [bodyOf, Try.f87, Option.getD_some, argA, argE, List.length_cons, List.length_nil, Nat.reduceAdd, Nat.reduceSub, List.replicate, List.cons_append, List.nil_append]
  simp only [↓PX, SX, SYX, EY, simprocAttr, TYX, UX]
  repeat (first | refine DrawVC.intro (by kernel_rfl) ?_ | refine And.intro (by omega) ?_ | exact trivial)
  refine loop_hav ?_
  simp only [↓PX, SX, SYX, EY, simprocAttr, TYX, UX]
  have hN : ∀ i, (tab n (pwG s a x n i)).length = n := fun _ => tab_len
  have e0 : List.replicate n 0 = tab n (pwG s a x n 0) := by
    rw [tab_rep]; exact tab_congr fun j _ => by unfold pwG; rw [if_neg (by omega)]
  have e1 : tab n (pwG s a x n n) = tab n (pw s a x) := tab_congr fun j hj => by unfold pwG; rw [if_pos hj]
  refine loop_go mixed (by trivial) (γ := Nat) (fun i => i ≤ n) (fun i => n - i) (fun i => [(15, iv i)]) (fun i => [(4, .box (eC (pw s a x i))), (20, .row 25 4 n (LC eC (tab n (pwG s a x n i))))]) 0 (by omega)
    (St.le_of id (by simp [-List.getD_eq_getElem?_getD, SYX, iv, Tle, AVle, A0le, Mem.get, pw, eC, e0]) (by simp [-List.getD_eq_getElem?_getD, SYX, Mle, Ele, Hle, Tle, AVle, A0le, Mem.get, pw, eC, e0]) (by simp [SYX]) (by simp [SYX])) ?_
  intro i hi
  simp only [↓PX, SX, SYX, EY, simprocAttr, TYX, UX]
  refine cond_split (fun h0 => ?_) (fun h0 => ?_)
  · have h0 : i < n := by simpa using h0
    have hi' : i < (tab n (pwG s a x n i)).length := by rw [hN]; exact h0
    have e5 := eL_st (v := pw s a x i) hi'
    have e6 : (tab n (pwG s a x n i)).set i (pw s a x i) = tab n (pwG s a x n (i + 1)) := by
      rw [tab_set]
      refine tab_congr fun j _ => ?_
      unfold pwG
      by_cases hj : j = i
      · subst hj; rw [if_pos rfl, if_pos (by omega)]
      · have : (j < i + 1) = (j < i) := by rw [eq_iff_iff]; omega
        simp [hj, this]
    rw [e6] at e5
    simp only [↓PX, SX, SYX, EY, simprocAttr, TYX, UX, hN]
    repeat (first | refine DrawVC.intro (by kernel_rfl) ?_ | refine And.intro (by omega) ?_ | exact trivial)
    simp only [↓PX, SX, SYX, EY, simprocAttr, TYX, UX, e5]
    refine CallVC.intro (u_Mul s _ _ (pw_w ha i) hx) ⟨rfl, rfl, rfl, trivial⟩ rfl rfl ?_
    simp only [↓PX, SX, SYX, EY, simprocAttr, TYX, UX, e5, wS (j := i) (by omega)]
    exact ⟨i + 1, by omega, by omega, (St.le_of id (by simp [-List.getD_eq_getElem?_getD, SYX, iv, Tle, AVle, A0le, Mem.get, pw, eC]) (by simp [-List.getD_eq_getElem?_getD, SYX, Mle, Ele, Hle, Tle, AVle, A0le, Mem.get, pw, eC]) (by simp [SYX]) (by simp [SYX]))⟩
  · have h0 : i = n := by
      have : n ≤ i := by simpa using h0
      omega
    subst h0
    rw [← e1]
    simp only [↓PX, SX, SYX, EY, simprocAttr, TYX, UX]
/-! ### points -/
def ptO (s k : Int) : Bool := kn s && szO k
def ptL (s k : Int) : List Nat := if ptO s k then tab (2 ^ k.toNat) (pw s 1 (rk s k)) else []
theorem ptO_iff {s k : Int} : ptO s k = true ↔ kn s = true ∧ 0 ≤ k ∧ k ≤ 9 := by simp [ptO, szO]
theorem eK_0 {s k : Int} : eK s k = 0 ↔ ptO s k = true := by
  unfold eK ptO
  cases kn s <;> cases szO k <;> simp
theorem adc9 {s : Int} (h : kn s = true) : 9 ≤ adc s := by
  rcases sort_cases s with rfl | rfl | rfl | rfl | ⟨h0, h1, h2, h3⟩
  · decide
  · decide
  · decide
  · decide
  · exfalso; simp [kn, h0, h1, h2, h3] at h
theorem eR_0 {s k : Int} (h : ptO s k = true) : eR s k = 0 := by
  obtain ⟨h1, h2, h3⟩ := ptO_iff.1 h
  have := adc9 h1
  have hr : rkO s k := ⟨h2, by omega⟩
  unfold eR
  rw [if_pos h1, if_pos hr]
theorem ptL_len {s k : Int} (h : ptO s k = true) : (ptL s k).length = 2 ^ k.toNat := by unfold ptL; rw [if_pos h, tab_len]
theorem u_Points (s k : Int) : Contract Try.prog 43 [.val (.int .i64 s), .val (.int .i64 k)] [.row 25 4 (ptL s k).length (LC eC (ptL s k)), .val (.int .i64 (eK s k))] := by
  cases h : ptO s k with
  | false =>
    have e1 : ptL s k = [] := by simp [ptL, h]
    have e2 : eK s k ≠ 0 := fun e => by rw [eK_0.1 e] at h; cases h
    have e3 : (eK s k != 0) = true := by simp [e2]
    rw [e1]
    refine contract_of (N := _) (vars := _) (c := bodyOf Try.f43) Try.func43 (body_eq rfl) rfl rfl (by rfl) mixed _ _ trivial 1000 ?_
    simp only [bodyOf, Try.f43, Option.getD_some, argA, argE, List.length_cons, List.length_nil, Nat.reduceAdd, Nat.reduceSub, List.replicate, List.cons_append, List.nil_append]
    simp only [↓PX, SX, SYX, EY, simprocAttr, TYX, UX]
    refine CallVC.intro (u_check s k) ⟨rfl, rfl, trivial⟩ rfl rfl ?_
    simp only [↓PX, SX, SYX, EY, simprocAttr, TYX, UX, e3]
  | true =>
    obtain ⟨h1, h2, h3⟩ := ptO_iff.1 h
    obtain ⟨n, rfl⟩ : ∃ n : Nat, k = n := ⟨k.toNat, by omega⟩
    have e1 : ptL s n = tab (2 ^ n) (pw s 1 (rk s n)) := by simp [ptL, h]
    have e2 : eK s n = 0 := eK_0.2 h
    have hp := pow_le9 (k := n) (by omega)
    have c1 := u_powers s 1 (rk s n) (2 ^ n) (by decide) (md_w2 (rk_w _ _)) (by omega)
    have e3 := eR_0 h
    rw [e1, e2, tab_len]
    refine contract_of (N := _) (vars := _) (c := bodyOf Try.f43) Try.func43 (body_eq rfl) rfl rfl (by rfl) mixed _ _ trivial 1000 ?_
    simp only [bodyOf, Try.f43, Option.getD_some, argA, argE, List.length_cons, List.length_nil, Nat.reduceAdd, Nat.reduceSub, List.replicate, List.cons_append, List.nil_append]
    simp only [↓PX, SX, SYX, EY, simprocAttr, TYX, UX]
    refine CallVC.intro (u_check s n) ⟨rfl, rfl, trivial⟩ rfl rfl ?_
    simp only [↓PX, SX, SYX, EY, simprocAttr, TYX, UX, e2]
    refine CallVC.intro (u_Root s n) ⟨rfl, rfl, trivial⟩ rfl rfl ?_
    simp only [↓PX, SX, SYX, EY, simprocAttr, TYX, UX, e3, shl_i (k := n) (by omega)]
    repeat (first | refine DrawVC.intro (by kernel_rfl) ?_ | refine And.intro (by omega) ?_ | exact trivial)
    refine CallVC.intro (c1) ⟨rfl, rfl, rfl, rfl, trivial⟩ rfl rfl ?_
    simp only [↓PX, SX, SYX, EY, simprocAttr, TYX, UX]
/-! ### what vanishes at all points -/
def vaN (s k : Int) (x : Nat) : Nat := if ptO s k then sb (md s) (x ^ 2 ^ k.toNat % md s) 1 else 0
theorem vaN_w (s k : Int) (x : Nat) : vaN s k x < W256 := by
  unfold vaN
  split
  · exact sb_w _ _ _
  · decide
theorem u_Vanish (s k : Int) (x : Nat) (hx : x < W256) : Contract Try.prog 47 [.val (.int .i64 s), .val (.int .i64 k), .val (EN x)] [.val (EN (vaN s k x)), .val (.int .i64 (eK s k))] := by
  cases h : ptO s k with
  | false =>
    have e1 : vaN s k x = 0 := by simp [vaN, h]
    have e2 : eK s k ≠ 0 := fun e => by rw [eK_0.1 e] at h; cases h
    have e3 : (eK s k != 0) = true := by simp [e2]
    rw [e1]
    refine contract_of (N := _) (vars := _) (c := bodyOf Try.f47) Try.func47 (body_eq rfl) rfl rfl (by rfl) mixed _ _ trivial 1000 ?_
    simp only [bodyOf, Try.f47, Option.getD_some, argA, argE, List.length_cons, List.length_nil, Nat.reduceAdd, Nat.reduceSub, List.replicate, List.cons_append, List.nil_append]
    simp only [↓PX, SX, SYX, EY, simprocAttr, TYX, UX]
    refine CallVC.intro (u_check s k) ⟨rfl, rfl, trivial⟩ rfl rfl ?_
    simp only [↓PX, SX, SYX, EY, simprocAttr, TYX, UX, e3]
  | true =>
    obtain ⟨h1, h2, h3⟩ := ptO_iff.1 h
    obtain ⟨n, rfl⟩ : ∃ n : Nat, k = n := ⟨k.toNat, by omega⟩
    have e1 : vaN s n x = sb (md s) (x ^ 2 ^ n % md s) 1 := by simp [vaN, h]
    have e2 : eK s n = 0 := eK_0.2 h
    have hp := pow_le9 (k := n) (by omega)
    have hp' : 2 ^ n < W256 := by unfold W256; omega
    rw [e1, e2]
    refine contract_of (N := _) (vars := _) (c := bodyOf Try.f47) Try.func47 (body_eq rfl) rfl rfl (by rfl) mixed _ _ trivial 1000 ?_
    simp only [bodyOf, Try.f47, Option.getD_some, argA, argE, List.length_cons, List.length_nil, Nat.reduceAdd, Nat.reduceSub, List.replicate, List.cons_append, List.nil_append]
    simp only [↓PX, SX, SYX, EY, simprocAttr, TYX, UX]
    refine CallVC.intro (u_check s n) ⟨rfl, rfl, trivial⟩ rfl rfl ?_
    simp only [↓PX, SX, SYX, EY, simprocAttr, TYX, UX, e2, shl_u (k := n) (by omega)]
    repeat (first | refine DrawVC.intro (by kernel_rfl) ?_ | refine And.intro (by omega) ?_ | exact trivial)
    have cx := u_Exp s x (2 ^ n) hx hp'
    rw [← EN_small (a := 2 ^ n) (by omega)] at cx
    refine CallVC.intro (cx) ⟨rfl, rfl, rfl, trivial⟩ rfl rfl ?_
    simp only [↓PX, SX, SYX, EY, simprocAttr, TYX, UX]
    refine CallVC.intro (u_Sub' s _ 1 (md_w s _) (by decide)) ⟨rfl, rfl, rfl, trivial⟩ rfl rfl ?_
    simp only [↓PX, SX, SYX, EY, simprocAttr, TYX, UX]
end Go.Sx
namespace Go.Sx
open Go.Proofs Go.Num
-- SY
-- TY: TYX, UX
set_option maxRecDepth 100000
set_option linter.unusedSimpArgs false
set_option pp.deepTerms true
set_option pp.maxSteps 100000
theorem b_shl_iu {P : Program} {T : Nat → AV} {ty ty' : TypeId} {x y : Operand} {p : Int} {b : Nat} : binOn P T .shl ty x y ty' (.o (.v (.int .i64 p))) (.o (.v (u64 b))) = .ok (0 ≤ (b : Int)) (val (.int .i64 (IntKind.i64.wrap (p * 2 ^ (min b IntKind.i64.bits))))) := rfl
end Go.Sx
namespace Go.Sx
open Go.Proofs Go.Num
-- SY
-- TY: TYX, UX
set_option maxRecDepth 100000
set_option linter.unusedSimpArgs false
set_option pp.deepTerms true
set_option pp.maxSteps 100000
/-- A point. -/
def pt (s k : Int) (i : Nat) : Nat := pw s 1 (rk s k) i
theorem pt_w (s k : Int) (i : Nat) : pt s k i < W256 := pw_w (by decide) i
theorem ptL_some {s k : Int} (h : ptO s k = true) {i : Nat} (hi : i < 2 ^ k.toNat) : (ptL s k)[i]? = some (pt s k i) := by
  unfold ptL; rw [if_pos h, tab_some hi]; rfl
def inL (s k i : Int) : Bool := ptO s k && decide (0 ≤ i) && decide (i < ((2 ^ k.toNat : Nat) : Int))
def lgE (s k i : Int) : Int := if ptO s k then (if inL s k i then 0 else 50) else eK s k
def lgD (s k i : Int) (x : Nat) : Nat := iN s ((2 ^ k.toNat : Nat) : Int) * sb (md s) x (pt s k i.toNat) % md s
def lgU (s k i : Int) (x : Nat) : Nat := if inL s k i then (if lgD s k i x = 0 then 1 else pt s k i.toNat * vaN s k x % md s * inv s (lgD s k i x) % md s) else 0
theorem lgU_w (s k i : Int) (x : Nat) : lgU s k i x < W256 := by
  unfold lgU
  split
  · split
    · decide
    · exact md_w s _
  · decide
theorem u_Lagrange (s k i : Int) (x : Nat) (hx : x < W256) : Contract Try.prog 45 [.val (.int .i64 s), .val (.int .i64 k), .val (.int .i64 i), .val (EN x)] [.val (EN (lgU s k i x)), .val (.int .i64 (lgE s k i))] := by
  cases h : ptO s k with
  | false =>
    have e1 : lgU s k i x = 0 := by simp [lgU, inL, h]
    have e2 : lgE s k i = eK s k := by simp [lgE, h]
    have e3 : eK s k ≠ 0 := fun e => by rw [eK_0.1 e] at h; cases h
    have e4 : (eK s k != 0) = true := by simp [e3]
    rw [e1, e2]
    refine contract_of (N := _) (vars := _) (c := bodyOf Try.f45) Try.func45 (body_eq rfl) rfl rfl (by rfl) mixed _ _ trivial 1000 ?_
    simp only [bodyOf, Try.f45, Option.getD_some, argA, argE, List.length_cons, List.length_nil, Nat.reduceAdd, Nat.reduceSub, List.replicate, List.cons_append, List.nil_append]
    simp only [↓PX, SX, SYX, EY, simprocAttr, TYX, UX]
    refine CallVC.intro (u_Points s k) ⟨rfl, rfl, trivial⟩ rfl rfl ?_
    simp only [↓PX, SX, SYX, EY, simprocAttr, TYX, UX, e4]
  | true =>
    obtain ⟨h1, h2, h3⟩ := ptO_iff.1 h
    have e2 : eK s k = 0 := eK_0.2 h
    have hp := pow_le9 (k := k.toNat) (by omega)
    have hlen := ptL_len h
    have c1 := u_Points s k
    rw [e2, hlen] at c1
    obtain ⟨N, hN⟩ : ∃ N, 2 ^ k.toNat = N := ⟨_, rfl⟩
    rw [hN] at hp hlen c1
    cases d0 : decide (i < 0) with
    | true =>
      have := of_decide_eq_true d0
      have hin : inL s k i = false := by simp [inL]; omega
      have e1 : lgU s k i x = 0 := by simp [lgU, hin]
      have e3 : lgE s k i = 50 := by simp [lgE, h, hin]
      rw [e1, e3]
      refine contract_of (N := _) (vars := _) (c := bodyOf Try.f45) Try.func45 (body_eq rfl) rfl rfl (by rfl) mixed _ _ trivial 1000 ?_
      simp only [bodyOf, Try.f45, Option.getD_some, argA, argE, List.length_cons, List.length_nil, Nat.reduceAdd, Nat.reduceSub, List.replicate, List.cons_append, List.nil_append]
      simp only [↓PX, SX, SYX, EY, simprocAttr, TYX, UX]
      refine CallVC.intro (c1) ⟨rfl, rfl, trivial⟩ rfl rfl ?_
      simp only [↓PX, SX, SYX, EY, simprocAttr, TYX, UX, d0]
    | false =>
      have q0 := of_decide_eq_false d0
      cases d1 : decide ((N : Int) ≤ i) with
      | true =>
        have := of_decide_eq_true d1
        have hin : inL s k i = false := by simp only [inL, hN, Bool.and_eq_false_iff, decide_eq_false_iff_not]; omega
        have e1 : lgU s k i x = 0 := by simp [lgU, hin]
        have e3 : lgE s k i = 50 := by simp [lgE, h, hin]
        rw [e1, e3]
        refine contract_of (N := _) (vars := _) (c := bodyOf Try.f45) Try.func45 (body_eq rfl) rfl rfl (by rfl) mixed _ _ trivial 1000 ?_
        simp only [bodyOf, Try.f45, Option.getD_some, argA, argE, List.length_cons, List.length_nil, Nat.reduceAdd, Nat.reduceSub, List.replicate, List.cons_append, List.nil_append]
        simp only [↓PX, SX, SYX, EY, simprocAttr, TYX, UX]
        refine CallVC.intro (c1) ⟨rfl, rfl, trivial⟩ rfl rfl ?_
        simp only [↓PX, SX, SYX, EY, simprocAttr, TYX, UX, d0, d1]
      | false =>
        have q1 := of_decide_eq_false d1
        obtain ⟨j, rfl⟩ : ∃ j : Nat, i = j := ⟨i.toNat, by omega⟩
        have hj : j < (ptL s k).length := by omega
        have hin : inL s k j = true := by simp only [inL, h, hN, Bool.true_and, Bool.and_eq_true, decide_eq_true_eq]; omega
        have e3 : lgE s k j = 0 := by simp [lgE, h, hin]
        have hld : List.take 4 (List.drop (j * 4) (LC eC (ptL s k))) = eC (pt s k j) := LC_at eC_len (ptL_some h (by omega))
        have hpw := pt_w s k j
        rw [e3]
        refine contract_of (N := _) (vars := _) (c := bodyOf Try.f45) Try.func45 (body_eq rfl) rfl rfl (by rfl) mixed _ _ trivial 1000 ?_
        simp only [bodyOf, Try.f45, Option.getD_some, argA, argE, List.length_cons, List.length_nil, Nat.reduceAdd, Nat.reduceSub, List.replicate, List.cons_append, List.nil_append]
        simp only [↓PX, SX, SYX, EY, simprocAttr, TYX, UX]
        refine CallVC.intro (c1) ⟨rfl, rfl, trivial⟩ rfl rfl ?_
        simp only [↓PX, SX, SYX, EY, simprocAttr, TYX, UX, d0, d1]
        repeat (first | refine DrawVC.intro (by kernel_rfl) ?_ | refine And.intro (by omega) ?_ | exact trivial)
        simp only [↓PX, SX, SYX, EY, simprocAttr, TYX, UX, hlen, hld, eC]
        repeat (first | refine DrawVC.intro (by kernel_rfl) ?_ | refine And.intro (by omega) ?_ | exact trivial)
        have c2 := u_Int s N (by omega) (by omega)
        have c3 := u_Mul s (iN s N) (sb (md s) x (pt s k j)) (md_w2 (iN_lt _ _)) (sb_w s _ _)
        have hD : iN s N * sb (md s) x (pt s k j) % md s = lgD s k j x := by unfold lgD; rw [hN]; rfl
        rw [hD] at c3
        have hDl : lgD s k j x < md s := by rw [← hD]; exact md_mod _ _
        have c4 := u_Inv s (lgD s k j x) (md_w2 hDl)
        have c5 := u_Vanish s k x hx
        rw [e2] at c5
        by_cases hz : lgD s k j x = 0
        · have e5 : eI s (lgD s k j x) = 10 := by unfold eI; rw [if_pos h1, hz, Nat.zero_mod, if_pos rfl]
          have e6 : lgU s k j x = 1 := by unfold lgU; rw [if_pos hin, if_pos hz]
          rw [e6]
          rw [e5] at c4
          refine CallVC.intro (c2) ⟨rfl, rfl, trivial⟩ rfl rfl ?_
          simp only [↓PX, SX, SYX, EY, simprocAttr, TYX, UX]
          refine CallVC.intro (u_Sub' s x _ hx hpw) ⟨rfl, rfl, rfl, trivial⟩ rfl rfl ?_
          simp only [↓PX, SX, SYX, EY, simprocAttr, TYX, UX]
          refine CallVC.intro (c3) ⟨rfl, rfl, rfl, trivial⟩ rfl rfl ?_
          simp only [↓PX, SX, SYX, EY, simprocAttr, TYX, UX]
          refine CallVC.intro (c4) ⟨rfl, rfl, trivial⟩ rfl rfl ?_
          simp only [↓PX, SX, SYX, EY, simprocAttr, TYX, UX]
        · have e5 : eI s (lgD s k j x) = 0 := by unfold eI; rw [if_pos h1, if_neg (by rw [Nat.mod_eq_of_lt hDl]; exact hz)]
          have e6 : lgU s k j x = pt s k j * vaN s k x % md s * inv s (lgD s k j x) % md s := by unfold lgU; rw [if_pos hin, if_neg hz]; rfl
          rw [e6]
          rw [e5] at c4
          refine CallVC.intro (c2) ⟨rfl, rfl, trivial⟩ rfl rfl ?_
          simp only [↓PX, SX, SYX, EY, simprocAttr, TYX, UX]
          refine CallVC.intro (u_Sub' s x _ hx hpw) ⟨rfl, rfl, rfl, trivial⟩ rfl rfl ?_
          simp only [↓PX, SX, SYX, EY, simprocAttr, TYX, UX]
          refine CallVC.intro (c3) ⟨rfl, rfl, rfl, trivial⟩ rfl rfl ?_
          simp only [↓PX, SX, SYX, EY, simprocAttr, TYX, UX]
          refine CallVC.intro (c4) ⟨rfl, rfl, trivial⟩ rfl rfl ?_
          simp only [↓PX, SX, SYX, EY, simprocAttr, TYX, UX]
          refine CallVC.intro (c5) ⟨rfl, rfl, rfl, trivial⟩ rfl rfl ?_
          simp only [↓PX, SX, SYX, EY, simprocAttr, TYX, UX]
          repeat (first | refine DrawVC.intro (by kernel_rfl) ?_ | refine And.intro (by omega) ?_ | exact trivial)
          refine CallVC.intro (u_Mul s _ _ hpw (vaN_w s k x)) ⟨rfl, rfl, rfl, trivial⟩ rfl rfl ?_
          simp only [↓PX, SX, SYX, EY, simprocAttr, TYX, UX]
          refine CallVC.intro (u_Mul s _ _ (md_w s _) (md_w2 (inv_lt _ _))) ⟨rfl, rfl, rfl, trivial⟩ rfl rfl ?_
          simp only [↓PX, SX, SYX, EY, simprocAttr, TYX, UX]
end Go.Sx
namespace Go.Sx
open Go.Proofs Go.Num
-- SY
-- TY: TYX, UX
set_option maxRecDepth 100000
set_option linter.unusedSimpArgs false
set_option pp.deepTerms true
set_option pp.maxSteps 100000
end Go.Sx
namespace Go.Sx
open Go.Proofs Go.Num
set_option maxRecDepth 100000
set_option linter.unusedSimpArgs false
section
variable {m : Nat} [NeZero m]
/-- An order that is a power of two divides. -/
theorem ord_dvd : ∀ (k : Nat) {w : Fin m} {d : Nat}, (∀ i, i < k → w ^ 2 ^ i ≠ 1) → w ^ 2 ^ k = 1 → w ^ d = 1 → 2 ^ k ∣ d
  | 0, _, d, _, _, _ => by simp
  | k + 1, w, d, h1, h2, h3 => by
    have e : ∀ j, (w * w) ^ j = w ^ (2 * j) := fun j => by
      rw [f_pow_mul w 2 j]; congr 1; grind
    have hd : 2 ^ k ∣ d := by
      refine ord_dvd k (w := w * w) (d := d) (fun i hi => ?_) ?_ ?_
      · rw [e, show 2 * 2 ^ i = 2 ^ (i + 1) by rw [Nat.pow_succ]; omega]; exact h1 (i + 1) (by omega)
      · rw [e, show 2 * 2 ^ k = 2 ^ (k + 1) by rw [Nat.pow_succ]; omega]; exact h2
      · rw [e, Nat.mul_comm, f_pow_mul, h3, f_one_pow]
    rcases Nat.mod_two_eq_zero_or_one d with hd2 | hd2
    · obtain ⟨c, rfl⟩ : ∃ c, d = 2 * c := ⟨d / 2, by omega⟩
      have : 2 ^ k ∣ c := by
        refine ord_dvd k (w := w * w) (d := c) (fun i hi => ?_) ?_ ?_
        · rw [e, show 2 * 2 ^ i = 2 ^ (i + 1) by rw [Nat.pow_succ]; omega]; exact h1 (i + 1) (by omega)
        · rw [e, show 2 * 2 ^ k = 2 ^ (k + 1) by rw [Nat.pow_succ]; omega]; exact h2
        · rw [e]; exact h3
      rw [Nat.pow_succ, Nat.mul_comm]
      exact Nat.mul_dvd_mul_left 2 this
    · exfalso
      cases k with
      | succ k =>
        have : 2 ∣ d := Nat.dvd_trans ⟨2 ^ k, by rw [Nat.pow_succ]; omega⟩ hd
        omega
      | zero =>
        obtain ⟨c, rfl⟩ : ∃ c, d = 2 * c + 1 := ⟨d / 2, by omega⟩
        have h4 : w ^ (2 * c) = 1 := by
          rw [f_pow_mul]
          have : w ^ 2 = 1 := h2
          rw [this, f_one_pow]
        rw [f_pow_add, h4] at h3
        refine h1 0 (by omega) ?_
        rw [← h3]
        grind
end
theorem κ_pw {s : Int} {x : Nat} : ∀ i, κ (md s) (pw s 1 x i) = κ (md s) x ^ i
  | 0 => by rw [f_pow_zero]; exact κ_one
  | i + 1 => by
    show κ (md s) (pw s 1 x i * x % md s) = _
    rw [κ_mod, κ_mul, κ_pw i, f_pow_succ]
theorem ptk {s k : Int} (i : Nat) : κ (md s) (pt s k i) = κ (md s) (rk s k) ^ i := κ_pw i
section
variable {s k : Int}
theorem sS9 (h : kn s = true) : 8 ≤ sS s := by
  rcases sort_cases s with rfl | rfl | rfl | rfl | ⟨h0, h1, h2, h3⟩
  · decide
  · decide
  · decide
  · decide
  · exfalso; simp [kn, h0, h1, h2, h3] at h
theorem rk_facts (h : ptO s k = true) : (∀ i, i < k.toNat → κ (md s) (rk s k) ^ 2 ^ i ≠ 1) ∧ κ (md s) (rk s k) ^ 2 ^ k.toNat = 1 := by
  obtain ⟨h1, h2, h3⟩ := ptO_iff.1 h
  have P := pr_of h1
  have h9 := sS9 h1
  have ha := adc9 h1
  have hr : rk s k = 5 ^ ((md s - 1) / 2 ^ k.toNat) % md s := by
    unfold rk
    have hr : rkO s k := ⟨h2, by omega⟩
    rw [if_pos ⟨h1, hr⟩]
  obtain ⟨g1, g2⟩ := rk_ord h1 (j := k.toNat) (by omega) hr
  constructor
  · intro i hi
    rw [← κ_pow, Ne, κ_eq1 P.1]
    exact g1 i hi
  · rw [← κ_pow, κ_eq1 P.1]
    exact g2
theorem rk_ne (h : ptO s k = true) : κ (md s) (rk s k) ≠ 0 := by
  have P := pr_of (ptO_iff.1 h).1
  obtain ⟨_, h2⟩ := rk_facts h
  intro h0
  rw [h0] at h2
  have hp : 0 < 2 ^ k.toNat := Nat.two_pow_pos _
  obtain ⟨c, hc⟩ : ∃ c, 2 ^ k.toNat = c + 1 := ⟨2 ^ k.toNat - 1, by omega⟩
  rw [hc, f_pow_succ] at h2
  exact f_one_ne P (by rw [← h2]; grind)
/-- The points are no two the same. -/
theorem pt_inj (h : ptO s k = true) {i j : Nat} (hi : i < 2 ^ k.toNat) (hj : j < 2 ^ k.toNat) (e : κ (md s) (pt s k i) = κ (md s) (pt s k j)) : i = j := by
  have P := pr_of (ptO_iff.1 h).1
  obtain ⟨h1, h2⟩ := rk_facts h
  have key : ∀ i j, i ≤ j → j < 2 ^ k.toNat → κ (md s) (rk s k) ^ i = κ (md s) (rk s k) ^ j → i = j := by
    intro i j hij hj e
    obtain ⟨d, rfl⟩ : ∃ d, j = i + d := ⟨j - i, by omega⟩
    rw [f_pow_add] at e
    have hne := f_pow_ne P (rk_ne h) i
    have h3 : κ (md s) (rk s k) ^ i * (κ (md s) (rk s k) ^ d - 1) = 0 := by grind
    have h4 : κ (md s) (rk s k) ^ d = 1 := by
      have := (f_nzd P h3).resolve_left hne
      grind
    have h5 := ord_dvd _ h1 h2 h4
    rcases Nat.eq_zero_or_pos d with h6 | h6
    · omega
    · have := Nat.le_of_dvd h6 h5
      omega
  rw [ptk, ptk] at e
  rcases Nat.le_total i j with hij | hij
  · exact key i j hij hj e
  · exact (key j i hij hi e.symm).symm
theorem pt_pow (h : ptO s k = true) (i : Nat) : κ (md s) (pt s k i) ^ 2 ^ k.toNat = 1 := by
  rw [ptk, f_pow_comm, (rk_facts h).2, f_one_pow]
end
end Go.Sx
namespace Go.Sx
open Go.Proofs Go.Num
set_option maxRecDepth 100000
set_option linter.unusedSimpArgs false
section
variable {m : Nat} [NeZero m]
end
section
variable {s : Int}
end
section
variable {s k : Int}
end
end Go.Sx
namespace Go.Sx
open Go.Proofs Go.Num
set_option maxRecDepth 100000
set_option linter.unusedSimpArgs false
section
variable {s k : Int}
theorem two_ne (h : kn s = true) : κ (md s) 2 ≠ 0 := by
  cases srt s with
  | no hk => rw [h] at hk; cases hk
  | yes _ _ _ _ _ _ _ _ h2 => rw [Ne, κ_eq0, Nat.mod_eq_of_lt h2]; decide
theorem n_ne (h : ptO s k = true) : κ (md s) (2 ^ k.toNat) ≠ 0 := by
  have hk := (ptO_iff.1 h).1
  rw [κ_pow]
  exact f_pow_ne (pr_of hk) (two_ne hk) _
end
end Go.Sx
namespace Go.Sx
open Go.Proofs Go.Num
-- SY
-- TY: TYX, UX
set_option maxRecDepth 100000
set_option linter.unusedSimpArgs false
set_option pp.deepTerms true
set_option pp.maxSteps 100000
def vaF (s k : Int) (sh : Nat) (l : List Nat) (i : Nat) : Nat := evp (md s) (sh * pt s k i % md s) l
def coB (s k : Int) (sh : Nat) : Nat → Nat := pw s (inv s (iN s ((2 ^ k.toNat : Nat) : Int))) (inv s sh)
def coF (s k : Int) (sh : Nat) (l : List Nat) (j : Nat) : Nat := evp (md s) (pt s k ((2 ^ k.toNat - j) % 2 ^ k.toNat)) l * coB s k sh j % md s
end Go.Sx
namespace Go.Sx
open Go.Proofs Go.Num
-- SY
-- TY: TYX, UX
set_option maxRecDepth 100000
set_option linter.unusedSimpArgs false
set_option pp.deepTerms true
set_option pp.maxSteps 100000
/-- The bits of a number below 2^k, turned round. -/
def br : Nat → Nat → Nat
  | 0, _ => 0
  | k + 1, i => i % 2 * 2 ^ k + br k (i / 2)
end Go.Sx
namespace Go.Sx
open Go.Proofs Go.Num
-- SY
-- TY: TYX, UX
set_option maxRecDepth 100000
set_option linter.unusedSimpArgs false
set_option pp.deepTerms true
set_option pp.maxSteps 100000
section
variable {s : Int} {st H b i N q : Nat} {A : Nat → Nat}
end
end Go.Sx
namespace Go.Sx
open Go.Proofs Go.Num
set_option maxRecDepth 100000
set_option linter.unusedSimpArgs false
section
variable {m : Nat} [NeZero m]
/-- A sum over the numbers below n. -/
def sm : Nat → (Nat → Fin m) → Fin m
  | 0, _ => 0
  | n + 1, g => sm n g + g n
theorem sm_congr {g h : Nat → Fin m} : ∀ {n : Nat}, (∀ i, i < n → g i = h i) → sm n g = sm n h
  | 0, _ => rfl
  | n + 1, e => by
    show sm n g + g n = sm n h + h n
    rw [sm_congr fun i hi => e i (by omega), e n (by omega)]
theorem sm_add (g h : Nat → Fin m) : ∀ n, sm n (fun i => g i + h i) = sm n g + sm n h
  | 0 => by show (0 : Fin m) = 0 + 0; grind
  | n + 1 => by
    show sm n (fun i => g i + h i) + (g n + h n) = (sm n g + g n) + (sm n h + h n)
    rw [sm_add g h n]; grind
theorem sm_scale (c : Fin m) (g : Nat → Fin m) : ∀ n, sm n (fun i => c * g i) = c * sm n g
  | 0 => by show (0 : Fin m) = c * 0; grind
  | n + 1 => by
    show sm n (fun i => c * g i) + c * g n = c * (sm n g + g n)
    rw [sm_scale c g n]; grind
theorem sm_zero {g : Nat → Fin m} : ∀ {n : Nat}, (∀ i, i < n → g i = 0) → sm n g = 0
  | 0, _ => rfl
  | n + 1, h => by
    show sm n g + g n = 0
    rw [sm_zero fun i hi => h i (by omega), h n (by omega)]; grind
theorem sm_front (g : Nat → Fin m) : ∀ n, sm (n + 1) g = g 0 + sm n (fun i => g (i + 1))
  | 0 => by show (0 : Fin m) + g 0 = g 0 + 0; grind
  | n + 1 => by
    show sm (n + 1) g + g (n + 1) = g 0 + (sm n (fun i => g (i + 1)) + g (n + 1))
    rw [sm_front g n]; grind
theorem sm_more {g : Nat → Fin m} {n : Nat} : ∀ {j : Nat}, (∀ i, n ≤ i → i < n + j → g i = 0) → sm (n + j) g = sm n g
  | 0, _ => rfl
  | j + 1, h => by
    show sm (n + j) g + g (n + j) = sm n g
    rw [sm_more fun i h1 h2 => h i h1 (by omega), h (n + j) (by omega) (by omega)]; grind
theorem evk_sm (x : Fin m) : ∀ l : List Nat, evk x l = sm l.length (fun i => co m l i * x ^ i)
  | [] => rfl
  | c :: l => by
    unfold evk
    rw [evk_sm x l, List.length_cons, sm_front, ← sm_scale, co_0, f_pow_zero]
    have : sm l.length (fun i => x * (co m l i * x ^ i)) = sm l.length (fun i => co m (c :: l) (i + 1) * x ^ (i + 1)) := sm_congr fun i _ => by
      rw [co_s, f_pow_succ]; grind
    rw [this]; grind
end
/-- What a block holds after h stages. -/
def blk (s : Int) (w n : Nat) (f : Nat → Nat) (h b r : Nat) : Fin (md s) :=
  sm (2 ^ h) (fun j => κ (md s) (f (j * 2 ^ (n - h) + br (n - h) b)) * (κ (md s) w ^ 2 ^ (n - h)) ^ (r * j))
section
variable {s : Int} {w n : Nat} {f : Nat → Nat}
end
section
variable {s : Int} {n : Nat} {l : List Nat}
theorem back_pow (h : ptO s n = true) (j : Nat) : κ (md s) (rk s n) ^ j * κ (md s) (inv s (rk s n)) ^ j = 1 := by
  rw [← f_mul_pow, κ_inv, ι_mul (pr_of (ptO_iff.1 h).1) (rk_ne h), f_one_pow]
theorem back_one (h : ptO s n = true) : κ (md s) (inv s (rk s n)) ^ 2 ^ n = 1 := by
  have h1 := back_pow h (2 ^ n)
  have h2 : κ (md s) (rk s n) ^ 2 ^ n = 1 := (rk_facts h).2
  rw [h2] at h1
  rw [← h1]; grind
theorem pt_back (h : ptO s n = true) {j : Nat} (hj : j < 2 ^ n) : κ (md s) (pt s n ((2 ^ n - j) % 2 ^ n)) = κ (md s) (inv s (rk s n)) ^ j := by
  have h2 : κ (md s) (rk s n) ^ 2 ^ n = 1 := (rk_facts h).2
  rw [ptk]
  rcases Nat.eq_zero_or_pos j with rfl | hj0
  · rw [Nat.sub_zero, Nat.mod_self, f_pow_zero, f_pow_zero]
  · rw [Nat.mod_eq_of_lt (by omega)]
    have h3 := back_pow h j
    have h4 : κ (md s) (rk s n) ^ (2 ^ n - j) * κ (md s) (rk s n) ^ j = 1 := by
      rw [← f_pow_add, Nat.sub_add_cancel (by omega), h2]
    grind
end
end Go.Sx
