/-
  Points of the reference; the powers of a root of unity. No conditions.
-/
import Derived.Test.YtndmafefpiigoaaZDoa
namespace Go.Sx
open Go.Proofs Go.Num
-- SY
-- TY: TYX, UX
set_option maxRecDepth 100000
set_option linter.unusedSimpArgs false
set_option pp.deepTerms true
set_option pp.maxSteps 100000
theorem b_shl_iu {P : Program} {T : Nat → AV} {ty ty' : TypeId} {x y : Operand} {p : Int} {b : Nat} : binOn P T .shl ty x y ty' (.o (.v (.int .i64 p))) (.o (.v (u64 b))) = .ok (0 ≤ (b : Int)) (val (.int .i64 (IntKind.i64.wrap (p * 2 ^ (min b IntKind.i64.bits))))) := rfl
theorem v_Points (s k : Int) : Contract Try.prog 47 [.val (.int .i64 s), .val (.int .i64 k)] [.row 25 4 (ptL s k).length (LC eC (ptL s k)), .val (.int .i64 (eK s k))] := by
  cases h : ptO s k with
  | false =>
    have e1 : ptL s k = [] := by simp [ptL, h]
    have e2 : eK s k ≠ 0 := fun e => by rw [eK_0.1 e] at h; cases h
    have e3 : (eK s k != 0) = true := by simp [e2]
    rw [e1]
    refine contract_of (N := _) (vars := _) (c := bodyOf Try.f47) Try.func47 (body_eq rfl) rfl rfl (by rfl) mixed _ _ trivial 1000 ?_
    simp only [bodyOf, Try.f47, Option.getD_some, argA, argE, List.length_cons, List.length_nil, Nat.reduceAdd, Nat.reduceSub, List.replicate, List.cons_append, List.nil_append]
    simp only [↓PX, SX, SYX, EY, simprocAttr, TYX, UX]
    refine CallVC.intro (v_check s k) ⟨rfl, rfl, trivial⟩ rfl rfl ?_
    simp only [↓PX, SX, SYX, EY, simprocAttr, TYX, UX, e3]
  | true =>
    obtain ⟨h1, h2, h3⟩ := ptO_iff.1 h
    obtain ⟨n, rfl⟩ : ∃ n : Nat, k = n := ⟨k.toNat, by omega⟩
    have e1 : ptL s n = tab (2 ^ n) (pw s 1 (rk s n)) := by simp [ptL, h]
    have e2 : eK s n = 0 := eK_0.2 h
    have hp := pow_le9 (k := n) (by omega)
    have hs := shl_i (k := n) (by omega)
    rw [e1, e2, tab_len]
    obtain ⟨N, hN⟩ : ∃ N, 2 ^ n = N := ⟨_, rfl⟩
    rw [hN] at hp hs ⊢
    refine contract_of (N := _) (vars := _) (c := bodyOf Try.f47) Try.func47 (body_eq rfl) rfl rfl (by rfl) mixed _ _ trivial 1000 ?_
    simp only [bodyOf, Try.f47, Option.getD_some, argA, argE, List.length_cons, List.length_nil, Nat.reduceAdd, Nat.reduceSub, List.replicate, List.cons_append, List.nil_append]
    simp only [↓PX, SX, SYX, EY, simprocAttr, TYX, UX]
    refine CallVC.intro (v_check s n) ⟨rfl, rfl, trivial⟩ rfl rfl ?_
    simp only [↓PX, SX, SYX, EY, simprocAttr, TYX, UX, e2]
    refine CallVC.intro (v_Root s n) ⟨rfl, rfl, trivial⟩ rfl rfl ?_
    simp only [↓PX, SX, SYX, EY, simprocAttr, TYX, UX]
    refine loop_hav ?_
    simp only [↓PX, SX, SYX, EY, simprocAttr, TYX, UX]
    refine loop_go mixed (by trivial) (γ := Nat) (fun i => i ≤ N) (fun i => N - i) (fun i => [(11, iv i), (24, .o .any), (9, .o (.r 70 i))]) (fun i => [(70, .row 25 4 i (LC eC (tab i (pw s 1 (rk s n))))), (82, .box (eC (pw s 1 (rk s n) i)))]) 0 (by omega)
      (St.le_of id (by simp [-List.getD_eq_getElem?_getD, SYX, iv, Tle, AVle, A0le, Mem.get, tab_0, pw, eC, eL_nil]) (by simp [-List.getD_eq_getElem?_getD, SYX, Mle, Ele, Hle, Tle, AVle, A0le, Mem.get, tab_0, pw, eC, eL_nil]) (by simp [SYX]) (by simp [SYX])) ?_
    intro i hi
    simp only [↓PX, SX, SYX, EY, simprocAttr, TYX, UX, conv_u (n := n) (by omega), b_shl_iu, hs]
    repeat (first | refine DrawVC.intro (by kernel_rfl) ?_ | refine And.intro (by omega) ?_ | exact trivial)
    refine cond_split (fun h0 => ?_) (fun h0 => ?_)
    · have h0 : i < N := by simpa using h0
      have hw := pw_w (s := s) (a := 1) (x := rk s n) (by decide) i
      simp only [↓PX, SX, SYX, EY, simprocAttr, TYX, UX, tab_snoc]
      repeat (first | refine DrawVC.intro (by kernel_rfl) ?_ | refine And.intro (by omega) ?_ | exact trivial)
      refine CallVC.intro (v_Mul s _ _ hw (md_w2 (rk_w _ _))) ⟨rfl, rfl, rfl, trivial⟩ rfl rfl ?_
      simp only [↓PX, SX, SYX, EY, simprocAttr, TYX, UX]
      repeat (first | refine DrawVC.intro (by kernel_rfl) ?_ | refine And.intro (by omega) ?_ | exact trivial)
      have ep : pw s 1 (rk s n) (i + 1) = pw s 1 (rk s n) i * rk s n % md s := rfl
      exact ⟨i + 1, by omega, by omega, (St.le_of (ren [(70, 126)]) (by simp [-List.getD_eq_getElem?_getD, SYX, iv, ren, Tle, AVle, A0le, Mem.get, ep, wS (j := i) (by omega)]) (by simp [-List.getD_eq_getElem?_getD, SYX, ren, Mle, Ele, Mem.get, ep, wS (j := i) (by omega)]) (by simp [SYX, ren]) (by simp [SYX]))⟩
    · have h0 : i = N := by
        have : N ≤ i := by simpa using h0
        omega
      subst h0
      simp only [↓PX, SX, SYX, EY, simprocAttr, TYX, UX]
end Go.Sx
