/-
  DomainRound. No conditions.
-/
import Derived.Test.YtndmafefpiigoaaZDop
namespace Go.Sx
open Go.Proofs Go.Num
-- SY
-- TY: TYX, UX
set_option maxRecDepth 100000
set_option linter.unusedSimpArgs false
set_option pp.deepTerms true
set_option pp.maxSteps 100000
theorem vaE_0 {s k : Int} {sh : Nat} {l : List Nat} : vaE s k sh l = 0 ↔ ptO s k = true ∧ sh % md s ≠ 0 ∧ l.length ≤ 2 ^ k.toNat := by
  unfold vaE
  cases h : ptO s k with
  | false =>
    have e3 : eK s k ≠ 0 := fun e => by rw [eK_0.1 e] at h; cases h
    simp [e3]
  | true =>
    by_cases hz : sh % md s = 0
    · simp [hz]
    · by_cases hl : l.length ≤ 2 ^ k.toNat
      · simp [hz, hl]
      · simp [hz, hl]
theorem c_DomainRound (s k : Int) (sh : Nat) (l : List Nat) (hs : sh < W256) (hl : ∀ x ∈ l, x < W256) (hb : l.length * 32 ≤ 140737488351232) : Contract Try.prog 16 [.val (.int .i64 s), .val (.int .i64 k), .val (EN sh), .sl l.length 4 (LC eC l)] [.val (.bool true)] := by
  cases d0 : decide ((600 : Int) < (l.length : Int)) with
  | true =>
    refine contract_of (N := _) (vars := _) (c := bodyOf Try.f16) Try.func16 (body_eq rfl) rfl rfl (by rfl) mixed _ _ trivial 1000 ?_
    simp only [bodyOf, Try.f16, Option.getD_some, argA, argE, List.length_cons, List.length_nil, Nat.reduceAdd, Nat.reduceSub, List.replicate, List.cons_append, List.nil_append]
    simp only [↓PX, SX, SYX, EY, simprocAttr, TYX, UX]
    refine CallVC.intro (c_alive6) trivial rfl rfl ?_
    simp only [↓PX, SX, SYX, EY, simprocAttr, TYX, UX, d0]
  | false =>
    have q := of_decide_eq_false d0
    by_cases he : vaE s k sh l = 0
    · obtain ⟨h, hz, hln⟩ := vaE_0.1 he
      obtain ⟨n, rfl⟩ : ∃ n : Nat, k = n := ⟨k.toNat, by have := ptO_iff.1 h; omega⟩
      rw [Int.toNat_natCast] at hln
      have hp := pow_le9 (k := n) (by have := ptO_iff.1 h; omega)
      have hs2 := shl_i (k := n) (by have := ptO_iff.1 h; omega)
      have c1 := u_Values s n sh l hs hl (by omega)
      have eV : vaL s n sh l = tab (2 ^ n) (vaF s n sh l) := by
        unfold vaL; rw [if_pos (by simp [vaO, h, hz, hln])]; rfl
      have eC2 : coL s n sh (tab (2 ^ n) (vaF s n sh l)) = tab (2 ^ n) (fun j => l.getD j 0 % md s) := by
        unfold coL; rw [if_pos (by simp [coO, h, hz, tab_len])]
        exact tab_congr fun j hj => round h hz hln hj
      have eE2 : coE s n sh (tab (2 ^ n) (vaF s n sh l)) = 0 := by simp [coE, h, hz, tab_len]
      have c2 := u_Coeffs s n sh (tab (2 ^ n) (vaF s n sh l)) hs (tab_w fun _ => evp_lt _ _ _) (by rw [tab_len]; omega)
      rw [eC2, eE2, tab_len, tab_len] at c2
      rw [he, eV, tab_len] at c1
      obtain ⟨N, hN⟩ : ∃ N, 2 ^ n = N := ⟨_, rfl⟩
      rw [hN] at c1 c2 hln hp hs2
      refine contract_of (N := _) (vars := _) (c := bodyOf Try.f16) Try.func16 (body_eq rfl) rfl rfl (by rfl) mixed _ _ trivial 1000 ?_
      simp only [bodyOf, Try.f16, Option.getD_some, argA, argE, List.length_cons, List.length_nil, Nat.reduceAdd, Nat.reduceSub, List.replicate, List.cons_append, List.nil_append]
      simp only [↓PX, SX, SYX, EY, simprocAttr, TYX, UX]
      refine CallVC.intro (c_alive6) trivial rfl rfl ?_
      simp only [↓PX, SX, SYX, EY, simprocAttr, TYX, UX, d0]
      repeat (first | refine DrawVC.intro (by kernel_rfl) ?_ | refine And.intro (by omega) ?_ | exact trivial)
      refine CallVC.intro (c_CopyElems l (by omega)) ⟨(by simp only [argMatch, SX, SYX, EY, simprocAttr, and_self, List.length_append, List.length_map, List.length_set, TYX, UX]), trivial⟩ rfl rfl ?_
      simp only [↓PX, SX, SYX, EY, simprocAttr, TYX, UX]
      refine CallVC.intro (c1) ⟨rfl, rfl, rfl, (by simp only [argMatch, SX, SYX, EY, simprocAttr, and_self, List.length_append, List.length_map, List.length_set, TYX, UX]), trivial⟩ rfl rfl ?_
      simp only [↓PX, SX, SYX, EY, simprocAttr, TYX, UX]
      have hcv := conv_u (n := n) (by have := ptO_iff.1 h; omega)
      have hb1 : ((N : Int) != (N : Int)) = false := by simp
      refine CallVC.intro (c2) ⟨rfl, rfl, rfl, (by simp only [argMatch, SX, SYX, EY, simprocAttr, and_self, List.length_append, List.length_map, List.length_set, TYX, UX, tab_len, hcv, b_shl_iu, hs2, hb1]), trivial⟩ rfl rfl ?_
      simp only [↓PX, SX, SYX, EY, simprocAttr, TYX, UX, tab_len, hcv, b_shl_iu, hs2, hb1]
      repeat (first | refine DrawVC.intro (by kernel_rfl) ?_ | refine And.intro (by omega) ?_ | exact trivial)
      refine loop_hav ?_
      simp only [↓PX, SX, SYX, EY, simprocAttr, TYX, UX]
      have hlC : (tab N fun j => l.getD j 0 % md s).length = N := tab_len
      refine loop_go mixed (by trivial) (γ := Nat) (fun i => i ≤ N) (fun i => N - i) (fun i => [(13, iv i)]) (fun i => []) 0 (by omega)
        (St.le_of id (by simp [-List.getD_eq_getElem?_getD, SYX, iv, Tle, AVle, A0le, Mem.get]) (by simp [-List.getD_eq_getElem?_getD, SYX, Mle, Ele, Hle, Tle, AVle, A0le, Mem.get]) (by simp [SYX]) (by simp [SYX])) ?_
      intro i hi
      simp only [↓PX, SX, SYX, EY, simprocAttr, TYX, UX]
      refine cond_split (fun h0 => ?_) (fun h0 => ?_)
      · have h0 : i < N := by simpa using h0
        have hiC : i < (tab N fun j => l.getD j 0 % md s).length := by rw [hlC]; exact h0
        have ldc := eL_ld hiC
        rw [tab_at h0] at ldc
        simp only [↓PX, SX, SYX, EY, simprocAttr, TYX, UX]
        refine cond_split (fun h5 => ?_) (fun h5 => ?_)
        · have h5 : i < l.length := by simpa using h5
          have ca := u_Add s (l.getD i 0) 0 (getD_lt hl h5) (by decide)
          rw [Nat.add_zero] at ca
          simp only [↓PX, SX, SYX, EY, simprocAttr, TYX, UX, eL_ld h5]
          repeat (first | refine DrawVC.intro (by kernel_rfl) ?_ | refine And.intro (by omega) ?_ | exact trivial)
          refine CallVC.intro (ca) ⟨rfl, rfl, rfl, trivial⟩ rfl rfl ?_
          simp only [↓PX, SX, SYX, EY, simprocAttr, TYX, UX, hlC, ldc, eqN_self]
          repeat (first | refine DrawVC.intro (by kernel_rfl) ?_ | refine And.intro (by omega) ?_ | exact trivial)
          simp only [↓PX, SX, SYX, EY, simprocAttr, TYX, UX, wS (j := i) (by omega)]
          exact ⟨i + 1, by omega, by omega, (St.le_of id (by simp [-List.getD_eq_getElem?_getD, SYX, iv, Tle, AVle, A0le, Mem.get]) (by simp [-List.getD_eq_getElem?_getD, SYX, Mle, Ele, Hle, Tle, AVle, A0le, Mem.get]) (by simp [SYX]) (by simp [SYX]))⟩
        · have h5 : l.length ≤ i := by simpa using h5
          rw [getD_out h5, Nat.zero_mod] at ldc
          simp only [↓PX, SX, SYX, EY, simprocAttr, TYX, UX, hlC, ldc, eqN_self]
          repeat (first | refine DrawVC.intro (by kernel_rfl) ?_ | refine And.intro (by omega) ?_ | exact trivial)
          simp only [↓PX, SX, SYX, EY, simprocAttr, TYX, UX, wS (j := i) (by omega)]
          exact ⟨i + 1, by omega, by omega, (St.le_of id (by simp [-List.getD_eq_getElem?_getD, SYX, iv, Tle, AVle, A0le, Mem.get]) (by simp [-List.getD_eq_getElem?_getD, SYX, Mle, Ele, Hle, Tle, AVle, A0le, Mem.get]) (by simp [SYX]) (by simp [SYX]))⟩
      · simp only [↓PX, SX, SYX, EY, simprocAttr, TYX, UX]
    · have he' : (vaE s k sh l != 0) = true := by simp [he]
      have e1 : vaL s k sh l = [] := by
        unfold vaL
        rw [if_neg]
        intro ho
        simp only [vaO, Bool.and_eq_true, decide_eq_true_eq] at ho
        exact he (vaE_0.2 ⟨ho.1.1, ho.1.2, ho.2⟩)
      have c1 := u_Values s k sh l hs hl (by omega)
      rw [e1] at c1
      refine contract_of (N := _) (vars := _) (c := bodyOf Try.f16) Try.func16 (body_eq rfl) rfl rfl (by rfl) mixed _ _ trivial 1000 ?_
      simp only [bodyOf, Try.f16, Option.getD_some, argA, argE, List.length_cons, List.length_nil, Nat.reduceAdd, Nat.reduceSub, List.replicate, List.cons_append, List.nil_append]
      simp only [↓PX, SX, SYX, EY, simprocAttr, TYX, UX]
      refine CallVC.intro (c_alive6) trivial rfl rfl ?_
      simp only [↓PX, SX, SYX, EY, simprocAttr, TYX, UX, d0]
      repeat (first | refine DrawVC.intro (by kernel_rfl) ?_ | refine And.intro (by omega) ?_ | exact trivial)
      refine CallVC.intro (c_CopyElems l (by omega)) ⟨(by simp only [argMatch, SX, SYX, EY, simprocAttr, and_self, List.length_append, List.length_map, List.length_set, TYX, UX]), trivial⟩ rfl rfl ?_
      simp only [↓PX, SX, SYX, EY, simprocAttr, TYX, UX]
      refine CallVC.intro (c1) ⟨rfl, rfl, rfl, (by simp only [argMatch, SX, SYX, EY, simprocAttr, and_self, List.length_append, List.length_map, List.length_set, TYX, UX, he']), trivial⟩ rfl rfl ?_
      simp only [↓PX, SX, SYX, EY, simprocAttr, TYX, UX, he']
end Go.Sx
