/-
  Checks of the reference. No conditions.
-/
import Derived.Test.YtndmafefpiigoaaZPed
namespace Go.Sx
open Go.Proofs Go.Num
-- SY
-- TY: TYX, UX
set_option maxRecDepth 100000
set_option linter.unusedSimpArgs false
set_option pp.deepTerms true
set_option pp.maxSteps 100000
set_option maxHeartbeats 3200000 in
theorem v_Checks (s : Int) (X F L U : Nat) (cols sig : List Nat) (zs : List (Nat × Nat × Nat)) (β γ : Nat) (hX : X < W256) (hF : F < W256) (hL : L < W256) (hU : U < W256) (hc : ∀ x ∈ cols, x < W256) (hs : ∀ x ∈ sig, x < W256) (hz : zsW zs) (hβ : β < W256) (hγ : γ < W256) (hn : cols.length ≤ 20) (hn2 : sig.length ≤ 20) (hm : zs.length ≤ 20) :
    Contract Try.prog 56 [.val (.int .i64 s), .val (SN X F L U), .sl cols.length 4 (LC eC cols), .sl sig.length 4 (LC eC sig), .sl zs.length 12 (LC cC zs), .val (EN β), .val (EN γ)] [.row 25 4 (ckL s X F L U cols sig zs β γ).length (LC eC (ckL s X F L U cols sig zs β γ))] := by
  unfold SN
  have cch := v_chunks cols.length (by omega)
  cases hk : kn s with
  | false =>
    have e1 : ckL s X F L U cols sig zs β γ = [] := by unfold ckL ckO; rw [hk]; rfl
    rw [e1]
    cases d0 : decide (s < 0) with
    | true =>
      refine contract_of (N := _) (vars := _) (c := bodyOf Try.f56) Try.func56 (body_eq rfl) rfl rfl (by rfl) mixed _ _ trivial 1000 ?_
      simp only [bodyOf, Try.f56, Option.getD_some, argA, argE, List.length_cons, List.length_nil, Nat.reduceAdd, Nat.reduceSub, List.replicate, List.cons_append, List.nil_append]
      simp only [↓PX, SX, SYX, EY, simprocAttr, TYX, UX]
      simp only [↓PX, SX, SYX, EY, simprocAttr, TYX, UX, d0]
    | false =>
      have dd : decide (3 < s) = true := by
        have q0 := of_decide_eq_false d0
        refine decide_eq_true ?_
        rcases sort_cases s with rfl | rfl | rfl | rfl | ⟨h0, h1, h2, h3⟩
        · simp [kn] at hk
        · simp [kn] at hk
        · simp [kn] at hk
        · simp [kn] at hk
        · simp at h0 h1 h2 h3; omega
      refine contract_of (N := _) (vars := _) (c := bodyOf Try.f56) Try.func56 (body_eq rfl) rfl rfl (by rfl) mixed _ _ trivial 1000 ?_
      simp only [bodyOf, Try.f56, Option.getD_some, argA, argE, List.length_cons, List.length_nil, Nat.reduceAdd, Nat.reduceSub, List.replicate, List.cons_append, List.nil_append]
      simp only [↓PX, SX, SYX, EY, simprocAttr, TYX, UX]
      simp only [↓PX, SX, SYX, EY, simprocAttr, TYX, UX, d0, dd]
  | true =>
    have hs4 : 0 ≤ s ∧ s ≤ 3 := by
      rcases kn_or s hk with rfl | rfl | rfl | rfl <;> decide
    have d0 : decide (s < 0) = false := decide_eq_false (by omega)
    have dd : decide (3 < s) = false := decide_eq_false (by omega)
    cases d1 : ((cols.length : Int) != (sig.length : Int)) with
    | true =>
      have e1 : ckL s X F L U cols sig zs β γ = [] := by
        have : (cols.length == sig.length) = false := by
          rw [beq_eq_false_iff_ne]; intro e; rw [e] at d1; simp at d1
        unfold ckL ckO; rw [hk, this]; rfl
      rw [e1]
      refine contract_of (N := _) (vars := _) (c := bodyOf Try.f56) Try.func56 (body_eq rfl) rfl rfl (by rfl) mixed _ _ trivial 1000 ?_
      simp only [bodyOf, Try.f56, Option.getD_some, argA, argE, List.length_cons, List.length_nil, Nat.reduceAdd, Nat.reduceSub, List.replicate, List.cons_append, List.nil_append]
      simp only [↓PX, SX, SYX, EY, simprocAttr, TYX, UX]
      simp only [↓PX, SX, SYX, EY, simprocAttr, TYX, UX, d0, dd, d1]
    | false =>
      have q1 : cols.length = sig.length := by
        have : (cols.length : Int) = (sig.length : Int) := by simpa using d1
        omega
      cases d3 : ((zs.length : Int) != (((cols.length + 1) / 2 : Nat) : Int)) with
      | true =>
        have e1 : ckL s X F L U cols sig zs β γ = [] := by
          have : (zs.length == (cols.length + 1) / 2) = false := by
            rw [beq_eq_false_iff_ne]; intro e; rw [e] at d3; simp at d3
          unfold ckL ckO; rw [hk, this]; simp
        rw [e1]
        refine contract_of (N := _) (vars := _) (c := bodyOf Try.f56) Try.func56 (body_eq rfl) rfl rfl (by rfl) mixed _ _ trivial 1000 ?_
        simp only [bodyOf, Try.f56, Option.getD_some, argA, argE, List.length_cons, List.length_nil, Nat.reduceAdd, Nat.reduceSub, List.replicate, List.cons_append, List.nil_append]
        simp only [↓PX, SX, SYX, EY, simprocAttr, TYX, UX]
        simp only [↓PX, SX, SYX, EY, simprocAttr, TYX, UX, d0, dd, d1]
        refine CallVC.intro (cch) ⟨rfl, trivial⟩ rfl rfl ?_
        simp only [↓PX, SX, SYX, EY, simprocAttr, TYX, UX, d3]
      | false =>
        have q3 : zs.length = (cols.length + 1) / 2 := by
          have : (zs.length : Int) = (((cols.length + 1) / 2 : Nat) : Int) := by simpa using d3
          omega
        cases d2 : ((cols.length : Int) == 0) with
        | true =>
          have e1 : ckL s X F L U cols sig zs β γ = [] := by
            have : cols.length = 0 := by have := of_decide_eq_true d2; omega
            unfold ckL ckO; rw [hk, this]; simp
          rw [e1]
          refine contract_of (N := _) (vars := _) (c := bodyOf Try.f56) Try.func56 (body_eq rfl) rfl rfl (by rfl) mixed _ _ trivial 1000 ?_
          simp only [bodyOf, Try.f56, Option.getD_some, argA, argE, List.length_cons, List.length_nil, Nat.reduceAdd, Nat.reduceSub, List.replicate, List.cons_append, List.nil_append]
          simp only [↓PX, SX, SYX, EY, simprocAttr, TYX, UX]
          simp only [↓PX, SX, SYX, EY, simprocAttr, TYX, UX, d0, dd, d1]
          refine CallVC.intro (cch) ⟨rfl, trivial⟩ rfl rfl ?_
          simp only [↓PX, SX, SYX, EY, simprocAttr, TYX, UX, d3, d2]
        | false =>
          have q2 : cols.length ≠ 0 := by
            intro e; rw [e] at d2; simp at d2
          have e1 : ckL s X F L U cols sig zs β γ = tab zs.length (ckA s F zs) ++ [ckB s L (zAt zs (zs.length - 1))] ++ tab zs.length (ckC s U X β γ cols sig zs) := by
            have : (cols.length == sig.length) = true := by rw [q1]; simp
            have ho : ckO s cols sig zs = true := by
              unfold ckO
              rw [hk, this]
              simp only [Bool.true_and, Bool.and_eq_true, bne_iff_ne, beq_iff_eq]
              exact ⟨q2, q3⟩
            unfold ckL; rw [if_pos ho]
          rw [e1]
          obtain ⟨f0, _, _⟩ := cC_fld (zs := zs) (j := 0) (by omega)
          rw [Nat.zero_mul, List.drop_zero] at f0
          have hlz : (LC cC zs).length = zs.length * 12 := LC_len cC_len zs
          refine contract_of (N := _) (vars := _) (c := bodyOf Try.f56) Try.func56 (body_eq rfl) rfl rfl (by rfl) mixed _ _ trivial 1000 ?_
          simp only [bodyOf, Try.f56, Option.getD_some, argA, argE, List.length_cons, List.length_nil, Nat.reduceAdd, Nat.reduceSub, List.replicate, List.cons_append, List.nil_append]
          simp only [↓PX, SX, SYX, EY, simprocAttr, TYX, UX]
          simp only [↓PX, SX, SYX, EY, simprocAttr, TYX, UX, d0, dd, d1]
          refine CallVC.intro (cch) ⟨rfl, trivial⟩ rfl rfl ?_
          simp only [↓PX, SX, SYX, EY, simprocAttr, TYX, UX, d3, d2, f0, hlz]
          repeat (first | refine DrawVC.intro (by kernel_rfl) ?_ | refine And.intro (by omega) ?_ | exact trivial)
          refine CallVC.intro (v_Sub' s 1 _ (by decide) (zs_at hz 0).1) ⟨rfl, rfl, rfl, trivial⟩ rfl rfl ?_
          simp only [↓PX, SX, SYX, EY, simprocAttr, TYX, UX]
          refine CallVC.intro (v_Mul s F _ hF (sb_w _ _ _)) ⟨rfl, rfl, rfl, trivial⟩ rfl rfl ?_
          simp only [↓PX, SX, SYX, EY, simprocAttr, TYX, UX]
          repeat (first | refine DrawVC.intro (by kernel_rfl) ?_ | refine And.intro (by omega) ?_ | exact trivial)
          refine loop_hav ?_
          simp only [↓PX, SX, SYX, EY, simprocAttr, TYX, UX]
          have eA : [u64 (L0 (F * sb (md s) 1 (zAt zs 0) % md s)), u64 (L1 (F * sb (md s) 1 (zAt zs 0) % md s)), u64 (L2 (F * sb (md s) 1 (zAt zs 0) % md s)), u64 (L3 (F * sb (md s) 1 (zAt zs 0) % md s))] = LC eC (tab 1 (ckA s F zs)) := rfl
          refine loop_go mixed (by trivial) (γ := Nat) (fun j => 1 ≤ j ∧ j ≤ zs.length) (fun j => zs.length - j) (fun j => [(17, iv j), (65, .o .any), (15, .o (.r 199 j))]) (fun j => [(199, .row 25 4 j (LC eC (tab j (ckA s F zs))))]) 1 (by omega)
            (St.le_of id (by simp [-List.getD_eq_getElem?_getD, SYX, iv, Tle, AVle, A0le, Mem.get, eA]) (by simp [-List.getD_eq_getElem?_getD, SYX, Mle, Ele, Hle, Tle, AVle, A0le, Mem.get, eA]) (by simp [SYX]) (by simp [SYX])) ?_
          rintro j ⟨hj1, hj⟩
          simp only [↓PX, SX, SYX, EY, simprocAttr, TYX, UX]
          refine cond_split (fun h0 => ?_) (fun h0 => ?_)
          · have h0 : j < zs.length := by simpa using h0
            obtain ⟨g0, _, _⟩ := cC_fld (zs := zs) (j := j) h0
            obtain ⟨_, _, g2⟩ := cC_fld (zs := zs) (j := j - 1) (by omega)
            have ej : F * sb (md s) (zAt zs j) (zLs zs (j - 1)) % md s = ckA s F zs j := by
              obtain ⟨i, rfl⟩ : ∃ i, j = i + 1 := ⟨j - 1, by omega⟩
              rfl
            have cj := v_Mul s F (sb (md s) (zAt zs j) (zLs zs (j - 1))) hF (sb_w _ _ _)
            rw [ej] at cj
            simp only [↓PX, SX, SYX, EY, simprocAttr, TYX, UX, wP (j := j) (by omega) (by omega), hlz, g0, g2]
            repeat (first | refine DrawVC.intro (by kernel_rfl) ?_ | refine And.intro (by omega) ?_ | exact trivial)
            refine CallVC.intro (v_Sub' s _ _ (zs_at hz j).1 (zs_at hz (j - 1)).2.2) ⟨rfl, rfl, rfl, trivial⟩ rfl rfl ?_
            simp only [↓PX, SX, SYX, EY, simprocAttr, TYX, UX]
            refine CallVC.intro (cj) ⟨rfl, rfl, rfl, trivial⟩ rfl rfl ?_
            simp only [↓PX, SX, SYX, EY, simprocAttr, TYX, UX, tab_snoc, wS (j := j) (by omega)]
            repeat (first | refine DrawVC.intro (by kernel_rfl) ?_ | refine And.intro (by omega) ?_ | exact trivial)
            exact ⟨j + 1, by omega, by omega, (St.le_of (ren [(199, 303)]) (by simp [-List.getD_eq_getElem?_getD, SYX, iv, ren, Tle, AVle, A0le, Mem.get, Nat.add_assoc]) (by simp [-List.getD_eq_getElem?_getD, SYX, ren, Mle, Ele, Mem.get, Nat.add_assoc]) (by simp [SYX, ren]) (by simp [SYX]))⟩
          · have h0 : j = zs.length := by
              have : zs.length ≤ j := by simpa using h0
              omega
            obtain ⟨f1, _, _⟩ := cC_fld (zs := zs) (j := zs.length - 1) (by omega)
            rw [h0]
            simp only [↓PX, SX, SYX, EY, simprocAttr, TYX, UX, wP (j := zs.length) (by omega) (by omega), hlz, f1]
            repeat (first | refine DrawVC.intro (by kernel_rfl) ?_ | refine And.intro (by omega) ?_ | exact trivial)
            obtain ⟨a, ha⟩ : ∃ a, a = zAt zs (zs.length - 1) := ⟨_, rfl⟩
            have haw : a < W256 := by rw [ha]; exact (zs_at hz _).1
            rw [← ha]
            refine CallVC.intro (v_Mul s a a haw haw) ⟨rfl, rfl, rfl, trivial⟩ rfl rfl ?_
            simp only [↓PX, SX, SYX, EY, simprocAttr, TYX, UX]
            refine CallVC.intro (v_Sub' s _ a (md_w s _) haw) ⟨rfl, rfl, rfl, trivial⟩ rfl rfl ?_
            simp only [↓PX, SX, SYX, EY, simprocAttr, TYX, UX]
            refine CallVC.intro (v_Mul s L _ hL (sb_w _ _ _)) ⟨rfl, rfl, rfl, trivial⟩ rfl rfl ?_
            simp only [↓PX, SX, SYX, EY, simprocAttr, TYX, UX]
            repeat (first | refine DrawVC.intro (by kernel_rfl) ?_ | refine And.intro (by omega) ?_ | exact trivial)
            refine loop_hav ?_
            simp only [↓PX, SX, SYX, EY, simprocAttr, TYX, UX]
            have eB : L * sb (md s) (a * a % md s) a % md s = ckB s L a := rfl
            rw [eB]
            obtain ⟨P0, hP0⟩ : ∃ P0, P0 = tab zs.length (ckA s F zs) ++ [ckB s L a] := ⟨_, rfl⟩
            have hPl : P0.length = zs.length + 1 := by rw [hP0, List.length_append, tab_len]; rfl
            rw [← hP0]
            refine loop_go mixed (by trivial) (γ := Nat) (fun j => j ≤ zs.length) (fun j => zs.length - j) (fun j => [(19, iv j), (112, .o .any), (15, .o (.r 315 (zs.length + 1 + j)))]) (fun j => [(315, .row 25 4 (zs.length + 1 + j) (LC eC (P0 ++ tab j (ckC s U X β γ cols sig zs))))]) 0 (by omega)
              (St.le_of id (by simp [-List.getD_eq_getElem?_getD, SYX, iv, Tle, AVle, A0le, Mem.get, tab_0, List.append_nil]) (by simp [-List.getD_eq_getElem?_getD, SYX, Mle, Ele, Hle, Tle, AVle, A0le, Mem.get, tab_0, List.append_nil]) (by simp [SYX]) (by simp [SYX])) ?_
            intro j hj
            simp only [↓PX, SX, SYX, EY, simprocAttr, TYX, UX]
            refine cond_split (fun h0 => ?_) (fun h0 => ?_)
            · have h0 : j < zs.length := by simpa using h0
              obtain ⟨g0, g1, _⟩ := cC_fld (zs := zs) (j := j) h0
              have w4 : IntKind.i64.wrap ((2 : Int) * (j : Int)) = ((2 * j : Nat) : Int) := by rw [wI (by omega) (by omega)]; rfl
              have hn1 : 2 * j < cols.length := by omega
              have hrd : 2 * j + rdN cols.length j = min (2 * j + 2) cols.length := by unfold rdN; omega
              obtain ⟨R, hR⟩ : ∃ R, rdN cols.length j = R := ⟨_, rfl⟩
              rw [hR] at hrd
              obtain ⟨z1, z2, z3⟩ := zs_at hz j
              have hCC : fsN s U (lpN s cols sig β γ (2 * j) (zNx zs j) R) (rpN s cols X β γ (2 * j) (zAt zs j) R) = ckC s U X β γ cols sig zs j := by unfold ckC; rw [hR]
              have ce := v_endc j cols.length (by omega) (by omega)
              rw [← hrd] at ce
              simp only [↓PX, SX, SYX, EY, simprocAttr, TYX, UX, hlz, g0, g1]
              repeat (first | refine DrawVC.intro (by kernel_rfl) ?_ | refine And.intro (by omega) ?_ | exact trivial)
              refine loop_hav ?_
              simp only [↓PX, SX, SYX, EY, simprocAttr, TYX, UX, hlz, g0, g1, w4]
              refine loop_go mixed (by trivial) (γ := Nat) (fun t => t ≤ R) (fun t => R - t) (fun t => [(22, iv (2 * j + t))]) (fun t => [(363, .box (eC (lpN s cols sig β γ (2 * j) (zNx zs j) t))), (391, .box (eC (rpN s cols X β γ (2 * j) (zAt zs j) t)))]) 0 (by omega)
                (St.le_of id (by simp [-List.getD_eq_getElem?_getD, SYX, iv, Tle, AVle, A0le, Mem.get, lpN, rpN, eC, Nat.add_zero]) (by simp [-List.getD_eq_getElem?_getD, SYX, Mle, Ele, Hle, Tle, AVle, A0le, Mem.get, lpN, rpN, eC, Nat.add_zero]) (by simp [SYX]) (by simp [SYX])) ?_
              intro t ht
              simp only [↓PX, SX, SYX, EY, simprocAttr, TYX, UX]
              refine CallVC.intro (ce) ⟨rfl, rfl, trivial⟩ rfl rfl ?_
              simp only [↓PX, SX, SYX, EY, simprocAttr, TYX, UX]
              refine cond_split (fun h1 => ?_) (fun h1 => ?_)
              · have h1 : t < R := by
                  have := of_decide_eq_true h1
                  omega
                have hic : 2 * j + t < cols.length := by omega
                have his : 2 * j + t < sig.length := by omega
                have ld1 := eL_ld hic
                have ld2 := eL_ld his
                have hlw : lpN s cols sig β γ (2 * j) (zNx zs j) t < W256 := by
                  cases t with
                  | zero => exact z2
                  | succ t => exact md_w s _
                have hrw : rpN s cols X β γ (2 * j) (zAt zs j) t < W256 := by
                  cases t with
                  | zero => exact z1
                  | succ t => exact md_w s _
                have em : lpN s cols sig β γ (2 * j) (zNx zs j) t * tmN s (cols.getD (2 * j + t) 0) β (sig.getD (2 * j + t) 0) γ % md s = lpN s cols sig β γ (2 * j) (zNx zs j) (t + 1) := rfl
                have em2 : rpN s cols X β γ (2 * j) (zAt zs j) t * tmN s (cols.getD (2 * j + t) 0) β (pw s 1 (dlN s) (2 * j + t) * X % md s) γ % md s = rpN s cols X β γ (2 * j) (zAt zs j) (t + 1) := rfl
                have cm := v_Mul s _ _ hlw (tmN_w s (cols.getD (2 * j + t) 0) β (sig.getD (2 * j + t) 0) γ)
                have cm2 := v_Mul s _ _ hrw (tmN_w s (cols.getD (2 * j + t) 0) β (pw s 1 (dlN s) (2 * j + t) * X % md s) γ)
                rw [em] at cm
                rw [em2] at cm2
                simp only [↓PX, SX, SYX, EY, simprocAttr, TYX, UX, ld1, ld2, eC]
                repeat (first | refine DrawVC.intro (by kernel_rfl) ?_ | refine And.intro (by omega) ?_ | exact trivial)
                refine CallVC.intro (v_term s (cols.getD (2 * j + t) 0) β (sig.getD (2 * j + t) 0) γ hβ hγ (getD_lt hc hic) (getD_lt hs his)) ⟨rfl, rfl, rfl, rfl, rfl, trivial⟩ rfl rfl ?_
                simp only [↓PX, SX, SYX, EY, simprocAttr, TYX, UX]
                refine CallVC.intro (cm) ⟨rfl, rfl, rfl, trivial⟩ rfl rfl ?_
                simp only [↓PX, SX, SYX, EY, simprocAttr, TYX, UX, ld1]
                repeat (first | refine DrawVC.intro (by kernel_rfl) ?_ | refine And.intro (by omega) ?_ | exact trivial)
                refine CallVC.intro (v_Shift s (2 * j + t) hk (by omega)) ⟨rfl, rfl, trivial⟩ rfl rfl ?_
                simp only [↓PX, SX, SYX, EY, simprocAttr, TYX, UX]
                refine CallVC.intro (v_Mul s (pw s 1 (dlN s) (2 * j + t)) X (pw_w (by decide) _) hX) ⟨rfl, rfl, rfl, trivial⟩ rfl rfl ?_
                simp only [↓PX, SX, SYX, EY, simprocAttr, TYX, UX]
                refine CallVC.intro (v_term s (cols.getD (2 * j + t) 0) β (pw s 1 (dlN s) (2 * j + t) * X % md s) γ hβ hγ (getD_lt hc hic) (md_w s _)) ⟨rfl, rfl, rfl, rfl, rfl, trivial⟩ rfl rfl ?_
                simp only [↓PX, SX, SYX, EY, simprocAttr, TYX, UX]
                refine CallVC.intro (cm2) ⟨rfl, rfl, rfl, trivial⟩ rfl rfl ?_
                simp only [↓PX, SX, SYX, EY, simprocAttr, TYX, UX, wS (j := 2 * j + t) (by omega)]
                exact ⟨t + 1, by omega, by omega, (St.le_of id (by simp [-List.getD_eq_getElem?_getD, SYX, iv, Tle, AVle, A0le, Mem.get, eC, Nat.add_assoc]) (by simp [-List.getD_eq_getElem?_getD, SYX, Mle, Ele, Hle, Tle, AVle, A0le, Mem.get, eC, Nat.add_assoc]) (by simp [SYX]) (by simp [SYX]))⟩
              · have h1 : t = R := by
                  have := of_decide_eq_false h1
                  omega
                rw [h1]
                have hlw : lpN s cols sig β γ (2 * j) (zNx zs j) R < W256 := by
                  cases R with
                  | zero => exact z2
                  | succ t => exact md_w s _
                have hrw : rpN s cols X β γ (2 * j) (zAt zs j) R < W256 := by
                  cases R with
                  | zero => exact z1
                  | succ t => exact md_w s _
                have cQ := v_Mul s U _ hU (sb_w s (lpN s cols sig β γ (2 * j) (zNx zs j) R) (rpN s cols X β γ (2 * j) (zAt zs j) R))
                rw [show U * sb (md s) (lpN s cols sig β γ (2 * j) (zNx zs j) R) (rpN s cols X β γ (2 * j) (zAt zs j) R) % md s = ckC s U X β γ cols sig zs j from hCC] at cQ
                have eap : P0 ++ tab j (ckC s U X β γ cols sig zs) ++ [ckC s U X β γ cols sig zs j] = P0 ++ tab (j + 1) (ckC s U X β γ cols sig zs) := by rw [List.append_assoc, tab_snoc]
                simp only [↓PX, SX, SYX, EY, simprocAttr, TYX, UX, eC]
                repeat (first | refine DrawVC.intro (by kernel_rfl) ?_ | refine And.intro (by omega) ?_ | exact trivial)
                refine CallVC.intro (v_Sub' s _ _ hlw hrw) ⟨rfl, rfl, rfl, trivial⟩ rfl rfl ?_
                simp only [↓PX, SX, SYX, EY, simprocAttr, TYX, UX]
                refine CallVC.intro (cQ) ⟨rfl, rfl, rfl, trivial⟩ rfl rfl ?_
                simp only [↓PX, SX, SYX, EY, simprocAttr, TYX, UX, eap, wS (j := j) (by omega)]
                repeat (first | refine DrawVC.intro (by kernel_rfl) ?_ | refine And.intro (by omega) ?_ | exact trivial)
                exact ⟨j + 1, by omega, by omega, (St.le_of (ren [(315, 475)]) (by simp [-List.getD_eq_getElem?_getD, SYX, iv, ren, Tle, AVle, A0le, Mem.get, Nat.add_assoc]) (by simp [-List.getD_eq_getElem?_getD, SYX, ren, Mle, Ele, Mem.get, Nat.add_assoc]) (by simp [SYX, ren]) (by simp [SYX]))⟩
            · have h0 : j = zs.length := by
                have : zs.length ≤ j := by simpa using h0
                omega
              have hlen2 : (P0 ++ tab zs.length (ckC s U X β γ cols sig zs)).length = zs.length + 1 + zs.length := by rw [List.length_append, hPl, tab_len]
              rw [h0, hlen2]
              simp only [↓PX, SX, SYX, EY, simprocAttr, TYX, UX]
end Go.Sx
