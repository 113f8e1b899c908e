/-
  Values of domain: the transform in place. No conditions.
-/
import Derived.Test.YtndmafefpiigoaaZDok
namespace Go.Sx
open Go.Proofs Go.Num
-- SY
-- TY: TYX, UX
set_option maxRecDepth 100000
set_option linter.unusedSimpArgs false
set_option pp.deepTerms true
set_option pp.maxSteps 100000
theorem swF_w {n i : Nat} {f : Nat → Nat} (hf : ∀ t, f t < W256) (t : Nat) : swF n i f t < W256 := by unfold swF; split <;> exact hf _
theorem stA_w {s : Int} {w N : Nat} {f : Nat → Nat} (hf : ∀ t, f t < W256) : ∀ h t, stA s w N f h t < W256
  | 0, t => hf t
  | h + 1, t => by
    show stF s _ _ _ t < W256
    unfold stF
    split
    · exact md_w s _
    · exact sb_w s _ _
theorem shF_w {s : Int} {sh : Nat} {l : List Nat} (t : Nat) : shF s sh l t < W256 := by unfold shF; split; exact md_w s _; decide
set_option maxHeartbeats 1600000 in
theorem u_Values (s k : Int) (sh : Nat) (l : List Nat) (hs : sh < W256) (hl : ∀ x ∈ l, x < W256) (hb : l.length * 32 ≤ 140737488355328) : Contract Try.prog 52 [.val (.int .i64 s), .val (.int .i64 k), .val (EN sh), .sl l.length 4 (LC eC l)] [.row 25 4 (vaL s k sh l).length (LC eC (vaL s k sh l)), .val (.int .i64 (vaE s k sh l))] := by
  cases h : ptO s k with
  | false =>
    have e1 : vaL s k sh l = [] := by simp [vaL, vaO, h]
    have e2 : vaE s k sh l = eK s k := by simp [vaE, h]
    have e3 : eK s k ≠ 0 := fun e => by rw [eK_0.1 e] at h; cases h
    have e4 : (eK s k != 0) = true := by simp [e3]
    have e5 : rdE s k sh = eK s k := by simp [rdE, h]
    rw [e1, e2]
    refine contract_of (N := _) (vars := _) (c := bodyOf Try.f52) Try.func52 (body_eq rfl) rfl rfl (by rfl) mixed _ _ trivial 1000 ?_
    simp only [bodyOf, Try.f52, Option.getD_some, argA, argE, List.length_cons, List.length_nil, Nat.reduceAdd, Nat.reduceSub, List.replicate, List.cons_append, List.nil_append]
    simp only [↓PX, SX, SYX, EY, simprocAttr, TYX, UX]
    refine CallVC.intro (u_ready s k sh hs) ⟨rfl, rfl, rfl, trivial⟩ rfl rfl ?_
    simp only [↓PX, SX, SYX, EY, simprocAttr, TYX, UX, e4, e5]
  | true =>
    by_cases hz : sh % md s = 0
    · have e7 : vaE s k sh l = 10 := by simp [vaE, h, hz]
      have e8 : vaL s k sh l = [] := by simp [vaL, vaO, hz]
      have e5 : rdE s k sh = 10 := by simp [rdE, h, hz]
      rw [e7, e8]
      refine contract_of (N := _) (vars := _) (c := bodyOf Try.f52) Try.func52 (body_eq rfl) rfl rfl (by rfl) mixed _ _ trivial 1000 ?_
      simp only [bodyOf, Try.f52, Option.getD_some, argA, argE, List.length_cons, List.length_nil, Nat.reduceAdd, Nat.reduceSub, List.replicate, List.cons_append, List.nil_append]
      simp only [↓PX, SX, SYX, EY, simprocAttr, TYX, UX]
      refine CallVC.intro (u_ready s k sh hs) ⟨rfl, rfl, rfl, trivial⟩ rfl rfl ?_
      simp only [↓PX, SX, SYX, EY, simprocAttr, TYX, UX, e5]
    · have e5 : rdE s k sh = 0 := by simp [rdE, h, hz]
      obtain ⟨h1, h2, h3⟩ := ptO_iff.1 h
      obtain ⟨n, rfl⟩ : ∃ n : Nat, k = n := ⟨k.toNat, by omega⟩
      have h00 := h
      have hp := pow_le9 (k := n) (by omega)
      have hs2 := shl_i (k := n) (by omega)
      have hpos := Nat.two_pow_pos n
      obtain ⟨N, hN⟩ : ∃ N, 2 ^ n = N := ⟨_, rfl⟩
      rw [hN] at hp hs2 hpos
      by_cases hln : l.length ≤ N
      · have d1 : decide ((N : Int) < (l.length : Int)) = false := by simp; omega
        have e7 : vaE s n sh l = 0 := by simp [vaE, h, hz, hN, hln]
        have e8 : vaL s n sh l = tab N (vaF s n sh l) := by simp [vaL, vaO, h, hz, hN, hln]
        rw [e7, e8, tab_len]
        refine contract_of (N := _) (vars := _) (c := bodyOf Try.f52) Try.func52 (body_eq rfl) rfl rfl (by rfl) mixed _ _ trivial 1000 ?_
        simp only [bodyOf, Try.f52, Option.getD_some, argA, argE, List.length_cons, List.length_nil, Nat.reduceAdd, Nat.reduceSub, List.replicate, List.cons_append, List.nil_append]
        simp only [↓PX, SX, SYX, EY, simprocAttr, TYX, UX]
        refine CallVC.intro (u_ready s n sh hs) ⟨rfl, rfl, rfl, trivial⟩ rfl rfl ?_
        simp only [↓PX, SX, SYX, EY, simprocAttr, TYX, UX, e5, hs2, d1]
        repeat (first | refine DrawVC.intro (by kernel_rfl) ?_ | refine And.intro (by omega) ?_ | exact trivial)
        refine CallVC.intro (u_Root s n) ⟨rfl, rfl, trivial⟩ rfl rfl ?_
        simp only [↓PX, SX, SYX, EY, simprocAttr, TYX, UX, hs2]
        repeat (first | refine DrawVC.intro (by kernel_rfl) ?_ | refine And.intro (by omega) ?_ | exact trivial)
        refine CallVC.intro (u_powers s 1 sh l.length (by decide) hs (by omega)) ⟨rfl, rfl, rfl, rfl, trivial⟩ rfl rfl ?_
        simp only [↓PX, SX, SYX, EY, simprocAttr, TYX, UX]
        refine loop_hav ?_
        simp only [↓PX, SX, SYX, EY, simprocAttr, TYX, UX]
        have hlG : ∀ j, (tab N (shG s sh l j)).length = N := fun _ => tab_len
        have hlp : (tab l.length (pw s 1 sh)).length = l.length := tab_len
        have e0 : List.replicate N 0 = tab N (shG s sh l 0) := by
          rw [tab_rep]; exact tab_congr fun j _ => by unfold shG; rw [if_neg (by omega)]
        have eN : tab N (shG s sh l l.length) = tab N (shF s sh l) := tab_congr fun j _ => rfl
        refine loop_go mixed (by trivial) (γ := Nat) (fun i => i ≤ l.length) (fun i => l.length - i) (fun i => [(44, iv i)]) (fun i => [(108, .row 25 4 N (LC eC (tab N (shG s sh l i))))]) 0 (by omega)
          (St.le_of id (by simp [-List.getD_eq_getElem?_getD, SYX, iv, Tle, AVle, A0le, Mem.get, e0]) (by simp [-List.getD_eq_getElem?_getD, SYX, Mle, Ele, Hle, Tle, AVle, A0le, Mem.get, e0]) (by simp [SYX]) (by simp [SYX])) ?_
        intro i hi
        simp only [↓PX, SX, SYX, EY, simprocAttr, TYX, UX]
        refine cond_split (fun h0 => ?_) (fun h0 => ?_)
        · have h0 : i < l.length := by simpa using h0
          have hli := getD_lt hl h0
          have hpi : i < (tab l.length (pw s 1 sh)).length := by rw [hlp]; exact h0
          have hld := eL_ld hpi
          rw [tab_at h0] at hld
          have hGi : i < (tab N (shG s sh l i)).length := by rw [hlG]; omega
          have e9 := eL_st (v := l.getD i 0 * pw s 1 sh i % md s) hGi
          have e10 : (tab N (shG s sh l i)).set i (l.getD i 0 * pw s 1 sh i % md s) = tab N (shG s sh l (i + 1)) := by
            rw [tab_set]
            refine tab_congr fun t _ => ?_
            unfold shG
            by_cases ht : t = i
            · subst ht; rw [if_pos rfl, if_pos (by omega)]
            · have : (t < i + 1) = (t < i) := by rw [eq_iff_iff]; omega
              simp [ht, this]
          rw [e10] at e9
          simp only [↓PX, SX, SYX, EY, simprocAttr, TYX, UX, hlp, hld, eL_ld h0]
          repeat (first | refine DrawVC.intro (by kernel_rfl) ?_ | refine And.intro (by omega) ?_ | exact trivial)
          refine CallVC.intro (u_Mul s _ _ hli (pw_w (by decide) i)) ⟨rfl, rfl, rfl, trivial⟩ rfl rfl ?_
          simp only [↓PX, SX, SYX, EY, simprocAttr, TYX, UX, e9, hlG, wS (j := i) (by omega)]
          repeat (first | refine DrawVC.intro (by kernel_rfl) ?_ | refine And.intro (by omega) ?_ | exact trivial)
          exact ⟨i + 1, by omega, by omega, (St.le_of id (by simp [-List.getD_eq_getElem?_getD, SYX, iv, Tle, AVle, A0le, Mem.get]) (by simp [-List.getD_eq_getElem?_getD, SYX, Mle, Ele, Hle, Tle, AVle, A0le, Mem.get]) (by simp [SYX]) (by simp [SYX]))⟩
        · have h0 : i = l.length := by
            have : l.length ≤ i := by simpa using h0
            omega
          subst h0
          rw [eN]
          simp only [↓PX, SX, SYX, EY, simprocAttr, TYX, UX]
          refine CallVC.inline (N := _) (vars := _) (c := bodyOf Try.f95) Try.func95 (body_eq rfl) rfl rfl (by rfl) mixed (by rfl) 1 (by rfl) ?_
          simp only [bodyOf, Try.f95, Option.getD_some, List.length_cons, List.length_nil, Nat.reduceAdd, Nat.reduceSub, List.replicate, List.cons_append, List.nil_append]
          simp only [↓PX, SX, SYX, EY, simprocAttr, TYX, UX]
          refine loop_hav ?_
          simp only [↓PX, SX, SYX, EY, simprocAttr, TYX, UX]
          have hlS : ∀ i, (tab N (swF n i (shF s sh l))).length = N := fun _ => tab_len
          refine loop_go mixed (by trivial) (γ := Nat) (fun i => i ≤ N) (fun i => N - i) (fun i => [(23, iv i)]) (fun i => [(108, .row 25 4 N (LC eC (tab N (swF n i (shF s sh l)))))]) 0 (by omega)
            (St.le_of id (by simp [-List.getD_eq_getElem?_getD, SYX, iv, Tle, AVle, A0le, Mem.get, swF_0]) (by simp [-List.getD_eq_getElem?_getD, SYX, Mle, Ele, Hle, Tle, AVle, A0le, Mem.get, swF_0]) (by simp [SYX]) (by simp [SYX])) ?_
          intro i hi
          simp only [↓PX, SX, SYX, EY, simprocAttr, TYX, UX]
          refine cond_split (fun h0 => ?_) (fun h0 => ?_)
          · have h0 : i < N := by simpa using h0
            simp only [↓PX, SX, SYX, EY, simprocAttr, TYX, UX]
            have wm : max (IntKind.i64.wrap ((n : Int) - 1)) 0 = ((n - 1 : Nat) : Int) := by rw [wI (by omega) (by omega)]; omega
            have w63 : IntKind.i64.wrap ((63 : Int) - ((n - 1 : Nat) : Int)) = ((63 - (n - 1) : Nat) : Int) := by rw [wI (by omega) (by omega)]; omega
            refine ExVC.intro _ (X_max rfl rfl) ?_
            rw [wm]
            simp only [↓PX, SX, SYX, EY, simprocAttr, TYX, UX, w63]
            repeat (first | refine DrawVC.intro (by kernel_rfl) ?_ | refine And.intro (by omega) ?_ | exact trivial)
            have hbr := br_go (k := n) (i := i) (by omega) (by omega)
            rw [hN] at hbr
            refine CallVC.intro (u_Reverse _) ⟨rfl, trivial⟩ rfl rfl ?_
            simp only [↓PX, SX, SYX, EY, simprocAttr, TYX, UX, hbr]
            obtain ⟨hb1, hb2⟩ := br_ok n (by omega) i (by omega)
            rw [hN] at hb1
            have hSi : i < (tab N (swF n i (shF s sh l))).length := by rw [hlS]; exact h0
            have hSj : br n i < (tab N (swF n i (shF s sh l))).length := by rw [hlS]; exact hb1
            have ldi := eL_ld hSi
            have ldj := eL_ld hSj
            rw [tab_at h0] at ldi
            rw [tab_at hb1] at ldj
            refine cond_split (fun h5 => ?_) (fun h5 => ?_)
            · have h5 : i < br n i := by
                have := of_decide_eq_true h5
                omega
              have st1 := eL_st (v := swF n i (shF s sh l) (br n i)) hSi
              have hl2 : ((tab N (swF n i (shF s sh l))).set i (swF n i (shF s sh l) (br n i))).length = N := by rw [List.length_set, hlS]
              have st2 := eL_st (l := (tab N (swF n i (shF s sh l))).set i (swF n i (shF s sh l) (br n i))) (j := br n i) (v := swF n i (shF s sh l) i) (by rw [hl2]; exact hb1)
              rw [swF_yes (by omega) hN h0 h5] at st2
              simp only [↓PX, SX, SYX, EY, simprocAttr, TYX, UX, hlS, ldi, ldj, st1, hl2, st2, wS (j := i) (by omega)]
              repeat (first | refine DrawVC.intro (by kernel_rfl) ?_ | refine And.intro (by omega) ?_ | exact trivial)
              exact ⟨i + 1, by omega, by omega, (St.le_of id (by simp [-List.getD_eq_getElem?_getD, SYX, iv, Tle, AVle, A0le, Mem.get]) (by simp [-List.getD_eq_getElem?_getD, SYX, Mle, Ele, Hle, Tle, AVle, A0le, Mem.get]) (by simp [SYX]) (by simp [SYX]))⟩
            · have h5 : br n i ≤ i := by
                have := of_decide_eq_false h5
                omega
              rw [swF_no (by omega) hN h0 h5]
              simp only [↓PX, SX, SYX, EY, simprocAttr, TYX, UX, wS (j := i) (by omega)]
              exact ⟨i + 1, by omega, by omega, (St.le_of id (by simp [-List.getD_eq_getElem?_getD, SYX, iv, Tle, AVle, A0le, Mem.get]) (by simp [-List.getD_eq_getElem?_getD, SYX, Mle, Ele, Hle, Tle, AVle, A0le, Mem.get]) (by simp [SYX]) (by simp [SYX]))⟩
          · have h0 : i = N := by
              have : N ≤ i := by simpa using h0
              omega
            rw [h0]
            simp only [↓PX, SX, SYX, EY, simprocAttr, TYX, UX]
            refine loop_hav ?_
            simp only [↓PX, SX, SYX, EY, simprocAttr, TYX, UX]
            have hlA : ∀ h, (tab N (stA s (rk s n) N (swF n N (shF s sh l)) h)).length = N := fun _ => tab_len
            refine loop_go mixed (by trivial) (γ := Nat) (fun h => h ≤ n) (fun h => n - h) (fun h => [(11, iv (2 ^ h))]) (fun h => [(108, .row 25 4 N (LC eC (tab N (stA s (rk s n) N (swF n N (shF s sh l)) h))))]) 0 (by omega)
              (St.le_of id (by simp [-List.getD_eq_getElem?_getD, SYX, iv, Tle, AVle, A0le, Mem.get, stA, Nat.pow_zero]) (by simp [-List.getD_eq_getElem?_getD, SYX, Mle, Ele, Hle, Tle, AVle, A0le, Mem.get, stA, Nat.pow_zero]) (by simp [SYX]) (by simp [SYX])) ?_
            intro h hh
            have hH := pow_le9 (k := h) (by omega)
            have hH0 := Nat.two_pow_pos h
            have hlt : h < n → 2 ^ h * 2 ≤ N := fun hx => by
              rw [← hN, ← Nat.pow_succ]; exact Nat.pow_le_pow_right (by decide) (by omega)
            have hsu : 2 ^ (h + 1) = 2 ^ h * 2 := Nat.pow_succ ..
            have hge : h = n → 2 ^ h = N := fun hx => by rw [hx, hN]
            obtain ⟨H, hHe⟩ : ∃ H, 2 ^ h = H := ⟨_, rfl⟩
            rw [hHe] at hH hH0 hlt hsu hge ⊢
            simp only [↓PX, SX, SYX, EY, simprocAttr, TYX, UX]
            refine cond_split (fun h5 => ?_) (fun h5 => ?_)
            · have h5 : H < N := by simpa using h5
              have h6 : h < n := by
                rcases Nat.lt_or_ge h n with h7 | h7
                · exact h7
                · have := hge (by omega); omega
              have h2H := hlt h6
              have w1 : IntKind.i64.wrap ((2 : Int) * (H : Int)) = ((2 * H : Nat) : Int) := by rw [wI (by omega) (by omega)]; rfl
              have hq : N / (2 * H) ≤ N := Nat.div_le_self _ _
              have wq : ∀ q : Nat, q ≤ N → IntKind.i64.wrap (q : Int) = q := fun q h => wI (by omega) (by omega)
              have w2 : IntKind.i64.wrap (Int.tdiv (N : Int) ((2 * H : Nat) : Int)) = ((N / (2 * H) : Nat) : Int) := by
                have : Int.tdiv (N : Int) ((2 * H : Nat) : Int) = ((N / (2 * H) : Nat) : Int) := rfl
                rw [this]
                exact wq _ hq
              have w3 : (((N / (2 * H) : Nat) : Int) % 18446744073709551616).toNat = N / (2 * H) := by
                generalize N / (2 * H) = q at hq ⊢
                omega
              have hqW : N / (2 * H) < W256 := Nat.lt_of_le_of_lt hq (by unfold W256; omega)
              have cx := u_Exp s (rk s n) (N / (2 * H)) (md_w2 (rk_w _ _)) hqW
              rw [← EN_small (a := N / (2 * H)) (Nat.lt_of_le_of_lt hq (by omega)), show rk s n ^ (N / (2 * H)) % md s = stW s (rk s n) N H from rfl] at cx
              simp only [↓PX, SX, SYX, EY, simprocAttr, TYX, UX, w1, w2]
              repeat (first | refine DrawVC.intro (by kernel_rfl) ?_ | refine And.intro (by omega) ?_ | exact trivial)
              simp only [↓PX, SX, SYX, EY, simprocAttr, TYX, UX, w3]
              refine CallVC.intro (cx) ⟨rfl, rfl, rfl, trivial⟩ rfl rfl ?_
              simp only [↓PX, SX, SYX, EY, simprocAttr, TYX, UX]
              refine CallVC.intro (u_powers s 1 (stW s (rk s n) N H) H (by decide) (md_w s _) (by omega)) ⟨rfl, rfl, rfl, rfl, trivial⟩ rfl rfl ?_
              simp only [↓PX, SX, SYX, EY, simprocAttr, TYX, UX]
              refine loop_hav ?_
              simp only [↓PX, SX, SYX, EY, simprocAttr, TYX, UX]
              obtain ⟨q, hNq⟩ : ∃ q, N = 2 * H * q := ⟨2 ^ (n - (h + 1)), by rw [← hHe, ← hN, ← Nat.pow_succ', ← Nat.pow_add]; congr 1; omega⟩
              obtain ⟨A, hA⟩ : ∃ A, A = stA s (rk s n) N (swF n N (shF s sh l)) h := ⟨_, rfl⟩
              obtain ⟨st, hst⟩ : ∃ st, st = stW s (rk s n) N H := ⟨_, rfl⟩
              have hnx : stA s (rk s n) N (swF n N (shF s sh l)) (h + 1) = stF s st H A := by
                rw [stA, hHe, ← hA, ← hst]
              rw [← hA, ← hst]
              have hAw : ∀ t, A t < W256 := fun t => by
                rw [hA]; exact stA_w (fun t => swF_w (fun t => shF_w t) t) h t
              have hlP : ∀ a i, (tab N (stP s st H a i A)).length = N := fun _ _ => tab_len
              have hP0 : stP s st H 0 0 A = A := by
                funext t; unfold stP; rw [if_neg (by omega)]
              refine loop_go mixed (by trivial) (γ := Nat) (fun b => b ≤ q) (fun b => q - b) (fun b => [(14, iv (2 * H * b))]) (fun b => [(108, .row 25 4 N (LC eC (tab N (stP s st H (2 * H * b) 0 A))))]) 0 (by omega)
                (St.le_of id (by simp [-List.getD_eq_getElem?_getD, SYX, iv, Tle, AVle, A0le, Mem.get, hP0, Nat.mul_zero]) (by simp [-List.getD_eq_getElem?_getD, SYX, Mle, Ele, Hle, Tle, AVle, A0le, Mem.get, hP0, Nat.mul_zero]) (by simp [SYX]) (by simp [SYX])) ?_
              intro b hb2
              simp only [↓PX, SX, SYX, EY, simprocAttr, TYX, UX]
              refine cond_split (fun h8 => ?_) (fun h8 => ?_)
              · have h8 : 2 * H * b < N := by have := of_decide_eq_true h8; omega
                have hbq : b < q := by
                  rcases Nat.lt_or_ge b q with h10 | h10
                  · exact h10
                  · have := Nat.mul_le_mul_left (2 * H) h10; omega
                have hB : 2 * H * b + 2 * H ≤ N := by
                  have := Nat.mul_le_mul_left (2 * H) (Nat.succ_le_of_lt hbq)
                  rw [Nat.succ_eq_add_one, Nat.mul_add, Nat.mul_one] at this; omega
                simp only [↓PX, SX, SYX, EY, simprocAttr, TYX, UX]
                refine loop_hav ?_
                simp only [↓PX, SX, SYX, EY, simprocAttr, TYX, UX]
                have hlt2 : (tab H (pw s 1 st)).length = H := tab_len
                refine loop_go mixed (by trivial) (γ := Nat) (fun i => i ≤ H) (fun i => H - i) (fun i => [(84, iv i)]) (fun i => [(108, .row 25 4 N (LC eC (tab N (stP s st H (2 * H * b) i A))))]) 0 (by omega)
                  (St.le_of id (by simp [-List.getD_eq_getElem?_getD, SYX, iv, Tle, AVle, A0le, Mem.get]) (by simp [-List.getD_eq_getElem?_getD, SYX, Mle, Ele, Hle, Tle, AVle, A0le, Mem.get]) (by simp [SYX]) (by simp [SYX])) ?_
                intro i hi
                simp only [↓PX, SX, SYX, EY, simprocAttr, TYX, UX]
                refine cond_split (fun h9 => ?_) (fun h9 => ?_)
                · have h9 : i < H := by simpa using h9
                  have wx : IntKind.i64.wrap (((2 * H * b : Nat) : Int) + (i : Int)) = ((2 * H * b + i : Nat) : Int) := by rw [wI (by omega) (by omega)]; rfl
                  have wy1 : IntKind.i64.wrap (((2 * H * b : Nat) : Int) + (H : Int)) = ((2 * H * b + H : Nat) : Int) := by rw [wI (by omega) (by omega)]; rfl
                  have wy : IntKind.i64.wrap (((2 * H * b + H : Nat) : Int) + (i : Int)) = ((2 * H * b + H + i : Nat) : Int) := by rw [wI (by omega) (by omega)]; rfl
                  have hpi : i < (tab H (pw s 1 st)).length := by rw [hlt2]; exact h9
                  have ldp := eL_ld hpi
                  rw [tab_at h9] at ldp
                  have hxl : 2 * H * b + i < (tab N (stP s st H (2 * H * b) i A)).length := by rw [hlP]; omega
                  have hyl : 2 * H * b + H + i < (tab N (stP s st H (2 * H * b) i A)).length := by rw [hlP]; omega
                  have ldx := eL_ld hxl
                  have ldy := eL_ld hyl
                  rw [tab_at (by omega), stP_x h9] at ldx
                  rw [tab_at (by omega), stP_y h9] at ldy
                  have stx := eL_st (v := (A (2 * H * b + i) + A (2 * H * b + H + i) * pw s 1 st i % md s) % md s) hxl
                  have hl3 : ((tab N (stP s st H (2 * H * b) i A)).set (2 * H * b + i) ((A (2 * H * b + i) + A (2 * H * b + H + i) * pw s 1 st i % md s) % md s)).length = N := by rw [List.length_set, hlP]
                  have sty := eL_st (l := (tab N (stP s st H (2 * H * b) i A)).set (2 * H * b + i) ((A (2 * H * b + i) + A (2 * H * b + H + i) * pw s 1 st i % md s) % md s)) (j := 2 * H * b + H + i) (v := sb (md s) (A (2 * H * b + i)) (A (2 * H * b + H + i) * pw s 1 st i % md s)) (by rw [hl3]; omega)
                  rw [stP_set h9] at sty
                  simp only [↓PX, SX, SYX, EY, simprocAttr, TYX, UX, hlP, hlt2, ldp, ldx, ldy, wx, wy1, wy]
                  repeat (first | refine DrawVC.intro (by kernel_rfl) ?_ | refine And.intro (by omega) ?_ | exact trivial)
                  refine CallVC.intro (u_Mul s _ _ (hAw _) (pw_w (by decide) i)) ⟨rfl, rfl, rfl, trivial⟩ rfl rfl ?_
                  simp only [↓PX, SX, SYX, EY, simprocAttr, TYX, UX]
                  repeat (first | refine DrawVC.intro (by kernel_rfl) ?_ | refine And.intro (by omega) ?_ | exact trivial)
                  refine CallVC.intro (u_Add s _ _ (hAw _) (md_w s _)) ⟨rfl, rfl, rfl, trivial⟩ rfl rfl ?_
                  simp only [↓PX, SX, SYX, EY, simprocAttr, TYX, UX]
                  have cs := u_Sub' s (A (2 * H * b + i)) (A (2 * H * b + H + i) * pw s 1 st i % md s) (hAw _) (md_w s _)
                  refine CallVC.intro (cs) ⟨rfl, rfl, rfl, trivial⟩ rfl rfl ?_
                  simp only [↓PX, SX, SYX, EY, simprocAttr, TYX, UX, hlP, hl3, stx, sty, wx, wy1, wy, wS (j := i) (by omega)]
                  repeat (first | refine DrawVC.intro (by kernel_rfl) ?_ | refine And.intro (by omega) ?_ | exact trivial)
                  exact ⟨i + 1, by omega, by omega, (St.le_of id (by simp [-List.getD_eq_getElem?_getD, SYX, iv, Tle, AVle, A0le, Mem.get]) (by simp [-List.getD_eq_getElem?_getD, SYX, Mle, Ele, Hle, Tle, AVle, A0le, Mem.get]) (by simp [SYX]) (by simp [SYX]))⟩
                · have h9 : i = H := by
                    have : H ≤ i := by simpa using h9
                    omega
                  have wn : IntKind.i64.wrap (((2 * H * b : Nat) : Int) + ((2 * H : Nat) : Int)) = ((2 * H * (b + 1) : Nat) : Int) := by
                    rw [wI (by omega) (by omega), Nat.mul_add, Nat.mul_one]; rfl
                  rw [h9, stP_end hH0]
                  simp only [↓PX, SX, SYX, EY, simprocAttr, TYX, UX, w1, wn]
                  exact ⟨b + 1, by omega, by omega, (St.le_of id (by simp [-List.getD_eq_getElem?_getD, SYX, iv, Tle, AVle, A0le, Mem.get]) (by simp [-List.getD_eq_getElem?_getD, SYX, Mle, Ele, Hle, Tle, AVle, A0le, Mem.get]) (by simp [SYX]) (by simp [SYX]))⟩
              · have hbq : b = q := by
                  have h10 := of_decide_eq_false h8
                  rcases Nat.lt_or_ge b q with h11 | h11
                  · have := Nat.mul_lt_mul_of_pos_left h11 (show 0 < 2 * H by omega); omega
                  · omega
                have wn : IntKind.i64.wrap ((H : Int) * 2) = ((2 ^ (h + 1) : Nat) : Int) := by
                  rw [wI (by omega) (by omega), hsu]; rfl
                rw [hbq, stP_all hH0 hNq, ← hnx]
                simp only [↓PX, SX, SYX, EY, simprocAttr, TYX, UX, wn]
                exact ⟨h + 1, by omega, by omega, (St.le_of id (by simp [-List.getD_eq_getElem?_getD, SYX, iv, Tle, AVle, A0le, Mem.get]) (by simp [-List.getD_eq_getElem?_getD, SYX, Mle, Ele, Hle, Tle, AVle, A0le, Mem.get]) (by simp [SYX]) (by simp [SYX]))⟩
            · have h7 : h = n := by
                rcases Nat.lt_or_ge h n with h7 | h7
                · have := of_decide_eq_false h5
                  have := hlt h7
                  omega
                · omega
              have hfin : tab N (stA s (rk s n) N (swF n N (shF s sh l)) n) = tab N (vaF s n sh l) := by
                subst hN
                exact tab_congr fun t ht => tr_values h00 hln ht
              rw [h7, hfin]
              simp only [↓PX, SX, SYX, EY, simprocAttr, TYX, UX]
      · have d1 : decide ((N : Int) < (l.length : Int)) = true := by simp; omega
        have e7 : vaE s n sh l = 50 := by simp [vaE, h, hz, hN, hln]
        have e8 : vaL s n sh l = [] := by simp [vaL, vaO, hN, hln]
        rw [e7, e8]
        refine contract_of (N := _) (vars := _) (c := bodyOf Try.f52) Try.func52 (body_eq rfl) rfl rfl (by rfl) mixed _ _ trivial 1000 ?_
        simp only [bodyOf, Try.f52, Option.getD_some, argA, argE, List.length_cons, List.length_nil, Nat.reduceAdd, Nat.reduceSub, List.replicate, List.cons_append, List.nil_append]
        simp only [↓PX, SX, SYX, EY, simprocAttr, TYX, UX]
        refine CallVC.intro (u_ready s n sh hs) ⟨rfl, rfl, rfl, trivial⟩ rfl rfl ?_
        simp only [↓PX, SX, SYX, EY, simprocAttr, TYX, UX, e5, hs2, d1]
        omega
end Go.Sx
