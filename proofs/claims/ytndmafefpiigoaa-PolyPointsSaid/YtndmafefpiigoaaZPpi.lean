/-
  Through of the reference. No conditions.
-/
import Derived.Test.YtndmafefpiigoaaZPph
namespace Go.Sx
open Go.Proofs Go.Num
-- SY
-- TY: TYX, UX
set_option maxRecDepth 100000
set_option linter.unusedSimpArgs false
set_option pp.deepTerms true
set_option pp.maxSteps 100000
theorem v_ThroughM (s : Int) (xs ys : List Nat) (hk : kn s = true) (h1 : xs.length = ys.length) (h2 : xs.length ≤ 64) (hx : ∀ y ∈ xs, y < W256) (hy : ∀ y ∈ ys, y < W256) (hl : xs.length * 32 ≤ 140737488355328) (hl2 : ys.length * 32 ≤ 140737488355328) :
    Contract Try.prog 43 [.val (.int .i64 s), .sl xs.length 4 (LC eC xs), .sl ys.length 4 (LC eC ys)] [.part (thL s xs ys).length 4 (LC eC (thL s xs ys)), .val (.int .i64 (thE s xs ys))] := by
  have P := pr_of hk
  have d1 : ((xs.length : Int) != (ys.length : Int)) = false := by simp [h1]
  have d2 : decide ((64 : Int) < (xs.length : Int)) = false := by simp; omega
  refine contract_of (N := _) (vars := _) (c := bodyOf Try.f43) Try.func43 (body_eq rfl) rfl rfl (by rfl) mixed _ _ trivial 1000 ?_
  simp only [bodyOf, Try.f43, Option.getD_some, argA, argE, List.length_cons, List.length_nil, Nat.reduceAdd, Nat.reduceSub, List.replicate, List.cons_append, List.nil_append]
  simp only [↓PX, SX, SYX, EY, simprocAttr, TYX, UX]
  refine CallVC.intro (v_known s) ⟨rfl, trivial⟩ rfl rfl ?_
  simp only [↓PX, SX, SYX, EY, simprocAttr, TYX, UX, hk, d1, d2]
  refine loop_hav ?_
  simp only [↓PX, SX, SYX, EY, simprocAttr, TYX, UX]
  refine loop_go mixed (by trivial) (γ := Nat) (fun i => i ≤ xs.length ∧ ∀ j, j < i → ∀ k, k < xs.length → k ≠ j → sb (md s) (xs.getD j 0) (xs.getD k 0) ≠ 0) (fun i => xs.length - i) (fun i => [(10, iv i), (26, .o .any), (8, match i with | 0 => .o (.r 55 0) | j + 1 => .o (.s 55 0 (rF s xs ys (j + 1)).length))]) (fun i => [(55, match i with | 0 => .row 25 4 0 [] | j + 1 => .box (LC eC (rF s xs ys (j + 1))))]) 0 ⟨by omega, fun j hj => absurd hj (by omega)⟩
    (St.le_of id (by simp [-List.getD_eq_getElem?_getD, SYX, iv, Tle, AVle, A0le, Mem.get, eL_nil]) (by simp [-List.getD_eq_getElem?_getD, SYX, Mle, Ele, Hle, Tle, AVle, A0le, Mem.get, eL_nil]) (by simp [SYX]) (by simp [SYX])) ?_
  intro i hi
  cases i with
  | zero =>
    have hi0 := hi.1
    simp only [↓PX, SX, SYX, EY, simprocAttr, TYX, UX]
    refine cond_split (fun h3 => ?_) (fun h3 => ?_)
    · have h3 : 0 < xs.length := by
        have := of_decide_eq_true h3
        omega
      have hxi := getD_lt hx h3
      have e0 : Value.agg (List.take 4 (LC eC xs)).toArray = EN (xs.getD 0 0) := by simpa using eL_ld (j := 0) h3
      have f0 : Value.agg (List.take 4 (LC eC ys)).toArray = EN (ys.getD 0 0) := by simpa using eL_ld (l := ys) (j := 0) (by omega)
      simp only [↓PX, SX, SYX, EY, simprocAttr, TYX, UX]
      refine loop_hav ?_
      simp only [↓PX, SX, SYX, EY, simprocAttr, TYX, UX]
      refine loop_go mixed (by trivial) (γ := Nat × Bool) (fun p => p.1 ≤ xs.length ∧ (p.2 = false → rN s xs (0) p.1 = [1]) ∧ ∀ k, k < p.1 → k ≠ (0) → sb (md s) (xs.getD (0) 0) (xs.getD k 0) ≠ 0) (fun p => xs.length - p.1) (fun p => [(13, iv p.1), (35, .o .any), (11, match p.2 with | false => .o (.r 99 1) | true => .o (.s 99 0 (rN s xs (0) p.1).length))]) (fun p => [(99, match p.2 with | false => .row 25 4 1 (LC eC [1]) | true => .box (LC eC (rN s xs (0) p.1))), (111, .box (eC (rD s xs (0) p.1)))]) (0, false) ⟨by omega, fun _ => rfl, fun j hj => absurd hj (by omega)⟩
        (St.le_of id (by simp [-List.getD_eq_getElem?_getD, SYX, iv, Tle, AVle, A0le, Mem.get, LC1, rD, eC]) (by simp [-List.getD_eq_getElem?_getD, SYX, Mle, Ele, Hle, Tle, AVle, A0le, Mem.get, LC1, rD, eC]) (by simp [SYX]) (by simp [SYX])) ?_
      rintro ⟨j, made⟩ hj
      cases made with
      | false =>
        have hj0 := hj.1
        simp only [↓PX, SX, SYX, EY, simprocAttr, TYX, UX]
        refine cond_split (fun h4 => ?_) (fun h4 => ?_)
        · have h4 : j < xs.length := by simpa using h4
          have hxj := getD_lt hx h4
          by_cases hji : j = (0)
          · have d5 : ((j : Int) == 0) = true := by simp [hji]
            have eN : rN s xs (0) (j + 1) = rN s xs (0) j := by rw [rN, if_pos hji]
            have eD : rD s xs (0) (j + 1) = rD s xs (0) j := by rw [rD, if_pos hji]
            simp only [↓PX, SX, SYX, EY, simprocAttr, TYX, UX, d5, wS (j := j) (by omega)]
            exact ⟨(j + 1, false), ⟨by omega, fun hm => by (rw [eN]; exact hj.2.1 rfl), fun k hk hne => hj.2.2 k (by omega) hne⟩, by show xs.length - (j + 1) < xs.length - j; omega, (St.le_of id (by simp [-List.getD_eq_getElem?_getD, SYX, iv, Tle, AVle, A0le, Mem.get, eN, eD]) (by simp [-List.getD_eq_getElem?_getD, SYX, Mle, Ele, Hle, Tle, AVle, A0le, Mem.get, eN, eD]) (by simp [SYX]) (by simp [SYX]))⟩
          · have d5 : ((j : Int) == 0) = false := by simp; omega
            have eN : rN s xs (0) (j + 1) = tp (md s) (pMul (rN s xs (0) j) (fac s (xs.getD j 0))) := by rw [rN, if_neg hji]
            have eD : rD s xs (0) (j + 1) = rD s xs (0) j * sb (md s) (xs.getD (0) 0) (xs.getD j 0) % md s := by rw [rD, if_neg hji]
            have e6 : eqN (sb (md s) (xs.getD (0) 0) (xs.getD j 0)) 0 = (sb (md s) (xs.getD (0) 0) (xs.getD j 0) == 0) := eqN_eq (sb_w s _ _) (by decide)
            have hln := rN_len P xs (0) j
            have cm := v_Times s (rN s xs (0) j) (fac s (xs.getD j 0)) (rN_nrm P xs (0) j).w (fac_w s _) (by rw [hln, fac_len]; omega)
            rw [← eN] at cm
            have cd := v_Mul s (rD s xs (0) j) (sb (md s) (xs.getD (0) 0) (xs.getD j 0)) (md_w2 (rD_lt P xs (0) j)) (sb_w s _ _)
            rw [← eD] at cd
            have hm1 : rN s xs (0) j = [1] := hj.2.1 rfl
            simp only [↓PX, SX, SYX, EY, simprocAttr, TYX, UX, d5, e0, eL_ld h4]
            repeat (first | refine DrawVC.intro (by kernel_rfl) ?_ | refine And.intro (by omega) ?_ | exact trivial)
            refine CallVC.intro (v_Sub' s _ _ hxi hxj) ⟨rfl, rfl, rfl, trivial⟩ rfl rfl ?_
            simp only [↓PX, SX, SYX, EY, simprocAttr, TYX, UX, e6]
            repeat (first | refine DrawVC.intro (by kernel_rfl) ?_ | refine And.intro (by omega) ?_ | exact trivial)
            by_cases h0 : sb (md s) (xs.getD (0) 0) (xs.getD j 0) = 0
            · have e7 : (sb (md s) (xs.getD (0) 0) (xs.getD j 0) == 0) = true := beq_iff_eq.2 h0
              have hth : thOK s xs = false := by
                rw [← ok_eq P]
                cases hh : rOK s xs with
                | false => rfl
                | true => exact absurd h0 (rOK_iff.1 hh (0) h3 j h4 hji)
              have e1 : thL s xs ys = [] := by simp [thL, hth]
              have e2 : thE s xs ys = 10 := by simp [thE, hk, h1, show ys.length ≤ 64 by omega, hth]
              rw [e1, e2]
              simp only [↓PX, SX, SYX, EY, simprocAttr, TYX, UX, e7]
            · have e7 : (sb (md s) (xs.getD (0) 0) (xs.getD j 0) == 0) = false := beq_eq_false_iff_ne.2 h0
              simp only [↓PX, SX, SYX, EY, simprocAttr, TYX, UX, e7, eL_ld h4]
              repeat (first | refine DrawVC.intro (by kernel_rfl) ?_ | refine And.intro (by omega) ?_ | exact trivial)
              refine CallVC.intro (v_Neg s _ hxj) ⟨rfl, rfl, trivial⟩ rfl rfl ?_
              simp only [↓PX, SX, SYX, EY, simprocAttr, TYX, UX]
              refine CallVC.intro (cm) ⟨rfl, (by simp only [argMatch, SX, SYX, EY, simprocAttr, and_self, List.length_append, List.length_map, List.length_set, TYX, UX, LC1, fac_len, fac_LC, hm1]), (by simp only [argMatch, SX, SYX, EY, simprocAttr, and_self, List.length_append, List.length_map, List.length_set, TYX, UX, LC1, fac_len, fac_LC, hm1]), trivial⟩ rfl rfl ?_
              simp only [↓PX, SX, SYX, EY, simprocAttr, TYX, UX, LC1, fac_len, fac_LC, hm1]
              refine CallVC.intro (cd) ⟨rfl, rfl, rfl, trivial⟩ rfl rfl ?_
              simp only [↓PX, SX, SYX, EY, simprocAttr, TYX, UX, wS (j := j) (by omega)]
              refine ⟨(j + 1, true), ⟨by omega, fun hm => by (cases hm), fun k hk hne => ?_⟩, by show xs.length - (j + 1) < xs.length - j; omega, ?_⟩
              · by_cases hkj : k = j
                · rw [hkj]; exact h0
                · exact hj.2.2 k (by omega) hne
              · exact (St.le_of (ren [(99, 251)]) (by simp [-List.getD_eq_getElem?_getD, SYX, iv, ren, Tle, AVle, A0le, Mem.get, Nat.add_assoc]) (by simp [-List.getD_eq_getElem?_getD, SYX, ren, Mle, Ele, Mem.get, Nat.add_assoc]) (by simp [SYX, ren]) (by simp [SYX]))
        · have h4 : j = xs.length := by
            have := of_decide_eq_false h4
            have := hj.1
            omega
          subst h4
          have hln := rN_len P xs (0) xs.length
          rw [if_pos h3] at hln
          have hyi := getD_lt hy (show (0) < ys.length by omega)
          have cb := v_By s (ys.getD (0) 0) (rD s xs (0) xs.length) hyi (md_w2 (rD_lt P xs (0) _))
          have c6 := v_PScale s (rN s xs (0) xs.length) (ys.getD (0) 0 * inv s (rD s xs (0) xs.length) % md s) (rN_nrm P xs (0) _).w (md_w s _) (by omega)
          have hfl := rF_len P xs ys (0) (by omega)
          have l1 := tp_len (md s) (pScale (rN s xs (0) xs.length) (ys.getD (0) 0 * inv s (rD s xs (0) xs.length) % md s))
          rw [pScale_len] at l1
          have c7 := v_PAdd s (rF s xs ys (0)) (tp (md s) (pScale (rN s xs (0) xs.length) (ys.getD (0) 0 * inv s (rD s xs (0) xs.length) % md s))) (rF_nrm xs ys (0)).w (tpW s _) (by omega) (by omega)
          rw [show tp (md s) (pAdd (rF s xs ys (0)) (tp (md s) (pScale (rN s xs (0) xs.length) (ys.getD (0) 0 * inv s (rD s xs (0) xs.length) % md s)))) = rF s xs ys (0 + 1) from rfl] at c7
          have hm1 : rN s xs (0) xs.length = [1] := hj.2.1 rfl
          simp only [↓PX, SX, SYX, EY, simprocAttr, TYX, UX, f0]
          repeat (first | refine DrawVC.intro (by kernel_rfl) ?_ | refine And.intro (by omega) ?_ | exact trivial)
          refine CallVC.intro (cb) ⟨rfl, rfl, rfl, trivial⟩ rfl rfl ?_
          simp only [↓PX, SX, SYX, EY, simprocAttr, TYX, UX]
          refine CallVC.intro (c6) ⟨rfl, (by simp only [argMatch, SX, SYX, EY, simprocAttr, and_self, List.length_append, List.length_map, List.length_set, TYX, UX, hm1]), rfl, trivial⟩ rfl rfl ?_
          simp only [↓PX, SX, SYX, EY, simprocAttr, TYX, UX, hm1]
          refine CallVC.intro ((show Contract Try.prog 27 [.val (.int .i64 s), .sl 0 4 [], .sl (tp (md s) (pScale (rN s xs 0 xs.length) (ys.getD 0 0 * inv s (rD s xs 0 xs.length) % md s))).length 4 (LC eC (tp (md s) (pScale (rN s xs 0 xs.length) (ys.getD 0 0 * inv s (rD s xs 0 xs.length) % md s))))] [.part (rF s xs ys (0 + 1)).length 4 (LC eC (rF s xs ys (0 + 1)))] from c7)) ⟨rfl, (by simp only [argMatch, SX, SYX, EY, simprocAttr, and_self, List.length_append, List.length_map, List.length_set, TYX, UX, hm1]), (by simp only [argMatch, SX, SYX, EY, simprocAttr, and_self, List.length_append, List.length_map, List.length_set, TYX, UX, hm1]), trivial⟩ rfl rfl ?_
          simp only [↓PX, SX, SYX, EY, simprocAttr, TYX, UX, hm1]
          refine ⟨0 + 1, ⟨by omega, fun k hk l hl hne => ?_⟩, by omega, ?_⟩
          · by_cases hki : k = (0)
            · rw [hki] at hne ⊢; exact hj.2.2 l hl hne
            · exact hi.2 k (by omega) l hl hne
          · exact (St.le_of (ren [(55, 187)]) (by simp [-List.getD_eq_getElem?_getD, SYX, iv, ren, Tle, AVle, A0le, Mem.get, Nat.zero_add]) (by simp [-List.getD_eq_getElem?_getD, SYX, ren, Mle, Ele, Mem.get, Nat.zero_add]) (by simp [SYX, ren]) (by simp [SYX]))
      | true =>
        have hj0 := hj.1
        simp only [↓PX, SX, SYX, EY, simprocAttr, TYX, UX]
        refine cond_split (fun h4 => ?_) (fun h4 => ?_)
        · have h4 : j < xs.length := by simpa using h4
          have hxj := getD_lt hx h4
          by_cases hji : j = (0)
          · have d5 : ((j : Int) == 0) = true := by simp [hji]
            have eN : rN s xs (0) (j + 1) = rN s xs (0) j := by rw [rN, if_pos hji]
            have eD : rD s xs (0) (j + 1) = rD s xs (0) j := by rw [rD, if_pos hji]
            simp only [↓PX, SX, SYX, EY, simprocAttr, TYX, UX, d5, wS (j := j) (by omega)]
            exact ⟨(j + 1, true), ⟨by omega, fun hm => by (cases hm), fun k hk hne => hj.2.2 k (by omega) hne⟩, by show xs.length - (j + 1) < xs.length - j; omega, (St.le_of id (by simp [-List.getD_eq_getElem?_getD, SYX, iv, Tle, AVle, A0le, Mem.get, eN, eD]) (by simp [-List.getD_eq_getElem?_getD, SYX, Mle, Ele, Hle, Tle, AVle, A0le, Mem.get, eN, eD]) (by simp [SYX]) (by simp [SYX]))⟩
          · have d5 : ((j : Int) == 0) = false := by simp; omega
            have eN : rN s xs (0) (j + 1) = tp (md s) (pMul (rN s xs (0) j) (fac s (xs.getD j 0))) := by rw [rN, if_neg hji]
            have eD : rD s xs (0) (j + 1) = rD s xs (0) j * sb (md s) (xs.getD (0) 0) (xs.getD j 0) % md s := by rw [rD, if_neg hji]
            have e6 : eqN (sb (md s) (xs.getD (0) 0) (xs.getD j 0)) 0 = (sb (md s) (xs.getD (0) 0) (xs.getD j 0) == 0) := eqN_eq (sb_w s _ _) (by decide)
            have hln := rN_len P xs (0) j
            have cm := v_Times s (rN s xs (0) j) (fac s (xs.getD j 0)) (rN_nrm P xs (0) j).w (fac_w s _) (by rw [hln, fac_len]; omega)
            rw [← eN] at cm
            have cd := v_Mul s (rD s xs (0) j) (sb (md s) (xs.getD (0) 0) (xs.getD j 0)) (md_w2 (rD_lt P xs (0) j)) (sb_w s _ _)
            rw [← eD] at cd
            simp only [↓PX, SX, SYX, EY, simprocAttr, TYX, UX, d5, e0, eL_ld h4]
            repeat (first | refine DrawVC.intro (by kernel_rfl) ?_ | refine And.intro (by omega) ?_ | exact trivial)
            refine CallVC.intro (v_Sub' s _ _ hxi hxj) ⟨rfl, rfl, rfl, trivial⟩ rfl rfl ?_
            simp only [↓PX, SX, SYX, EY, simprocAttr, TYX, UX, e6]
            repeat (first | refine DrawVC.intro (by kernel_rfl) ?_ | refine And.intro (by omega) ?_ | exact trivial)
            by_cases h0 : sb (md s) (xs.getD (0) 0) (xs.getD j 0) = 0
            · have e7 : (sb (md s) (xs.getD (0) 0) (xs.getD j 0) == 0) = true := beq_iff_eq.2 h0
              have hth : thOK s xs = false := by
                rw [← ok_eq P]
                cases hh : rOK s xs with
                | false => rfl
                | true => exact absurd h0 (rOK_iff.1 hh (0) h3 j h4 hji)
              have e1 : thL s xs ys = [] := by simp [thL, hth]
              have e2 : thE s xs ys = 10 := by simp [thE, hk, h1, show ys.length ≤ 64 by omega, hth]
              rw [e1, e2]
              simp only [↓PX, SX, SYX, EY, simprocAttr, TYX, UX, e7]
            · have e7 : (sb (md s) (xs.getD (0) 0) (xs.getD j 0) == 0) = false := beq_eq_false_iff_ne.2 h0
              simp only [↓PX, SX, SYX, EY, simprocAttr, TYX, UX, e7, eL_ld h4]
              repeat (first | refine DrawVC.intro (by kernel_rfl) ?_ | refine And.intro (by omega) ?_ | exact trivial)
              refine CallVC.intro (v_Neg s _ hxj) ⟨rfl, rfl, trivial⟩ rfl rfl ?_
              simp only [↓PX, SX, SYX, EY, simprocAttr, TYX, UX]
              refine CallVC.intro (cm) ⟨rfl, (by simp only [argMatch, SX, SYX, EY, simprocAttr, and_self, List.length_append, List.length_map, List.length_set, TYX, UX, LC1, fac_len, fac_LC]), (by simp only [argMatch, SX, SYX, EY, simprocAttr, and_self, List.length_append, List.length_map, List.length_set, TYX, UX, LC1, fac_len, fac_LC]), trivial⟩ rfl rfl ?_
              simp only [↓PX, SX, SYX, EY, simprocAttr, TYX, UX, LC1, fac_len, fac_LC]
              refine CallVC.intro (cd) ⟨rfl, rfl, rfl, trivial⟩ rfl rfl ?_
              simp only [↓PX, SX, SYX, EY, simprocAttr, TYX, UX, wS (j := j) (by omega)]
              refine ⟨(j + 1, true), ⟨by omega, fun hm => by (cases hm), fun k hk hne => ?_⟩, by show xs.length - (j + 1) < xs.length - j; omega, ?_⟩
              · by_cases hkj : k = j
                · rw [hkj]; exact h0
                · exact hj.2.2 k (by omega) hne
              · exact (St.le_of (ren [(99, 251)]) (by simp [-List.getD_eq_getElem?_getD, SYX, iv, ren, Tle, AVle, A0le, Mem.get, Nat.add_assoc]) (by simp [-List.getD_eq_getElem?_getD, SYX, ren, Mle, Ele, Mem.get, Nat.add_assoc]) (by simp [SYX, ren]) (by simp [SYX]))
        · have h4 : j = xs.length := by
            have := of_decide_eq_false h4
            have := hj.1
            omega
          subst h4
          have hln := rN_len P xs (0) xs.length
          rw [if_pos h3] at hln
          have hyi := getD_lt hy (show (0) < ys.length by omega)
          have cb := v_By s (ys.getD (0) 0) (rD s xs (0) xs.length) hyi (md_w2 (rD_lt P xs (0) _))
          have c6 := v_PScale s (rN s xs (0) xs.length) (ys.getD (0) 0 * inv s (rD s xs (0) xs.length) % md s) (rN_nrm P xs (0) _).w (md_w s _) (by omega)
          have hfl := rF_len P xs ys (0) (by omega)
          have l1 := tp_len (md s) (pScale (rN s xs (0) xs.length) (ys.getD (0) 0 * inv s (rD s xs (0) xs.length) % md s))
          rw [pScale_len] at l1
          have c7 := v_PAdd s (rF s xs ys (0)) (tp (md s) (pScale (rN s xs (0) xs.length) (ys.getD (0) 0 * inv s (rD s xs (0) xs.length) % md s))) (rF_nrm xs ys (0)).w (tpW s _) (by omega) (by omega)
          rw [show tp (md s) (pAdd (rF s xs ys (0)) (tp (md s) (pScale (rN s xs (0) xs.length) (ys.getD (0) 0 * inv s (rD s xs (0) xs.length) % md s)))) = rF s xs ys (0 + 1) from rfl] at c7
          simp only [↓PX, SX, SYX, EY, simprocAttr, TYX, UX, f0]
          repeat (first | refine DrawVC.intro (by kernel_rfl) ?_ | refine And.intro (by omega) ?_ | exact trivial)
          refine CallVC.intro (cb) ⟨rfl, rfl, rfl, trivial⟩ rfl rfl ?_
          simp only [↓PX, SX, SYX, EY, simprocAttr, TYX, UX]
          refine CallVC.intro (c6) ⟨rfl, (by simp only [argMatch, SX, SYX, EY, simprocAttr, and_self, List.length_append, List.length_map, List.length_set, TYX, UX, Nat.le_refl]), rfl, trivial⟩ rfl rfl ?_
          simp only [↓PX, SX, SYX, EY, simprocAttr, TYX, UX, Nat.le_refl]
          refine CallVC.intro ((show Contract Try.prog 27 [.val (.int .i64 s), .sl 0 4 [], .sl (tp (md s) (pScale (rN s xs 0 xs.length) (ys.getD 0 0 * inv s (rD s xs 0 xs.length) % md s))).length 4 (LC eC (tp (md s) (pScale (rN s xs 0 xs.length) (ys.getD 0 0 * inv s (rD s xs 0 xs.length) % md s))))] [.part (rF s xs ys (0 + 1)).length 4 (LC eC (rF s xs ys (0 + 1)))] from c7)) ⟨rfl, (by simp only [argMatch, SX, SYX, EY, simprocAttr, and_self, List.length_append, List.length_map, List.length_set, TYX, UX, Nat.le_refl]), (by simp only [argMatch, SX, SYX, EY, simprocAttr, and_self, List.length_append, List.length_map, List.length_set, TYX, UX, Nat.le_refl]), trivial⟩ rfl rfl ?_
          simp only [↓PX, SX, SYX, EY, simprocAttr, TYX, UX, Nat.le_refl]
          refine ⟨0 + 1, ⟨by omega, fun k hk l hl hne => ?_⟩, by omega, ?_⟩
          · by_cases hki : k = (0)
            · rw [hki] at hne ⊢; exact hj.2.2 l hl hne
            · exact hi.2 k (by omega) l hl hne
          · exact (St.le_of (ren [(55, 187)]) (by simp [-List.getD_eq_getElem?_getD, SYX, iv, ren, Tle, AVle, A0le, Mem.get, Nat.zero_add]) (by simp [-List.getD_eq_getElem?_getD, SYX, ren, Mle, Ele, Mem.get, Nat.zero_add]) (by simp [SYX, ren]) (by simp [SYX]))
    · have h3 : 0 = xs.length := by
        have := of_decide_eq_false h3
        omega
      have hok : rOK s xs = true := rOK_iff.2 fun j hj k hk hne => hi.2 j (by omega) k hk hne
      have e1 : thL s xs ys = rF s xs ys (0) := by
        unfold thL
        rw [hk, ← ok_eq P, hok, h3, rF_eq P hok]
        simp; omega
      have e2 : thE s xs ys = 0 := by simp [thE, hk, h1, show ys.length ≤ 64 by omega, ← ok_eq P, hok]
      rw [e1, e2]
      simp only [↓PX, SX, SYX, EY, simprocAttr, TYX, UX]
      exact ⟨_, rfl⟩
  | succ i =>
    have hi0 := hi.1
    simp only [↓PX, SX, SYX, EY, simprocAttr, TYX, UX]
    refine cond_split (fun h3 => ?_) (fun h3 => ?_)
    · have h3 : i + 1 < xs.length := by
        have := of_decide_eq_true h3
        omega
      have hxi := getD_lt hx h3
      simp only [↓PX, SX, SYX, EY, simprocAttr, TYX, UX]
      refine loop_hav ?_
      simp only [↓PX, SX, SYX, EY, simprocAttr, TYX, UX]
      refine loop_go mixed (by trivial) (γ := Nat × Bool) (fun p => p.1 ≤ xs.length ∧ (p.2 = false → rN s xs (i + 1) p.1 = [1]) ∧ ∀ k, k < p.1 → k ≠ (i + 1) → sb (md s) (xs.getD (i + 1) 0) (xs.getD k 0) ≠ 0) (fun p => xs.length - p.1) (fun p => [(13, iv p.1), (35, .o .any), (11, match p.2 with | false => .o (.r 99 1) | true => .o (.s 99 0 (rN s xs (i + 1) p.1).length))]) (fun p => [(99, match p.2 with | false => .row 25 4 1 (LC eC [1]) | true => .box (LC eC (rN s xs (i + 1) p.1))), (111, .box (eC (rD s xs (i + 1) p.1)))]) (0, false) ⟨by omega, fun _ => rfl, fun j hj => absurd hj (by omega)⟩
        (St.le_of id (by simp [-List.getD_eq_getElem?_getD, SYX, iv, Tle, AVle, A0le, Mem.get, LC1, rD, eC]) (by simp [-List.getD_eq_getElem?_getD, SYX, Mle, Ele, Hle, Tle, AVle, A0le, Mem.get, LC1, rD, eC]) (by simp [SYX]) (by simp [SYX])) ?_
      rintro ⟨j, made⟩ hj
      cases made with
      | false =>
        have hj0 := hj.1
        simp only [↓PX, SX, SYX, EY, simprocAttr, TYX, UX]
        refine cond_split (fun h4 => ?_) (fun h4 => ?_)
        · have h4 : j < xs.length := by simpa using h4
          have hxj := getD_lt hx h4
          by_cases hji : j = (i + 1)
          · have d5 : ((j : Int) == ((i + 1 : Nat) : Int)) = true := by simp [hji]
            have eN : rN s xs (i + 1) (j + 1) = rN s xs (i + 1) j := by rw [rN, if_pos hji]
            have eD : rD s xs (i + 1) (j + 1) = rD s xs (i + 1) j := by rw [rD, if_pos hji]
            simp only [↓PX, SX, SYX, EY, simprocAttr, TYX, UX, d5, wS (j := j) (by omega)]
            exact ⟨(j + 1, false), ⟨by omega, fun hm => by (rw [eN]; exact hj.2.1 rfl), fun k hk hne => hj.2.2 k (by omega) hne⟩, by show xs.length - (j + 1) < xs.length - j; omega, (St.le_of id (by simp [-List.getD_eq_getElem?_getD, SYX, iv, Tle, AVle, A0le, Mem.get, eN, eD]) (by simp [-List.getD_eq_getElem?_getD, SYX, Mle, Ele, Hle, Tle, AVle, A0le, Mem.get, eN, eD]) (by simp [SYX]) (by simp [SYX]))⟩
          · have d5 : ((j : Int) == ((i + 1 : Nat) : Int)) = false := by simp; omega
            have eN : rN s xs (i + 1) (j + 1) = tp (md s) (pMul (rN s xs (i + 1) j) (fac s (xs.getD j 0))) := by rw [rN, if_neg hji]
            have eD : rD s xs (i + 1) (j + 1) = rD s xs (i + 1) j * sb (md s) (xs.getD (i + 1) 0) (xs.getD j 0) % md s := by rw [rD, if_neg hji]
            have e6 : eqN (sb (md s) (xs.getD (i + 1) 0) (xs.getD j 0)) 0 = (sb (md s) (xs.getD (i + 1) 0) (xs.getD j 0) == 0) := eqN_eq (sb_w s _ _) (by decide)
            have hln := rN_len P xs (i + 1) j
            have cm := v_Times s (rN s xs (i + 1) j) (fac s (xs.getD j 0)) (rN_nrm P xs (i + 1) j).w (fac_w s _) (by rw [hln, fac_len]; omega)
            rw [← eN] at cm
            have cd := v_Mul s (rD s xs (i + 1) j) (sb (md s) (xs.getD (i + 1) 0) (xs.getD j 0)) (md_w2 (rD_lt P xs (i + 1) j)) (sb_w s _ _)
            rw [← eD] at cd
            have hm1 : rN s xs (i + 1) j = [1] := hj.2.1 rfl
            simp only [↓PX, SX, SYX, EY, simprocAttr, TYX, UX, d5, eL_ld h3, eL_ld h4]
            repeat (first | refine DrawVC.intro (by kernel_rfl) ?_ | refine And.intro (by omega) ?_ | exact trivial)
            refine CallVC.intro (v_Sub' s _ _ hxi hxj) ⟨rfl, rfl, rfl, trivial⟩ rfl rfl ?_
            simp only [↓PX, SX, SYX, EY, simprocAttr, TYX, UX, e6]
            repeat (first | refine DrawVC.intro (by kernel_rfl) ?_ | refine And.intro (by omega) ?_ | exact trivial)
            by_cases h0 : sb (md s) (xs.getD (i + 1) 0) (xs.getD j 0) = 0
            · have e7 : (sb (md s) (xs.getD (i + 1) 0) (xs.getD j 0) == 0) = true := beq_iff_eq.2 h0
              have hth : thOK s xs = false := by
                rw [← ok_eq P]
                cases hh : rOK s xs with
                | false => rfl
                | true => exact absurd h0 (rOK_iff.1 hh (i + 1) h3 j h4 hji)
              have e1 : thL s xs ys = [] := by simp [thL, hth]
              have e2 : thE s xs ys = 10 := by simp [thE, hk, h1, show ys.length ≤ 64 by omega, hth]
              rw [e1, e2]
              simp only [↓PX, SX, SYX, EY, simprocAttr, TYX, UX, e7]
            · have e7 : (sb (md s) (xs.getD (i + 1) 0) (xs.getD j 0) == 0) = false := beq_eq_false_iff_ne.2 h0
              simp only [↓PX, SX, SYX, EY, simprocAttr, TYX, UX, e7, eL_ld h4]
              repeat (first | refine DrawVC.intro (by kernel_rfl) ?_ | refine And.intro (by omega) ?_ | exact trivial)
              refine CallVC.intro (v_Neg s _ hxj) ⟨rfl, rfl, trivial⟩ rfl rfl ?_
              simp only [↓PX, SX, SYX, EY, simprocAttr, TYX, UX]
              refine CallVC.intro (cm) ⟨rfl, (by simp only [argMatch, SX, SYX, EY, simprocAttr, and_self, List.length_append, List.length_map, List.length_set, TYX, UX, LC1, fac_len, fac_LC, hm1]), (by simp only [argMatch, SX, SYX, EY, simprocAttr, and_self, List.length_append, List.length_map, List.length_set, TYX, UX, LC1, fac_len, fac_LC, hm1]), trivial⟩ rfl rfl ?_
              simp only [↓PX, SX, SYX, EY, simprocAttr, TYX, UX, LC1, fac_len, fac_LC, hm1]
              refine CallVC.intro (cd) ⟨rfl, rfl, rfl, trivial⟩ rfl rfl ?_
              simp only [↓PX, SX, SYX, EY, simprocAttr, TYX, UX, wS (j := j) (by omega)]
              refine ⟨(j + 1, true), ⟨by omega, fun hm => by (cases hm), fun k hk hne => ?_⟩, by show xs.length - (j + 1) < xs.length - j; omega, ?_⟩
              · by_cases hkj : k = j
                · rw [hkj]; exact h0
                · exact hj.2.2 k (by omega) hne
              · exact (St.le_of (ren [(99, 251)]) (by simp [-List.getD_eq_getElem?_getD, SYX, iv, ren, Tle, AVle, A0le, Mem.get, Nat.add_assoc]) (by simp [-List.getD_eq_getElem?_getD, SYX, ren, Mle, Ele, Mem.get, Nat.add_assoc]) (by simp [SYX, ren]) (by simp [SYX]))
        · have h4 : j = xs.length := by
            have := of_decide_eq_false h4
            have := hj.1
            omega
          subst h4
          have hln := rN_len P xs (i + 1) xs.length
          rw [if_pos h3] at hln
          have hyi := getD_lt hy (show (i + 1) < ys.length by omega)
          have cb := v_By s (ys.getD (i + 1) 0) (rD s xs (i + 1) xs.length) hyi (md_w2 (rD_lt P xs (i + 1) _))
          have c6 := v_PScale s (rN s xs (i + 1) xs.length) (ys.getD (i + 1) 0 * inv s (rD s xs (i + 1) xs.length) % md s) (rN_nrm P xs (i + 1) _).w (md_w s _) (by omega)
          have hfl := rF_len P xs ys (i + 1) (by omega)
          have l1 := tp_len (md s) (pScale (rN s xs (i + 1) xs.length) (ys.getD (i + 1) 0 * inv s (rD s xs (i + 1) xs.length) % md s))
          rw [pScale_len] at l1
          have c7 := v_PAdd s (rF s xs ys (i + 1)) (tp (md s) (pScale (rN s xs (i + 1) xs.length) (ys.getD (i + 1) 0 * inv s (rD s xs (i + 1) xs.length) % md s))) (rF_nrm xs ys (i + 1)).w (tpW s _) (by omega) (by omega)
          rw [show tp (md s) (pAdd (rF s xs ys (i + 1)) (tp (md s) (pScale (rN s xs (i + 1) xs.length) (ys.getD (i + 1) 0 * inv s (rD s xs (i + 1) xs.length) % md s)))) = rF s xs ys (i + 1 + 1) from rfl] at c7
          have hm1 : rN s xs (i + 1) xs.length = [1] := hj.2.1 rfl
          simp only [↓PX, SX, SYX, EY, simprocAttr, TYX, UX, eL_ld (l := ys) (j := i + 1) (by omega)]
          repeat (first | refine DrawVC.intro (by kernel_rfl) ?_ | refine And.intro (by omega) ?_ | exact trivial)
          refine CallVC.intro (cb) ⟨rfl, rfl, rfl, trivial⟩ rfl rfl ?_
          simp only [↓PX, SX, SYX, EY, simprocAttr, TYX, UX]
          refine CallVC.intro (c6) ⟨rfl, (by simp only [argMatch, SX, SYX, EY, simprocAttr, and_self, List.length_append, List.length_map, List.length_set, TYX, UX, hm1]), rfl, trivial⟩ rfl rfl ?_
          simp only [↓PX, SX, SYX, EY, simprocAttr, TYX, UX, hm1]
          refine CallVC.intro (c7) ⟨rfl, (by simp only [argMatch, SX, SYX, EY, simprocAttr, and_self, List.length_append, List.length_map, List.length_set, TYX, UX, hm1, wS (j := i + 1) (by omega)]), (by simp only [argMatch, SX, SYX, EY, simprocAttr, and_self, List.length_append, List.length_map, List.length_set, TYX, UX, hm1, wS (j := i + 1) (by omega)]), trivial⟩ rfl rfl ?_
          simp only [↓PX, SX, SYX, EY, simprocAttr, TYX, UX, hm1, wS (j := i + 1) (by omega)]
          refine ⟨i + 1 + 1, ⟨by omega, fun k hk l hl hne => ?_⟩, by omega, ?_⟩
          · by_cases hki : k = (i + 1)
            · rw [hki] at hne ⊢; exact hj.2.2 l hl hne
            · exact hi.2 k (by omega) l hl hne
          · exact (St.le_of (ren [(55, 187)]) (by simp [-List.getD_eq_getElem?_getD, SYX, iv, ren, Tle, AVle, A0le, Mem.get, Nat.add_assoc]) (by simp [-List.getD_eq_getElem?_getD, SYX, ren, Mle, Ele, Mem.get, Nat.add_assoc]) (by simp [SYX, ren]) (by simp [SYX]))
      | true =>
        have hj0 := hj.1
        simp only [↓PX, SX, SYX, EY, simprocAttr, TYX, UX]
        refine cond_split (fun h4 => ?_) (fun h4 => ?_)
        · have h4 : j < xs.length := by simpa using h4
          have hxj := getD_lt hx h4
          by_cases hji : j = (i + 1)
          · have d5 : ((j : Int) == ((i + 1 : Nat) : Int)) = true := by simp [hji]
            have eN : rN s xs (i + 1) (j + 1) = rN s xs (i + 1) j := by rw [rN, if_pos hji]
            have eD : rD s xs (i + 1) (j + 1) = rD s xs (i + 1) j := by rw [rD, if_pos hji]
            simp only [↓PX, SX, SYX, EY, simprocAttr, TYX, UX, d5, wS (j := j) (by omega)]
            exact ⟨(j + 1, true), ⟨by omega, fun hm => by (cases hm), fun k hk hne => hj.2.2 k (by omega) hne⟩, by show xs.length - (j + 1) < xs.length - j; omega, (St.le_of id (by simp [-List.getD_eq_getElem?_getD, SYX, iv, Tle, AVle, A0le, Mem.get, eN, eD]) (by simp [-List.getD_eq_getElem?_getD, SYX, Mle, Ele, Hle, Tle, AVle, A0le, Mem.get, eN, eD]) (by simp [SYX]) (by simp [SYX]))⟩
          · have d5 : ((j : Int) == ((i + 1 : Nat) : Int)) = false := by simp; omega
            have eN : rN s xs (i + 1) (j + 1) = tp (md s) (pMul (rN s xs (i + 1) j) (fac s (xs.getD j 0))) := by rw [rN, if_neg hji]
            have eD : rD s xs (i + 1) (j + 1) = rD s xs (i + 1) j * sb (md s) (xs.getD (i + 1) 0) (xs.getD j 0) % md s := by rw [rD, if_neg hji]
            have e6 : eqN (sb (md s) (xs.getD (i + 1) 0) (xs.getD j 0)) 0 = (sb (md s) (xs.getD (i + 1) 0) (xs.getD j 0) == 0) := eqN_eq (sb_w s _ _) (by decide)
            have hln := rN_len P xs (i + 1) j
            have cm := v_Times s (rN s xs (i + 1) j) (fac s (xs.getD j 0)) (rN_nrm P xs (i + 1) j).w (fac_w s _) (by rw [hln, fac_len]; omega)
            rw [← eN] at cm
            have cd := v_Mul s (rD s xs (i + 1) j) (sb (md s) (xs.getD (i + 1) 0) (xs.getD j 0)) (md_w2 (rD_lt P xs (i + 1) j)) (sb_w s _ _)
            rw [← eD] at cd
            simp only [↓PX, SX, SYX, EY, simprocAttr, TYX, UX, d5, eL_ld h3, eL_ld h4]
            repeat (first | refine DrawVC.intro (by kernel_rfl) ?_ | refine And.intro (by omega) ?_ | exact trivial)
            refine CallVC.intro (v_Sub' s _ _ hxi hxj) ⟨rfl, rfl, rfl, trivial⟩ rfl rfl ?_
            simp only [↓PX, SX, SYX, EY, simprocAttr, TYX, UX, e6]
            repeat (first | refine DrawVC.intro (by kernel_rfl) ?_ | refine And.intro (by omega) ?_ | exact trivial)
            by_cases h0 : sb (md s) (xs.getD (i + 1) 0) (xs.getD j 0) = 0
            · have e7 : (sb (md s) (xs.getD (i + 1) 0) (xs.getD j 0) == 0) = true := beq_iff_eq.2 h0
              have hth : thOK s xs = false := by
                rw [← ok_eq P]
                cases hh : rOK s xs with
                | false => rfl
                | true => exact absurd h0 (rOK_iff.1 hh (i + 1) h3 j h4 hji)
              have e1 : thL s xs ys = [] := by simp [thL, hth]
              have e2 : thE s xs ys = 10 := by simp [thE, hk, h1, show ys.length ≤ 64 by omega, hth]
              rw [e1, e2]
              simp only [↓PX, SX, SYX, EY, simprocAttr, TYX, UX, e7]
            · have e7 : (sb (md s) (xs.getD (i + 1) 0) (xs.getD j 0) == 0) = false := beq_eq_false_iff_ne.2 h0
              simp only [↓PX, SX, SYX, EY, simprocAttr, TYX, UX, e7, eL_ld h4]
              repeat (first | refine DrawVC.intro (by kernel_rfl) ?_ | refine And.intro (by omega) ?_ | exact trivial)
              refine CallVC.intro (v_Neg s _ hxj) ⟨rfl, rfl, trivial⟩ rfl rfl ?_
              simp only [↓PX, SX, SYX, EY, simprocAttr, TYX, UX]
              refine CallVC.intro (cm) ⟨rfl, (by simp only [argMatch, SX, SYX, EY, simprocAttr, and_self, List.length_append, List.length_map, List.length_set, TYX, UX, LC1, fac_len, fac_LC]), (by simp only [argMatch, SX, SYX, EY, simprocAttr, and_self, List.length_append, List.length_map, List.length_set, TYX, UX, LC1, fac_len, fac_LC]), trivial⟩ rfl rfl ?_
              simp only [↓PX, SX, SYX, EY, simprocAttr, TYX, UX, LC1, fac_len, fac_LC]
              refine CallVC.intro (cd) ⟨rfl, rfl, rfl, trivial⟩ rfl rfl ?_
              simp only [↓PX, SX, SYX, EY, simprocAttr, TYX, UX, wS (j := j) (by omega)]
              refine ⟨(j + 1, true), ⟨by omega, fun hm => by (cases hm), fun k hk hne => ?_⟩, by show xs.length - (j + 1) < xs.length - j; omega, ?_⟩
              · by_cases hkj : k = j
                · rw [hkj]; exact h0
                · exact hj.2.2 k (by omega) hne
              · exact (St.le_of (ren [(99, 251)]) (by simp [-List.getD_eq_getElem?_getD, SYX, iv, ren, Tle, AVle, A0le, Mem.get, Nat.add_assoc]) (by simp [-List.getD_eq_getElem?_getD, SYX, ren, Mle, Ele, Mem.get, Nat.add_assoc]) (by simp [SYX, ren]) (by simp [SYX]))
        · have h4 : j = xs.length := by
            have := of_decide_eq_false h4
            have := hj.1
            omega
          subst h4
          have hln := rN_len P xs (i + 1) xs.length
          rw [if_pos h3] at hln
          have hyi := getD_lt hy (show (i + 1) < ys.length by omega)
          have cb := v_By s (ys.getD (i + 1) 0) (rD s xs (i + 1) xs.length) hyi (md_w2 (rD_lt P xs (i + 1) _))
          have c6 := v_PScale s (rN s xs (i + 1) xs.length) (ys.getD (i + 1) 0 * inv s (rD s xs (i + 1) xs.length) % md s) (rN_nrm P xs (i + 1) _).w (md_w s _) (by omega)
          have hfl := rF_len P xs ys (i + 1) (by omega)
          have l1 := tp_len (md s) (pScale (rN s xs (i + 1) xs.length) (ys.getD (i + 1) 0 * inv s (rD s xs (i + 1) xs.length) % md s))
          rw [pScale_len] at l1
          have c7 := v_PAdd s (rF s xs ys (i + 1)) (tp (md s) (pScale (rN s xs (i + 1) xs.length) (ys.getD (i + 1) 0 * inv s (rD s xs (i + 1) xs.length) % md s))) (rF_nrm xs ys (i + 1)).w (tpW s _) (by omega) (by omega)
          rw [show tp (md s) (pAdd (rF s xs ys (i + 1)) (tp (md s) (pScale (rN s xs (i + 1) xs.length) (ys.getD (i + 1) 0 * inv s (rD s xs (i + 1) xs.length) % md s)))) = rF s xs ys (i + 1 + 1) from rfl] at c7
          simp only [↓PX, SX, SYX, EY, simprocAttr, TYX, UX, eL_ld (l := ys) (j := i + 1) (by omega)]
          repeat (first | refine DrawVC.intro (by kernel_rfl) ?_ | refine And.intro (by omega) ?_ | exact trivial)
          refine CallVC.intro (cb) ⟨rfl, rfl, rfl, trivial⟩ rfl rfl ?_
          simp only [↓PX, SX, SYX, EY, simprocAttr, TYX, UX]
          refine CallVC.intro (c6) ⟨rfl, (by simp only [argMatch, SX, SYX, EY, simprocAttr, and_self, List.length_append, List.length_map, List.length_set, TYX, UX, Nat.le_refl]), rfl, trivial⟩ rfl rfl ?_
          simp only [↓PX, SX, SYX, EY, simprocAttr, TYX, UX, Nat.le_refl]
          refine CallVC.intro (c7) ⟨rfl, (by simp only [argMatch, SX, SYX, EY, simprocAttr, and_self, List.length_append, List.length_map, List.length_set, TYX, UX, Nat.le_refl, wS (j := i + 1) (by omega)]), (by simp only [argMatch, SX, SYX, EY, simprocAttr, and_self, List.length_append, List.length_map, List.length_set, TYX, UX, Nat.le_refl, wS (j := i + 1) (by omega)]), trivial⟩ rfl rfl ?_
          simp only [↓PX, SX, SYX, EY, simprocAttr, TYX, UX, Nat.le_refl, wS (j := i + 1) (by omega)]
          refine ⟨i + 1 + 1, ⟨by omega, fun k hk l hl hne => ?_⟩, by omega, ?_⟩
          · by_cases hki : k = (i + 1)
            · rw [hki] at hne ⊢; exact hj.2.2 l hl hne
            · exact hi.2 k (by omega) l hl hne
          · exact (St.le_of (ren [(55, 187)]) (by simp [-List.getD_eq_getElem?_getD, SYX, iv, ren, Tle, AVle, A0le, Mem.get, Nat.add_assoc]) (by simp [-List.getD_eq_getElem?_getD, SYX, ren, Mle, Ele, Mem.get, Nat.add_assoc]) (by simp [SYX, ren]) (by simp [SYX]))
    · have h3 : i + 1 = xs.length := by
        have := of_decide_eq_false h3
        omega
      have hok : rOK s xs = true := rOK_iff.2 fun j hj k hk hne => hi.2 j (by omega) k hk hne
      have e1 : thL s xs ys = rF s xs ys (i + 1) := by
        unfold thL
        rw [hk, ← ok_eq P, hok, h3, rF_eq P hok]
        simp; omega
      have e2 : thE s xs ys = 0 := by simp [thE, hk, h1, show ys.length ≤ 64 by omega, ← ok_eq P, hok]
      rw [e1, e2]
      simp only [↓PX, SX, SYX, EY, simprocAttr, TYX, UX]

theorem v_Through (s : Int) (xs ys : List Nat) (hx : ∀ y ∈ xs, y < W256) (hy : ∀ y ∈ ys, y < W256) (hl : xs.length * 32 ≤ 140737488355328) (hl2 : ys.length * 32 ≤ 140737488355328) :
    Contract Try.prog 43 [.val (.int .i64 s), .sl xs.length 4 (LC eC xs), .sl ys.length 4 (LC eC ys)] [.part (thL s xs ys).length 4 (LC eC (thL s xs ys)), .val (.int .i64 (thE s xs ys))] := by
  cases hk : kn s with
  | false =>
    have e1 : thL s xs ys = [] := by simp [thL, hk]
    have e2 : thE s xs ys = 20 := by simp [thE, hk]
    rw [e1, e2]
    refine contract_of (N := _) (vars := _) (c := bodyOf Try.f43) Try.func43 (body_eq rfl) rfl rfl (by rfl) mixed _ _ trivial 1000 ?_
    simp only [bodyOf, Try.f43, Option.getD_some, argA, argE, List.length_cons, List.length_nil, Nat.reduceAdd, Nat.reduceSub, List.replicate, List.cons_append, List.nil_append]
    simp only [↓PX, SX, SYX, EY, simprocAttr, TYX, UX]
    refine CallVC.intro (v_known s) ⟨rfl, trivial⟩ rfl rfl ?_
    simp only [↓PX, SX, SYX, EY, simprocAttr, TYX, UX, hk]
  | true =>
    have P := pr_of hk
    by_cases h1 : xs.length = ys.length
    · have d1 : ((xs.length : Int) != (ys.length : Int)) = false := by simp [h1]
      by_cases h2 : xs.length ≤ 64
      · exact v_ThroughM s xs ys hk h1 h2 hx hy hl hl2
      · have d2 : decide ((64 : Int) < (xs.length : Int)) = true := by simp; omega
        have e1 : thL s xs ys = [] := by simp [thL, h2]
        have e2 : thE s xs ys = 70 := by simp [thE, hk, h1] ; omega
        rw [e1, e2]
        refine contract_of (N := _) (vars := _) (c := bodyOf Try.f43) Try.func43 (body_eq rfl) rfl rfl (by rfl) mixed _ _ trivial 1000 ?_
        simp only [bodyOf, Try.f43, Option.getD_some, argA, argE, List.length_cons, List.length_nil, Nat.reduceAdd, Nat.reduceSub, List.replicate, List.cons_append, List.nil_append]
        simp only [↓PX, SX, SYX, EY, simprocAttr, TYX, UX]
        refine CallVC.intro (v_known s) ⟨rfl, trivial⟩ rfl rfl ?_
        simp only [↓PX, SX, SYX, EY, simprocAttr, TYX, UX, hk, d1, d2]
    · have d1 : ((xs.length : Int) != (ys.length : Int)) = true := by simp; omega
      have e1 : thL s xs ys = [] := by simp [thL, h1]
      have e2 : thE s xs ys = 50 := by simp [thE, hk, h1]
      rw [e1, e2]
      refine contract_of (N := _) (vars := _) (c := bodyOf Try.f43) Try.func43 (body_eq rfl) rfl rfl (by rfl) mixed _ _ trivial 1000 ?_
      simp only [bodyOf, Try.f43, Option.getD_some, argA, argE, List.length_cons, List.length_nil, Nat.reduceAdd, Nat.reduceSub, List.replicate, List.cons_append, List.nil_append]
      simp only [↓PX, SX, SYX, EY, simprocAttr, TYX, UX]
      refine CallVC.intro (v_known s) ⟨rfl, trivial⟩ rfl rfl ?_
      simp only [↓PX, SX, SYX, EY, simprocAttr, TYX, UX, hk, d1]
end Go.Sx
