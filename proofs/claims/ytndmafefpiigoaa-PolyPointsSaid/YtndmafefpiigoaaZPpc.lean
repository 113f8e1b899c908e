/-
  PolyLaws. No conditions.
-/
import Derived.Test.YtndmafefpiigoaaZPpb
namespace Go.Sx
open Go.Proofs Go.Num
-- SY
-- TY: TYX, UX
set_option maxRecDepth 100000
set_option linter.unusedSimpArgs false
set_option pp.deepTerms true
set_option pp.maxSteps 100000
theorem tp_nrm (s : Int) (l : List Nat) : Nrm (md s) (tp (md s) l) := nrm_tp (md_pos s) l
theorem pM_nrm {s : Int} {a b : List Nat} : Nrm (md s) (pM s a b) := by
  unfold pM
  split
  · exact tp_nrm s _
  · exact ⟨by simp, .inl rfl⟩
theorem kn_of {s : Int} (h0 : decide (s < 0) = false) (h1 : decide ((3 : Int) < s) = false) : kn s = true := by
  have := of_decide_eq_false h0
  have := of_decide_eq_false h1
  cases srt s with
  | no _ _ _ _ _ _ h => omega
  | yes hk => exact hk
theorem okM_of {s : Int} {a b : List Nat} (hk : kn s = true) (h : a.length + b.length ≤ 1024) : okM s a b = true := by
  have h1 := tp_len (md s) a
  have h2 := tp_len (md s) b
  unfold okM
  rw [hk]
  simp; omega
theorem eM_of {s : Int} {a b : List Nat} (hk : kn s = true) (h : a.length + b.length ≤ 1024) : eM s a b = 0 := by
  have h1 := tp_len (md s) a
  have h2 := tp_len (md s) b
  unfold eM
  rw [hk, if_pos rfl, if_pos (by omega)]
/-- Products spread over sums. -/
theorem law_spread {s : Int} {a b c : List Nat} (hk : kn s = true) (ha : a.length ≤ 100) (hb : b.length ≤ 100) (hc : c.length ≤ 100) : pM s a (tp (md s) (pAdd b c)) = tp (md s) (pAdd (pM s a b) (pM s a c)) := by
  have h3 := tp_len (md s) (pAdd b c)
  have h4 : (pAdd b c).length = max b.length c.length := by unfold pAdd; exact tab_len
  have e := pM_nrm (s := s) (a := a) (b := tp (md s) (pAdd b c))
  rw [← e.tp, tp_co]
  intro i
  rw [co_pAdd, pM_co (okM_of hk (by omega)), pM_co (okM_of hk (by omega)), pM_co (okM_of hk (by omega)), ← ml_add]
  exact ml_congr (fun i => by rw [co_tp, co_tp, co_pAdd, co_tp, co_tp]) _ _
theorem evp_md (s : Int) (x : Nat) (l : List Nat) : evp (md s) x l < md s := by
  cases l with
  | nil => exact md_pos s
  | cons c l => exact Nat.mod_lt _ (md_pos s)
theorem law_value {s : Int} {a b : List Nat} {x : Nat} (hk : kn s = true) (ha : a.length ≤ 100) (hb : b.length ≤ 100) : evp (md s) x (pM s a b) = evp (md s) x a * evp (md s) x b % md s := by
  have h := okM_of (s := s) (a := a) (b := b) hk (by omega)
  have e : κ (md s) (evp (md s) x (pM s a b)) = κ (md s) (evp (md s) x a * evp (md s) x b % md s) := by
    rw [κ_mod, κ_mul, κ_evp, κ_evp, κ_evp]
    unfold pM
    rw [if_pos h, evk_tp, evk_pMul, evk_tp, evk_tp]
  rw [κ_inj, Nat.mod_mod, Nat.mod_eq_of_lt (evp_md s x _)] at e
  exact e
theorem okD_of {s : Int} {a b : List Nat} (hk : kn s = true) (h : a.length ≤ 1024) (h0 : (tp (md s) b).length ≠ 0) : okD s a b = true := by
  have h1 := tp_len (md s) a
  unfold okD
  rw [hk]
  simp; exact ⟨by intro e; rw [e] at h0; exact h0 rfl, by omega⟩
theorem eDv_of {s : Int} {a b : List Nat} (hk : kn s = true) (h : a.length ≤ 1024) : eDv s a b = if (tp (md s) b).length = 0 then 10 else 0 := by
  have h1 := tp_len (md s) a
  unfold eDv
  rw [hk, if_pos rfl]
  split
  · rfl
  · rw [if_pos (by omega)]
theorem dvQ_nrm0 {s : Int} {a b : List Nat} (hk : kn s = true) (h0 : (tp (md s) b).length ≠ 0) : tp (md s) (dvQ s a b) = dvQ s a b := by
  unfold dvQ
  split
  · rw [← dQ_tp (pr_of hk) h0, tp_tp]
  · exact List.eq_nil_of_length_eq_zero (Nat.le_zero.1 (tp_len (md s) []))
theorem dvR_nrm {s : Int} {a b : List Nat} : Nrm (md s) (dvR s a b) := by
  unfold dvR
  split
  · exact tp_nrm s _
  · exact ⟨by simp, .inl rfl⟩
theorem law_over {s : Int} {a b : List Nat} (hk : kn s = true) (ha : a.length ≤ 100) (hb : b.length ≤ 100) (h0 : (tp (md s) b).length ≠ 0) : dvQ s (pM s a b) b = tp (md s) a ∧ dvR s (pM s a b) b = [] := by
  have hl := pM_len (s := s) (a := a) (b := b)
  have hok := okD_of (s := s) (a := pM s a b) (b := b) hk (by omega) h0
  obtain ⟨h1, h2⟩ := dv_exact (q := a) hok fun k => by
    rw [pM_co (okM_of hk (by omega)), ml_comm]
    exact ml_congr (fun i => co_tp a i) _ _
  refine ⟨?_, nil_of dvR_nrm h2⟩
  rw [← dvQ_nrm0 hk h0, tp_co]
  exact h1
theorem c_PolyLaws (s : Int) (a b c : List Nat) (x : Nat) (ha : ∀ y ∈ a, y < W256) (hb : ∀ y ∈ b, y < W256) (hc : ∀ y ∈ c, y < W256) (hx : x < W256) (ha2 : a.length * 32 ≤ 140737488351232) (hb2 : b.length * 32 ≤ 140737488351232) (hc2 : c.length * 32 ≤ 140737488351232) :
    Contract Try.prog 7 [.val (.int .i64 s), .sl a.length 4 (LC eC a), .sl b.length 4 (LC eC b), .sl c.length 4 (LC eC c), .val (EN x)] [.val (.bool true)] := by
  cases d0 : decide (s < 0) with
  | true =>
    refine contract_of (N := _) (vars := _) (c := bodyOf Try.f7) Try.func7 (body_eq rfl) rfl rfl (by rfl) mixed _ _ trivial 1000 ?_
    simp only [bodyOf, Try.f7, Option.getD_some, argA, argE, List.length_cons, List.length_nil, Nat.reduceAdd, Nat.reduceSub, List.replicate, List.cons_append, List.nil_append]
    simp only [↓PX, SX, SYX, EY, simprocAttr, TYX, UX]
    refine CallVC.intro (c_alive7) trivial rfl rfl ?_
    simp only [↓PX, SX, SYX, EY, simprocAttr, TYX, UX, d0]
  | false =>
    cases d1 : decide ((3 : Int) < s) with
    | true =>
      refine contract_of (N := _) (vars := _) (c := bodyOf Try.f7) Try.func7 (body_eq rfl) rfl rfl (by rfl) mixed _ _ trivial 1000 ?_
      simp only [bodyOf, Try.f7, Option.getD_some, argA, argE, List.length_cons, List.length_nil, Nat.reduceAdd, Nat.reduceSub, List.replicate, List.cons_append, List.nil_append]
      simp only [↓PX, SX, SYX, EY, simprocAttr, TYX, UX]
      refine CallVC.intro (c_alive7) trivial rfl rfl ?_
      simp only [↓PX, SX, SYX, EY, simprocAttr, TYX, UX, d0, d1]
    | false =>
      cases hg : (decide (60 < a.length) || decide (60 < b.length)) with
      | true =>
        refine contract_of (N := _) (vars := _) (c := bodyOf Try.f7) Try.func7 (body_eq rfl) rfl rfl (by rfl) mixed _ _ trivial 1000 ?_
        simp only [bodyOf, Try.f7, Option.getD_some, argA, argE, List.length_cons, List.length_nil, Nat.reduceAdd, Nat.reduceSub, List.replicate, List.cons_append, List.nil_append]
        simp only [↓PX, SX, SYX, EY, simprocAttr, TYX, UX]
        refine CallVC.intro (c_alive7) trivial rfl rfl ?_
        simp only [↓PX, SX, SYX, EY, simprocAttr, TYX, UX, d0, d1]
        refine CallVC.intro (c_great7 a b) ⟨(by simp only [argMatch, SX, SYX, EY, simprocAttr, and_self, List.length_append, List.length_map, List.length_set, TYX, UX, hg]), (by simp only [argMatch, SX, SYX, EY, simprocAttr, and_self, List.length_append, List.length_map, List.length_set, TYX, UX, hg]), trivial⟩ rfl rfl ?_
        simp only [↓PX, SX, SYX, EY, simprocAttr, TYX, UX, hg]
      | false =>
        cases d2 : decide ((60 : Int) < (c.length : Int)) with
        | true =>
          refine contract_of (N := _) (vars := _) (c := bodyOf Try.f7) Try.func7 (body_eq rfl) rfl rfl (by rfl) mixed _ _ trivial 1000 ?_
          simp only [bodyOf, Try.f7, Option.getD_some, argA, argE, List.length_cons, List.length_nil, Nat.reduceAdd, Nat.reduceSub, List.replicate, List.cons_append, List.nil_append]
          simp only [↓PX, SX, SYX, EY, simprocAttr, TYX, UX]
          refine CallVC.intro (c_alive7) trivial rfl rfl ?_
          simp only [↓PX, SX, SYX, EY, simprocAttr, TYX, UX, d0, d1]
          refine CallVC.intro (c_great7 a b) ⟨(by simp only [argMatch, SX, SYX, EY, simprocAttr, and_self, List.length_append, List.length_map, List.length_set, TYX, UX, hg, d2]), (by simp only [argMatch, SX, SYX, EY, simprocAttr, and_self, List.length_append, List.length_map, List.length_set, TYX, UX, hg, d2]), trivial⟩ rfl rfl ?_
          simp only [↓PX, SX, SYX, EY, simprocAttr, TYX, UX, hg, d2]
        | false =>
          have hg' : a.length ≤ 60 ∧ b.length ≤ 60 := by simpa using hg
          have hc' : c.length ≤ 60 := by have := of_decide_eq_false d2; omega
          have hk := kn_of d0 d1
          have l1 := pM_len (s := s) (a := a) (b := b)
          have l2 := pM_len (s := s) (a := a) (b := c)
          have l3 := tp_len (md s) (pAdd b c)
          have l4 : (pAdd b c).length = max b.length c.length := by unfold pAdd; exact tab_len
          have l5 := tp_len (md s) (pAdd (pM s a b) (pM s a c))
          have l6 : (pAdd (pM s a b) (pM s a c)).length = max (pM s a b).length (pM s a c).length := by unfold pAdd; exact tab_len
          have l7 := tp_len (md s) a
          have l8 := tp_len (md s) b
          have c1 := u_PMul s a b ha hb (by omega) (by omega)
          rw [eM_of hk (by omega)] at c1
          have c2 := u_PMul s a c ha hc (by omega) (by omega)
          rw [eM_of hk (by omega)] at c2
          have c3 := u_PMul s a (tp (md s) (pAdd b c)) ha (tpW s _) (by omega) (by omega)
          rw [eM_of hk (by omega), law_spread hk (by omega) (by omega) (by omega)] at c3
          have hv := law_value (s := s) (a := a) (b := b) (x := x) hk (by omega) (by omega)
          have c4 := u_Eval s (pM s a b) x pM_w hx (by omega)
          rw [hv] at c4
          refine contract_of (N := _) (vars := _) (c := bodyOf Try.f7) Try.func7 (body_eq rfl) rfl rfl (by rfl) mixed _ _ trivial 1000 ?_
          simp only [bodyOf, Try.f7, Option.getD_some, argA, argE, List.length_cons, List.length_nil, Nat.reduceAdd, Nat.reduceSub, List.replicate, List.cons_append, List.nil_append]
          simp only [↓PX, SX, SYX, EY, simprocAttr, TYX, UX]
          refine CallVC.intro (c_alive7) trivial rfl rfl ?_
          simp only [↓PX, SX, SYX, EY, simprocAttr, TYX, UX, d0, d1]
          refine CallVC.intro (c_great7 a b) ⟨(by simp only [argMatch, SX, SYX, EY, simprocAttr, and_self, List.length_append, List.length_map, List.length_set, TYX, UX, hg, d2]), (by simp only [argMatch, SX, SYX, EY, simprocAttr, and_self, List.length_append, List.length_map, List.length_set, TYX, UX, hg, d2]), trivial⟩ rfl rfl ?_
          simp only [↓PX, SX, SYX, EY, simprocAttr, TYX, UX, hg, d2]
          refine CallVC.intro (c_CopyElems a (by omega)) ⟨(by simp only [argMatch, SX, SYX, EY, simprocAttr, and_self, List.length_append, List.length_map, List.length_set, TYX, UX]), trivial⟩ rfl rfl ?_
          simp only [↓PX, SX, SYX, EY, simprocAttr, TYX, UX]
          refine CallVC.intro (c_CopyElems b (by omega)) ⟨(by simp only [argMatch, SX, SYX, EY, simprocAttr, and_self, List.length_append, List.length_map, List.length_set, TYX, UX]), trivial⟩ rfl rfl ?_
          simp only [↓PX, SX, SYX, EY, simprocAttr, TYX, UX]
          refine CallVC.intro (c1) ⟨rfl, (by simp only [argMatch, SX, SYX, EY, simprocAttr, and_self, List.length_append, List.length_map, List.length_set, TYX, UX]), (by simp only [argMatch, SX, SYX, EY, simprocAttr, and_self, List.length_append, List.length_map, List.length_set, TYX, UX]), trivial⟩ rfl rfl ?_
          simp only [↓PX, SX, SYX, EY, simprocAttr, TYX, UX]
          refine CallVC.intro (c_CopyElems a (by omega)) ⟨(by simp only [argMatch, SX, SYX, EY, simprocAttr, and_self, List.length_append, List.length_map, List.length_set, TYX, UX]), trivial⟩ rfl rfl ?_
          simp only [↓PX, SX, SYX, EY, simprocAttr, TYX, UX]
          refine CallVC.intro (c_CopyElems c (by omega)) ⟨(by simp only [argMatch, SX, SYX, EY, simprocAttr, and_self, List.length_append, List.length_map, List.length_set, TYX, UX]), trivial⟩ rfl rfl ?_
          simp only [↓PX, SX, SYX, EY, simprocAttr, TYX, UX]
          refine CallVC.intro (c2) ⟨rfl, (by simp only [argMatch, SX, SYX, EY, simprocAttr, and_self, List.length_append, List.length_map, List.length_set, TYX, UX]), (by simp only [argMatch, SX, SYX, EY, simprocAttr, and_self, List.length_append, List.length_map, List.length_set, TYX, UX]), trivial⟩ rfl rfl ?_
          simp only [↓PX, SX, SYX, EY, simprocAttr, TYX, UX]
          refine CallVC.intro (c_CopyElems b (by omega)) ⟨(by simp only [argMatch, SX, SYX, EY, simprocAttr, and_self, List.length_append, List.length_map, List.length_set, TYX, UX]), trivial⟩ rfl rfl ?_
          simp only [↓PX, SX, SYX, EY, simprocAttr, TYX, UX]
          refine CallVC.intro (c_CopyElems c (by omega)) ⟨(by simp only [argMatch, SX, SYX, EY, simprocAttr, and_self, List.length_append, List.length_map, List.length_set, TYX, UX]), trivial⟩ rfl rfl ?_
          simp only [↓PX, SX, SYX, EY, simprocAttr, TYX, UX]
          refine CallVC.intro (u_PAdd s b c hb hc (by omega) (by omega)) ⟨rfl, (by simp only [argMatch, SX, SYX, EY, simprocAttr, and_self, List.length_append, List.length_map, List.length_set, TYX, UX]), (by simp only [argMatch, SX, SYX, EY, simprocAttr, and_self, List.length_append, List.length_map, List.length_set, TYX, UX]), trivial⟩ rfl rfl ?_
          simp only [↓PX, SX, SYX, EY, simprocAttr, TYX, UX]
          refine CallVC.intro (c_CopyElems a (by omega)) ⟨(by simp only [argMatch, SX, SYX, EY, simprocAttr, and_self, List.length_append, List.length_map, List.length_set, TYX, UX]), trivial⟩ rfl rfl ?_
          simp only [↓PX, SX, SYX, EY, simprocAttr, TYX, UX]
          refine CallVC.intro (c3) ⟨rfl, (by simp only [argMatch, SX, SYX, EY, simprocAttr, and_self, List.length_append, List.length_map, List.length_set, TYX, UX]), (by simp only [argMatch, SX, SYX, EY, simprocAttr, and_self, List.length_append, List.length_map, List.length_set, TYX, UX]), trivial⟩ rfl rfl ?_
          simp only [↓PX, SX, SYX, EY, simprocAttr, TYX, UX]
          refine CallVC.intro (u_PAdd s (pM s a b) (pM s a c) pM_w pM_w (by omega) (by omega)) ⟨rfl, (by simp only [argMatch, SX, SYX, EY, simprocAttr, and_self, List.length_append, List.length_map, List.length_set, TYX, UX]), (by simp only [argMatch, SX, SYX, EY, simprocAttr, and_self, List.length_append, List.length_map, List.length_set, TYX, UX]), trivial⟩ rfl rfl ?_
          simp only [↓PX, SX, SYX, EY, simprocAttr, TYX, UX]
          refine CallVC.intro (same_of (tp (md s) (pAdd (pM s a b) (pM s a c))) (by omega) (tpW s _)) ⟨(by simp only [argMatch, SX, SYX, EY, simprocAttr, and_self, List.length_append, List.length_map, List.length_set, TYX, UX]), (by simp only [argMatch, SX, SYX, EY, simprocAttr, and_self, List.length_append, List.length_map, List.length_set, TYX, UX]), trivial⟩ rfl rfl ?_
          simp only [↓PX, SX, SYX, EY, simprocAttr, TYX, UX]
          repeat (first | refine DrawVC.intro (by kernel_rfl) ?_ | refine And.intro (by omega) ?_ | exact trivial)
          refine CallVC.intro (c4) ⟨rfl, (by simp only [argMatch, SX, SYX, EY, simprocAttr, and_self, List.length_append, List.length_map, List.length_set, TYX, UX]), rfl, trivial⟩ rfl rfl ?_
          simp only [↓PX, SX, SYX, EY, simprocAttr, TYX, UX]
          refine CallVC.intro (c_CopyElems a (by omega)) ⟨(by simp only [argMatch, SX, SYX, EY, simprocAttr, and_self, List.length_append, List.length_map, List.length_set, TYX, UX]), trivial⟩ rfl rfl ?_
          simp only [↓PX, SX, SYX, EY, simprocAttr, TYX, UX]
          refine CallVC.intro (u_Eval s a x ha hx (by omega)) ⟨rfl, (by simp only [argMatch, SX, SYX, EY, simprocAttr, and_self, List.length_append, List.length_map, List.length_set, TYX, UX]), rfl, trivial⟩ rfl rfl ?_
          simp only [↓PX, SX, SYX, EY, simprocAttr, TYX, UX]
          refine CallVC.intro (c_CopyElems b (by omega)) ⟨(by simp only [argMatch, SX, SYX, EY, simprocAttr, and_self, List.length_append, List.length_map, List.length_set, TYX, UX]), trivial⟩ rfl rfl ?_
          simp only [↓PX, SX, SYX, EY, simprocAttr, TYX, UX]
          refine CallVC.intro (u_Eval s b x hb hx (by omega)) ⟨rfl, (by simp only [argMatch, SX, SYX, EY, simprocAttr, and_self, List.length_append, List.length_map, List.length_set, TYX, UX]), rfl, trivial⟩ rfl rfl ?_
          simp only [↓PX, SX, SYX, EY, simprocAttr, TYX, UX]
          refine CallVC.intro (u_Mul s _ _ (evp_lt s x a) (evp_lt s x b)) ⟨rfl, rfl, rfl, trivial⟩ rfl rfl ?_
          simp only [↓PX, SX, SYX, EY, simprocAttr, TYX, UX]
          refine CallVC.intro (c_CopyElems b (by omega)) ⟨(by simp only [argMatch, SX, SYX, EY, simprocAttr, and_self, List.length_append, List.length_map, List.length_set, TYX, UX]), trivial⟩ rfl rfl ?_
          simp only [↓PX, SX, SYX, EY, simprocAttr, TYX, UX]
          have hd := eDv_of (s := s) (a := pM s a b) (b := b) hk (by omega)
          have c5 := u_Divide s (pM s a b) b pM_w hb (by omega) (by omega)
          by_cases h0 : (tp (md s) b).length = 0
          · rw [if_pos h0] at hd
            have e1 : dvQ s (pM s a b) b = [] := by simp [dvQ, okD, h0]
            have z0 : (((tp (md s) b).length : Int) == 0) = true := by simp [h0]
            rw [hd, e1] at c5
            refine CallVC.intro (c5) ⟨rfl, (by simp only [argMatch, SX, SYX, EY, simprocAttr, and_self, List.length_append, List.length_map, List.length_set, TYX, UX]), (by simp only [argMatch, SX, SYX, EY, simprocAttr, and_self, List.length_append, List.length_map, List.length_set, TYX, UX]), trivial⟩ rfl rfl ?_
            simp only [↓PX, SX, SYX, EY, simprocAttr, TYX, UX]
            refine CallVC.intro (c_CopyElems b (by omega)) ⟨(by simp only [argMatch, SX, SYX, EY, simprocAttr, and_self, List.length_append, List.length_map, List.length_set, TYX, UX]), trivial⟩ rfl rfl ?_
            simp only [↓PX, SX, SYX, EY, simprocAttr, TYX, UX]
            refine CallVC.intro (u_Trim s b hb (by omega)) ⟨rfl, (by simp only [argMatch, SX, SYX, EY, simprocAttr, and_self, List.length_append, List.length_map, List.length_set, TYX, UX, z0]), trivial⟩ rfl rfl ?_
            simp only [↓PX, SX, SYX, EY, simprocAttr, TYX, UX, z0]
          · rw [if_neg h0] at hd
            obtain ⟨e1, e2⟩ := law_over (s := s) (a := a) (b := b) hk (by omega) (by omega) h0
            have z0 : (((tp (md s) b).length : Int) == 0) = false := by simp [h0]
            rw [hd, e1, e2] at c5
            refine CallVC.intro (c5) ⟨rfl, (by simp only [argMatch, SX, SYX, EY, simprocAttr, and_self, List.length_append, List.length_map, List.length_set, TYX, UX]), (by simp only [argMatch, SX, SYX, EY, simprocAttr, and_self, List.length_append, List.length_map, List.length_set, TYX, UX]), trivial⟩ rfl rfl ?_
            simp only [↓PX, SX, SYX, EY, simprocAttr, TYX, UX]
            refine CallVC.intro (c_CopyElems b (by omega)) ⟨(by simp only [argMatch, SX, SYX, EY, simprocAttr, and_self, List.length_append, List.length_map, List.length_set, TYX, UX]), trivial⟩ rfl rfl ?_
            simp only [↓PX, SX, SYX, EY, simprocAttr, TYX, UX]
            refine CallVC.intro (u_Trim s b hb (by omega)) ⟨rfl, (by simp only [argMatch, SX, SYX, EY, simprocAttr, and_self, List.length_append, List.length_map, List.length_set, TYX, UX, z0]), trivial⟩ rfl rfl ?_
            simp only [↓PX, SX, SYX, EY, simprocAttr, TYX, UX, z0]
            refine CallVC.intro (c_CopyElems a (by omega)) ⟨(by simp only [argMatch, SX, SYX, EY, simprocAttr, and_self, List.length_append, List.length_map, List.length_set, TYX, UX]), trivial⟩ rfl rfl ?_
            simp only [↓PX, SX, SYX, EY, simprocAttr, TYX, UX]
            refine CallVC.intro (u_Trim s a ha (by omega)) ⟨rfl, (by simp only [argMatch, SX, SYX, EY, simprocAttr, and_self, List.length_append, List.length_map, List.length_set, TYX, UX]), trivial⟩ rfl rfl ?_
            simp only [↓PX, SX, SYX, EY, simprocAttr, TYX, UX]
            refine CallVC.intro (same_of (tp (md s) a) (by omega) (tpW s _)) ⟨(by simp only [argMatch, SX, SYX, EY, simprocAttr, and_self, List.length_append, List.length_map, List.length_set, TYX, UX]), (by simp only [argMatch, SX, SYX, EY, simprocAttr, and_self, List.length_append, List.length_map, List.length_set, TYX, UX]), trivial⟩ rfl rfl ?_
            simp only [↓PX, SX, SYX, EY, simprocAttr, TYX, UX]
end Go.Sx
