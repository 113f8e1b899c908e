/-
  PolyRests. No conditions.
-/
import Derived.Test.YtndmafefpiigoaaZPpd
namespace Go.Sx
open Go.Proofs Go.Num
-- SY
-- TY: TYX, UX
set_option maxRecDepth 100000
set_option linter.unusedSimpArgs false
set_option pp.deepTerms true
set_option pp.maxSteps 100000
theorem LC1 {x : Nat} : LC eC [x] = [u64 (L0 x), u64 (L1 x), u64 (L2 x), u64 (L3 x)] := rfl
theorem law_back {s : Int} {a b : List Nat} (hk : kn s = true) (ha : a.length ≤ 100) (hb : b.length ≤ 100) (h0 : (tp (md s) b).length ≠ 0) : tp (md s) (pAdd (pM s (dvQ s a b) b) (dvR s a b)) = tp (md s) a := by
  have hl := dvQ_len (s := s) (a := a) (b := b)
  obtain ⟨h1, _⟩ := dv_spec (okD_of (s := s) (a := a) (b := b) hk (by omega) h0)
  rw [tp_co]
  intro i
  rw [co_pAdd, pM_co (okM_of hk (by omega)), ml_comm, h1 i]
  congr 1
  exact ml_congr (fun i => co_tp _ i) _ _
theorem evk_fac {s : Int} {x : Nat} : evk (κ (md s) x) (fac s x) = 0 := by
  simp only [fac, evk]
  rw [κ_mod, κ_neg, κ_one]; grind
theorem zer_ev {s : Int} {x : Fin (md s)} (xs : List Nat) : ∀ i, evk x (zer s xs (i + 1)) = evk x (zer s xs i) * evk x (fac s (xs.getD i 0)) := fun i => by
  rw [zer, evk_tp, evk_pMul]
theorem law_rest {s : Int} {a : List Nat} {x : Nat} (hk : kn s = true) (ha : a.length ≤ 100) : dvR s a (zL s [x]) = tp (md s) [evp (md s) x a] := by
  have P := pr_of hk
  have e1 : zL s [x] = zer s [x] 1 := by simp [zL, hk]
  have hn : tp (md s) (zL s [x]) = zL s [x] := by rw [e1]; exact (zer_nrm P [x] 1).tp
  have hl : (zL s [x]).length = 2 := by rw [e1, zer_len P]
  obtain ⟨h1, h2⟩ := dv_spec (okD_of (s := s) (a := a) (b := zL s [x]) hk (by omega) (by rw [hn, hl]; decide))
  rw [hn] at h1 h2
  rw [hl] at h2
  have h3 : evk (κ (md s) x) a = evk (κ (md s) x) (plL (mulL (zL s [x]) (dvQ s a (zL s [x]))) (dvR s a (zL s [x]))) := evk_congr fun i => by
    rw [co_addL, co_mulL]; exact h1 i
  have h4 : evk (κ (md s) x) (zL s [x]) = 0 := by
    rw [e1, zer_ev]
    show _ * evk (κ (md s) x) (fac s x) = 0
    rw [evk_fac]; grind
  rw [evk_addL, evk_mulL, h4] at h3
  have h5 : evk (κ (md s) x) (dvR s a (zL s [x])) = co (md s) (dvR s a (zL s [x])) 0 := by
    generalize dvR s a (zL s [x]) = R at h2
    match R, h2 with
    | [], _ => rw [co_nil]; rfl
    | [c], _ => rw [co_0]; simp only [evk]; grind
    | _ :: _ :: _, h => simp only [List.length_cons] at h; omega
  rw [← dvR_nrm.tp, tp_co]
  intro i
  cases i with
  | zero =>
    rw [co_0, κ_evp, ← h5, h3]; grind
  | succ i => rw [co_s, co_nil, co_out (by omega)]
theorem c_PolyRests (s : Int) (a b : List Nat) (x : Nat) (ha : ∀ y ∈ a, y < W256) (hb : ∀ y ∈ b, y < W256) (hx : x < W256) (ha2 : a.length * 32 ≤ 140737488351232) (hb2 : b.length * 32 ≤ 140737488351232) :
    Contract Try.prog 9 [.val (.int .i64 s), .sl a.length 4 (LC eC a), .sl b.length 4 (LC eC b), .val (EN x)] [.val (.bool true)] := by
  cases d0 : decide (s < 0) with
  | true =>
    refine contract_of (N := _) (vars := _) (c := bodyOf Try.f9) Try.func9 (body_eq rfl) rfl rfl (by rfl) mixed _ _ trivial 1000 ?_
    simp only [bodyOf, Try.f9, Option.getD_some, argA, argE, List.length_cons, List.length_nil, Nat.reduceAdd, Nat.reduceSub, List.replicate, List.cons_append, List.nil_append]
    simp only [↓PX, SX, SYX, EY, simprocAttr, TYX, UX]
    refine CallVC.intro (c_alive7) trivial rfl rfl ?_
    simp only [↓PX, SX, SYX, EY, simprocAttr, TYX, UX, d0]
  | false =>
    cases d1 : decide ((3 : Int) < s) with
    | true =>
      refine contract_of (N := _) (vars := _) (c := bodyOf Try.f9) Try.func9 (body_eq rfl) rfl rfl (by rfl) mixed _ _ trivial 1000 ?_
      simp only [bodyOf, Try.f9, Option.getD_some, argA, argE, List.length_cons, List.length_nil, Nat.reduceAdd, Nat.reduceSub, List.replicate, List.cons_append, List.nil_append]
      simp only [↓PX, SX, SYX, EY, simprocAttr, TYX, UX]
      refine CallVC.intro (c_alive7) trivial rfl rfl ?_
      simp only [↓PX, SX, SYX, EY, simprocAttr, TYX, UX, d0, d1]
    | false =>
      cases hg : (decide (60 < a.length) || decide (60 < b.length)) with
      | true =>
        refine contract_of (N := _) (vars := _) (c := bodyOf Try.f9) Try.func9 (body_eq rfl) rfl rfl (by rfl) mixed _ _ trivial 1000 ?_
        simp only [bodyOf, Try.f9, Option.getD_some, argA, argE, List.length_cons, List.length_nil, Nat.reduceAdd, Nat.reduceSub, List.replicate, List.cons_append, List.nil_append]
        simp only [↓PX, SX, SYX, EY, simprocAttr, TYX, UX]
        refine CallVC.intro (c_alive7) trivial rfl rfl ?_
        simp only [↓PX, SX, SYX, EY, simprocAttr, TYX, UX, d0, d1]
        refine CallVC.intro (c_great7 a b) ⟨(by simp only [argMatch, SX, SYX, EY, simprocAttr, and_self, List.length_append, List.length_map, List.length_set, TYX, UX, hg]), (by simp only [argMatch, SX, SYX, EY, simprocAttr, and_self, List.length_append, List.length_map, List.length_set, TYX, UX, hg]), trivial⟩ rfl rfl ?_
        simp only [↓PX, SX, SYX, EY, simprocAttr, TYX, UX, hg]
      | false =>
        have hg' : a.length ≤ 60 ∧ b.length ≤ 60 := by simpa using hg
        have hk := kn_of d0 d1
        have P := pr_of hk
        have hd := eDv_of (s := s) (a := a) (b := b) hk (by omega)
        have c1 := u_Divide s a b ha hb (by omega) (by omega)
        have l1 := dvQ_len (s := s) (a := a) (b := b)
        have l2 := dvR_len (s := s) (a := a) (b := b)
        have l3 := pM_len (s := s) (a := dvQ s a b) (b := b)
        have l4 := tp_len (md s) a
        have l5 := tp_len (md s) b
        by_cases h0 : (tp (md s) b).length = 0
        · rw [if_pos h0] at hd
          rw [hd] at c1
          refine contract_of (N := _) (vars := _) (c := bodyOf Try.f9) Try.func9 (body_eq rfl) rfl rfl (by rfl) mixed _ _ trivial 1000 ?_
          simp only [bodyOf, Try.f9, Option.getD_some, argA, argE, List.length_cons, List.length_nil, Nat.reduceAdd, Nat.reduceSub, List.replicate, List.cons_append, List.nil_append]
          simp only [↓PX, SX, SYX, EY, simprocAttr, TYX, UX]
          refine CallVC.intro (c_alive7) trivial rfl rfl ?_
          simp only [↓PX, SX, SYX, EY, simprocAttr, TYX, UX, d0, d1]
          refine CallVC.intro (c_great7 a b) ⟨(by simp only [argMatch, SX, SYX, EY, simprocAttr, and_self, List.length_append, List.length_map, List.length_set, TYX, UX, hg]), (by simp only [argMatch, SX, SYX, EY, simprocAttr, and_self, List.length_append, List.length_map, List.length_set, TYX, UX, hg]), trivial⟩ rfl rfl ?_
          simp only [↓PX, SX, SYX, EY, simprocAttr, TYX, UX, hg]
          refine CallVC.intro (c_CopyElems a (by omega)) ⟨(by simp only [argMatch, SX, SYX, EY, simprocAttr, and_self, List.length_append, List.length_map, List.length_set, TYX, UX]), trivial⟩ rfl rfl ?_
          simp only [↓PX, SX, SYX, EY, simprocAttr, TYX, UX]
          refine CallVC.intro (c_CopyElems b (by omega)) ⟨(by simp only [argMatch, SX, SYX, EY, simprocAttr, and_self, List.length_append, List.length_map, List.length_set, TYX, UX]), trivial⟩ rfl rfl ?_
          simp only [↓PX, SX, SYX, EY, simprocAttr, TYX, UX]
          refine CallVC.intro (c1) ⟨rfl, (by simp only [argMatch, SX, SYX, EY, simprocAttr, and_self, List.length_append, List.length_map, List.length_set, TYX, UX]), (by simp only [argMatch, SX, SYX, EY, simprocAttr, and_self, List.length_append, List.length_map, List.length_set, TYX, UX]), trivial⟩ rfl rfl ?_
          simp only [↓PX, SX, SYX, EY, simprocAttr, TYX, UX]
        · rw [if_neg h0] at hd
          rw [hd] at c1
          have c2 := u_PMul s (dvQ s a b) b dvQ_w hb (by omega) (by omega)
          rw [eM_of hk (by omega)] at c2
          have c3 := u_PAdd s (pM s (dvQ s a b) b) (dvR s a b) pM_w dvR_w (by omega) (by omega)
          rw [law_back hk (by omega) (by omega) h0] at c3
          have hlt := (dv_spec (okD_of (s := s) (a := a) (b := b) hk (by omega) h0)).2
          have z1 : decide (((tp (md s) b).length : Int) ≤ ((dvR s a b).length : Int)) = false := by simp only [decide_eq_false_iff_not]; omega
          have e1 : zL s [x] = zer s [x] 1 := by simp [zL, hk]
          have hl : (zL s [x]).length = 2 := by rw [e1, zer_len P]
          have hw : ∀ y ∈ zL s [x], y < W256 := by rw [e1]; exact (zer_nrm P [x] 1).w
          have hn : tp (md s) (zL s [x]) = zL s [x] := by rw [e1]; exact (zer_nrm P [x] 1).tp
          have c4 := u_Zeros s [x] (by simpa using hx) (by simp)
          rw [show zE s [x] = 0 by simp [zE, hk]] at c4
          have c5 := u_Divide s a (zL s [x]) ha hw (by omega) (by omega)
          rw [eDv_of hk (by omega), hn, hl, if_neg (by decide), law_rest hk (by omega)] at c5
          have l6 := tp_len (md s) [evp (md s) x a]
          have l7 := dvQ_len (s := s) (a := a) (b := zL s [x])
          have c6 := u_Trim s [evp (md s) x a] (by intro y hy; simp only [List.mem_singleton] at hy; rw [hy]; exact evp_lt s x a) (by simp)
          refine contract_of (N := _) (vars := _) (c := bodyOf Try.f9) Try.func9 (body_eq rfl) rfl rfl (by rfl) mixed _ _ trivial 1000 ?_
          simp only [bodyOf, Try.f9, Option.getD_some, argA, argE, List.length_cons, List.length_nil, Nat.reduceAdd, Nat.reduceSub, List.replicate, List.cons_append, List.nil_append]
          simp only [↓PX, SX, SYX, EY, simprocAttr, TYX, UX]
          refine CallVC.intro (c_alive7) trivial rfl rfl ?_
          simp only [↓PX, SX, SYX, EY, simprocAttr, TYX, UX, d0, d1]
          refine CallVC.intro (c_great7 a b) ⟨(by simp only [argMatch, SX, SYX, EY, simprocAttr, and_self, List.length_append, List.length_map, List.length_set, TYX, UX, hg]), (by simp only [argMatch, SX, SYX, EY, simprocAttr, and_self, List.length_append, List.length_map, List.length_set, TYX, UX, hg]), trivial⟩ rfl rfl ?_
          simp only [↓PX, SX, SYX, EY, simprocAttr, TYX, UX, hg]
          refine CallVC.intro (c_CopyElems a (by omega)) ⟨(by simp only [argMatch, SX, SYX, EY, simprocAttr, and_self, List.length_append, List.length_map, List.length_set, TYX, UX]), trivial⟩ rfl rfl ?_
          simp only [↓PX, SX, SYX, EY, simprocAttr, TYX, UX]
          refine CallVC.intro (c_CopyElems b (by omega)) ⟨(by simp only [argMatch, SX, SYX, EY, simprocAttr, and_self, List.length_append, List.length_map, List.length_set, TYX, UX]), trivial⟩ rfl rfl ?_
          simp only [↓PX, SX, SYX, EY, simprocAttr, TYX, UX]
          refine CallVC.intro (c1) ⟨rfl, (by simp only [argMatch, SX, SYX, EY, simprocAttr, and_self, List.length_append, List.length_map, List.length_set, TYX, UX]), (by simp only [argMatch, SX, SYX, EY, simprocAttr, and_self, List.length_append, List.length_map, List.length_set, TYX, UX]), trivial⟩ rfl rfl ?_
          simp only [↓PX, SX, SYX, EY, simprocAttr, TYX, UX]
          refine CallVC.intro (c_CopyElems b (by omega)) ⟨(by simp only [argMatch, SX, SYX, EY, simprocAttr, and_self, List.length_append, List.length_map, List.length_set, TYX, UX]), trivial⟩ rfl rfl ?_
          simp only [↓PX, SX, SYX, EY, simprocAttr, TYX, UX]
          refine CallVC.intro (c2) ⟨rfl, (by simp only [argMatch, SX, SYX, EY, simprocAttr, and_self, List.length_append, List.length_map, List.length_set, TYX, UX]), (by simp only [argMatch, SX, SYX, EY, simprocAttr, and_self, List.length_append, List.length_map, List.length_set, TYX, UX]), trivial⟩ rfl rfl ?_
          simp only [↓PX, SX, SYX, EY, simprocAttr, TYX, UX]
          refine CallVC.intro (c3) ⟨rfl, (by simp only [argMatch, SX, SYX, EY, simprocAttr, and_self, List.length_append, List.length_map, List.length_set, TYX, UX]), (by simp only [argMatch, SX, SYX, EY, simprocAttr, and_self, List.length_append, List.length_map, List.length_set, TYX, UX]), trivial⟩ rfl rfl ?_
          simp only [↓PX, SX, SYX, EY, simprocAttr, TYX, UX]
          refine CallVC.intro (c_CopyElems a (by omega)) ⟨(by simp only [argMatch, SX, SYX, EY, simprocAttr, and_self, List.length_append, List.length_map, List.length_set, TYX, UX]), trivial⟩ rfl rfl ?_
          simp only [↓PX, SX, SYX, EY, simprocAttr, TYX, UX]
          refine CallVC.intro (u_Trim s a ha (by omega)) ⟨rfl, (by simp only [argMatch, SX, SYX, EY, simprocAttr, and_self, List.length_append, List.length_map, List.length_set, TYX, UX]), trivial⟩ rfl rfl ?_
          simp only [↓PX, SX, SYX, EY, simprocAttr, TYX, UX]
          refine CallVC.intro (same_of (tp (md s) a) (by omega) (tpW s _)) ⟨(by simp only [argMatch, SX, SYX, EY, simprocAttr, and_self, List.length_append, List.length_map, List.length_set, TYX, UX]), (by simp only [argMatch, SX, SYX, EY, simprocAttr, and_self, List.length_append, List.length_map, List.length_set, TYX, UX]), trivial⟩ rfl rfl ?_
          simp only [↓PX, SX, SYX, EY, simprocAttr, TYX, UX]
          refine CallVC.intro (c_CopyElems b (by omega)) ⟨(by simp only [argMatch, SX, SYX, EY, simprocAttr, and_self, List.length_append, List.length_map, List.length_set, TYX, UX]), trivial⟩ rfl rfl ?_
          simp only [↓PX, SX, SYX, EY, simprocAttr, TYX, UX]
          refine CallVC.intro (u_Trim s b hb (by omega)) ⟨rfl, (by simp only [argMatch, SX, SYX, EY, simprocAttr, and_self, List.length_append, List.length_map, List.length_set, TYX, UX, z1]), trivial⟩ rfl rfl ?_
          simp only [↓PX, SX, SYX, EY, simprocAttr, TYX, UX, z1]
          refine CallVC.intro (c4) ⟨rfl, (by simp only [argMatch, SX, SYX, EY, simprocAttr, and_self, List.length_append, List.length_map, List.length_set, TYX, UX, LC1, hl]), trivial⟩ rfl rfl ?_
          simp only [↓PX, SX, SYX, EY, simprocAttr, TYX, UX, LC1, hl]
          refine CallVC.intro (c_CopyElems a (by omega)) ⟨(by simp only [argMatch, SX, SYX, EY, simprocAttr, and_self, List.length_append, List.length_map, List.length_set, TYX, UX]), trivial⟩ rfl rfl ?_
          simp only [↓PX, SX, SYX, EY, simprocAttr, TYX, UX]
          refine CallVC.intro (c5) ⟨rfl, (by simp only [argMatch, SX, SYX, EY, simprocAttr, and_self, List.length_append, List.length_map, List.length_set, TYX, UX, hl]), (by simp only [argMatch, SX, SYX, EY, simprocAttr, and_self, List.length_append, List.length_map, List.length_set, TYX, UX, hl]), trivial⟩ rfl rfl ?_
          simp only [↓PX, SX, SYX, EY, simprocAttr, TYX, UX, hl]
          repeat (first | refine DrawVC.intro (by kernel_rfl) ?_ | refine And.intro (by omega) ?_ | exact trivial)
          refine CallVC.intro (c_CopyElems a (by omega)) ⟨(by simp only [argMatch, SX, SYX, EY, simprocAttr, and_self, List.length_append, List.length_map, List.length_set, TYX, UX]), trivial⟩ rfl rfl ?_
          simp only [↓PX, SX, SYX, EY, simprocAttr, TYX, UX]
          refine CallVC.intro (u_Eval s a x ha hx (by omega)) ⟨rfl, (by simp only [argMatch, SX, SYX, EY, simprocAttr, and_self, List.length_append, List.length_map, List.length_set, TYX, UX]), rfl, trivial⟩ rfl rfl ?_
          simp only [↓PX, SX, SYX, EY, simprocAttr, TYX, UX]
          refine CallVC.intro (c6) ⟨rfl, (by simp only [argMatch, SX, SYX, EY, simprocAttr, and_self, List.length_append, List.length_map, List.length_set, TYX, UX, LC1]), trivial⟩ rfl rfl ?_
          simp only [↓PX, SX, SYX, EY, simprocAttr, TYX, UX, LC1]
          refine CallVC.intro (same_of (tp (md s) [evp (md s) x a]) (by simp at l6; omega) (tpW s _)) ⟨(by simp only [argMatch, SX, SYX, EY, simprocAttr, and_self, List.length_append, List.length_map, List.length_set, TYX, UX]), (by simp only [argMatch, SX, SYX, EY, simprocAttr, and_self, List.length_append, List.length_map, List.length_set, TYX, UX]), trivial⟩ rfl rfl ?_
          simp only [↓PX, SX, SYX, EY, simprocAttr, TYX, UX]
end Go.Sx
