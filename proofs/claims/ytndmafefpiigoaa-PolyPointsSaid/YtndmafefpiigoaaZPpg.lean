/-
  PolyMeets. No conditions.
-/
import Derived.Test.YtndmafefpiigoaaZPpf
namespace Go.Sx
open Go.Proofs Go.Num
-- SY
-- TY: TYX, UX
set_option maxRecDepth 100000
set_option linter.unusedSimpArgs false
set_option pp.deepTerms true
set_option pp.maxSteps 100000
theorem zer_root {s : Int} (xs : List Nat) : ∀ k j, j < k → evk (κ (md s) (xs.getD j 0)) (zer s xs k) = 0
  | 0, _, h => absurd h (by omega)
  | k + 1, j, h => by
    rw [zer_ev]
    by_cases hj : j = k
    · subst hj; rw [evk_fac]; grind
    · rw [zer_root xs k j (by omega)]; grind
theorem thB_k {s : Int} (xs : List Nat) (i : Nat) : κ (md s) (thB s xs i) = evk (κ (md s) (xs.getD i 0)) (zer s xs i) := by unfold thB; rw [κ_evp]
theorem thF_step {s : Int} (xs ys : List Nat) (x : Fin (md s)) (i : Nat) : evk x (thF s xs ys (i + 1)) = evk x (thF s xs ys i) + (κ (md s) (ys.getD i 0) - evk (κ (md s) (xs.getD i 0)) (thF s xs ys i)) * ι (κ (md s) (thB s xs i)) * evk x (zer s xs i) := by
  show evk x (tp (md s) (pAdd (thF s xs ys i) (tp (md s) (pScale (zer s xs i) (sb (md s) (ys.getD i 0) (evp (md s) (xs.getD i 0) (thF s xs ys i)) * inv s (thB s xs i) % md s))))) = _
  rw [evk_tp, evk_pAdd, evk_tp, evk_pScale, κ_mod, κ_mul, κ_sb, κ_evp, κ_inv]
theorem thF_meets {s : Int} (P : PR (md s)) (xs ys : List Nat) : ∀ k, (∀ i, i < k → thB s xs i ≠ 0) → ∀ j, j < k → evk (κ (md s) (xs.getD j 0)) (thF s xs ys k) = κ (md s) (ys.getD j 0)
  | 0, _, _, h => absurd h (by omega)
  | k + 1, hB, j, h => by
    rw [thF_step]
    by_cases hj : j = k
    · subst hj
      have h1 : κ (md s) (thB s xs j) ≠ 0 := by
        rw [Ne, κ_eq0, Nat.mod_eq_of_lt (thB_md s xs j)]; exact hB j (by omega)
      have h2 := ι_mul P h1
      rw [← thB_k]
      grind
    · rw [zer_root xs k j (by omega), thF_meets P xs ys k (fun i hi => hB i (by omega)) j (by omega)]; grind
theorem thOK_nodup {s : Int} {xs : List Nat} (h : thOK s xs = true) : (xs.map (κ (md s))).Nodup := by
  rw [List.Nodup, List.pairwise_map, List.pairwise_iff_getElem]
  intro i j hi hj hij e
  refine (thOK_iff.1 h j hj) ?_
  have h1 := zer_root (s := s) xs j i hij
  have e1 : xs.getD i 0 = xs[i] := by simp [List.getD, hi]
  have e2 : xs.getD j 0 = xs[j] := by simp [List.getD, hj]
  rw [e1, e, ← e2, ← thB_k, κ_eq0, Nat.mod_eq_of_lt (thB_md s xs j)] at h1
  exact h1
/-- What meets the points is what goes through them. -/
theorem thF_uniq {s : Int} (P : PR (md s)) {xs ys f : List Nat} (h : thOK s xs = true) (hf : f.length ≤ xs.length) (hv : ∀ j, j < xs.length → evk (κ (md s) (xs.getD j 0)) f = κ (md s) (ys.getD j 0)) : thF s xs ys xs.length = tp (md s) f := by
  rw [← (thF_nrm xs ys xs.length).tp]
  refine meets P (rs := xs.map (κ (md s))) (thOK_nodup h) (by rw [List.length_map]; exact thF_len P xs ys _) (by rw [List.length_map]; exact hf) ?_
  intro r hr
  rw [List.mem_map] at hr
  obtain ⟨x, hx, rfl⟩ := hr
  obtain ⟨j, hj, rfl⟩ := List.getElem_of_mem hx
  have e1 : xs.getD j 0 = xs[j] := by simp [List.getD, hj]
  rw [← e1, hv j hj, thF_meets P xs ys xs.length (fun i hi => thOK_iff.1 h i hi) j hj]
def vals (s : Int) (a xs : List Nat) : List Nat := xs.map fun x => evp (md s) x a
theorem vals_len {s : Int} {a xs : List Nat} : (vals s a xs).length = xs.length := by simp [vals]
theorem vals_at {s : Int} {a xs : List Nat} {i : Nat} (h : i < xs.length) : (vals s a xs).getD i 0 = evp (md s) (xs.getD i 0) a := by simp [vals, List.getD, h]
theorem vals_w {s : Int} {a xs : List Nat} : ∀ y ∈ vals s a xs, y < W256 := by
  intro y hy
  simp only [vals, List.mem_map] at hy
  obtain ⟨x, _, rfl⟩ := hy
  exact evp_lt s _ _
theorem vals_take {s : Int} {a xs : List Nat} {i : Nat} (h : i < xs.length) : (vals s a xs).take i ++ [evp (md s) (xs.getD i 0) a] = (vals s a xs).take (i + 1) := by
  rw [← vals_at h]
  have h' : i < (vals s a xs).length := by rw [vals_len]; exact h
  rw [List.take_succ_eq_append_getElem h']
  simp [List.getD, h']
theorem c_PolyMeets (s : Int) (a xs : List Nat) (ha : ∀ y ∈ a, y < W256) (hx : ∀ y ∈ xs, y < W256) (ha2 : a.length * 32 ≤ 140737488351232) (hx2 : xs.length * 32 ≤ 140737488351232) :
    Contract Try.prog 8 [.val (.int .i64 s), .sl a.length 4 (LC eC a), .sl xs.length 4 (LC eC xs)] [.val (.bool true)] := by
  cases d0 : decide (s < 0) with
  | true =>
    refine contract_of (N := _) (vars := _) (c := bodyOf Try.f8) Try.func8 (body_eq rfl) rfl rfl (by rfl) mixed _ _ trivial 1000 ?_
    simp only [bodyOf, Try.f8, Option.getD_some, argA, argE, List.length_cons, List.length_nil, Nat.reduceAdd, Nat.reduceSub, List.replicate, List.cons_append, List.nil_append]
    simp only [↓PX, SX, SYX, EY, simprocAttr, TYX, UX]
    refine CallVC.intro (c_alive7) trivial rfl rfl ?_
    simp only [↓PX, SX, SYX, EY, simprocAttr, TYX, UX, d0]
  | false =>
    cases d1 : decide ((3 : Int) < s) with
    | true =>
      refine contract_of (N := _) (vars := _) (c := bodyOf Try.f8) Try.func8 (body_eq rfl) rfl rfl (by rfl) mixed _ _ trivial 1000 ?_
      simp only [bodyOf, Try.f8, Option.getD_some, argA, argE, List.length_cons, List.length_nil, Nat.reduceAdd, Nat.reduceSub, List.replicate, List.cons_append, List.nil_append]
      simp only [↓PX, SX, SYX, EY, simprocAttr, TYX, UX]
      refine CallVC.intro (c_alive7) trivial rfl rfl ?_
      simp only [↓PX, SX, SYX, EY, simprocAttr, TYX, UX, d0, d1]
    | false =>
      cases d2 : decide ((20 : Int) < (a.length : Int)) with
      | true =>
        refine contract_of (N := _) (vars := _) (c := bodyOf Try.f8) Try.func8 (body_eq rfl) rfl rfl (by rfl) mixed _ _ trivial 1000 ?_
        simp only [bodyOf, Try.f8, Option.getD_some, argA, argE, List.length_cons, List.length_nil, Nat.reduceAdd, Nat.reduceSub, List.replicate, List.cons_append, List.nil_append]
        simp only [↓PX, SX, SYX, EY, simprocAttr, TYX, UX]
        refine CallVC.intro (c_alive7) trivial rfl rfl ?_
        simp only [↓PX, SX, SYX, EY, simprocAttr, TYX, UX, d0, d1, d2]
      | false =>
        cases d3 : decide ((20 : Int) < (xs.length : Int)) with
        | true =>
          refine contract_of (N := _) (vars := _) (c := bodyOf Try.f8) Try.func8 (body_eq rfl) rfl rfl (by rfl) mixed _ _ trivial 1000 ?_
          simp only [bodyOf, Try.f8, Option.getD_some, argA, argE, List.length_cons, List.length_nil, Nat.reduceAdd, Nat.reduceSub, List.replicate, List.cons_append, List.nil_append]
          simp only [↓PX, SX, SYX, EY, simprocAttr, TYX, UX]
          refine CallVC.intro (c_alive7) trivial rfl rfl ?_
          simp only [↓PX, SX, SYX, EY, simprocAttr, TYX, UX, d0, d1, d2, d3]
        | false =>
          have q2 := of_decide_eq_false d2
          have q3 := of_decide_eq_false d3
          have hk := kn_of d0 d1
          have P := pr_of hk
          refine contract_of (N := _) (vars := _) (c := bodyOf Try.f8) Try.func8 (body_eq rfl) rfl rfl (by rfl) mixed _ _ trivial 1000 ?_
          simp only [bodyOf, Try.f8, Option.getD_some, argA, argE, List.length_cons, List.length_nil, Nat.reduceAdd, Nat.reduceSub, List.replicate, List.cons_append, List.nil_append]
          simp only [↓PX, SX, SYX, EY, simprocAttr, TYX, UX]
          refine CallVC.intro (c_alive7) trivial rfl rfl ?_
          simp only [↓PX, SX, SYX, EY, simprocAttr, TYX, UX, d0, d1, d2, d3]
          refine loop_hav ?_
          simp only [↓PX, SX, SYX, EY, simprocAttr, TYX, UX]
          refine loop_go mixed (by trivial) (γ := Nat) (fun i => i ≤ xs.length) (fun i => xs.length - i) (fun i => [(8, iv i), (7, .o (.r 79 i)), (31, .o .any)]) (fun i => [(79, .row 25 4 i (LC eC ((vals s a xs).take i)))]) 0 (by omega)
            (St.le_of id (by simp [-List.getD_eq_getElem?_getD, SYX, iv, Tle, AVle, A0le, Mem.get, eL_nil]) (by simp [-List.getD_eq_getElem?_getD, SYX, Mle, Ele, Hle, Tle, AVle, A0le, Mem.get, eL_nil]) (by simp [SYX]) (by simp [SYX])) ?_
          intro i hi
          simp only [↓PX, SX, SYX, EY, simprocAttr, TYX, UX]
          refine cond_split (fun h0 => ?_) (fun h0 => ?_)
          · have h0 : i < xs.length := by simpa using h0
            have hxi := getD_lt hx h0
            have e7 := vals_take (s := s) (a := a) h0
            simp only [↓PX, SX, SYX, EY, simprocAttr, TYX, UX, eL_ld h0]
            repeat (first | refine DrawVC.intro (by kernel_rfl) ?_ | refine And.intro (by omega) ?_ | exact trivial)
            refine CallVC.intro (c_CopyElems a (by omega)) ⟨(by simp only [argMatch, SX, SYX, EY, simprocAttr, and_self, List.length_append, List.length_map, List.length_set, TYX, UX]), trivial⟩ rfl rfl ?_
            simp only [↓PX, SX, SYX, EY, simprocAttr, TYX, UX]
            repeat (first | refine DrawVC.intro (by kernel_rfl) ?_ | refine And.intro (by omega) ?_ | exact trivial)
            simp only [↓PX, SX, SYX, EY, simprocAttr, TYX, UX, eL_ld h0]
            refine CallVC.intro (u_Eval s a _ ha hxi (by omega)) ⟨rfl, (by simp only [argMatch, SX, SYX, EY, simprocAttr, and_self, List.length_append, List.length_map, List.length_set, TYX, UX, e7, wS (j := i) (by omega)]), rfl, trivial⟩ rfl rfl ?_
            simp only [↓PX, SX, SYX, EY, simprocAttr, TYX, UX, e7, wS (j := i) (by omega)]
            repeat (first | refine DrawVC.intro (by kernel_rfl) ?_ | refine And.intro (by omega) ?_ | exact trivial)
            exact ⟨i + 1, by omega, by omega, (St.le_of (ren [(79, 147)]) (by simp [-List.getD_eq_getElem?_getD, SYX, iv, ren, Tle, AVle, A0le, Mem.get, Nat.add_assoc]) (by simp [-List.getD_eq_getElem?_getD, SYX, ren, Mle, Ele, Mem.get, Nat.add_assoc]) (by simp [SYX, ren]) (by simp [SYX]))⟩
          · have h0 : i = xs.length := by
              have : xs.length ≤ i := by simpa using h0
              omega
            subst h0
            have hvt : List.take xs.length (vals s a xs) = vals s a xs := List.take_of_length_le (by rw [vals_len]; exact Nat.le_refl _)
            have c1 := u_Through s xs (vals s a xs) hx vals_w (by omega) (by rw [vals_len]; omega)
            have l4 := tp_len (md s) a
            cases hok : thOK s xs with
            | false =>
              rw [show thE s xs (vals s a xs) = 10 by simp [thE, hk, vals_len, hok]; omega, vals_len] at c1
              simp only [↓PX, SX, SYX, EY, simprocAttr, TYX, UX, hvt]
              refine CallVC.intro (c_CopyElems xs (by omega)) ⟨(by simp only [argMatch, SX, SYX, EY, simprocAttr, and_self, List.length_append, List.length_map, List.length_set, TYX, UX]), trivial⟩ rfl rfl ?_
              simp only [↓PX, SX, SYX, EY, simprocAttr, TYX, UX]
              refine CallVC.intro (c1) ⟨rfl, (by simp only [argMatch, SX, SYX, EY, simprocAttr, and_self, List.length_append, List.length_map, List.length_set, TYX, UX, hvt, vals_len]), (by simp only [argMatch, SX, SYX, EY, simprocAttr, and_self, List.length_append, List.length_map, List.length_set, TYX, UX, hvt, vals_len]), trivial⟩ rfl rfl ?_
              simp only [↓PX, SX, SYX, EY, simprocAttr, TYX, UX, hvt, vals_len]
            | true =>
              have eL : thL s xs (vals s a xs) = thF s xs (vals s a xs) xs.length := by simp [thL, hk, vals_len, hok]; omega
              have hfl := thF_len P xs (vals s a xs) xs.length
              have hfw := (thF_nrm (s := s) xs (vals s a xs) xs.length).w
              have hev : ∀ j, j < xs.length → evp (md s) (xs.getD j 0) (thF s xs (vals s a xs) xs.length) = (vals s a xs).getD j 0 := by
                intro j hj
                have h1 := thF_meets P xs (vals s a xs) xs.length (fun i hi => thOK_iff.1 hok i hi) j hj
                rw [← κ_evp, κ_inj, Nat.mod_eq_of_lt (evp_md s _ _), vals_at hj, Nat.mod_eq_of_lt (evp_md s _ _)] at h1
                rw [h1, vals_at hj]
              rw [show thE s xs (vals s a xs) = 0 by simp [thE, hk, vals_len, hok]; omega, vals_len, eL] at c1
              simp only [↓PX, SX, SYX, EY, simprocAttr, TYX, UX, hvt]
              refine CallVC.intro (c_CopyElems xs (by omega)) ⟨(by simp only [argMatch, SX, SYX, EY, simprocAttr, and_self, List.length_append, List.length_map, List.length_set, TYX, UX]), trivial⟩ rfl rfl ?_
              simp only [↓PX, SX, SYX, EY, simprocAttr, TYX, UX]
              refine CallVC.intro (c1) ⟨rfl, (by simp only [argMatch, SX, SYX, EY, simprocAttr, and_self, List.length_append, List.length_map, List.length_set, TYX, UX, hvt, vals_len]), (by simp only [argMatch, SX, SYX, EY, simprocAttr, and_self, List.length_append, List.length_map, List.length_set, TYX, UX, hvt, vals_len]), trivial⟩ rfl rfl ?_
              simp only [↓PX, SX, SYX, EY, simprocAttr, TYX, UX, hvt, vals_len]
              refine loop_hav ?_
              simp only [↓PX, SX, SYX, EY, simprocAttr, TYX, UX]
              refine loop_go mixed (by trivial) (γ := Nat) (fun i => i ≤ xs.length) (fun i => xs.length - i) (fun i => [(11, iv i)]) (fun _ => []) 0 (by omega)
                (St.le_of id (by simp [-List.getD_eq_getElem?_getD, SYX, iv, Tle, AVle, A0le, Mem.get]) (by simp [-List.getD_eq_getElem?_getD, SYX, Mle, Ele, Hle, Tle, AVle, A0le, Mem.get]) (by simp [SYX]) (by simp [SYX])) ?_
              intro i hi
              simp only [↓PX, SX, SYX, EY, simprocAttr, TYX, UX]
              refine cond_split (fun h0 => ?_) (fun h0 => ?_)
              · have h0 : i < xs.length := by simpa using h0
                have hxi := getD_lt hx h0
                have hvi : i < (vals s a xs).length := by rw [vals_len]; exact h0
                have c2 := u_Eval s (thF s xs (vals s a xs) xs.length) (xs.getD i 0) hfw hxi (by omega)
                rw [hev i h0] at c2
                simp only [↓PX, SX, SYX, EY, simprocAttr, TYX, UX, eL_ld h0]
                repeat (first | refine DrawVC.intro (by kernel_rfl) ?_ | refine And.intro (by omega) ?_ | exact trivial)
                refine CallVC.intro (c2) ⟨rfl, (by simp only [argMatch, SX, SYX, EY, simprocAttr, and_self, List.length_append, List.length_map, List.length_set, TYX, UX, eL_ld h0, eL_ld hvi, vals_len]), rfl, trivial⟩ rfl rfl ?_
                simp only [↓PX, SX, SYX, EY, simprocAttr, TYX, UX, eL_ld h0, eL_ld hvi, vals_len]
                repeat (first | refine DrawVC.intro (by kernel_rfl) ?_ | refine And.intro (by omega) ?_ | exact trivial)
                exact ⟨i + 1, by omega, by omega, (St.le_of id (by simp [-List.getD_eq_getElem?_getD, SYX, iv, Tle, AVle, A0le, Mem.get, wS (j := i) (by omega)]) (by simp [-List.getD_eq_getElem?_getD, SYX, Mle, Ele, Hle, Tle, AVle, A0le, Mem.get, wS (j := i) (by omega)]) (by simp [SYX]) (by simp [SYX]))⟩
              · simp only [↓PX, SX, SYX, EY, simprocAttr, TYX, UX]
                refine CallVC.intro (c_CopyElems a (by omega)) ⟨(by simp only [argMatch, SX, SYX, EY, simprocAttr, and_self, List.length_append, List.length_map, List.length_set, TYX, UX]), trivial⟩ rfl rfl ?_
                simp only [↓PX, SX, SYX, EY, simprocAttr, TYX, UX]
                refine CallVC.intro (u_Trim s a ha (by omega)) ⟨rfl, (by simp only [argMatch, SX, SYX, EY, simprocAttr, and_self, List.length_append, List.length_map, List.length_set, TYX, UX]), trivial⟩ rfl rfl ?_
                simp only [↓PX, SX, SYX, EY, simprocAttr, TYX, UX]
                by_cases hlt : xs.length < (tp (md s) a).length
                · have z1 : decide ((xs.length : Int) < ((tp (md s) a).length : Int)) = true := by simp; omega
                  simp only [↓PX, SX, SYX, EY, simprocAttr, TYX, UX, z1]
                · have z1 : decide ((xs.length : Int) < ((tp (md s) a).length : Int)) = false := by simp only [decide_eq_false_iff_not]; omega
                  have hu := thF_uniq P (ys := vals s a xs) (f := tp (md s) a) hok (by omega) fun j hj => by
                    rw [evk_tp, ← κ_evp, vals_at hj]
                  rw [tp_tp] at hu
                  have hs := same_of (tp (md s) a) (by omega) (tpW s _)
                  simp only [↓PX, SX, SYX, EY, simprocAttr, TYX, UX, z1, hu]
                  refine CallVC.intro (hs) ⟨(by simp only [argMatch, SX, SYX, EY, simprocAttr, and_self, List.length_append, List.length_map, List.length_set, TYX, UX]), (by simp only [argMatch, SX, SYX, EY, simprocAttr, and_self, List.length_append, List.length_map, List.length_set, TYX, UX]), trivial⟩ rfl rfl ?_
                  simp only [↓PX, SX, SYX, EY, simprocAttr, TYX, UX]
end Go.Sx
