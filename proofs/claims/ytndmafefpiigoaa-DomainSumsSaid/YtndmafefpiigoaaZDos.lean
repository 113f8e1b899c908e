/-
  DomainSums. No conditions.
-/
import Derived.Test.YtndmafefpiigoaaZDoq
import Derived.Test.YtndmafefpiigoaaZPop
import Derived.Test.YtndmafefpiigoaaZPow
namespace Go.Sx
open Go.Proofs Go.Num
-- SY
-- TY: TYX, UX
set_option maxRecDepth 100000
set_option linter.unusedSimpArgs false
set_option pp.deepTerms true
set_option pp.maxSteps 100000
/-- The sums of two lists' elements. -/
def suF (s : Int) (a b : List Nat) (i : Nat) : Nat := if i < b.length then ((if i < a.length then a.getD i 0 % md s else 0) + b.getD i 0) % md s else (if i < a.length then a.getD i 0 % md s else 0)
theorem suF_w (s : Int) (a b : List Nat) (i : Nat) : suF s a b i < W256 := by
  unfold suF
  split
  · exact md_w s _
  · split
    · exact md_w s _
    · decide
/-- A sum, one by one. -/
def sumN (s : Int) (g : Nat → Nat) : Nat → Nat
  | 0 => 0
  | i + 1 => (sumN s g i + g i) % md s
theorem sumN_w (s : Int) (g : Nat → Nat) : ∀ i, sumN s g i < W256
  | 0 => by show 0 < W256; decide
  | _ + 1 => md_w s _
theorem sumN_lt {s : Int} {g : Nat → Nat} : ∀ i, sumN s g i < md s
  | 0 => md_pos s
  | _ + 1 => md_mod _ _
theorem κ_sumN (s : Int) (g : Nat → Nat) : ∀ i, κ (md s) (sumN s g i) = sm i (fun j => κ (md s) (g j))
  | 0 => κ_zero
  | i + 1 => by
    show κ (md s) ((sumN s g i + g i) % md s) = sm i (fun j => κ (md s) (g j)) + κ (md s) (g i)
    rw [κ_mod, κ_add, κ_sumN s g i]
section
variable {s : Int} {n : Nat} {a b : List Nat}
theorem su_co (i : Nat) : co (md s) (tab (max a.length b.length) (suF s a b)) i = co (md s) a i + co (md s) b i := by
  unfold co
  rcases Nat.lt_or_ge i (max a.length b.length) with h | h
  · rw [tab_at h]
    unfold suF
    by_cases h1 : i < a.length
    · by_cases h2 : i < b.length
      · rw [if_pos h1, if_pos h2, κ_mod, κ_add, κ_mod]
      · rw [if_pos h1, if_neg h2, κ_mod, getD_out (l := b) (by omega), κ_zero]; grind
    · rw [if_neg h1, if_pos (by omega), κ_mod, κ_add, κ_zero, getD_out (l := a) (by omega), κ_zero]
  · rw [tab_out h, getD_out (l := a) (by omega), getD_out (l := b) (by omega), κ_zero]; grind
theorem su_val (ha : a.length ≤ 2 ^ n) (hb : b.length ≤ 2 ^ n) (sh i : Nat) : vaF s n sh (tab (max a.length b.length) (suF s a b)) i = (vaF s n sh a i + vaF s n sh b i) % md s := by
  have h1 : vaF s n sh (tab (max a.length b.length) (suF s a b)) i < md s := evp_md _ _ _
  have key : κ (md s) (vaF s n sh (tab (max a.length b.length) (suF s a b)) i) = κ (md s) (vaF s n sh a i + vaF s n sh b i) := by
    rw [κ_add, vaF_sm ha, vaF_sm hb, vaF_sm (by rw [tab_len]; omega), ← sm_add]
    refine sm_congr fun t _ => ?_
    rw [su_co]; grind
  rw [κ_inj, Nat.mod_eq_of_lt h1] at key
  exact key
theorem all_one (h : ptO s n = true) (x : Nat) : sumN s (fun i => lgU s n i x) (2 ^ n) = 1 := by
  have P := pr_of (ptO_iff.1 h).1
  have key : κ (md s) (sumN s (fun i => lgU s n i x) (2 ^ n)) = κ (md s) 1 := by
    rw [κ_sumN, κ_one]
    have g := lg_sum h (fun t => if t = 0 then 1 else 0) x
    have e1 : ∀ i : Nat, sm (2 ^ n) (fun t => (if t = 0 then 1 else 0) * κ (md s) (rk s n) ^ (t * i)) = 1 := fun i => by
      rw [sm_pick (j := 0) (Nat.two_pow_pos n) fun t _ hne => by rw [if_neg hne]; grind, if_pos rfl, Nat.zero_mul, f_pow_zero]; grind
    rw [sm_pick (g := fun t => (if t = 0 then 1 else 0) * κ (md s) x ^ t) (j := 0) (Nat.two_pow_pos n) fun t _ hne => by rw [if_neg hne]; grind, if_pos rfl, f_pow_zero] at g
    rw [sm_congr (h := fun i : Nat => κ (md s) (lgU s n i x)) fun i _ => by rw [e1]; grind] at g
    rw [g]; grind
  rw [κ_inj, Nat.mod_eq_of_lt (sumN_lt _), Nat.mod_eq_of_lt P.1] at key
  exact key
theorem at_val (h : ptO s n = true) (ha : a.length ≤ 2 ^ n) (x : Nat) : sumN s (fun i => lgU s n i x * vaF s n 1 a i % md s) (2 ^ n) = evp (md s) x a := by
  have h1 : evp (md s) x a < md s := evp_md _ _ _
  have key : κ (md s) (sumN s (fun i => lgU s n i x * vaF s n 1 a i % md s) (2 ^ n)) = κ (md s) (evp (md s) x a) := by
    rw [κ_sumN, κ_evp, evk_sm]
    obtain ⟨d, hd⟩ : ∃ d, 2 ^ n = a.length + d := ⟨2 ^ n - a.length, by omega⟩
    have g := lg_sum h (co (md s) a) x
    have e2 : sm (2 ^ n) (fun t => co (md s) a t * κ (md s) x ^ t) = sm a.length (fun t => co (md s) a t * κ (md s) x ^ t) := by
      rw [hd, sm_more]
      intro t h1 _
      rw [co_out h1]; grind
    rw [← e2, ← g]
    refine sm_congr fun i _ => ?_
    rw [κ_mod, κ_mul, vaF_sm ha]
    congr 1
    refine sm_congr fun t _ => ?_
    rw [κ_one, f_one_pow]; grind
  rw [κ_inj, Nat.mod_eq_of_lt (sumN_lt _), Nat.mod_eq_of_lt h1] at key
  exact key
end
set_option maxHeartbeats 1600000 in
theorem c_DomainSums (s k : Int) (a b : List Nat) (x : Nat) (ha : ∀ y ∈ a, y < W256) (hb : ∀ y ∈ b, y < W256) (hx : x < W256) (ha2 : a.length * 32 ≤ 140737488351232) (hb2 : b.length * 32 ≤ 140737488351232) : Contract Try.prog 12 [.val (.int .i64 s), .val (.int .i64 k), .sl a.length 4 (LC eC a), .sl b.length 4 (LC eC b), .val (EN x)] [.val (.bool true)] := by
  cases hg : gr6 s k with
  | true =>
    refine contract_of (N := _) (vars := _) (c := bodyOf Try.f12) Try.func12 (body_eq rfl) rfl rfl (by rfl) mixed _ _ trivial 1000 ?_
    simp only [bodyOf, Try.f12, Option.getD_some, argA, argE, List.length_cons, List.length_nil, Nat.reduceAdd, Nat.reduceSub, List.replicate, List.cons_append, List.nil_append]
    simp only [↓PX, SX, SYX, EY, simprocAttr, TYX, UX]
    refine CallVC.intro (c_alive6) trivial rfl rfl ?_
    simp only [↓PX, SX, SYX, EY, simprocAttr, TYX, UX]
    refine CallVC.intro (c_great6 s k) ⟨rfl, rfl, trivial⟩ rfl rfl ?_
    simp only [↓PX, SX, SYX, EY, simprocAttr, TYX, UX, hg]
  | false =>
    cases d0 : decide ((64 : Int) < (a.length : Int)) with
    | true =>
      refine contract_of (N := _) (vars := _) (c := bodyOf Try.f12) Try.func12 (body_eq rfl) rfl rfl (by rfl) mixed _ _ trivial 1000 ?_
      simp only [bodyOf, Try.f12, Option.getD_some, argA, argE, List.length_cons, List.length_nil, Nat.reduceAdd, Nat.reduceSub, List.replicate, List.cons_append, List.nil_append]
      simp only [↓PX, SX, SYX, EY, simprocAttr, TYX, UX]
      refine CallVC.intro (c_alive6) trivial rfl rfl ?_
      simp only [↓PX, SX, SYX, EY, simprocAttr, TYX, UX]
      refine CallVC.intro (c_great6 s k) ⟨rfl, rfl, trivial⟩ rfl rfl ?_
      simp only [↓PX, SX, SYX, EY, simprocAttr, TYX, UX, hg, d0]
    | false =>
      have q0 := of_decide_eq_false d0
      cases d1 : decide ((64 : Int) < (b.length : Int)) with
      | true =>
        refine contract_of (N := _) (vars := _) (c := bodyOf Try.f12) Try.func12 (body_eq rfl) rfl rfl (by rfl) mixed _ _ trivial 1000 ?_
        simp only [bodyOf, Try.f12, Option.getD_some, argA, argE, List.length_cons, List.length_nil, Nat.reduceAdd, Nat.reduceSub, List.replicate, List.cons_append, List.nil_append]
        simp only [↓PX, SX, SYX, EY, simprocAttr, TYX, UX]
        refine CallVC.intro (c_alive6) trivial rfl rfl ?_
        simp only [↓PX, SX, SYX, EY, simprocAttr, TYX, UX]
        refine CallVC.intro (c_great6 s k) ⟨rfl, rfl, trivial⟩ rfl rfl ?_
        simp only [↓PX, SX, SYX, EY, simprocAttr, TYX, UX, hg, d0, d1]
      | false =>
        have q1 := of_decide_eq_false d1
        have c1 := u_Values s k 1 a (by decide) ha (by omega)
        have c2 := u_Values s k 1 b (by decide) hb (by omega)
        by_cases he : vaE s k 1 a = 0
        · have he' : (vaE s k 1 a != 0) = false := by simp [he]
          by_cases hf : vaE s k 1 b = 0
          · have hf' : (vaE s k 1 b != 0) = false := by simp [hf]
            obtain ⟨h, hz, hla⟩ := vaE_0.1 he
            obtain ⟨_, _, hlb⟩ := vaE_0.1 hf
            obtain ⟨n, rfl⟩ : ∃ n : Nat, k = n := ⟨k.toNat, by have := ptO_iff.1 h; omega⟩
            rw [Int.toNat_natCast] at hla hlb
            have hp := pow_le9 (k := n) (by have := ptO_iff.1 h; omega)
            have eVa : vaL s n 1 a = tab (2 ^ n) (vaF s n 1 a) := by
              unfold vaL; rw [if_pos (by simp [vaO, h, hz, hla])]; rfl
            have eVb : vaL s n 1 b = tab (2 ^ n) (vaF s n 1 b) := by
              unfold vaL; rw [if_pos (by simp [vaO, h, hz, hlb])]; rfl
            rw [eVa, he, tab_len] at c1
            rw [eVb, hf, tab_len] at c2
            obtain ⟨M, hM⟩ : ∃ M, max a.length b.length = M := ⟨_, rfl⟩
            have hsu := fun i => su_val (s := s) hla hlb 1 i
            have hal := all_one h x
            have hav := at_val h hla x
            rw [hM] at hsu
            have c3 := u_Values s n 1 (tab M (suF s a b)) (by decide) (tab_w fun _ => suF_w _ _ _ _) (by rw [tab_len]; omega)
            have eVc : vaL s n 1 (tab M (suF s a b)) = tab (2 ^ n) (vaF s n 1 (tab M (suF s a b))) := by
              unfold vaL; rw [if_pos (by simp [vaO, h, hz, tab_len]; omega)]; rfl
            have eEc : vaE s n 1 (tab M (suF s a b)) = 0 := vaE_0.2 ⟨h, hz, by rw [tab_len, Int.toNat_natCast]; omega⟩
            rw [eVc, eEc, tab_len, tab_len] at c3
            obtain ⟨N, hN⟩ : ∃ N, 2 ^ n = N := ⟨_, rfl⟩
            rw [hN] at c1 c2 c3 hla hlb hp hal hav
            have hlN : ∀ f, (tab N f).length = N := fun _ => tab_len
            refine contract_of (N := _) (vars := _) (c := bodyOf Try.f12) Try.func12 (body_eq rfl) rfl rfl (by rfl) mixed _ _ trivial 1000 ?_
            simp only [bodyOf, Try.f12, Option.getD_some, argA, argE, List.length_cons, List.length_nil, Nat.reduceAdd, Nat.reduceSub, List.replicate, List.cons_append, List.nil_append]
            simp only [↓PX, SX, SYX, EY, simprocAttr, TYX, UX]
            refine CallVC.intro (c_alive6) trivial rfl rfl ?_
            simp only [↓PX, SX, SYX, EY, simprocAttr, TYX, UX]
            refine CallVC.intro (c_great6 s n) ⟨rfl, rfl, trivial⟩ rfl rfl ?_
            simp only [↓PX, SX, SYX, EY, simprocAttr, TYX, UX, hg, d0, d1]
            repeat (first | refine DrawVC.intro (by kernel_rfl) ?_ | refine And.intro (by omega) ?_ | exact trivial)
            refine CallVC.intro (c_CopyElems a (by omega)) ⟨(by simp only [argMatch, SX, SYX, EY, simprocAttr, and_self, List.length_append, List.length_map, List.length_set, TYX, UX]), trivial⟩ rfl rfl ?_
            simp only [↓PX, SX, SYX, EY, simprocAttr, TYX, UX]
            refine CallVC.intro (c1) ⟨rfl, rfl, rfl, (by simp only [argMatch, SX, SYX, EY, simprocAttr, and_self, List.length_append, List.length_map, List.length_set, TYX, UX]), trivial⟩ rfl rfl ?_
            simp only [↓PX, SX, SYX, EY, simprocAttr, TYX, UX]
            repeat (first | refine DrawVC.intro (by kernel_rfl) ?_ | refine And.intro (by omega) ?_ | exact trivial)
            refine CallVC.intro (c_CopyElems b (by omega)) ⟨(by simp only [argMatch, SX, SYX, EY, simprocAttr, and_self, List.length_append, List.length_map, List.length_set, TYX, UX]), trivial⟩ rfl rfl ?_
            simp only [↓PX, SX, SYX, EY, simprocAttr, TYX, UX]
            refine CallVC.intro (c2) ⟨rfl, rfl, rfl, (by simp only [argMatch, SX, SYX, EY, simprocAttr, and_self, List.length_append, List.length_map, List.length_set, TYX, UX]), trivial⟩ rfl rfl ?_
            simp only [↓PX, SX, SYX, EY, simprocAttr, TYX, UX]
            refine loop_hav ?_
            simp only [↓PX, SX, SYX, EY, simprocAttr, TYX, UX]
            refine loop_go mixed (by trivial) (γ := Nat) (fun i => i ≤ M) (fun i => M - i) (fun i => [(17, iv i), (66, .o .any), (16, .o (.r 197 i))]) (fun i => [(197, .row 25 4 i (LC eC (tab i (suF s a b))))]) 0 (by omega)
              (St.le_of id (by simp [-List.getD_eq_getElem?_getD, SYX, iv, Tle, AVle, A0le, Mem.get, tab_0, eL_nil]) (by simp [-List.getD_eq_getElem?_getD, SYX, Mle, Ele, Hle, Tle, AVle, A0le, Mem.get, tab_0, eL_nil]) (by simp [SYX]) (by simp [SYX])) ?_
            intro i hi
            by_cases ga : i < a.length
            · have da : decide ((i : Int) < (a.length : Int)) = true := by simp; omega
              have ca := u_Add s 0 (a.getD i 0) (by decide) (getD_lt ha ga)
              rw [Nat.zero_add] at ca
              by_cases gb : i < b.length
              · have db : decide ((i : Int) < (b.length : Int)) = true := by simp; omega
                have e1 : (a.getD i 0 % md s + b.getD i 0) % md s = suF s a b i := by unfold suF; rw [if_pos ga, if_pos gb]
                have cb := u_Add s (a.getD i 0 % md s) (b.getD i 0) (md_w s _) (getD_lt hb gb)
                rw [e1] at cb
                simp only [↓PX, SX, SYX, EY, simprocAttr, TYX, UX, da, db]
                simp only [↓PX, SX, SYX, EY, simprocAttr, TYX, UX, eL_ld ga]
                repeat (first | refine DrawVC.intro (by kernel_rfl) ?_ | refine And.intro (by omega) ?_ | exact trivial)
                refine CallVC.intro (ca) ⟨rfl, rfl, rfl, trivial⟩ rfl rfl ?_
                simp only [↓PX, SX, SYX, EY, simprocAttr, TYX, UX, da, db, eL_ld gb]
                repeat (first | refine DrawVC.intro (by kernel_rfl) ?_ | refine And.intro (by omega) ?_ | exact trivial)
                refine CallVC.intro (cb) ⟨rfl, rfl, rfl, trivial⟩ rfl rfl ?_
                simp only [↓PX, SX, SYX, EY, simprocAttr, TYX, UX, tab_snoc, wS (j := i) (by omega)]
                repeat (first | refine DrawVC.intro (by kernel_rfl) ?_ | refine And.intro (by omega) ?_ | exact trivial)
                exact ⟨i + 1, by omega, by omega, (St.le_of (ren [(197, 369)]) (by simp [-List.getD_eq_getElem?_getD, SYX, iv, ren, Tle, AVle, A0le, Mem.get, Nat.add_assoc]) (by simp [-List.getD_eq_getElem?_getD, SYX, ren, Mle, Ele, Mem.get, Nat.add_assoc]) (by simp [SYX, ren]) (by simp [SYX]))⟩
              · have db : decide ((i : Int) < (b.length : Int)) = false := by simp; omega
                have e1 : a.getD i 0 % md s = suF s a b i := by unfold suF; rw [if_pos ga, if_neg gb]
                rw [e1] at ca
                simp only [↓PX, SX, SYX, EY, simprocAttr, TYX, UX, da, db]
                simp only [↓PX, SX, SYX, EY, simprocAttr, TYX, UX, eL_ld ga]
                repeat (first | refine DrawVC.intro (by kernel_rfl) ?_ | refine And.intro (by omega) ?_ | exact trivial)
                refine CallVC.intro (ca) ⟨rfl, rfl, rfl, trivial⟩ rfl rfl ?_
                simp only [↓PX, SX, SYX, EY, simprocAttr, TYX, UX, da, db, tab_snoc, wS (j := i) (by omega)]
                repeat (first | refine DrawVC.intro (by kernel_rfl) ?_ | refine And.intro (by omega) ?_ | exact trivial)
                exact ⟨i + 1, by omega, by omega, (St.le_of (ren [(197, 337)]) (by simp [-List.getD_eq_getElem?_getD, SYX, iv, ren, Tle, AVle, A0le, Mem.get, Nat.add_assoc]) (by simp [-List.getD_eq_getElem?_getD, SYX, ren, Mle, Ele, Mem.get, Nat.add_assoc]) (by simp [SYX, ren]) (by simp [SYX]))⟩
            · have da : decide ((i : Int) < (a.length : Int)) = false := by simp; omega
              by_cases gb : i < b.length
              · have db : decide ((i : Int) < (b.length : Int)) = true := by simp; omega
                have e1 : (0 + b.getD i 0) % md s = suF s a b i := by unfold suF; rw [if_neg ga, if_pos gb]
                have cb := u_Add s 0 (b.getD i 0) (by decide) (getD_lt hb gb)
                rw [e1] at cb
                simp only [↓PX, SX, SYX, EY, simprocAttr, TYX, UX, da, db]
                simp only [↓PX, SX, SYX, EY, simprocAttr, TYX, UX, eL_ld gb]
                repeat (first | refine DrawVC.intro (by kernel_rfl) ?_ | refine And.intro (by omega) ?_ | exact trivial)
                refine CallVC.intro (cb) ⟨rfl, rfl, rfl, trivial⟩ rfl rfl ?_
                simp only [↓PX, SX, SYX, EY, simprocAttr, TYX, UX, tab_snoc, wS (j := i) (by omega)]
                repeat (first | refine DrawVC.intro (by kernel_rfl) ?_ | refine And.intro (by omega) ?_ | exact trivial)
                exact ⟨i + 1, by omega, by omega, (St.le_of (ren [(197, 337)]) (by simp [-List.getD_eq_getElem?_getD, SYX, iv, ren, Tle, AVle, A0le, Mem.get, Nat.add_assoc]) (by simp [-List.getD_eq_getElem?_getD, SYX, ren, Mle, Ele, Mem.get, Nat.add_assoc]) (by simp [SYX, ren]) (by simp [SYX]))⟩
              · have db : decide ((i : Int) < (b.length : Int)) = false := by simp; omega
                have h0 : i = M := by omega
                rw [h0] at da db ⊢
                simp only [↓PX, SX, SYX, EY, simprocAttr, TYX, UX, da, db]
                have hlM : (tab M (suF s a b)).length = M := tab_len
                have hb0 : ((N : Int) != (N : Int)) = false := by simp
                refine CallVC.intro (c3) ⟨rfl, rfl, rfl, (by simp only [argMatch, SX, SYX, EY, simprocAttr, and_self, List.length_append, List.length_map, List.length_set, TYX, UX, hlM, hb0]), trivial⟩ rfl rfl ?_
                simp only [↓PX, SX, SYX, EY, simprocAttr, TYX, UX, hlM, hb0]
                refine loop_hav ?_
                simp only [↓PX, SX, SYX, EY, simprocAttr, TYX, UX]
                obtain ⟨G, hG⟩ : ∃ G : Nat → Nat, G = fun i : Nat => lgU s n i x := ⟨_, rfl⟩
                obtain ⟨V, hV⟩ : ∃ V : Nat → Nat, V = vaF s n 1 a := ⟨_, rfl⟩
                obtain ⟨U, hU⟩ : ∃ U : Nat → Nat, U = vaF s n 1 b := ⟨_, rfl⟩
                obtain ⟨Y, hY⟩ : ∃ Y : Nat → Nat, Y = vaF s n 1 (tab M (suF s a b)) := ⟨_, rfl⟩
                have hYs : ∀ i, (V i + U i) % md s = Y i := fun i => by rw [hV, hU, hY, hsu]
                have hVw : ∀ i, V i < W256 := fun i => by rw [hV]; exact evp_lt _ _ _
                have hUw : ∀ i, U i < W256 := fun i => by rw [hU]; exact evp_lt _ _ _
                have hGw : ∀ i, G i < W256 := fun i => by rw [hG]; exact lgU_w _ _ _ _
                rw [← hV] at hav
                have hal2 : sumN s G N = 1 := by rw [hG]; exact hal
                have hav2 : sumN s (fun i => G i * V i % md s) N = evp (md s) x a := by rw [hG]; exact hav
                rw [← hV, ← hU, ← hY]
                refine loop_go mixed (by trivial) (γ := Nat) (fun i => i ≤ N) (fun i => N - i) (fun i => [(23, iv i)]) (fun i => [(341, .box (eC (sumN s G i))), (353, .box (eC (sumN s (fun i => G i * V i % md s) i)))]) 0 (by omega)
                  (St.le_of id (by simp [-List.getD_eq_getElem?_getD, SYX, iv, Tle, AVle, A0le, Mem.get, sumN, eC]) (by simp [-List.getD_eq_getElem?_getD, SYX, Mle, Ele, Hle, Tle, AVle, A0le, Mem.get, sumN, eC]) (by simp [SYX]) (by simp [SYX])) ?_
                intro j hj
                simp only [↓PX, SX, SYX, EY, simprocAttr, TYX, UX]
                refine cond_split (fun h5 => ?_) (fun h5 => ?_)
                · have h5 : j < N := by simpa using h5
                  have lY : j < (tab N Y).length := by rw [tab_len]; exact h5
                  have lV : j < (tab N V).length := by rw [tab_len]; exact h5
                  have lU : j < (tab N U).length := by rw [tab_len]; exact h5
                  have dY := eL_ld lY
                  have dV := eL_ld lV
                  have dU := eL_ld lU
                  rw [tab_at h5] at dY dV dU
                  have cs := u_Add s (V j) (U j) (hVw j) (hUw j)
                  rw [hYs] at cs
                  have cl := u_Lagrange s n j x hx
                  have hle : lgE s n j = 0 := by
                    have : inL s n j = true := by
                      simp only [inL, h, Bool.true_and, Bool.and_eq_true, decide_eq_true_eq, Int.toNat_natCast]; omega
                    unfold lgE; rw [if_pos h, if_pos this]
                  rw [hle, show lgU s n j x = G j by rw [hG]] at cl
                  simp only [↓PX, SX, SYX, EY, simprocAttr, TYX, UX, hlN, dY, dV, dU]
                  repeat (first | refine DrawVC.intro (by kernel_rfl) ?_ | refine And.intro (by omega) ?_ | exact trivial)
                  refine CallVC.intro (cs) ⟨rfl, rfl, rfl, trivial⟩ rfl rfl ?_
                  simp only [↓PX, SX, SYX, EY, simprocAttr, TYX, UX, eqN_self]
                  refine CallVC.intro (cl) ⟨rfl, rfl, rfl, rfl, trivial⟩ rfl rfl ?_
                  simp only [↓PX, SX, SYX, EY, simprocAttr, TYX, UX, eC]
                  refine CallVC.intro (u_Add s (sumN s G j) (G j) (sumN_w _ _ _) (hGw j)) ⟨rfl, rfl, rfl, trivial⟩ rfl rfl ?_
                  simp only [↓PX, SX, SYX, EY, simprocAttr, TYX, UX, eC]
                  repeat (first | refine DrawVC.intro (by kernel_rfl) ?_ | refine And.intro (by omega) ?_ | exact trivial)
                  simp only [↓PX, SX, SYX, EY, simprocAttr, TYX, UX, hlN, dV]
                  repeat (first | refine DrawVC.intro (by kernel_rfl) ?_ | refine And.intro (by omega) ?_ | exact trivial)
                  refine CallVC.intro (u_Mul s (G j) (V j) (hGw j) (hVw j)) ⟨rfl, rfl, rfl, trivial⟩ rfl rfl ?_
                  simp only [↓PX, SX, SYX, EY, simprocAttr, TYX, UX]
                  refine CallVC.intro (u_Add s (sumN s (fun i => G i * V i % md s) j) (G j * V j % md s) (sumN_w _ _ _) (md_w s _)) ⟨rfl, rfl, rfl, trivial⟩ rfl rfl ?_
                  simp only [↓PX, SX, SYX, EY, simprocAttr, TYX, UX, wS (j := j) (by omega)]
                  exact ⟨j + 1, by omega, by omega, (St.le_of id (by simp [-List.getD_eq_getElem?_getD, SYX, iv, Tle, AVle, A0le, Mem.get, sumN, eC]) (by simp [-List.getD_eq_getElem?_getD, SYX, Mle, Ele, Hle, Tle, AVle, A0le, Mem.get, sumN, eC]) (by simp [SYX]) (by simp [SYX]))⟩
                · have h5 : j = N := by
                    have : N ≤ j := by simpa using h5
                    omega
                  rw [h5, hal2, hav2]
                  simp only [↓PX, SX, SYX, EY, simprocAttr, TYX, UX, eC, eqN_self]
                  repeat (first | refine DrawVC.intro (by kernel_rfl) ?_ | refine And.intro (by omega) ?_ | exact trivial)
                  refine CallVC.intro (v_Eval6 s a x ha hx (by omega)) ⟨rfl, (by simp only [argMatch, SX, SYX, EY, simprocAttr, and_self, List.length_append, List.length_map, List.length_set, TYX, UX, eqN_self]), rfl, trivial⟩ rfl rfl ?_
                  simp only [↓PX, SX, SYX, EY, simprocAttr, TYX, UX, eqN_self]
          · have hf' : (vaE s k 1 b != 0) = true := by simp [hf]
            refine contract_of (N := _) (vars := _) (c := bodyOf Try.f12) Try.func12 (body_eq rfl) rfl rfl (by rfl) mixed _ _ trivial 1000 ?_
            simp only [bodyOf, Try.f12, Option.getD_some, argA, argE, List.length_cons, List.length_nil, Nat.reduceAdd, Nat.reduceSub, List.replicate, List.cons_append, List.nil_append]
            simp only [↓PX, SX, SYX, EY, simprocAttr, TYX, UX]
            refine CallVC.intro (c_alive6) trivial rfl rfl ?_
            simp only [↓PX, SX, SYX, EY, simprocAttr, TYX, UX]
            refine CallVC.intro (c_great6 s k) ⟨rfl, rfl, trivial⟩ rfl rfl ?_
            simp only [↓PX, SX, SYX, EY, simprocAttr, TYX, UX, hg, d0, d1]
            repeat (first | refine DrawVC.intro (by kernel_rfl) ?_ | refine And.intro (by omega) ?_ | exact trivial)
            refine CallVC.intro (c_CopyElems a (by omega)) ⟨(by simp only [argMatch, SX, SYX, EY, simprocAttr, and_self, List.length_append, List.length_map, List.length_set, TYX, UX]), trivial⟩ rfl rfl ?_
            simp only [↓PX, SX, SYX, EY, simprocAttr, TYX, UX]
            refine CallVC.intro (c1) ⟨rfl, rfl, rfl, (by simp only [argMatch, SX, SYX, EY, simprocAttr, and_self, List.length_append, List.length_map, List.length_set, TYX, UX]), trivial⟩ rfl rfl ?_
            simp only [↓PX, SX, SYX, EY, simprocAttr, TYX, UX]
            repeat (first | refine DrawVC.intro (by kernel_rfl) ?_ | refine And.intro (by omega) ?_ | exact trivial)
            refine CallVC.intro (c_CopyElems b (by omega)) ⟨(by simp only [argMatch, SX, SYX, EY, simprocAttr, and_self, List.length_append, List.length_map, List.length_set, TYX, UX]), trivial⟩ rfl rfl ?_
            simp only [↓PX, SX, SYX, EY, simprocAttr, TYX, UX]
            refine CallVC.intro (c2) ⟨rfl, rfl, rfl, (by simp only [argMatch, SX, SYX, EY, simprocAttr, and_self, List.length_append, List.length_map, List.length_set, TYX, UX, he', hf']), trivial⟩ rfl rfl ?_
            simp only [↓PX, SX, SYX, EY, simprocAttr, TYX, UX, he', hf']
        · have he' : (vaE s k 1 a != 0) = true := by simp [he]
          refine contract_of (N := _) (vars := _) (c := bodyOf Try.f12) Try.func12 (body_eq rfl) rfl rfl (by rfl) mixed _ _ trivial 1000 ?_
          simp only [bodyOf, Try.f12, Option.getD_some, argA, argE, List.length_cons, List.length_nil, Nat.reduceAdd, Nat.reduceSub, List.replicate, List.cons_append, List.nil_append]
          simp only [↓PX, SX, SYX, EY, simprocAttr, TYX, UX]
          refine CallVC.intro (c_alive6) trivial rfl rfl ?_
          simp only [↓PX, SX, SYX, EY, simprocAttr, TYX, UX]
          refine CallVC.intro (c_great6 s k) ⟨rfl, rfl, trivial⟩ rfl rfl ?_
          simp only [↓PX, SX, SYX, EY, simprocAttr, TYX, UX, hg, d0, d1]
          repeat (first | refine DrawVC.intro (by kernel_rfl) ?_ | refine And.intro (by omega) ?_ | exact trivial)
          refine CallVC.intro (c_CopyElems a (by omega)) ⟨(by simp only [argMatch, SX, SYX, EY, simprocAttr, and_self, List.length_append, List.length_map, List.length_set, TYX, UX]), trivial⟩ rfl rfl ?_
          simp only [↓PX, SX, SYX, EY, simprocAttr, TYX, UX]
          refine CallVC.intro (c1) ⟨rfl, rfl, rfl, (by simp only [argMatch, SX, SYX, EY, simprocAttr, and_self, List.length_append, List.length_map, List.length_set, TYX, UX]), trivial⟩ rfl rfl ?_
          simp only [↓PX, SX, SYX, EY, simprocAttr, TYX, UX]
          repeat (first | refine DrawVC.intro (by kernel_rfl) ?_ | refine And.intro (by omega) ?_ | exact trivial)
          refine CallVC.intro (c_CopyElems b (by omega)) ⟨(by simp only [argMatch, SX, SYX, EY, simprocAttr, and_self, List.length_append, List.length_map, List.length_set, TYX, UX]), trivial⟩ rfl rfl ?_
          simp only [↓PX, SX, SYX, EY, simprocAttr, TYX, UX]
          refine CallVC.intro (c2) ⟨rfl, rfl, rfl, (by simp only [argMatch, SX, SYX, EY, simprocAttr, and_self, List.length_append, List.length_map, List.length_set, TYX, UX, he']), trivial⟩ rfl rfl ?_
          simp only [↓PX, SX, SYX, EY, simprocAttr, TYX, UX, he']
end Go.Sx
