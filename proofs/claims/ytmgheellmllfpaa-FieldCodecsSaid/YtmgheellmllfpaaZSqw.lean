/-
  Walks: halves, Sqrt, of the field. No conditions.
-/
import Derived.Test.YtmgheellmllfpaaZSqs
namespace Go.Sx
open Go.Proofs Go.Num
-- SY
-- TY: TYX, cellsNV, foldNV
set_option maxRecDepth 100000
set_option linter.unusedSimpArgs false
set_option pp.deepTerms true
set_option pp.maxSteps 100000
theorem c_halves (a n : Nat) (ha : a < W256) (hn : n < 9223372036854775807) : Contract Try.prog 62 [.val (EN a), .val (.int .i64 (n : Int))] [.val (EN (a / 2 ^ n))] := by
  refine contract_of (N := _) (vars := _) (c := bodyOf Try.f62) Try.func62 (body_eq rfl) rfl rfl (by rfl) mixed _ _ trivial 1000 ?_
  simp only [bodyOf, Try.f62, Option.getD_some, argA, argE, List.length_cons, List.length_nil, Nat.reduceAdd, Nat.reduceSub, List.replicate, List.cons_append, List.nil_append]
  simp only [↓PX, SX, SYX, EY, simprocAttr, TYX, cellsNV, foldNV]
  refine loop_hav ?_
  simp only [↓PX, SX, SYX, EY, simprocAttr, TYX, cellsNV, foldNV]
  refine loop_go mixed (by trivial) (γ := Nat) (fun i => i ≤ n) (fun i => n - i) (fun i => [(6, iv i)]) (fun i => [(2, .box (eC (a / 2 ^ i)))]) 0 (by omega) (St.le_of id (by simp [-List.getD_eq_getElem?_getD, SYX, iv, Tle, AVle, A0le, Mem.get, eC, Nat.div_one]) (by simp [-List.getD_eq_getElem?_getD, SYX, Mle, Ele, Mem.get, eC, Nat.div_one]) (by simp [SYX]) (by simp [SYX])) ?_
  intro i hi
  have hlt : a / 2 ^ i < W256 := Nat.lt_of_le_of_lt (Nat.div_le_self _ _) ha
  simp only [↓PX, SX, SYX, EY, simprocAttr, TYX, cellsNV, foldNV]
  refine cond_split (fun h0 => ?_) (fun h0 => ?_)
  · have h0 : i < n := by simpa using h0
    simp only [↓PX, SX, SYX, EY, simprocAttr, TYX, cellsNV, foldNV]
    refine CallVC.intro (c_half _ hlt) ⟨rfl, trivial⟩ rfl rfl ?_
    simp only [↓PX, SX, SYX, EY, simprocAttr, TYX, cellsNV, foldNV, wS (j := i) (by omega)]
    exact ⟨i + 1, by omega, by omega, (St.le_of id (by simp [-List.getD_eq_getElem?_getD, SYX, iv, Tle, AVle, A0le, Mem.get, Nat.div_div_eq_div_mul, Nat.pow_succ]) (by simp [-List.getD_eq_getElem?_getD, SYX, Mle, Ele, Mem.get, Nat.div_div_eq_div_mul, Nat.pow_succ]) (by simp [SYX]) (by simp [SYX]))⟩
  · have h0 : i = n := by
      have : n ≤ i := by simpa using h0
      omega
    subst h0
    simp only [↓PX, SX, SYX, EY, simprocAttr, TYX, cellsNV, foldNV]
/-- What the search keeps: x x = a t; the orders of t and z. -/
structure Tns (s : Int) (a : Nat) (g : Nat × Nat × Nat × Nat) : Prop where
  lo : 1 ≤ g.1
  hi : g.1 ≤ sS s + 1
  x : g.2.1 < md s
  t : g.2.2.1 < md s
  z : g.2.2.2 < md s
  sq : κ (md s) g.2.1 * κ (md s) g.2.1 = κ (md s) a * κ (md s) g.2.2.1
  zo : κ (md s) g.2.2.2 ^ (2 ^ (g.1 - 1)) = -1
  to : κ (md s) g.2.2.1 ^ (2 ^ g.1) = 1
  first : (g.1 = sS s + 1 ∧ κ (md s) g.2.2.1 = κ (md s) a ^ qS s) ∨ (κ (md s) g.2.2.1 ^ (2 ^ (g.1 - 1)) = 1 ∧ SqP s a)
theorem Tns.start {s : Int} {a : Nat} (G : SqF (md s) (sS s) (qS s) (κ (md s) 5)) (h : κ (md s) a ≠ 0) : Tns s a (sS s + 1, a ^ ((qS s + 1) / 2) % md s, a ^ qS s % md s, 5 ^ qS s % md s) := by
  refine ⟨Nat.le_add_left _ _, Nat.le_refl _, md_mod _ _, md_mod _ _, md_mod _ _, ?_, ?_, ?_, .inl ⟨rfl, ?_⟩⟩ <;> dsimp only
  · rw [κ_mod, κ_mod, κ_pow, κ_pow]; exact G.start _
  · rw [κ_mod, κ_pow]; exact G.z
  · rw [κ_mod, κ_pow]; exact G.full h
  · rw [κ_mod, κ_pow]
theorem pow_one_up {m : Nat} [NeZero m] {x : Fin m} {k : Nat} (h : x ^ (2 ^ k) = 1) : ∀ j, x ^ (2 ^ (k + j)) = 1
  | 0 => h
  | j + 1 => by rw [← Nat.add_assoc, f_pow_two_succ, pow_one_up h j]; grind
theorem Tns.step {s : Int} {a mv x t z k b : Nat} (G : SqF (md s) (sS s) (qS s) (κ (md s) 5)) (h : κ (md s) a ≠ 0) (h1 : 1 ≤ mv) (h3 : mv ≤ sS s + 1)
    (i1 : κ (md s) x * κ (md s) x = κ (md s) a * κ (md s) t) (i2 : κ (md s) z ^ (2 ^ (mv - 1)) = -1)
    (i4 : (mv = sS s + 1 ∧ κ (md s) t = κ (md s) a ^ qS s) ∨ (κ (md s) t ^ (2 ^ (mv - 1)) = 1 ∧ SqP s a))
    (hkm : k < mv) (hk0 : k ≠ 0) (hk : κ (md s) t ^ (2 ^ (k - 1)) ≠ 1) (h4 : κ (md s) t ^ (2 ^ k) = 1) (hb : κ (md s) b = κ (md s) z ^ (2 ^ (mv - k - 1))) :
    Tns s a (k, x * b % md s, t * (b * b % md s) % md s, b * b % md s) := by
  have e : k = k - 1 + 1 := by omega
  have hz : (κ (md s) b * κ (md s) b) ^ (2 ^ (k - 1)) = -1 := by
    rw [← f_pow_two_succ', ← e, hb, ← f_pow_mul, ← Nat.pow_add, show mv - k - 1 + k = mv - 1 by omega]
    exact i2
  have ht : κ (md s) t ^ (2 ^ (k - 1)) = -1 := by
    rw [e, f_pow_two_succ] at h4
    exact (f_sq1 G.P h4).resolve_left hk
  have ht1 : (κ (md s) t * (κ (md s) b * κ (md s) b)) ^ (2 ^ (k - 1)) = 1 := by
    rw [f_mul_pow, ht, hz]; grind
  refine ⟨by omega, by omega, md_mod _ _, md_mod _ _, md_mod _ _, ?_, ?_, ?_, .inr ⟨?_, ?_⟩⟩ <;> (try dsimp only)
  · rw [κ_mod, κ_mod, κ_mul, κ_mul, κ_mod, κ_mul]; grind
  · rw [κ_mod, κ_mul]; exact hz
  · rw [κ_mod, κ_mul, κ_mod, κ_mul]
    rw [e]
    exact pow_one_up ht1 1
  · rw [κ_mod, κ_mul, κ_mod, κ_mul]; exact ht1
  · rcases i4 with ⟨h5, h6⟩ | ⟨_, h6⟩
    · have h7 := pow_one_up h4 (sS s - k)
      rw [show k + (sS s - k) = sS s by omega, h6] at h7
      exact (G.euler h).2 h7
    · exact h6
theorem u_Sqrt (s : Int) (a : Nat) (ha : a < W256) : Contract Try.prog 40 [.val (.int .i64 s), .val (EN a)] [.val (EN (rt s a)), .val (.int .i64 (eQ s a))] := by
  cases srt s with
  | no hk he hm F =>
    have e1 : rt s a = 0 := rt_no hk hm a
    have e2 : eQ s a = 20 := by simp [eQ, hk]
    rw [e1, e2]
    refine contract_of (N := _) (vars := _) (c := bodyOf Try.f40) Try.func40 (body_eq rfl) rfl rfl (by rfl) mixed _ _ trivial 1000 ?_
    simp only [bodyOf, Try.f40, Option.getD_some, argA, argE, List.length_cons, List.length_nil, Nat.reduceAdd, Nat.reduceSub, List.replicate, List.cons_append, List.nil_append]
    simp only [↓PX, SX, SYX, EY, simprocAttr, TYX, cellsNV, foldNV]
    refine CallVC.intro (F.of) ⟨rfl, trivial⟩ rfl rfl ?_
    simp only [↓PX, SX, SYX, EY, simprocAttr, TYX, cellsNV, foldNV, he]
  | yes hk he sm ng sq F R P h2 =>
    have hw : md s < W256 := by have := md_lt s; omega
    have e3 : (md s + W256 - 1) % W256 = md s - 1 := sub_of hw (by omega)
    have G := sqf s hk
    by_cases hz : a % md s = 0
    · have e1 : rt s a = 0 := rt_zero hk hz
      have e2 : eQ s a = 0 := by simp [eQ, hk, sq_zero hz]
      rw [e1, e2]
      refine contract_of (N := _) (vars := _) (c := bodyOf Try.f40) Try.func40 (body_eq rfl) rfl rfl (by rfl) mixed _ _ trivial 1000 ?_
      simp only [bodyOf, Try.f40, Option.getD_some, argA, argE, List.length_cons, List.length_nil, Nat.reduceAdd, Nat.reduceSub, List.replicate, List.cons_append, List.nil_append]
      simp only [↓PX, SX, SYX, EY, simprocAttr, TYX, cellsNV, foldNV]
      refine CallVC.intro (F.of) ⟨rfl, trivial⟩ rfl rfl ?_
      simp only [↓PX, SX, SYX, EY, simprocAttr, TYX, cellsNV, foldNV, he]
      refine CallVC.intro (F.reduce a ha) ⟨rfl, rfl, trivial⟩ rfl rfl ?_
      simp only [↓PX, SX, SYX, EY, simprocAttr, TYX, cellsNV, foldNV, hz]
    · have e4 : eqN (a % md s) 0 = false := by rw [eqN_eq (md_w s a) (by decide)]; simpa using hz
      have hS := adc_S s hk
      rw [hS] at F
      refine contract_of (N := _) (vars := _) (c := bodyOf Try.f40) Try.func40 (body_eq rfl) rfl rfl (by rfl) mixed _ _ trivial 1000 ?_
      simp only [bodyOf, Try.f40, Option.getD_some, argA, argE, List.length_cons, List.length_nil, Nat.reduceAdd, Nat.reduceSub, List.replicate, List.cons_append, List.nil_append]
      simp only [↓PX, SX, SYX, EY, simprocAttr, TYX, cellsNV, foldNV]
      refine CallVC.intro (F.of) ⟨rfl, trivial⟩ rfl rfl ?_
      simp only [↓PX, SX, SYX, EY, simprocAttr, TYX, cellsNV, foldNV, he]
      refine CallVC.intro (F.reduce a ha) ⟨rfl, rfl, trivial⟩ rfl rfl ?_
      simp only [↓PX, SX, SYX, EY, simprocAttr, TYX, cellsNV, foldNV, e4]
      refine CallVC.intro (c_word_sub (md s) 1 hw (by decide)) ⟨rfl, rfl, trivial⟩ rfl rfl ?_
      simp only [↓PX, SX, SYX, EY, simprocAttr, TYX, cellsNV, foldNV, e3, hS]
      have hq : (md s - 1) / 2 ^ (sS s + 1) = qS s := rfl
      have hs31 : sS s ≤ 31 := by unfold sS; split <;> (try split) <;> omega
      have hqlt : qS s < md s := by have := Nat.div_le_self (md s - 1) (2 ^ (sS s + 1)); unfold qS; omega
      have h5 : (5 : Nat) < W256 := by decide
      refine CallVC.intro (c_halves (md s - 1) (sS s + 1) (by omega) (by omega)) ⟨rfl, rfl, trivial⟩ rfl rfl ?_
      simp only [↓PX, SX, SYX, EY, simprocAttr, TYX, cellsNV, foldNV, hq]
      have hqw : qS s < W256 := by omega
      repeat (first
        | (refine DrawVC.intro (by kernel_rfl) ?_)
        | exact trivial
        | (refine CallVC.intro (u_Exp _ _ _ (by first | assumption | exact md_w _ _ | exact md_w2 (inv_lt _ _) | decide | omega) (by first | assumption | exact md_w _ _ | exact md_w2 (inv_lt _ _) | decide | omega)) ⟨rfl, rfl, rfl, trivial⟩ rfl rfl ?_; simp only [↓PX, SX, SYX, EY, simprocAttr, TYX, cellsNV, foldNV, sub_of]))
      have e5 : (qS s + 1) % W256 = qS s + 1 := Nat.mod_eq_of_lt (by omega)
      refine CallVC.intro (c_word_add (qS s) 1 hqw (by decide)) ⟨rfl, rfl, trivial⟩ rfl rfl ?_
      simp only [↓PX, SX, SYX, EY, simprocAttr, TYX, cellsNV, foldNV, e5]
      repeat (first | refine DrawVC.intro (by kernel_rfl) ?_ | refine And.intro (by omega) ?_ | exact trivial)
      refine CallVC.intro (c_half (qS s + 1) (by omega)) ⟨rfl, trivial⟩ rfl rfl ?_
      simp only [↓PX, SX, SYX, EY, simprocAttr, TYX, cellsNV, foldNV]
      have hq2 : (qS s + 1) / 2 < W256 := by omega
      repeat (first
        | (refine DrawVC.intro (by kernel_rfl) ?_)
        | exact trivial
        | (refine CallVC.intro (u_Exp _ _ _ (by first | assumption | exact md_w _ _ | exact md_w2 (inv_lt _ _) | decide | omega) (by first | assumption | exact md_w _ _ | exact md_w2 (inv_lt _ _) | decide | omega)) ⟨rfl, rfl, rfl, trivial⟩ rfl rfl ?_; simp only [↓PX, SX, SYX, EY, simprocAttr, TYX, cellsNV, foldNV]))
      have hka : κ (md s) a ≠ 0 := by rw [ne_eq, κ_eq0]; exact hz
      have hm2 : md s % 2 = 1 := G.odd
      refine loop_hav ?_
      simp only [↓PX, SX, SYX, EY, simprocAttr, TYX, cellsNV, foldNV]
      refine loop_go mixed (by trivial) (γ := Nat × Nat × Nat × Nat) (Tns s a) (fun g => g.1) (fun g => [(17, iv g.1)]) (fun g => [(262, .box (eC g.2.1)), (198, .box (eC g.2.2.1)), (174, .box (eC g.2.2.2))])
        (sS s + 1, a ^ ((qS s + 1) / 2) % md s, a ^ qS s % md s, 5 ^ qS s % md s) (Tns.start G hka) (St.le_of id (by simp [-List.getD_eq_getElem?_getD, SYX, iv, Tle, AVle, A0le, Mem.get, eC, ← Nat.pow_mod]) (by simp [-List.getD_eq_getElem?_getD, SYX, Mle, Ele, Mem.get, eC, ← Nat.pow_mod]) (by simp [SYX]) (by simp [SYX])) ?_
      rintro ⟨mv, x, t, z⟩ ⟨h1, h3, hx, ht, hzz, i1, i2, i3, i4⟩
      dsimp only at h1 h3 hx ht hzz i1 i2 i3 i4
      have hxw := md_w2 hx
      have htw := md_w2 ht
      have hzw := md_w2 hzz
      simp only [↓PX, SX, SYX, EY, simprocAttr, TYX, cellsNV, foldNV]
      rw [eqN_eq htw (by decide)]
      refine cond_split (fun h0 => ?_) (fun h0 => ?_)
      · have h0 : t ≠ 1 := by simpa using h0
        simp only [↓PX, SX, SYX, EY, simprocAttr, TYX, cellsNV, foldNV]
        refine loop_hav ?_
        simp only [↓PX, SX, SYX, EY, simprocAttr, TYX, cellsNV, foldNV]
        refine loop_go mixed (by trivial) (γ := Nat) (fun k => k ≤ mv ∧ ∀ i, i < k → κ (md s) t ^ (2 ^ i) ≠ 1) (fun k => mv - k) (fun k => [(18, iv k), (19, .o (.p 302 0))]) (fun k => [(302, .box (eC (t ^ (2 ^ k) % md s)))]) 0 ⟨by omega, by omega⟩
          (St.le_of id (by simp [-List.getD_eq_getElem?_getD, SYX, iv, Tle, AVle, A0le, Mem.get, eC, Nat.mod_eq_of_lt ht]) (by simp [-List.getD_eq_getElem?_getD, SYX, Mle, Ele, Mem.get, eC, Nat.mod_eq_of_lt ht]) (by simp [SYX]) (by simp [SYX])) ?_
        intro k ⟨hk1, hk2⟩
        simp only [↓PX, SX, SYX, EY, simprocAttr, TYX, cellsNV, foldNV]
        rw [eqN_eq (md_w _ _) (by decide)]
        have hp1 : t ^ 2 ^ k % md s = 1 ↔ κ (md s) t ^ (2 ^ k) = 1 := by rw [← κ_pow, κ_eq1 P.1]
        refine guard_split (fun h4 => ?_) (fun h4 => ?_)
        · have h4 : κ (md s) t ^ (2 ^ k) ≠ 1 := by rw [ne_eq, ← hp1]; simpa using h4
          have hkm : k < mv := by
            apply Classical.byContradiction
            intro h5
            have h6 : k = mv := by omega
            exact h4 (by rw [h6]; exact i3)
          have h5 : decide ((k : Int) < (mv : Int)) = true := by simp; omega
          simp only [↓PX, SX, SYX, EY, simprocAttr, TYX, cellsNV, foldNV, h5]
          refine CallVC.intro (F.mul (t ^ 2 ^ k % md s) (t ^ 2 ^ k % md s) (md_w _ _) (md_w _ _)) ⟨rfl, rfl, rfl, trivial⟩ rfl rfl ?_
          simp only [↓PX, SX, SYX, EY, simprocAttr, TYX, cellsNV, foldNV, wS (j := k) (by omega)]
          have e7 : (t ^ 2 ^ k % md s) * (t ^ 2 ^ k % md s) % md s = t ^ 2 ^ (k + 1) % md s := by rw [← Nat.mul_mod, Nat.pow_succ, Nat.mul_two, Nat.pow_add]
          refine ⟨k + 1, ⟨by omega, fun i hi => ?_⟩, by omega, ?_⟩
          · by_cases h6 : i = k
            · rw [h6]; exact h4
            · exact hk2 i (by omega)
          · have e9 : t ^ 2 ^ k * t ^ 2 ^ k % md s = t ^ 2 ^ (k + 1) % md s := by rw [Nat.pow_succ 2, Nat.mul_two, Nat.pow_add]
            exact (St.le_of (ren [(302, 366)]) (by simp [-List.getD_eq_getElem?_getD, SYX, iv, ren, Tle, AVle, A0le, Mem.get, e7, e9]) (by simp [-List.getD_eq_getElem?_getD, SYX, ren, Mle, Ele, Mem.get, e7, e9]) (by simp [SYX, ren]) (by simp [SYX]))
        · have h4 : κ (md s) t ^ (2 ^ k) = 1 := by rw [← hp1]; simpa using h4
          have hk0 : k ≠ 0 := by
            intro h5
            rw [h5, Nat.pow_zero, f_pow_one, κ_eq1 P.1, Nat.mod_eq_of_lt ht] at h4
            exact h0 h4
          by_cases hkm : k = mv
          · subst hkm
            have hnq : ¬ SqP s a := by
              rcases i4 with ⟨h5, h6⟩ | ⟨h5, _⟩
              · intro hq
                have h7 := (G.euler hka).1 hq
                rw [← h6] at h7
                exact hk2 (sS s) (by omega) h7
              · exact absurd h5 (hk2 (k - 1) (by omega))
            have e2 : eQ s a = 22 := by simp only [eQ, hk, hnq, if_true, if_false]
            have e8 : ((k : Int) == (k : Int)) = true := by simp
            rw [e2, rt_none hnq]
            simp only [↓PX, SX, SYX, EY, simprocAttr, TYX, cellsNV, foldNV, e8]
          · have e8 : ((k : Int) == (mv : Int)) = false := by simp; omega
            have w1 : IntKind.i64.wrap ((mv : Int) - (k : Int)) = ((mv - k : Nat) : Int) := by rw [wI (by omega) (by omega)]; omega
            have w2 : IntKind.i64.wrap (((mv - k : Nat) : Int) - 1) = ((mv - k - 1 : Nat) : Int) := by rw [wI (by omega) (by omega)]; omega
            simp only [↓PX, SX, SYX, EY, simprocAttr, TYX, cellsNV, foldNV, e8, w1, w2]
            refine loop_hav ?_
            simp only [↓PX, SX, SYX, EY, simprocAttr, TYX, cellsNV, foldNV]
            refine loop_go mixed (by trivial) (γ := Nat) (fun j => j ≤ mv - k - 1) (fun j => mv - k - 1 - j) (fun j => [(98, iv j)]) (fun j => [(358, .box (eC (z ^ (2 ^ j) % md s)))]) 0 (by omega)
              (St.le_of id (by simp [-List.getD_eq_getElem?_getD, SYX, iv, Tle, AVle, A0le, Mem.get, eC, Nat.mod_eq_of_lt hzz]) (by simp [-List.getD_eq_getElem?_getD, SYX, Mle, Ele, Mem.get, eC, Nat.mod_eq_of_lt hzz]) (by simp [SYX]) (by simp [SYX])) ?_
            intro j hj
            simp only [↓PX, SX, SYX, EY, simprocAttr, TYX, cellsNV, foldNV]
            refine cond_split (fun h5 => ?_) (fun h5 => ?_)
            · have h5 : j < mv - k - 1 := by simpa using h5
              simp only [↓PX, SX, SYX, EY, simprocAttr, TYX, cellsNV, foldNV]
              refine CallVC.intro (F.mul (z ^ 2 ^ j % md s) (z ^ 2 ^ j % md s) (md_w _ _) (md_w _ _)) ⟨rfl, rfl, rfl, trivial⟩ rfl rfl ?_
              simp only [↓PX, SX, SYX, EY, simprocAttr, TYX, cellsNV, foldNV, wS (j := j) (by omega)]
              have e7 : (z ^ 2 ^ j % md s) * (z ^ 2 ^ j % md s) % md s = z ^ 2 ^ (j + 1) % md s := by rw [← Nat.mul_mod, Nat.pow_succ, Nat.mul_two, Nat.pow_add]
              have e9 : z ^ 2 ^ j * z ^ 2 ^ j % md s = z ^ 2 ^ (j + 1) % md s := by rw [Nat.pow_succ 2, Nat.mul_two, Nat.pow_add]
              exact ⟨j + 1, by omega, by omega, (St.le_of id (by simp [-List.getD_eq_getElem?_getD, SYX, iv, Tle, AVle, A0le, Mem.get, e7, e9]) (by simp [-List.getD_eq_getElem?_getD, SYX, Mle, Ele, Mem.get, e7, e9]) (by simp [SYX]) (by simp [SYX]))⟩
            · have h5 : j = mv - k - 1 := by
                have : mv - k - 1 ≤ j := by simpa using h5
                omega
              subst h5
              obtain ⟨b, hb⟩ : ∃ b, b = z ^ 2 ^ (mv - k - 1) % md s := ⟨_, rfl⟩
              have hbl : b < md s := by rw [hb]; exact md_mod _ _
              have hbw := md_w2 hbl
              have hb2 : κ (md s) b = κ (md s) z ^ (2 ^ (mv - k - 1)) := by rw [hb, κ_mod, κ_pow]
              rw [← hb]
              clear hb
              simp only [↓PX, SX, SYX, EY, simprocAttr, TYX, cellsNV, foldNV]
              refine CallVC.intro (F.mul b b hbw hbw) ⟨rfl, rfl, rfl, trivial⟩ rfl rfl ?_
              simp only [↓PX, SX, SYX, EY, simprocAttr, TYX, cellsNV, foldNV]
              refine CallVC.intro (F.mul t (b * b % md s) htw (md_w _ _)) ⟨rfl, rfl, rfl, trivial⟩ rfl rfl ?_
              simp only [↓PX, SX, SYX, EY, simprocAttr, TYX, cellsNV, foldNV]
              refine CallVC.intro (F.mul x b hxw hbw) ⟨rfl, rfl, rfl, trivial⟩ rfl rfl ?_
              simp only [↓PX, SX, SYX, EY, simprocAttr, TYX, cellsNV, foldNV]
              exact ⟨(k, x * b % md s, t * (b * b % md s) % md s, b * b % md s), Tns.step G hka h1 h3 i1 i2 i4 (by omega) hk0 (hk2 (k - 1) (by omega)) h4 hb2, by dsimp only; omega, (St.le_of id (by simp [-List.getD_eq_getElem?_getD, SYX, iv, Tle, AVle, A0le, Mem.get]) (by simp [-List.getD_eq_getElem?_getD, SYX, Mle, Ele, Mem.get]) (by simp [SYX]) (by simp [SYX]))⟩
      · have h0 : t = 1 := by simpa using h0
        subst h0
        rw [κ_one] at i1
        have i1 : κ (md s) x * κ (md s) x = κ (md s) a := by grind
        have hsq : SqP s a := ⟨_, i1⟩
        have e2 : eQ s a = 0 := by simp only [eQ, hk, hsq, if_true]
        rw [e2]
        simp only [↓PX, SX, SYX, EY, simprocAttr, TYX, cellsNV, foldNV]
        refine cond_split (fun h0 => ?_) (fun h0 => ?_)
        · have h0 : x % 2 = 1 := by rw [← L0_odd]; simpa using h0
          rw [rt_neg hk hx i1 h0]
          simp only [↓PX, SX, SYX, EY, simprocAttr, TYX, cellsNV, foldNV]
          refine CallVC.intro (c_neg0 F.toFN x hxw) ⟨rfl, rfl, trivial⟩ rfl rfl ?_
          simp only [↓PX, SX, SYX, EY, simprocAttr, TYX, cellsNV, foldNV]
        · have h0 : x % 2 = 0 := by
            have : L0 x % 2 ≠ 1 := by simpa using h0
            rw [L0_odd] at this; omega
          rw [rt_of hk hx i1 h0]
          simp only [↓PX, SX, SYX, EY, simprocAttr, TYX, cellsNV, foldNV]
end Go.Sx
