/-
  Sums over roots of unity: values undone, Lagrange's polynomials give values, what vanishes. No conditions.
-/
import Derived.Test.YtgeliidjmefkgaaZDoo
namespace Go.Sx
open Go.Proofs Go.Num
set_option maxRecDepth 100000
set_option linter.unusedSimpArgs false
section
variable {m : Nat} [NeZero m]
theorem sm_swap (F : Nat → Nat → Fin m) : ∀ n k, sm n (fun i => sm k (fun t => F i t)) = sm k (fun t => sm n (fun i => F i t))
  | 0, k => (sm_zero fun _ _ => rfl).symm
  | n + 1, k => by
    show sm n (fun i => sm k (fun t => F i t)) + sm k (fun t => F n t) = sm k (fun t => sm n (fun i => F i t) + F n t)
    rw [sm_swap F n k, sm_add]
theorem sm_pick {g : Nat → Fin m} {j : Nat} : ∀ {n : Nat}, j < n → (∀ i, i < n → i ≠ j → g i = 0) → sm n g = g j
  | 0, h, _ => by omega
  | n + 1, h, e => by
    show sm n g + g n = g j
    by_cases hj : j = n
    · subst hj
      rw [sm_zero fun i hi => e i (by omega) (by omega)]; grind
    · rw [sm_pick (by omega) fun i hi hne => e i (by omega) hne, e n (by omega) (by omega)]; grind
theorem sm_geo (x : Fin m) : ∀ n, (x - 1) * sm n (fun i => x ^ i) = x ^ n - 1
  | 0 => by show (x - 1) * (0 : Fin m) = x ^ 0 - 1; rw [f_pow_zero]; grind
  | n + 1 => by
    show (x - 1) * (sm n (fun i => x ^ i) + x ^ n) = x ^ (n + 1) - 1
    have := sm_geo x n
    rw [f_pow_succ]; grind
theorem sm_const (c : Fin m) : ∀ n, sm n (fun _ => c) = κ m n * c
  | 0 => by show (0 : Fin m) = κ m 0 * c; rw [κ_zero]; grind
  | n + 1 => by
    show sm n (fun _ => c) + c = κ m (n + 1) * c
    rw [sm_const c n, κ_add, κ_one]; grind
theorem f_pow_cm (x : Fin m) (i j : Nat) : (x ^ i) ^ j = x ^ (i * j) := (f_pow_mul x i j).symm
end
section
variable {s : Int} {n : Nat}
/-- Sums over all roots: only what stands at j remains. -/
theorem core (h : ptO s n = true) (c : Nat → Fin (md s)) {j : Nat} (hj : j < 2 ^ n) : sm (2 ^ n) (fun i => sm (2 ^ n) (fun t => c t * κ (md s) (rk s n) ^ (t * i)) * κ (md s) (inv s (rk s n)) ^ (i * j)) = κ (md s) (2 ^ n) * c j := by
  have P := pr_of (ptO_iff.1 h).1
  have e1 : ∀ i, sm (2 ^ n) (fun t => c t * κ (md s) (rk s n) ^ (t * i)) * κ (md s) (inv s (rk s n)) ^ (i * j) = sm (2 ^ n) (fun t => c t * (κ (md s) (rk s n) ^ t * κ (md s) (inv s (rk s n)) ^ j) ^ i) := fun i => by
    have : sm (2 ^ n) (fun t => κ (md s) (inv s (rk s n)) ^ (i * j) * (c t * κ (md s) (rk s n) ^ (t * i))) = sm (2 ^ n) (fun t => c t * (κ (md s) (rk s n) ^ t * κ (md s) (inv s (rk s n)) ^ j) ^ i) := sm_congr fun t _ => by
      rw [f_mul_pow, f_pow_cm, f_pow_cm, Nat.mul_comm i j]; grind
    rw [← this, sm_scale]; grind
  rw [sm_congr fun i _ => e1 i, sm_swap]
  have e2 : ∀ t, t < 2 ^ n → t ≠ j → sm (2 ^ n) (fun i => c t * (κ (md s) (rk s n) ^ t * κ (md s) (inv s (rk s n)) ^ j) ^ i) = 0 := fun t ht hne => by
    rw [sm_scale]
    have g := sm_geo (κ (md s) (rk s n) ^ t * κ (md s) (inv s (rk s n)) ^ j) (2 ^ n)
    have g1 : (κ (md s) (rk s n) ^ t * κ (md s) (inv s (rk s n)) ^ j) ^ 2 ^ n = 1 := by
      have r1 : κ (md s) (rk s n) ^ 2 ^ n = 1 := (rk_facts h).2
      rw [f_mul_pow, f_pow_comm, r1, f_one_pow, f_pow_comm, back_one h, f_one_pow]; grind
    rw [g1] at g
    have g2 : κ (md s) (rk s n) ^ t * κ (md s) (inv s (rk s n)) ^ j - 1 ≠ 0 := fun e => hne (by
      refine pt_inj h (i := t) (j := j) ht hj ?_
      rw [ptk, ptk]
      have := back_pow h j
      grind)
    have g3 := (f_nzd P (x := κ (md s) (rk s n) ^ t * κ (md s) (inv s (rk s n)) ^ j - 1) (y := sm (2 ^ n) (fun i => (κ (md s) (rk s n) ^ t * κ (md s) (inv s (rk s n)) ^ j) ^ i)) (by rw [g]; grind)).resolve_left g2
    rw [g3]; grind
  rw [sm_pick hj e2, sm_scale]
  have e3 : κ (md s) (rk s n) ^ j * κ (md s) (inv s (rk s n)) ^ j = 1 := back_pow h j
  rw [e3, sm_congr fun i _ => f_one_pow i, sm_const]
  grind
theorem vaF_sm {sh : Nat} {l : List Nat} (hl : l.length ≤ 2 ^ n) (i : Nat) : κ (md s) (vaF s n sh l i) = sm (2 ^ n) (fun t => (co (md s) l t * κ (md s) sh ^ t) * κ (md s) (rk s n) ^ (t * i)) := by
  unfold vaF
  rw [κ_evp, κ_mod, κ_mul, ptk, evk_sm]
  obtain ⟨d, hd⟩ : ∃ d, 2 ^ n = l.length + d := ⟨2 ^ n - l.length, by omega⟩
  rw [hd, sm_more]
  · refine sm_congr fun t _ => ?_
    rw [f_mul_pow, f_pow_cm, Nat.mul_comm i t]; grind
  · intro t h1 _
    rw [co_out h1]; grind
theorem κ_iN (k : Nat) : κ (md s) (iN s (k : Int)) = κ (md s) k := by
  unfold iN
  rw [if_pos (by omega), κ_mod]; rfl
/-- Coefficients whose values are taken are had again. -/
theorem round {sh : Nat} {l : List Nat} (h : ptO s n = true) (hz : sh % md s ≠ 0) (hl : l.length ≤ 2 ^ n) {j : Nat} (hj : j < 2 ^ n) : coF s n sh (tab (2 ^ n) (vaF s n sh l)) j = l.getD j 0 % md s := by
  have P := pr_of (ptO_iff.1 h).1
  have key : κ (md s) (coF s n sh (tab (2 ^ n) (vaF s n sh l)) j) = κ (md s) (l.getD j 0) := by
    unfold coF
    rw [Int.toNat_natCast, κ_mod, κ_mul, κ_evp, pt_back h hj, evk_sm, tab_len]
    have e1 : ∀ i, i < 2 ^ n → co (md s) (tab (2 ^ n) (vaF s n sh l)) i * (κ (md s) (inv s (rk s n)) ^ j) ^ i = sm (2 ^ n) (fun t => (co (md s) l t * κ (md s) sh ^ t) * κ (md s) (rk s n) ^ (t * i)) * κ (md s) (inv s (rk s n)) ^ (i * j) := fun i hi => by
      unfold co
      rw [tab_at hi, vaF_sm hl i, f_pow_cm, Nat.mul_comm j i]; rfl
    rw [sm_congr e1, core h (fun t => co (md s) l t * κ (md s) sh ^ t) hj]
    have hB : ∀ i, κ (md s) (coB s n sh i) = ι (κ (md s) (2 ^ n)) * ι (κ (md s) sh) ^ i := by
      intro i
      induction i with
      | zero =>
        show κ (md s) (inv s (iN s ((2 ^ Int.toNat (n : Int) : Nat) : Int))) = _
        rw [κ_inv, κ_iN, Int.toNat_natCast, f_pow_zero]; grind
      | succ i ih =>
        show κ (md s) (coB s n sh i * inv s sh % md s) = _
        rw [κ_mod, κ_mul, ih, κ_inv, f_pow_succ]; grind
    rw [hB]
    have i1 : κ (md s) (2 ^ n) * ι (κ (md s) (2 ^ n)) = 1 := ι_mul P (n_ne h)
    have i2 : κ (md s) sh ^ j * ι (κ (md s) sh) ^ j = 1 := by
      rw [← f_mul_pow, ι_mul P (fun e => hz (κ_eq0.1 e)), f_one_pow]
    show κ (md s) (2 ^ n) * (κ (md s) (l.getD j 0) * κ (md s) sh ^ j) * (ι (κ (md s) (2 ^ n)) * ι (κ (md s) sh) ^ j) = _
    grind
  rw [κ_inj] at key
  rw [← key]
  unfold coF
  rw [Nat.mod_mod]
/-- Lagrange's polynomials at the points. -/
theorem lg_pt (h : ptO s n = true) {i j : Nat} (hi : i < 2 ^ n) (hj : j < 2 ^ n) : lgU s n i (pt s n j) = if i = j then 1 else 0 := by
  have P := pr_of (ptO_iff.1 h).1
  have hin : inL s n i = true := by
    simp only [inL, h, Bool.true_and, Bool.and_eq_true, decide_eq_true_eq, Int.toNat_natCast]; omega
  have hD : κ (md s) (lgD s n i (pt s n j)) = κ (md s) (2 ^ n) * (κ (md s) (pt s n j) - κ (md s) (pt s n i)) := by
    unfold lgD
    rw [Int.toNat_natCast, Int.toNat_natCast, κ_mod, κ_mul, κ_iN, κ_sb]
  unfold lgU
  rw [if_pos hin]
  by_cases e : i = j
  · subst e
    rw [if_pos rfl, if_pos]
    have : κ (md s) (lgD s n i (pt s n i)) = 0 := by rw [hD]; grind
    have e1 := κ_eq0.1 this
    unfold lgD at e1 ⊢
    rwa [Nat.mod_mod] at e1
  · rw [if_neg e, if_neg]
    · have hv : vaN s n (pt s n j) = 0 := by
        have : κ (md s) (vaN s n (pt s n j)) = 0 := by
          unfold vaN
          have h2 : κ (md s) (pt s n j) ^ 2 ^ n = 1 := pt_pow h j
          rw [if_pos h, Int.toNat_natCast, κ_sb, κ_mod, κ_pow, κ_one, h2]; grind
        have e1 := κ_eq0.1 this
        unfold vaN at e1 ⊢
        rw [if_pos h] at e1 ⊢
        unfold sb at e1 ⊢
        rwa [Nat.mod_mod] at e1
      rw [hv, Nat.mul_zero, Nat.zero_mod, Nat.zero_mul, Nat.zero_mod]
    · intro hz
      rw [hz, κ_zero] at hD
      have h1 := (f_nzd P hD.symm).resolve_left (n_ne h)
      exact e (pt_inj h (i := i) (j := j) hi hj (by grind))
end
end Go.Sx
