/-
  Sums over roots of unity: values undone, Lagrange's polynomials give values, what vanishes. No conditions.
-/
import Derived.Test.YtndmafefpiigoaaZDoo
namespace Go.Sx
open Go.Proofs Go.Num
set_option maxRecDepth 100000
set_option linter.unusedSimpArgs false
section
variable {m : Nat} [NeZero m]
theorem sm_swap (F : Nat → Nat → Fin m) : ∀ n k, sm n (fun i => sm k (fun t => F i t)) = sm k (fun t => sm n (fun i => F i t))
  | 0, k => (sm_zero fun _ _ => rfl).symm
  | n + 1, k => by
    show sm n (fun i => sm k (fun t => F i t)) + sm k (fun t => F n t) = sm k (fun t => sm n (fun i => F i t) + F n t)
    rw [sm_swap F n k, sm_add]
theorem sm_pick {g : Nat → Fin m} {j : Nat} : ∀ {n : Nat}, j < n → (∀ i, i < n → i ≠ j → g i = 0) → sm n g = g j
  | 0, h, _ => by omega
  | n + 1, h, e => by
    show sm n g + g n = g j
    by_cases hj : j = n
    · subst hj
      rw [sm_zero fun i hi => e i (by omega) (by omega)]; grind
    · rw [sm_pick (by omega) fun i hi hne => e i (by omega) hne, e n (by omega) (by omega)]; grind
theorem sm_geo (x : Fin m) : ∀ n, (x - 1) * sm n (fun i => x ^ i) = x ^ n - 1
  | 0 => by show (x - 1) * (0 : Fin m) = x ^ 0 - 1; rw [f_pow_zero]; grind
  | n + 1 => by
    show (x - 1) * (sm n (fun i => x ^ i) + x ^ n) = x ^ (n + 1) - 1
    have := sm_geo x n
    rw [f_pow_succ]; grind
theorem sm_const (c : Fin m) : ∀ n, sm n (fun _ => c) = κ m n * c
  | 0 => by show (0 : Fin m) = κ m 0 * c; rw [κ_zero]; grind
  | n + 1 => by
    show sm n (fun _ => c) + c = κ m (n + 1) * c
    rw [sm_const c n, κ_add, κ_one]; grind
theorem f_pow_cm (x : Fin m) (i j : Nat) : (x ^ i) ^ j = x ^ (i * j) := (f_pow_mul x i j).symm
theorem f_canc (P : PR m) {x y z : Fin m} (h : x ≠ 0) (e : x * y = x * z) : y = z := by
  have h1 : x * (y - z) = 0 := by grind
  have h2 := (f_nzd P h1).resolve_left h
  grind
end
section
variable {s : Int} {n : Nat}
/-- Sums over all roots: only what stands at j remains. -/
theorem core (h : ptO s n = true) (c : Nat → Fin (md s)) {j : Nat} (hj : j < 2 ^ n) : sm (2 ^ n) (fun i => sm (2 ^ n) (fun t => c t * κ (md s) (rk s n) ^ (t * i)) * κ (md s) (inv s (rk s n)) ^ (i * j)) = κ (md s) (2 ^ n) * c j := by
  have P := pr_of (ptO_iff.1 h).1
  have e1 : ∀ i, sm (2 ^ n) (fun t => c t * κ (md s) (rk s n) ^ (t * i)) * κ (md s) (inv s (rk s n)) ^ (i * j) = sm (2 ^ n) (fun t => c t * (κ (md s) (rk s n) ^ t * κ (md s) (inv s (rk s n)) ^ j) ^ i) := fun i => by
    have : sm (2 ^ n) (fun t => κ (md s) (inv s (rk s n)) ^ (i * j) * (c t * κ (md s) (rk s n) ^ (t * i))) = sm (2 ^ n) (fun t => c t * (κ (md s) (rk s n) ^ t * κ (md s) (inv s (rk s n)) ^ j) ^ i) := sm_congr fun t _ => by
      rw [f_mul_pow, f_pow_cm, f_pow_cm, Nat.mul_comm i j]; grind
    rw [← this, sm_scale]; grind
  rw [sm_congr fun i _ => e1 i, sm_swap]
  have e2 : ∀ t, t < 2 ^ n → t ≠ j → sm (2 ^ n) (fun i => c t * (κ (md s) (rk s n) ^ t * κ (md s) (inv s (rk s n)) ^ j) ^ i) = 0 := fun t ht hne => by
    rw [sm_scale]
    have g := sm_geo (κ (md s) (rk s n) ^ t * κ (md s) (inv s (rk s n)) ^ j) (2 ^ n)
    have g1 : (κ (md s) (rk s n) ^ t * κ (md s) (inv s (rk s n)) ^ j) ^ 2 ^ n = 1 := by
      have r1 : κ (md s) (rk s n) ^ 2 ^ n = 1 := (rk_facts h).2
      rw [f_mul_pow, f_pow_comm, r1, f_one_pow, f_pow_comm, back_one h, f_one_pow]; grind
    rw [g1] at g
    have g2 : κ (md s) (rk s n) ^ t * κ (md s) (inv s (rk s n)) ^ j - 1 ≠ 0 := fun e => hne (by
      refine pt_inj h (i := t) (j := j) ht hj ?_
      rw [ptk, ptk]
      have := back_pow h j
      grind)
    have g3 := (f_nzd P (x := κ (md s) (rk s n) ^ t * κ (md s) (inv s (rk s n)) ^ j - 1) (y := sm (2 ^ n) (fun i => (κ (md s) (rk s n) ^ t * κ (md s) (inv s (rk s n)) ^ j) ^ i)) (by rw [g]; grind)).resolve_left g2
    rw [g3]; grind
  rw [sm_pick hj e2, sm_scale]
  have e3 : κ (md s) (rk s n) ^ j * κ (md s) (inv s (rk s n)) ^ j = 1 := back_pow h j
  rw [e3, sm_congr fun i _ => f_one_pow i, sm_const]
  grind
theorem vaF_sm {sh : Nat} {l : List Nat} (hl : l.length ≤ 2 ^ n) (i : Nat) : κ (md s) (vaF s n sh l i) = sm (2 ^ n) (fun t => (co (md s) l t * κ (md s) sh ^ t) * κ (md s) (rk s n) ^ (t * i)) := by
  unfold vaF
  rw [κ_evp, κ_mod, κ_mul, ptk, evk_sm]
  obtain ⟨d, hd⟩ : ∃ d, 2 ^ n = l.length + d := ⟨2 ^ n - l.length, by omega⟩
  rw [hd, sm_more]
  · refine sm_congr fun t _ => ?_
    rw [f_mul_pow, f_pow_cm, Nat.mul_comm i t]; grind
  · intro t h1 _
    rw [co_out h1]; grind
theorem κ_iN (k : Nat) : κ (md s) (iN s (k : Int)) = κ (md s) k := by
  unfold iN
  rw [if_pos (by omega), κ_mod]; rfl
/-- Coefficients whose values are taken are had again. -/
theorem round {sh : Nat} {l : List Nat} (h : ptO s n = true) (hz : sh % md s ≠ 0) (hl : l.length ≤ 2 ^ n) {j : Nat} (hj : j < 2 ^ n) : coF s n sh (tab (2 ^ n) (vaF s n sh l)) j = l.getD j 0 % md s := by
  have P := pr_of (ptO_iff.1 h).1
  have key : κ (md s) (coF s n sh (tab (2 ^ n) (vaF s n sh l)) j) = κ (md s) (l.getD j 0) := by
    unfold coF
    rw [Int.toNat_natCast, κ_mod, κ_mul, κ_evp, pt_back h hj, evk_sm, tab_len]
    have e1 : ∀ i, i < 2 ^ n → co (md s) (tab (2 ^ n) (vaF s n sh l)) i * (κ (md s) (inv s (rk s n)) ^ j) ^ i = sm (2 ^ n) (fun t => (co (md s) l t * κ (md s) sh ^ t) * κ (md s) (rk s n) ^ (t * i)) * κ (md s) (inv s (rk s n)) ^ (i * j) := fun i hi => by
      unfold co
      rw [tab_at hi, vaF_sm hl i, f_pow_cm, Nat.mul_comm j i]; rfl
    rw [sm_congr e1, core h (fun t => co (md s) l t * κ (md s) sh ^ t) hj]
    have hB : ∀ i, κ (md s) (coB s n sh i) = ι (κ (md s) (2 ^ n)) * ι (κ (md s) sh) ^ i := by
      intro i
      induction i with
      | zero =>
        show κ (md s) (inv s (iN s ((2 ^ Int.toNat (n : Int) : Nat) : Int))) = _
        rw [κ_inv, κ_iN, Int.toNat_natCast, f_pow_zero]; grind
      | succ i ih =>
        show κ (md s) (coB s n sh i * inv s sh % md s) = _
        rw [κ_mod, κ_mul, ih, κ_inv, f_pow_succ]; grind
    rw [hB]
    have i1 : κ (md s) (2 ^ n) * ι (κ (md s) (2 ^ n)) = 1 := ι_mul P (n_ne h)
    have i2 : κ (md s) sh ^ j * ι (κ (md s) sh) ^ j = 1 := by
      rw [← f_mul_pow, ι_mul P (fun e => hz (κ_eq0.1 e)), f_one_pow]
    show κ (md s) (2 ^ n) * (κ (md s) (l.getD j 0) * κ (md s) sh ^ j) * (ι (κ (md s) (2 ^ n)) * ι (κ (md s) sh) ^ j) = _
    grind
  rw [κ_inj] at key
  rw [← key]
  unfold coF
  rw [Nat.mod_mod]
/-- Lagrange's polynomial as a sum of powers. -/
theorem lg_sm (h : ptO s n = true) {i : Nat} (hi : i < 2 ^ n) (x : Nat) : κ (md s) (2 ^ n) * κ (md s) (lgU s n i x) = sm (2 ^ n) (fun t => κ (md s) x ^ t * κ (md s) (inv s (rk s n)) ^ (t * i)) := by
  have P := pr_of (ptO_iff.1 h).1
  have hin : inL s n i = true := by
    simp only [inL, h, Bool.true_and, Bool.and_eq_true, decide_eq_true_eq, Int.toNat_natCast]; omega
  have hN : κ (md s) (2 ^ n) ≠ 0 := n_ne h
  have hp := back_pow h i
  have hp1 : κ (md s) (pt s n i) = κ (md s) (rk s n) ^ i := ptk i
  have hD : κ (md s) (lgD s n i x) = κ (md s) (2 ^ n) * (κ (md s) x - κ (md s) (rk s n) ^ i) := by
    unfold lgD
    rw [Int.toNat_natCast, Int.toNat_natCast, κ_mod, κ_mul, κ_iN, κ_sb, hp1]
  have hS : ∀ t, κ (md s) x ^ t * κ (md s) (inv s (rk s n)) ^ (t * i) = (κ (md s) x * κ (md s) (inv s (rk s n)) ^ i) ^ t := fun t => by
    rw [f_mul_pow, f_pow_cm, Nat.mul_comm i t]
  rw [sm_congr fun t _ => hS t]
  unfold lgU
  rw [if_pos hin]
  by_cases hz : lgD s n i x = 0
  · rw [if_pos hz, κ_one]
    rw [hz, κ_zero] at hD
    have h1 := (f_nzd P hD.symm).resolve_left hN
    have h2 : κ (md s) x * κ (md s) (inv s (rk s n)) ^ i = 1 := by grind
    rw [h2, sm_congr fun t _ => f_one_pow t, sm_const]
  · rw [if_neg hz]
    have hz2 : κ (md s) (lgD s n i x) ≠ 0 := fun e => hz (by
      have e1 := κ_eq0.1 e
      unfold lgD at e1 ⊢
      rwa [Nat.mod_mod] at e1)
    have hx : κ (md s) x - κ (md s) (rk s n) ^ i ≠ 0 := fun e => hz2 (by rw [hD, e]; grind)
    have hv : κ (md s) (vaN s n x) = κ (md s) x ^ 2 ^ n - 1 := by
      unfold vaN
      rw [if_pos h, Int.toNat_natCast, κ_sb, κ_mod, κ_pow, κ_one]
    rw [Int.toNat_natCast, κ_mod, κ_mul, κ_mod, κ_mul, hv, κ_inv, hp1]
    have hι := ι_mul P hz2
    have g := sm_geo (κ (md s) x * κ (md s) (inv s (rk s n)) ^ i) (2 ^ n)
    have g1 : (κ (md s) x * κ (md s) (inv s (rk s n)) ^ i) ^ 2 ^ n = κ (md s) x ^ 2 ^ n := by
      rw [f_mul_pow, f_pow_comm _ i, back_one h, f_one_pow]; grind
    rw [g1] at g
    refine f_canc P hx ?_
    generalize sm (2 ^ n) (fun t => (κ (md s) x * κ (md s) (inv s (rk s n)) ^ i) ^ t) = S at g ⊢
    rw [hD] at hι ⊢
    generalize κ (md s) x ^ 2 ^ n = X at g ⊢
    generalize ι (κ (md s) (2 ^ n) * (κ (md s) x - κ (md s) (rk s n) ^ i)) = I at hι ⊢
    generalize κ (md s) (rk s n) ^ i = p at hp hι ⊢
    generalize κ (md s) (inv s (rk s n)) ^ i = q at hp g
    generalize κ (md s) (2 ^ n) = N at hι ⊢
    generalize κ (md s) x = y at hι g ⊢
    have a1 : (y - p) * S = p * (X - 1) := by
      rw [← g]
      have : p * ((y * q - 1) * S) = (y * (p * q) - p) * S := by grind
      rw [this, hp]; grind
    rw [a1]
    have : (y - p) * (N * (p * (X - 1) * I)) = (N * (y - p) * I) * (p * (X - 1)) := by grind
    rw [this, hι]; grind
/-- Lagrange's polynomials give any polynomial's value anywhere. -/
theorem lg_sum (h : ptO s n = true) (c : Nat → Fin (md s)) (x : Nat) : sm (2 ^ n) (fun i => κ (md s) (lgU s n i x) * sm (2 ^ n) (fun t => c t * κ (md s) (rk s n) ^ (t * i))) = sm (2 ^ n) (fun t => c t * κ (md s) x ^ t) := by
  have P := pr_of (ptO_iff.1 h).1
  refine f_canc P (n_ne h) ?_
  show κ (md s) (2 ^ n) * _ = κ (md s) (2 ^ n) * _
  rw [← sm_scale, ← sm_scale]
  have e1 : ∀ i : Nat, i < 2 ^ n → κ (md s) (2 ^ n) * (κ (md s) (lgU s n i x) * sm (2 ^ n) (fun t => c t * κ (md s) (rk s n) ^ (t * i))) = sm (2 ^ n) (fun j => κ (md s) x ^ j * (sm (2 ^ n) (fun t => c t * κ (md s) (rk s n) ^ (t * i)) * κ (md s) (inv s (rk s n)) ^ (i * j))) := fun i hi => by
    have e2 := lg_sm h hi x
    have : κ (md s) (2 ^ n) * (κ (md s) (lgU s n i x) * sm (2 ^ n) (fun t => c t * κ (md s) (rk s n) ^ (t * i))) = sm (2 ^ n) (fun t => c t * κ (md s) (rk s n) ^ (t * i)) * (κ (md s) (2 ^ n) * κ (md s) (lgU s n i x)) := by grind
    rw [this, e2, ← sm_scale]
    refine sm_congr fun j _ => ?_
    rw [Nat.mul_comm j i]; grind
  rw [sm_congr e1, sm_swap]
  refine sm_congr fun j hj => ?_
  rw [sm_scale, core h c hj]; grind
end
end Go.Sx
