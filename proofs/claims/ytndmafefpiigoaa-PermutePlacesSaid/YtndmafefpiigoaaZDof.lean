/-
  Lagrange's polynomials by one formula. No conditions.
-/
import Derived.Test.YtndmafefpiigoaaZDoe
namespace Go.Sx
open Go.Proofs Go.Num
set_option maxRecDepth 100000
set_option linter.unusedSimpArgs false
section
variable {m : Nat} [NeZero m]
/-- (X^n - p^n) / (X - p), by its values' list. -/
def geo (p : Nat) : Nat → List Nat
  | 0 => []
  | n + 1 => p ^ n :: geo p n
theorem geo_len (p : Nat) : ∀ n, (geo p n).length = n
  | 0 => rfl
  | n + 1 => by simp [geo, geo_len p n]
theorem geo_co (p : Nat) : ∀ n i, co m (geo p n) i = if i < n then κ m p ^ (n - 1 - i) else 0
  | 0, i => by rw [if_neg (by omega)]; exact co_nil i
  | n + 1, 0 => by
    rw [if_pos (by omega)]
    unfold geo
    rw [co_0, κ_pow]
    rfl
  | n + 1, i + 1 => by
    unfold geo
    rw [co_s, geo_co p n i]
    by_cases h : i < n
    · rw [if_pos h, if_pos (by omega)]; congr 1; omega
    · rw [if_neg h, if_neg (by omega)]
theorem geo_self (p : Nat) : ∀ n, evk (κ m p) (geo p (n + 1)) = κ m (n + 1) * κ m p ^ n
  | 0 => by
    simp only [geo, evk]
    rw [κ_pow, f_pow_zero, show 0 + 1 = 1 from rfl, κ_one]; grind
  | n + 1 => by
    have := geo_self p n
    show κ m (p ^ (n + 1)) + κ m p * evk (κ m p) (geo p (n + 1)) = _
    rw [this, κ_pow, κ_add (n + 1) 1, κ_one, f_pow_succ]; grind
/-- A factor's coefficients. -/
theorem ml_fac (a : Nat) (g : Nat → Fin m) (k : Nat) : ml [a, 1] g k = κ m a * g k + shf g k := by
  cases k with
  | zero => simp only [ml, shf]; grind
  | succ k =>
    cases k with
    | zero => simp only [ml, shf]; rw [κ_one]; grind
    | succ k => simp only [ml, shf]; rw [κ_one]; grind
/-- The coefficients of X^n - 1. -/
def cX (m : Nat) [NeZero m] (n i : Nat) : Fin m := if i = 0 then -1 else if i = n then 1 else 0
theorem geo_fac {p a n : Nat} (ha : κ m a = - κ m p) (hp : κ m p ^ (n + 1) = 1) (k : Nat) : ml [a, 1] (co m (geo p (n + 1))) k = cX m (n + 1) k := by
  rw [ml_fac, ha]
  unfold cX
  cases k with
  | zero =>
    simp only [shf, if_true]
    rw [geo_co, if_pos (by omega), show n + 1 - 1 - 0 = n by omega]
    rw [f_pow_succ] at hp
    grind
  | succ k =>
    simp only [shf]
    rw [if_neg (by omega), geo_co, geo_co]
    by_cases h1 : k + 1 < n + 1
    · rw [if_pos h1, if_pos (by omega), if_neg (by omega), show n + 1 - 1 - k = (n + 1 - 1 - (k + 1)) + 1 by omega, f_pow_succ]; grind
    · rw [if_neg h1]
      by_cases h2 : k + 1 = n + 1
      · rw [if_pos (by omega), if_pos h2, show n + 1 - 1 - k = 0 by omega, f_pow_zero]; grind
      · rw [if_neg (by omega), if_neg h2]; grind
end
section
variable {s : Int}
theorem fac_ev (x : Fin (md s)) (a : Nat) : evk x (fac s a) = x - κ (md s) a := by
  simp only [fac, evk]
  rw [κ_mod, κ_neg, κ_one]; grind
theorem rN_top (P : PR (md s)) (xs : List Nat) (i : Nat) : ∀ j, co (md s) (rN s xs i j) ((rN s xs i j).length - 1) = 1
  | 0 => by unfold rN; rw [show [1].length - 1 = 0 from rfl, co_0, κ_one]
  | j + 1 => by
    have ih := rN_top P xs i j
    have h1 := rN_len P xs i j
    have h2 := rN_len P xs i (j + 1)
    by_cases hj : j = i
    · have e : rN s xs i (j + 1) = rN s xs i j := by rw [rN, if_pos hj]
      rw [e]; exact ih
    · have e : rN s xs i (j + 1) = tp (md s) (pMul (rN s xs i j) (fac s (xs.getD j 0))) := by rw [rN, if_neg hj]
      have hl : (rN s xs i (j + 1)).length - 1 = 1 + ((rN s xs i j).length - 1) := by
        rw [h2, h1]
        by_cases h3 : i < j
        · rw [if_pos h3, if_pos (by omega)]; omega
        · rw [if_neg h3, if_neg (by omega)]; omega
      rw [hl, e, co_tp, co_pMul, ml_top (Q := co (md s) (fac s (xs.getD j 0))) (N := 1) (fun t ht => co_out (by rw [fac_len]; omega)) (l := rN s xs i j) (n := (rN s xs i j).length - 1) (by rw [h1]; split <;> omega), ih]
      show 1 * co (md s) (fac s (xs.getD j 0)) 1 = 1
      unfold fac
      rw [co_s, co_0, κ_one]; grind
end
section
variable {s k : Int}
/-- The others' product times its own factor: X^n - 1. -/
theorem rN_fac (h : ptO s k = true) {i : Nat} (hi : i < 2 ^ k.toNat) (t : Nat) : ml (fac s (pt s k i)) (co (md s) (rN s (ptL s k) i (2 ^ k.toNat))) t = cX (md s) (2 ^ k.toNat) t := by
  have P := pr_of (ptO_iff.1 h).1
  obtain ⟨N, hN⟩ : ∃ N, 2 ^ k.toNat = N := ⟨_, rfl⟩
  have hN0 : 0 < N := by rw [← hN]; exact Nat.two_pow_pos _
  have hlp := ptL_len h
  rw [hN] at hi hlp ⊢
  have hl := rN_len P (ptL s k) i N
  rw [if_pos hi] at hl
  -- the list of X^n - 1
  obtain ⟨Xn, hX⟩ : ∃ Xn, Xn = tab (N + 1) (fun i => if i = 0 then md s - 1 else if i = N then 1 else 0) := ⟨_, rfl⟩
  have e1 : κ (md s) (md s - 1) = -1 := by
    have h1 := κ_neg (m := md s) 1
    rw [Nat.mod_eq_of_lt P.1, κ_one] at h1
    exact h1
  have coX : ∀ t, co (md s) Xn t = cX (md s) N t := by
    intro t
    unfold co cX
    rw [hX]
    by_cases ht : t < N + 1
    · rw [tab_at ht]
      by_cases h0 : t = 0
      · rw [if_pos h0, if_pos h0, e1]
      · rw [if_neg h0, if_neg h0]
        by_cases h1 : t = N
        · rw [if_pos h1, if_pos h1, κ_one]
        · rw [if_neg h1, if_neg h1, κ_zero]
    · rw [tab_out (by omega), κ_zero, if_neg (by omega), if_neg (by omega)]
  have evX : ∀ x : Fin (md s), evk x Xn = x ^ N - 1 := by
    intro x
    have key : ∀ M, evk x (tab (M + 1) (fun i => if i = M then 1 else 0)) = x ^ M := by
      intro M
      induction M with
      | zero =>
        show κ (md s) 1 + x * 0 = _
        rw [κ_one, f_pow_zero]; grind
      | succ M ih =>
        have e : tab (M + 1 + 1) (fun i => if i = M + 1 then 1 else 0) = 0 :: tab (M + 1) (fun i => if i = M then 1 else 0) := by
          unfold tab
          rw [List.range_succ_eq_map]
          simp
        rw [e]
        show κ (md s) 0 + x * _ = _
        rw [ih, κ_zero, f_pow_succ]; grind
    have e2 : evk x Xn = evk x (plL [md s - 1] (tab (N + 1) (fun i => if i = N then 1 else 0))) := evk_congr fun t => by
      rw [coX, co_addL]
      unfold cX
      cases t with
      | zero =>
        rw [if_pos rfl, co_0, e1]
        unfold co
        rw [tab_at (by omega), if_neg (by omega), κ_zero]; grind
      | succ t =>
        rw [co_s, co_nil, if_neg (by omega)]
        unfold co
        by_cases ht : t + 1 < N + 1
        · rw [tab_at ht]
          by_cases h1 : t + 1 = N
          · rw [if_pos h1, if_pos h1, κ_one]; grind
          · rw [if_neg h1, if_neg h1, κ_zero]; grind
        · rw [tab_out (by omega), if_neg (by omega), κ_zero]; grind
    rw [e2, evk_addL, key]
    simp only [evk]
    rw [e1]; grind
  have hP : ∀ t, co (md s) (pMul (fac s (pt s k i)) (rN s (ptL s k) i N)) t = ml (fac s (pt s k i)) (co (md s) (rN s (ptL s k) i N)) t := fun t => co_pMul _ _ t
  -- the difference
  have hz : ∀ t, co (md s) (tp (md s) (plL (pMul (fac s (pt s k i)) (rN s (ptL s k) i N)) (pScale Xn (md s - 1)))) t = 0 := by
    refine roots P ((ptL s k).map (κ (md s))) _ (pts_nodup h) ?_ ?_
    · rw [List.length_map, hlp]
      refine tp_len_le fun t ht => ?_
      have hc : co (md s) (plL (pMul (fac s (pt s k i)) (rN s (ptL s k) i N)) (pScale Xn (md s - 1))) t = 0 := by
        rw [co_addL, co_pScale, coX, e1, co_pMul]
        unfold cX
        rw [if_neg (by omega)]
        by_cases h1 : t = N
        · rw [if_pos h1]
          have ht2 := rN_top P (ptL s k) i N
          have := ml_top (Q := co (md s) (rN s (ptL s k) i N)) (N := N - 1) (fun t ht => co_out (by omega)) (l := fac s (pt s k i)) (n := 1) rfl
          rw [show N - 1 + 1 = N by omega] at this
          rw [show (rN s (ptL s k) i N).length - 1 = N - 1 by omega] at ht2
          rw [h1, this, ht2]
          unfold fac
          rw [co_s, co_0, κ_one]; grind
        · rw [if_neg h1, ← cS_ml, cS_out (by rw [fac_len]; omega) (by omega), κ_zero]; grind
      rw [← κ_eq0]; exact hc
    · intro r hr
      rw [List.mem_map] at hr
      obtain ⟨y, hy, rfl⟩ := hr
      obtain ⟨j, hj, rfl⟩ := List.getElem_of_mem hy
      have ej : (ptL s k)[j] = pt s k j := by have := ptL_at h (i := j) (by omega); simpa [List.getD, hj] using this
      have ej' : (ptL s k).getD j 0 = pt s k j := ptL_at h (by omega)
      have hpow := pt_pow h j
      rw [hN] at hpow
      rw [evk_tp, evk_addL, evk_pMul, evk_pScale, evX, ej, hpow, fac_ev]
      by_cases hji : j = i
      · rw [hji]; grind
      · have := rN_off (s := s) (ptL s k) i j hji N (by omega)
        rw [ej'] at this
        rw [this]; grind
  have := hz t
  rw [co_tp, co_addL, co_pScale, coX, e1, hP] at this
  grind
end
end Go.Sx
