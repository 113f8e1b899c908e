/-
  Plain numbers: powers by a modulus; a modulus with an element of full order, and Fermat's little theorem for it. No conditions.
-/
namespace Go.Num
theorem mod_mul {m a a' b b' : Nat} (ha : a % m = a' % m) (hb : b % m = b' % m) : (a * b) % m = (a' * b') % m := by
  rw [Nat.mul_mod, ha, hb, ← Nat.mul_mod]
theorem mod_pow {m a a' : Nat} (h : a % m = a' % m) (n : Nat) : a ^ n % m = a' ^ n % m := by
  rw [Nat.pow_mod, h, ← Nat.pow_mod]
/-- A power by a modulus, reckoned. -/
def pm (m : Nat) : Nat → Nat → Nat → Nat → Nat
  | 0, o, _, _ => o % m
  | f + 1, o, b, e => if e = 0 then o % m else if e % 2 = 1 then pm m f (o * b % m) (b * b % m) (e / 2) else pm m f o (b * b % m) (e / 2)
theorem pm_odd (m o b x : Nat) (h : x % 2 = 1) : ((o * b % m) * (b * b % m) ^ (x / 2)) % m = (o * b ^ x) % m := by
  have e : x = 2 * (x / 2) + 1 := by omega
  rw [Nat.mul_mod, Nat.mod_mod, ← Nat.pow_mod, ← Nat.mul_mod]
  conv => rhs; rw [e]
  rw [Nat.pow_succ, Nat.pow_mul, Nat.pow_two, Nat.mul_assoc, Nat.mul_comm b]
theorem pm_even (m o b x : Nat) (h : x % 2 = 0) : (o * (b * b % m) ^ (x / 2)) % m = (o * b ^ x) % m := by
  have e : x = 2 * (x / 2) := by omega
  rw [Nat.mul_mod, ← Nat.pow_mod, ← Nat.mul_mod]
  conv => rhs; rw [e]
  rw [Nat.pow_mul, Nat.pow_two]
theorem pm_eq (m : Nat) : ∀ (f o b e : Nat), e < 2 ^ f → pm m f o b e = (o * b ^ e) % m
  | 0, o, b, e, h => by
    have : e = 0 := by simpa using h
    subst this
    simp [pm]
  | f + 1, o, b, e, h => by
    have h2 : e / 2 < 2 ^ f := by rw [Nat.pow_succ] at h; omega
    unfold pm
    by_cases h0 : e = 0
    · subst h0; simp
    rw [if_neg h0]
    by_cases h1 : e % 2 = 1
    · rw [if_pos h1, pm_eq m f _ _ _ h2, pm_odd m o b e h1]
    · rw [if_neg h1, pm_eq m f _ _ _ h2, pm_even m o b e (by omega)]
theorem pow_of {m f b e r : Nat} (h : pm m f 1 b e = r) (he : e < 2 ^ f) : b ^ e % m = r := by
  rw [← h, pm_eq m f 1 b e he, Nat.one_mul]
/-- A power's remainder, told so that no program reckons it. -/
structure PW (b e m r : Nat) : Prop where
  h : b ^ e % m = r
theorem pw_of {m f b e r : Nat} (h : pm m f 1 b e = r) (he : e < 2 ^ f) : PW b e m r := ⟨pow_of h he⟩

/-- What is asked of a prime as a factor. -/
def CP (q : Nat) : Prop := 1 < q ∧ ∀ a, ¬ q ∣ a → Nat.Coprime q a
/-- Fermat's little theorem holds for p. -/
def PR (p : Nat) : Prop := 1 < p ∧ ∀ a, a % p ≠ 0 → a ^ (p - 1) % p = 1
theorem PR.cp {p : Nat} (h : PR p) : CP p := by
  refine ⟨h.1, fun a ha => ?_⟩
  have h1 := h.2 a (fun e => ha (Nat.dvd_of_mod_eq_zero e))
  have d1 : Nat.gcd p a ∣ a ^ (p - 1) := Nat.dvd_trans (Nat.gcd_dvd_right p a) (Nat.dvd_trans ⟨1, (Nat.mul_one _).symm ▸ (Nat.pow_one a).symm ▸ rfl⟩ (Nat.pow_dvd_pow a (show 1 ≤ p - 1 by have := h.1; omega)))
  have d2 : Nat.gcd p a ∣ p := Nat.gcd_dvd_left p a
  have e : a ^ (p - 1) = p * (a ^ (p - 1) / p) + 1 := by
    have := Nat.div_add_mod (a ^ (p - 1)) p
    omega
  have d3 : Nat.gcd p a ∣ 1 := by
    rw [e] at d1
    exact (Nat.dvd_add_right (Nat.dvd_trans d2 (Nat.dvd_mul_right _ _))).1 d1
  exact Nat.dvd_one.1 d3
theorem CP.dvd_or {q a b : Nat} (h : CP q) (hd : q ∣ a * b) : q ∣ a ∨ q ∣ b := by
  by_cases ha : q ∣ a
  · exact .inl ha
  · exact .inr ((h.2 a ha).dvd_of_dvd_mul_left hd)

theorem factor_of : ∀ {fs : List Nat}, (∀ q ∈ fs, CP q) → ∀ e, e ∣ fs.prod → e ≠ 1 → ∃ q ∈ fs, q ∣ e
  | [], _, e, h, h1 => absurd (Nat.dvd_one.1 (by simpa using h)) h1
  | q :: fs, hp, e, h, h1 => by
    by_cases hq : q ∣ e
    · exact ⟨q, by simp, hq⟩
    · have hc : Nat.Coprime q e := (hp q (by simp)).2 e hq
      have h2 : e ∣ fs.prod := (Nat.Coprime.symm hc).dvd_of_dvd_mul_left (by simpa using h)
      obtain ⟨q', hq', hd⟩ := factor_of (fun x hx => hp x (by simp [hx])) e h2 h1
      exact ⟨q', by simp [hq'], hd⟩
theorem pow_gcd {p g : Nat} (hp : 1 < p) : ∀ (a b : Nat), g ^ a % p = 1 → g ^ b % p = 1 → g ^ Nat.gcd a b % p = 1 := by
  intro a
  induction a using Nat.strongRecOn with
  | _ a ih =>
    intro b ha hb
    by_cases h0 : a = 0
    · subst h0; rwa [Nat.gcd_zero_left]
    rw [Nat.gcd_rec]
    refine ih (b % a) (Nat.mod_lt _ (by omega)) a ?_ ha
    have e : b = a * (b / a) + b % a := (Nat.div_add_mod b a).symm
    rw [e, Nat.pow_add, Nat.pow_mul] at hb
    have h1 : (g ^ a) ^ (b / a) % p = 1 % p := by
      rw [Nat.pow_mod, ha, Nat.one_pow]
    rw [Nat.mul_mod, h1, ← Nat.mul_mod, Nat.one_mul] at hb
    exact hb
theorem order_of {p g : Nat} {fs : List Nat} (hp : 1 < p) (hf : fs.prod = p - 1) (hpr : ∀ q ∈ fs, CP q) (hone : PW g (p - 1) p 1) (hne : ∀ q ∈ fs, g ^ ((p - 1) / q) % p ≠ 1) (d : Nat) (h0 : 0 < d) (hd : d < p - 1) : g ^ d % p ≠ 1 := by
  intro h
  have hc := pow_gcd hp d (p - 1) h hone.h
  have c1 : Nat.gcd d (p - 1) ∣ p - 1 := Nat.gcd_dvd_right _ _
  have c2 : Nat.gcd d (p - 1) ≤ d := Nat.le_of_dvd h0 (Nat.gcd_dvd_left _ _)
  have c3 : 0 < Nat.gcd d (p - 1) := Nat.gcd_pos_of_pos_left _ h0
  generalize Nat.gcd d (p - 1) = c at *
  obtain ⟨e, he⟩ := c1
  have e1 : e ≠ 1 := by rintro rfl; omega
  obtain ⟨q, hq, r, hr⟩ := factor_of hpr e (by rw [hf, he]; exact Nat.dvd_mul_left _ _) e1
  have hq1 := (hpr q hq).1
  refine hne q hq ?_
  have : (p - 1) / q = c * r := by
    rw [he, hr, Nat.mul_left_comm, Nat.mul_div_cancel_left _ (by omega)]
  rw [this, Nat.pow_mul, Nat.pow_mod, hc, Nat.one_pow]
  exact Nat.mod_eq_of_lt hp

theorem pigeon : ∀ (m : Nat) (f : Nat → Nat), (∀ i, i < m → f i < m) → (∀ i j, i < m → j < m → f i = f j → i = j) → ∀ a, a < m → ∃ i, i < m ∧ f i = a
  | 0, _, _, _, a, ha => absurd ha (by omega)
  | m + 1, f, hf, hi, a, ha => by
    by_cases hm : ∃ i, i < m + 1 ∧ f i = m
    · obtain ⟨k, hk, hkm⟩ := hm
      -- f with the places k and m changed
      let h : Nat → Nat := fun i => if i = k then f m else f i
      have hh1 : ∀ i, i < m → h i < m := by
        intro i him
        show (if i = k then f m else f i) < m
        by_cases hik : i = k
        · rw [if_pos hik]
          have h1 := hf m (by omega)
          have : f m ≠ m := by
            intro e
            have := hi m k (by omega) hk (by rw [e, hkm])
            omega
          omega
        · rw [if_neg hik]
          have h1 := hf i (by omega)
          have : f i ≠ m := by
            intro e
            exact hik (hi i k (by omega) hk (by rw [e, hkm]))
          omega
      have hh2 : ∀ i j, i < m → j < m → h i = h j → i = j := by
        intro i j him hjm e
        have e : (if i = k then f m else f i) = (if j = k then f m else f j) := e
        by_cases hik : i = k <;> by_cases hjk : j = k
        · omega
        · rw [if_pos hik, if_neg hjk] at e
          have := hi m j (by omega) (by omega) e
          omega
        · rw [if_neg hik, if_pos hjk] at e
          have := hi i m (by omega) (by omega) e
          omega
        · rw [if_neg hik, if_neg hjk] at e
          exact hi i j (by omega) (by omega) e
      by_cases ham : a = m
      · exact ⟨k, hk, by rw [hkm, ham]⟩
      obtain ⟨i, him, hia⟩ := pigeon m h hh1 hh2 a (by omega)
      have hia : (if i = k then f m else f i) = a := hia
      by_cases hik : i = k
      · rw [if_pos hik] at hia
        exact ⟨m, by omega, hia⟩
      · rw [if_neg hik] at hia
        exact ⟨i, by omega, hia⟩
    · have hlt : ∀ i, i < m + 1 → f i < m := by
        intro i him
        have h1 := hf i him
        have : f i ≠ m := fun e => hm ⟨i, him, e⟩
        omega
      -- then f sends m + 1 places into m
      obtain ⟨i, him, hia⟩ := pigeon m f (fun i h => hlt i (by omega)) (fun i j h1 h2 e => hi i j (by omega) (by omega) e) (f m) (hlt m (by omega))
      have := hi i m (by omega) (by omega) hia
      omega

theorem pratt {p g : Nat} {fs : List Nat} (hp : 1 < p) (hf : fs.prod = p - 1) (hpr : ∀ q ∈ fs, CP q) (hone : PW g (p - 1) p 1) (hne : ∀ q ∈ fs, g ^ ((p - 1) / q) % p ≠ 1) : PR p := by
  refine ⟨hp, fun a ha => ?_⟩
  have ord := order_of hp hf hpr hone hne
  have hone := hone.h
  have inv : ∀ k, k ≤ p - 1 → (g ^ k * g ^ (p - 1 - k)) % p = 1 := by
    intro k hk
    rw [← Nat.pow_add, show k + (p - 1 - k) = p - 1 by omega, hone]
  have nz : ∀ k, k < p - 1 → g ^ k % p ≠ 0 := by
    intro k hk e
    have := inv k (by omega)
    rw [Nat.mul_mod, e, Nat.zero_mul, Nat.zero_mod] at this
    omega
  have hlt : ∀ k, g ^ k % p < p := fun k => Nat.mod_lt _ (by omega)
  have inj0 : ∀ i j, i < j → j < p - 1 → g ^ i % p ≠ g ^ j % p := by
    intro i j hij hj e
    refine ord (j - i) (by omega) (by omega) ?_
    have h1 : (g ^ (j - i) * (g ^ i * g ^ (p - 1 - i))) % p = (g ^ (j - i) * 1) % p := mod_mul rfl (by rw [inv i (by omega), Nat.mod_eq_of_lt hp])
    have h2 : g ^ (j - i) * (g ^ i * g ^ (p - 1 - i)) = g ^ j * g ^ (p - 1 - i) := by
      rw [← Nat.mul_assoc, ← Nat.pow_add, show j - i + i = j by omega]
    rw [h2, Nat.mul_one] at h1
    rw [← h1]
    exact (mod_mul e.symm rfl).trans (inv i (by omega))
  have inj : ∀ i j, i < p - 1 → j < p - 1 → g ^ i % p - 1 = g ^ j % p - 1 → i = j := by
    intro i j hi hj e
    have h1 := nz i hi
    have h2 := nz j hj
    have e' : g ^ i % p = g ^ j % p := by omega
    rcases Nat.lt_trichotomy i j with h | h | h
    · exact absurd e' (inj0 i j h hj)
    · exact h
    · exact absurd e'.symm (inj0 j i h hi)
  obtain ⟨k, hk, hka⟩ := pigeon (p - 1) (fun k => g ^ k % p - 1) (fun i hi => by have := nz i hi; have := hlt i; show g ^ i % p - 1 < p - 1; omega) inj (a % p - 1) (by have := Nat.mod_lt a (show p > 0 by omega); omega)
  have hka : g ^ k % p - 1 = a % p - 1 := hka
  have h1 := nz k hk
  have e : a % p = g ^ k % p := by omega
  rw [mod_pow e, ← Nat.pow_mul, Nat.mul_comm, Nat.pow_mul, Nat.pow_mod, hone, Nat.one_pow]
  exact Nat.mod_eq_of_lt hp
/-- A small prime, by trial. -/
theorem small {q : Nat} (h1 : 1 < q) (h : (List.range q).all (fun a => a == 0 || Nat.gcd q a == 1) = true) : CP q := by
  refine ⟨h1, fun a ha => ?_⟩
  have h2 : a % q ≠ 0 := fun e => ha (Nat.dvd_of_mod_eq_zero e)
  have h3 := List.all_eq_true.1 h (a % q) (List.mem_range.2 (Nat.mod_lt _ (by omega)))
  simp only [Bool.or_eq_true, beq_iff_eq] at h3
  have h4 := h3.resolve_left h2
  show Nat.gcd q a = 1
  rw [Nat.gcd_rec, Nat.gcd_comm]
  exact h4
end Go.Num
