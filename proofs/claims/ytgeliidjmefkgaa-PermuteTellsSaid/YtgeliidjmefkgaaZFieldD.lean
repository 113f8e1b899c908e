/-
  Plain numbers: powers by a modulus; a modulus with an element of full order, and Fermat's little theorem for it. The four moduli: Fermat's little theorem for each, and 5 has full order. Walks: Inv; alive. The field's functions and the reference's, for every sort at once: no sort counts as the modulus 1. Adicity, Int and the reference's Inv, for every sort at once; the law FieldSums. A prime field as numbers below a modulus: laws, inverses. No conditions.
-/
import Derived.Test.YtgeliidjmefkgaaZFieldB
import Derived.Test.YtgeliidjmefkgaaZFieldC
import Derived.Test.YtgeliidjmefkgaaZFieldA
namespace Go.Num
theorem mod_mul {m a a' b b' : Nat} (ha : a % m = a' % m) (hb : b % m = b' % m) : (a * b) % m = (a' * b') % m := by
  rw [Nat.mul_mod, ha, hb, ← Nat.mul_mod]
theorem mod_pow {m a a' : Nat} (h : a % m = a' % m) (n : Nat) : a ^ n % m = a' ^ n % m := by
  rw [Nat.pow_mod, h, ← Nat.pow_mod]
/-- A power by a modulus, reckoned. -/
def pm (m : Nat) : Nat → Nat → Nat → Nat → Nat
  | 0, o, _, _ => o % m
  | f + 1, o, b, e => if e = 0 then o % m else if e % 2 = 1 then pm m f (o * b % m) (b * b % m) (e / 2) else pm m f o (b * b % m) (e / 2)
theorem pm_odd (m o b x : Nat) (h : x % 2 = 1) : ((o * b % m) * (b * b % m) ^ (x / 2)) % m = (o * b ^ x) % m := by
  have e : x = 2 * (x / 2) + 1 := by omega
  rw [Nat.mul_mod, Nat.mod_mod, ← Nat.pow_mod, ← Nat.mul_mod]
  conv => rhs; rw [e]
  rw [Nat.pow_succ, Nat.pow_mul, Nat.pow_two, Nat.mul_assoc, Nat.mul_comm b]
theorem pm_even (m o b x : Nat) (h : x % 2 = 0) : (o * (b * b % m) ^ (x / 2)) % m = (o * b ^ x) % m := by
  have e : x = 2 * (x / 2) := by omega
  rw [Nat.mul_mod, ← Nat.pow_mod, ← Nat.mul_mod]
  conv => rhs; rw [e]
  rw [Nat.pow_mul, Nat.pow_two]
theorem pm_eq (m : Nat) : ∀ (f o b e : Nat), e < 2 ^ f → pm m f o b e = (o * b ^ e) % m
  | 0, o, b, e, h => by
    have : e = 0 := by simpa using h
    subst this
    simp [pm]
  | f + 1, o, b, e, h => by
    have h2 : e / 2 < 2 ^ f := by rw [Nat.pow_succ] at h; omega
    unfold pm
    by_cases h0 : e = 0
    · subst h0; simp
    rw [if_neg h0]
    by_cases h1 : e % 2 = 1
    · rw [if_pos h1, pm_eq m f _ _ _ h2, pm_odd m o b e h1]
    · rw [if_neg h1, pm_eq m f _ _ _ h2, pm_even m o b e (by omega)]
theorem pow_of {m f b e r : Nat} (h : pm m f 1 b e = r) (he : e < 2 ^ f) : b ^ e % m = r := by
  rw [← h, pm_eq m f 1 b e he, Nat.one_mul]
/-- A power's remainder, told so that no program reckons it. -/
structure PW (b e m r : Nat) : Prop where
  h : b ^ e % m = r
theorem pw_of {m f b e r : Nat} (h : pm m f 1 b e = r) (he : e < 2 ^ f) : PW b e m r := ⟨pow_of h he⟩

/-- What is asked of a prime as a factor. -/
def CP (q : Nat) : Prop := 1 < q ∧ ∀ a, ¬ q ∣ a → Nat.Coprime q a
/-- Fermat's little theorem holds for p. -/
def PR (p : Nat) : Prop := 1 < p ∧ ∀ a, a % p ≠ 0 → a ^ (p - 1) % p = 1
theorem PR.cp {p : Nat} (h : PR p) : CP p := by
  refine ⟨h.1, fun a ha => ?_⟩
  have h1 := h.2 a (fun e => ha (Nat.dvd_of_mod_eq_zero e))
  have d1 : Nat.gcd p a ∣ a ^ (p - 1) := Nat.dvd_trans (Nat.gcd_dvd_right p a) (Nat.dvd_trans ⟨1, (Nat.mul_one _).symm ▸ (Nat.pow_one a).symm ▸ rfl⟩ (Nat.pow_dvd_pow a (show 1 ≤ p - 1 by have := h.1; omega)))
  have d2 : Nat.gcd p a ∣ p := Nat.gcd_dvd_left p a
  have e : a ^ (p - 1) = p * (a ^ (p - 1) / p) + 1 := by
    have := Nat.div_add_mod (a ^ (p - 1)) p
    omega
  have d3 : Nat.gcd p a ∣ 1 := by
    rw [e] at d1
    exact (Nat.dvd_add_right (Nat.dvd_trans d2 (Nat.dvd_mul_right _ _))).1 d1
  exact Nat.dvd_one.1 d3
theorem factor_of : ∀ {fs : List Nat}, (∀ q ∈ fs, CP q) → ∀ e, e ∣ fs.prod → e ≠ 1 → ∃ q ∈ fs, q ∣ e
  | [], _, e, h, h1 => absurd (Nat.dvd_one.1 (by simpa using h)) h1
  | q :: fs, hp, e, h, h1 => by
    by_cases hq : q ∣ e
    · exact ⟨q, by simp, hq⟩
    · have hc : Nat.Coprime q e := (hp q (by simp)).2 e hq
      have h2 : e ∣ fs.prod := (Nat.Coprime.symm hc).dvd_of_dvd_mul_left (by simpa using h)
      obtain ⟨q', hq', hd⟩ := factor_of (fun x hx => hp x (by simp [hx])) e h2 h1
      exact ⟨q', by simp [hq'], hd⟩
theorem pow_gcd {p g : Nat} (hp : 1 < p) : ∀ (a b : Nat), g ^ a % p = 1 → g ^ b % p = 1 → g ^ Nat.gcd a b % p = 1 := by
  intro a
  induction a using Nat.strongRecOn with
  | _ a ih =>
    intro b ha hb
    by_cases h0 : a = 0
    · subst h0; rwa [Nat.gcd_zero_left]
    rw [Nat.gcd_rec]
    refine ih (b % a) (Nat.mod_lt _ (by omega)) a ?_ ha
    have e : b = a * (b / a) + b % a := (Nat.div_add_mod b a).symm
    rw [e, Nat.pow_add, Nat.pow_mul] at hb
    have h1 : (g ^ a) ^ (b / a) % p = 1 % p := by
      rw [Nat.pow_mod, ha, Nat.one_pow]
    rw [Nat.mul_mod, h1, ← Nat.mul_mod, Nat.one_mul] at hb
    exact hb
theorem order_of {p g : Nat} {fs : List Nat} (hp : 1 < p) (hf : fs.prod = p - 1) (hpr : ∀ q ∈ fs, CP q) (hone : PW g (p - 1) p 1) (hne : ∀ q ∈ fs, g ^ ((p - 1) / q) % p ≠ 1) (d : Nat) (h0 : 0 < d) (hd : d < p - 1) : g ^ d % p ≠ 1 := by
  intro h
  have hc := pow_gcd hp d (p - 1) h hone.h
  have c1 : Nat.gcd d (p - 1) ∣ p - 1 := Nat.gcd_dvd_right _ _
  have c2 : Nat.gcd d (p - 1) ≤ d := Nat.le_of_dvd h0 (Nat.gcd_dvd_left _ _)
  have c3 : 0 < Nat.gcd d (p - 1) := Nat.gcd_pos_of_pos_left _ h0
  generalize Nat.gcd d (p - 1) = c at *
  obtain ⟨e, he⟩ := c1
  have e1 : e ≠ 1 := by rintro rfl; omega
  obtain ⟨q, hq, r, hr⟩ := factor_of hpr e (by rw [hf, he]; exact Nat.dvd_mul_left _ _) e1
  have hq1 := (hpr q hq).1
  refine hne q hq ?_
  have : (p - 1) / q = c * r := by
    rw [he, hr, Nat.mul_left_comm, Nat.mul_div_cancel_left _ (by omega)]
  rw [this, Nat.pow_mul, Nat.pow_mod, hc, Nat.one_pow]
  exact Nat.mod_eq_of_lt hp

theorem pigeon : ∀ (m : Nat) (f : Nat → Nat), (∀ i, i < m → f i < m) → (∀ i j, i < m → j < m → f i = f j → i = j) → ∀ a, a < m → ∃ i, i < m ∧ f i = a
  | 0, _, _, _, a, ha => absurd ha (by omega)
  | m + 1, f, hf, hi, a, ha => by
    by_cases hm : ∃ i, i < m + 1 ∧ f i = m
    · obtain ⟨k, hk, hkm⟩ := hm
      -- f with the places k and m changed
      let h : Nat → Nat := fun i => if i = k then f m else f i
      have hh1 : ∀ i, i < m → h i < m := by
        intro i him
        show (if i = k then f m else f i) < m
        by_cases hik : i = k
        · rw [if_pos hik]
          have h1 := hf m (by omega)
          have : f m ≠ m := by
            intro e
            have := hi m k (by omega) hk (by rw [e, hkm])
            omega
          omega
        · rw [if_neg hik]
          have h1 := hf i (by omega)
          have : f i ≠ m := by
            intro e
            exact hik (hi i k (by omega) hk (by rw [e, hkm]))
          omega
      have hh2 : ∀ i j, i < m → j < m → h i = h j → i = j := by
        intro i j him hjm e
        have e : (if i = k then f m else f i) = (if j = k then f m else f j) := e
        by_cases hik : i = k <;> by_cases hjk : j = k
        · omega
        · rw [if_pos hik, if_neg hjk] at e
          have := hi m j (by omega) (by omega) e
          omega
        · rw [if_neg hik, if_pos hjk] at e
          have := hi i m (by omega) (by omega) e
          omega
        · rw [if_neg hik, if_neg hjk] at e
          exact hi i j (by omega) (by omega) e
      by_cases ham : a = m
      · exact ⟨k, hk, by rw [hkm, ham]⟩
      obtain ⟨i, him, hia⟩ := pigeon m h hh1 hh2 a (by omega)
      have hia : (if i = k then f m else f i) = a := hia
      by_cases hik : i = k
      · rw [if_pos hik] at hia
        exact ⟨m, by omega, hia⟩
      · rw [if_neg hik] at hia
        exact ⟨i, by omega, hia⟩
    · have hlt : ∀ i, i < m + 1 → f i < m := by
        intro i him
        have h1 := hf i him
        have : f i ≠ m := fun e => hm ⟨i, him, e⟩
        omega
      -- then f sends m + 1 places into m
      obtain ⟨i, him, hia⟩ := pigeon m f (fun i h => hlt i (by omega)) (fun i j h1 h2 e => hi i j (by omega) (by omega) e) (f m) (hlt m (by omega))
      have := hi i m (by omega) (by omega) hia
      omega

theorem pratt {p g : Nat} {fs : List Nat} (hp : 1 < p) (hf : fs.prod = p - 1) (hpr : ∀ q ∈ fs, CP q) (hone : PW g (p - 1) p 1) (hne : ∀ q ∈ fs, g ^ ((p - 1) / q) % p ≠ 1) : PR p := by
  refine ⟨hp, fun a ha => ?_⟩
  have ord := order_of hp hf hpr hone hne
  have hone := hone.h
  have inv : ∀ k, k ≤ p - 1 → (g ^ k * g ^ (p - 1 - k)) % p = 1 := by
    intro k hk
    rw [← Nat.pow_add, show k + (p - 1 - k) = p - 1 by omega, hone]
  have nz : ∀ k, k < p - 1 → g ^ k % p ≠ 0 := by
    intro k hk e
    have := inv k (by omega)
    rw [Nat.mul_mod, e, Nat.zero_mul, Nat.zero_mod] at this
    omega
  have hlt : ∀ k, g ^ k % p < p := fun k => Nat.mod_lt _ (by omega)
  have inj0 : ∀ i j, i < j → j < p - 1 → g ^ i % p ≠ g ^ j % p := by
    intro i j hij hj e
    refine ord (j - i) (by omega) (by omega) ?_
    have h1 : (g ^ (j - i) * (g ^ i * g ^ (p - 1 - i))) % p = (g ^ (j - i) * 1) % p := mod_mul rfl (by rw [inv i (by omega), Nat.mod_eq_of_lt hp])
    have h2 : g ^ (j - i) * (g ^ i * g ^ (p - 1 - i)) = g ^ j * g ^ (p - 1 - i) := by
      rw [← Nat.mul_assoc, ← Nat.pow_add, show j - i + i = j by omega]
    rw [h2, Nat.mul_one] at h1
    rw [← h1]
    exact (mod_mul e.symm rfl).trans (inv i (by omega))
  have inj : ∀ i j, i < p - 1 → j < p - 1 → g ^ i % p - 1 = g ^ j % p - 1 → i = j := by
    intro i j hi hj e
    have h1 := nz i hi
    have h2 := nz j hj
    have e' : g ^ i % p = g ^ j % p := by omega
    rcases Nat.lt_trichotomy i j with h | h | h
    · exact absurd e' (inj0 i j h hj)
    · exact h
    · exact absurd e'.symm (inj0 j i h hi)
  obtain ⟨k, hk, hka⟩ := pigeon (p - 1) (fun k => g ^ k % p - 1) (fun i hi => by have := nz i hi; have := hlt i; show g ^ i % p - 1 < p - 1; omega) inj (a % p - 1) (by have := Nat.mod_lt a (show p > 0 by omega); omega)
  have hka : g ^ k % p - 1 = a % p - 1 := hka
  have h1 := nz k hk
  have e : a % p = g ^ k % p := by omega
  rw [mod_pow e, ← Nat.pow_mul, Nat.mul_comm, Nat.pow_mul, Nat.pow_mod, hone, Nat.one_pow]
  exact Nat.mod_eq_of_lt hp
/-- A small prime, by trial. -/
theorem small {q : Nat} (h1 : 1 < q) (h : (List.range q).all (fun a => a == 0 || Nat.gcd q a == 1) = true) : CP q := by
  refine ⟨h1, fun a ha => ?_⟩
  have h2 : a % q ≠ 0 := fun e => ha (Nat.dvd_of_mod_eq_zero e)
  have h3 := List.all_eq_true.1 h (a % q) (List.mem_range.2 (Nat.mod_lt _ (by omega)))
  simp only [Bool.or_eq_true, beq_iff_eq] at h3
  have h4 := h3.resolve_left h2
  show Nat.gcd q a = 1
  rw [Nat.gcd_rec, Nat.gcd_comm]
  exact h4
end Go.Num
namespace Go.Num
set_option maxRecDepth 100000
theorem p2 : CP 2 := small (by decide) (by decide +kernel)
theorem p3 : CP 3 := small (by decide) (by decide +kernel)
theorem p4 : CP 13 := small (by decide) (by decide +kernel)
theorem p5 : CP 827 := small (by decide) (by decide +kernel)
theorem p1_ne (n : Nat) (h : n ∈ [2, 2, 2, 2, 2, 2, 2, 2, 2, 3, 13, 827]) : 5 ^ ((16513537 - 1) / n) % 16513537 ≠ 1 := by
  have key : ∀ n ∈ [2, 2, 2, 2, 2, 2, 2, 2, 2, 3, 13, 827], pm 16513537 24 1 5 ((16513537 - 1) / n) ≠ 1 ∧ (16513537 - 1) / n < 2 ^ 24 := by decide +kernel
  have k := key n h
  rw [pm_eq _ _ _ _ _ k.2, Nat.one_mul] at k
  exact k.1
theorem p1_pr : PR 16513537 :=
  pratt (p := 16513537) (g := 5) (fs := [2, 2, 2, 2, 2, 2, 2, 2, 2, 3, 13, 827]) (by decide) (by decide +kernel) (List.forall_mem_cons.2 ⟨p2, (List.forall_mem_cons.2 ⟨p2, (List.forall_mem_cons.2 ⟨p2, (List.forall_mem_cons.2 ⟨p2, (List.forall_mem_cons.2 ⟨p2, (List.forall_mem_cons.2 ⟨p2, (List.forall_mem_cons.2 ⟨p2, (List.forall_mem_cons.2 ⟨p2, (List.forall_mem_cons.2 ⟨p2, (List.forall_mem_cons.2 ⟨p3, (List.forall_mem_cons.2 ⟨p4, (List.forall_mem_cons.2 ⟨p5, (fun _ h => nomatch h)⟩)⟩)⟩)⟩)⟩)⟩)⟩)⟩)⟩)⟩)⟩)⟩) (pw_of (f := 24) (by decide +kernel) (by decide +kernel)) p1_ne
theorem p1 : CP 16513537 := p1_pr.cp
theorem p7 : CP 2689 := small (by decide) (by decide +kernel)
theorem p6_ne (n : Nat) (h : n ∈ [2, 2, 2, 2, 2, 2, 2, 2, 2, 2, 2, 3, 2689]) : 5 ^ ((16521217 - 1) / n) % 16521217 ≠ 1 := by
  have key : ∀ n ∈ [2, 2, 2, 2, 2, 2, 2, 2, 2, 2, 2, 3, 2689], pm 16521217 24 1 5 ((16521217 - 1) / n) ≠ 1 ∧ (16521217 - 1) / n < 2 ^ 24 := by decide +kernel
  have k := key n h
  rw [pm_eq _ _ _ _ _ k.2, Nat.one_mul] at k
  exact k.1
theorem p6_pr : PR 16521217 :=
  pratt (p := 16521217) (g := 5) (fs := [2, 2, 2, 2, 2, 2, 2, 2, 2, 2, 2, 3, 2689]) (by decide) (by decide +kernel) (List.forall_mem_cons.2 ⟨p2, (List.forall_mem_cons.2 ⟨p2, (List.forall_mem_cons.2 ⟨p2, (List.forall_mem_cons.2 ⟨p2, (List.forall_mem_cons.2 ⟨p2, (List.forall_mem_cons.2 ⟨p2, (List.forall_mem_cons.2 ⟨p2, (List.forall_mem_cons.2 ⟨p2, (List.forall_mem_cons.2 ⟨p2, (List.forall_mem_cons.2 ⟨p2, (List.forall_mem_cons.2 ⟨p2, (List.forall_mem_cons.2 ⟨p3, (List.forall_mem_cons.2 ⟨p7, (fun _ h => nomatch h)⟩)⟩)⟩)⟩)⟩)⟩)⟩)⟩)⟩)⟩)⟩)⟩)⟩) (pw_of (f := 24) (by decide +kernel) (by decide +kernel)) p6_ne
theorem p6 : CP 16521217 := p6_pr.cp
theorem p9 : CP 463 := small (by decide) (by decide +kernel)
theorem p11 : CP 89 := small (by decide) (by decide +kernel)
theorem p12 : CP 14923 := small (by decide) (by decide +kernel)
theorem p14 : CP 59 := small (by decide) (by decide +kernel)
theorem p15 : CP 1973 := small (by decide) (by decide +kernel)
theorem p18 : CP 24917 := small (by decide) (by decide +kernel)
theorem p17_ne (n : Nat) (h : n ∈ [2, 3, 24917]) : 3 ^ ((149503 - 1) / n) % 149503 ≠ 1 := by
  have key : ∀ n ∈ [2, 3, 24917], pm 149503 18 1 3 ((149503 - 1) / n) ≠ 1 ∧ (149503 - 1) / n < 2 ^ 18 := by decide +kernel
  have k := key n h
  rw [pm_eq _ _ _ _ _ k.2, Nat.one_mul] at k
  exact k.1
theorem p17_pr : PR 149503 :=
  pratt (p := 149503) (g := 3) (fs := [2, 3, 24917]) (by decide) (by decide +kernel) (List.forall_mem_cons.2 ⟨p2, (List.forall_mem_cons.2 ⟨p3, (List.forall_mem_cons.2 ⟨p18, (fun _ h => nomatch h)⟩)⟩)⟩) (pw_of (f := 18) (by decide +kernel) (by decide +kernel)) p17_ne
theorem p17 : CP 149503 := p17_pr.cp
theorem p16_ne (n : Nat) (h : n ∈ [2, 3, 149503]) : 2 ^ ((897019 - 1) / n) % 897019 ≠ 1 := by
  have key : ∀ n ∈ [2, 3, 149503], pm 897019 20 1 2 ((897019 - 1) / n) ≠ 1 ∧ (897019 - 1) / n < 2 ^ 20 := by decide +kernel
  have k := key n h
  rw [pm_eq _ _ _ _ _ k.2, Nat.one_mul] at k
  exact k.1
theorem p16_pr : PR 897019 :=
  pratt (p := 897019) (g := 2) (fs := [2, 3, 149503]) (by decide) (by decide +kernel) (List.forall_mem_cons.2 ⟨p2, (List.forall_mem_cons.2 ⟨p3, (List.forall_mem_cons.2 ⟨p17, (fun _ h => nomatch h)⟩)⟩)⟩) (pw_of (f := 20) (by decide +kernel) (by decide +kernel)) p16_ne
theorem p16 : CP 897019 := p16_pr.cp
theorem p13_ne (n : Nat) (h : n ∈ [2, 2, 59, 1973, 897019]) : 2 ^ ((417677162933 - 1) / n) % 417677162933 ≠ 1 := by
  have key : ∀ n ∈ [2, 2, 59, 1973, 897019], pm 417677162933 39 1 2 ((417677162933 - 1) / n) ≠ 1 ∧ (417677162933 - 1) / n < 2 ^ 39 := by decide +kernel
  have k := key n h
  rw [pm_eq _ _ _ _ _ k.2, Nat.one_mul] at k
  exact k.1
theorem p13_pr : PR 417677162933 :=
  pratt (p := 417677162933) (g := 2) (fs := [2, 2, 59, 1973, 897019]) (by decide) (by decide +kernel) (List.forall_mem_cons.2 ⟨p2, (List.forall_mem_cons.2 ⟨p2, (List.forall_mem_cons.2 ⟨p14, (List.forall_mem_cons.2 ⟨p15, (List.forall_mem_cons.2 ⟨p16, (fun _ h => nomatch h)⟩)⟩)⟩)⟩)⟩) (pw_of (f := 39) (by decide +kernel) (by decide +kernel)) p13_ne
theorem p13 : CP 417677162933 := p13_pr.cp
theorem p10_ne (n : Nat) (h : n ∈ [2, 2, 3, 3, 3, 3, 3, 89, 14923, 417677162933]) : 5 ^ ((539204044132271846773 - 1) / n) % 539204044132271846773 ≠ 1 := by
  have key : ∀ n ∈ [2, 2, 3, 3, 3, 3, 3, 89, 14923, 417677162933], pm 539204044132271846773 69 1 5 ((539204044132271846773 - 1) / n) ≠ 1 ∧ (539204044132271846773 - 1) / n < 2 ^ 69 := by decide +kernel
  have k := key n h
  rw [pm_eq _ _ _ _ _ k.2, Nat.one_mul] at k
  exact k.1
theorem p10_pr : PR 539204044132271846773 :=
  pratt (p := 539204044132271846773) (g := 5) (fs := [2, 2, 3, 3, 3, 3, 3, 89, 14923, 417677162933]) (by decide) (by decide +kernel) (List.forall_mem_cons.2 ⟨p2, (List.forall_mem_cons.2 ⟨p2, (List.forall_mem_cons.2 ⟨p3, (List.forall_mem_cons.2 ⟨p3, (List.forall_mem_cons.2 ⟨p3, (List.forall_mem_cons.2 ⟨p3, (List.forall_mem_cons.2 ⟨p3, (List.forall_mem_cons.2 ⟨p11, (List.forall_mem_cons.2 ⟨p12, (List.forall_mem_cons.2 ⟨p13, (fun _ h => nomatch h)⟩)⟩)⟩)⟩)⟩)⟩)⟩)⟩)⟩)⟩) (pw_of (f := 69) (by decide +kernel) (by decide +kernel)) p10_ne
theorem p10 : CP 539204044132271846773 := p10_pr.cp
theorem p20 : CP 11 := small (by decide) (by decide +kernel)
theorem p21 : CP 2531 := small (by decide) (by decide +kernel)
theorem p23 : CP 19267 := small (by decide) (by decide +kernel)
theorem p22_ne (n : Nat) (h : n ∈ [2, 3, 19267]) : 2 ^ ((115603 - 1) / n) % 115603 ≠ 1 := by
  have key : ∀ n ∈ [2, 3, 19267], pm 115603 17 1 2 ((115603 - 1) / n) ≠ 1 ∧ (115603 - 1) / n < 2 ^ 17 := by decide +kernel
  have k := key n h
  rw [pm_eq _ _ _ _ _ k.2, Nat.one_mul] at k
  exact k.1
theorem p22_pr : PR 115603 :=
  pratt (p := 115603) (g := 2) (fs := [2, 3, 19267]) (by decide) (by decide +kernel) (List.forall_mem_cons.2 ⟨p2, (List.forall_mem_cons.2 ⟨p3, (List.forall_mem_cons.2 ⟨p23, (fun _ h => nomatch h)⟩)⟩)⟩) (pw_of (f := 17) (by decide +kernel) (by decide +kernel)) p22_ne
theorem p22 : CP 115603 := p22_pr.cp
theorem p25 : CP 53 := small (by decide) (by decide +kernel)
theorem p26 : CP 3767 := small (by decide) (by decide +kernel)
theorem p24_ne (n : Nat) (h : n ∈ [2, 3, 53, 3767]) : 3 ^ ((1197907 - 1) / n) % 1197907 ≠ 1 := by
  have key : ∀ n ∈ [2, 3, 53, 3767], pm 1197907 21 1 3 ((1197907 - 1) / n) ≠ 1 ∧ (1197907 - 1) / n < 2 ^ 21 := by decide +kernel
  have k := key n h
  rw [pm_eq _ _ _ _ _ k.2, Nat.one_mul] at k
  exact k.1
theorem p24_pr : PR 1197907 :=
  pratt (p := 1197907) (g := 3) (fs := [2, 3, 53, 3767]) (by decide) (by decide +kernel) (List.forall_mem_cons.2 ⟨p2, (List.forall_mem_cons.2 ⟨p3, (List.forall_mem_cons.2 ⟨p25, (List.forall_mem_cons.2 ⟨p26, (fun _ h => nomatch h)⟩)⟩)⟩)⟩) (pw_of (f := 21) (by decide +kernel) (by decide +kernel)) p24_ne
theorem p24 : CP 1197907 := p24_pr.cp
theorem p28 : CP 7 := small (by decide) (by decide +kernel)
theorem p29 : CP 19 := small (by decide) (by decide +kernel)
theorem p32 : CP 17 := small (by decide) (by decide +kernel)
theorem p33 : CP 977 := small (by decide) (by decide +kernel)
theorem p31_ne (n : Nat) (h : n ∈ [2, 11, 17, 19, 977]) : 2 ^ ((6942563 - 1) / n) % 6942563 ≠ 1 := by
  have key : ∀ n ∈ [2, 11, 17, 19, 977], pm 6942563 23 1 2 ((6942563 - 1) / n) ≠ 1 ∧ (6942563 - 1) / n < 2 ^ 23 := by decide +kernel
  have k := key n h
  rw [pm_eq _ _ _ _ _ k.2, Nat.one_mul] at k
  exact k.1
theorem p31_pr : PR 6942563 :=
  pratt (p := 6942563) (g := 2) (fs := [2, 11, 17, 19, 977]) (by decide) (by decide +kernel) (List.forall_mem_cons.2 ⟨p2, (List.forall_mem_cons.2 ⟨p20, (List.forall_mem_cons.2 ⟨p32, (List.forall_mem_cons.2 ⟨p29, (List.forall_mem_cons.2 ⟨p33, (fun _ h => nomatch h)⟩)⟩)⟩)⟩)⟩) (pw_of (f := 23) (by decide +kernel) (by decide +kernel)) p31_ne
theorem p31 : CP 6942563 := p31_pr.cp
theorem p30_ne (n : Nat) (h : n ∈ [2, 3, 6942563]) : 2 ^ ((41655379 - 1) / n) % 41655379 ≠ 1 := by
  have key : ∀ n ∈ [2, 3, 6942563], pm 41655379 26 1 2 ((41655379 - 1) / n) ≠ 1 ∧ (41655379 - 1) / n < 2 ^ 26 := by decide +kernel
  have k := key n h
  rw [pm_eq _ _ _ _ _ k.2, Nat.one_mul] at k
  exact k.1
theorem p30_pr : PR 41655379 :=
  pratt (p := 41655379) (g := 2) (fs := [2, 3, 6942563]) (by decide) (by decide +kernel) (List.forall_mem_cons.2 ⟨p2, (List.forall_mem_cons.2 ⟨p3, (List.forall_mem_cons.2 ⟨p31, (fun _ h => nomatch h)⟩)⟩)⟩) (pw_of (f := 26) (by decide +kernel) (by decide +kernel)) p30_ne
theorem p30 : CP 41655379 := p30_pr.cp
theorem p27_ne (n : Nat) (h : n ∈ [2, 2, 7, 19, 41655379]) : 3 ^ ((22160661629 - 1) / n) % 22160661629 ≠ 1 := by
  have key : ∀ n ∈ [2, 2, 7, 19, 41655379], pm 22160661629 35 1 3 ((22160661629 - 1) / n) ≠ 1 ∧ (22160661629 - 1) / n < 2 ^ 35 := by decide +kernel
  have k := key n h
  rw [pm_eq _ _ _ _ _ k.2, Nat.one_mul] at k
  exact k.1
theorem p27_pr : PR 22160661629 :=
  pratt (p := 22160661629) (g := 3) (fs := [2, 2, 7, 19, 41655379]) (by decide) (by decide +kernel) (List.forall_mem_cons.2 ⟨p2, (List.forall_mem_cons.2 ⟨p2, (List.forall_mem_cons.2 ⟨p28, (List.forall_mem_cons.2 ⟨p29, (List.forall_mem_cons.2 ⟨p30, (fun _ h => nomatch h)⟩)⟩)⟩)⟩)⟩) (pw_of (f := 35) (by decide +kernel) (by decide +kernel)) p27_ne
theorem p27 : CP 22160661629 := p27_pr.cp
theorem p35 : CP 509 := small (by decide) (by decide +kernel)
theorem p37 : CP 41 := small (by decide) (by decide +kernel)
theorem p36_ne (n : Nat) (h : n ∈ [2, 3, 41, 41, 41]) : 3 ^ ((413527 - 1) / n) % 413527 ≠ 1 := by
  have key : ∀ n ∈ [2, 3, 41, 41, 41], pm 413527 19 1 3 ((413527 - 1) / n) ≠ 1 ∧ (413527 - 1) / n < 2 ^ 19 := by decide +kernel
  have k := key n h
  rw [pm_eq _ _ _ _ _ k.2, Nat.one_mul] at k
  exact k.1
theorem p36_pr : PR 413527 :=
  pratt (p := 413527) (g := 3) (fs := [2, 3, 41, 41, 41]) (by decide) (by decide +kernel) (List.forall_mem_cons.2 ⟨p2, (List.forall_mem_cons.2 ⟨p3, (List.forall_mem_cons.2 ⟨p37, (List.forall_mem_cons.2 ⟨p37, (List.forall_mem_cons.2 ⟨p37, (fun _ h => nomatch h)⟩)⟩)⟩)⟩)⟩) (pw_of (f := 19) (by decide +kernel) (by decide +kernel)) p36_ne
theorem p36 : CP 413527 := p36_pr.cp
theorem p39 : CP 5 := small (by decide) (by decide +kernel)
theorem p40 : CP 25741 := small (by decide) (by decide +kernel)
theorem p38_ne (n : Nat) (h : n ∈ [2, 3, 5, 25741]) : 6 ^ ((772231 - 1) / n) % 772231 ≠ 1 := by
  have key : ∀ n ∈ [2, 3, 5, 25741], pm 772231 20 1 6 ((772231 - 1) / n) ≠ 1 ∧ (772231 - 1) / n < 2 ^ 20 := by decide +kernel
  have k := key n h
  rw [pm_eq _ _ _ _ _ k.2, Nat.one_mul] at k
  exact k.1
theorem p38_pr : PR 772231 :=
  pratt (p := 772231) (g := 6) (fs := [2, 3, 5, 25741]) (by decide) (by decide +kernel) (List.forall_mem_cons.2 ⟨p2, (List.forall_mem_cons.2 ⟨p3, (List.forall_mem_cons.2 ⟨p39, (List.forall_mem_cons.2 ⟨p40, (fun _ h => nomatch h)⟩)⟩)⟩)⟩) (pw_of (f := 20) (by decide +kernel) (by decide +kernel)) p38_ne
theorem p38 : CP 772231 := p38_pr.cp
theorem p34_ne (n : Nat) (h : n ∈ [2, 509, 413527, 772231]) : 2 ^ ((325086459374267 - 1) / n) % 325086459374267 ≠ 1 := by
  have key : ∀ n ∈ [2, 509, 413527, 772231], pm 325086459374267 49 1 2 ((325086459374267 - 1) / n) ≠ 1 ∧ (325086459374267 - 1) / n < 2 ^ 49 := by decide +kernel
  have k := key n h
  rw [pm_eq _ _ _ _ _ k.2, Nat.one_mul] at k
  exact k.1
theorem p34_pr : PR 325086459374267 :=
  pratt (p := 325086459374267) (g := 2) (fs := [2, 509, 413527, 772231]) (by decide) (by decide +kernel) (List.forall_mem_cons.2 ⟨p2, (List.forall_mem_cons.2 ⟨p35, (List.forall_mem_cons.2 ⟨p36, (List.forall_mem_cons.2 ⟨p38, (fun _ h => nomatch h)⟩)⟩)⟩)⟩) (pw_of (f := 49) (by decide +kernel) (by decide +kernel)) p34_ne
theorem p34 : CP 325086459374267 := p34_pr.cp
theorem p19_ne (n : Nat) (h : n ∈ [2, 2, 3, 3, 3, 3, 11, 2531, 115603, 1197907, 22160661629, 325086459374267]) : 2 ^ ((8999194758858563409123804352480028797519453 - 1) / n) % 8999194758858563409123804352480028797519453 ≠ 1 := by
  have key : ∀ n ∈ [2, 2, 3, 3, 3, 3, 11, 2531, 115603, 1197907, 22160661629, 325086459374267], pm 8999194758858563409123804352480028797519453 143 1 2 ((8999194758858563409123804352480028797519453 - 1) / n) ≠ 1 ∧ (8999194758858563409123804352480028797519453 - 1) / n < 2 ^ 143 := by decide +kernel
  have k := key n h
  rw [pm_eq _ _ _ _ _ k.2, Nat.one_mul] at k
  exact k.1
theorem p19_pr : PR 8999194758858563409123804352480028797519453 :=
  pratt (p := 8999194758858563409123804352480028797519453) (g := 2) (fs := [2, 2, 3, 3, 3, 3, 11, 2531, 115603, 1197907, 22160661629, 325086459374267]) (by decide) (by decide +kernel) (List.forall_mem_cons.2 ⟨p2, (List.forall_mem_cons.2 ⟨p2, (List.forall_mem_cons.2 ⟨p3, (List.forall_mem_cons.2 ⟨p3, (List.forall_mem_cons.2 ⟨p3, (List.forall_mem_cons.2 ⟨p3, (List.forall_mem_cons.2 ⟨p20, (List.forall_mem_cons.2 ⟨p21, (List.forall_mem_cons.2 ⟨p22, (List.forall_mem_cons.2 ⟨p24, (List.forall_mem_cons.2 ⟨p27, (List.forall_mem_cons.2 ⟨p34, (fun _ h => nomatch h)⟩)⟩)⟩)⟩)⟩)⟩)⟩)⟩)⟩)⟩)⟩)⟩) (pw_of (f := 143) (by decide +kernel) (by decide +kernel)) p19_ne
theorem p19 : CP 8999194758858563409123804352480028797519453 := p19_pr.cp
theorem p8_ne (n : Nat) (h : n ∈ [2, 2, 2, 2, 2, 2, 2, 2, 2, 2, 2, 2, 2, 2, 2, 2, 2, 2, 2, 2, 2, 2, 2, 2, 2, 2, 2, 2, 2, 2, 2, 2, 3, 463, 539204044132271846773, 8999194758858563409123804352480028797519453]) : 5 ^ ((28948022309329048855892746252171976963363056481941560715954676764349967630337 - 1) / n) % 28948022309329048855892746252171976963363056481941560715954676764349967630337 ≠ 1 := by
  have key : ∀ n ∈ [2, 2, 2, 2, 2, 2, 2, 2, 2, 2, 2, 2, 2, 2, 2, 2, 2, 2, 2, 2, 2, 2, 2, 2, 2, 2, 2, 2, 2, 2, 2, 2, 3, 463, 539204044132271846773, 8999194758858563409123804352480028797519453], pm 28948022309329048855892746252171976963363056481941560715954676764349967630337 255 1 5 ((28948022309329048855892746252171976963363056481941560715954676764349967630337 - 1) / n) ≠ 1 ∧ (28948022309329048855892746252171976963363056481941560715954676764349967630337 - 1) / n < 2 ^ 255 := by decide +kernel
  have k := key n h
  rw [pm_eq _ _ _ _ _ k.2, Nat.one_mul] at k
  exact k.1
theorem p8_pr : PR 28948022309329048855892746252171976963363056481941560715954676764349967630337 :=
  pratt (p := 28948022309329048855892746252171976963363056481941560715954676764349967630337) (g := 5) (fs := [2, 2, 2, 2, 2, 2, 2, 2, 2, 2, 2, 2, 2, 2, 2, 2, 2, 2, 2, 2, 2, 2, 2, 2, 2, 2, 2, 2, 2, 2, 2, 2, 3, 463, 539204044132271846773, 8999194758858563409123804352480028797519453]) (by decide) (by decide +kernel) (List.forall_mem_cons.2 ⟨p2, (List.forall_mem_cons.2 ⟨p2, (List.forall_mem_cons.2 ⟨p2, (List.forall_mem_cons.2 ⟨p2, (List.forall_mem_cons.2 ⟨p2, (List.forall_mem_cons.2 ⟨p2, (List.forall_mem_cons.2 ⟨p2, (List.forall_mem_cons.2 ⟨p2, (List.forall_mem_cons.2 ⟨p2, (List.forall_mem_cons.2 ⟨p2, (List.forall_mem_cons.2 ⟨p2, (List.forall_mem_cons.2 ⟨p2, (List.forall_mem_cons.2 ⟨p2, (List.forall_mem_cons.2 ⟨p2, (List.forall_mem_cons.2 ⟨p2, (List.forall_mem_cons.2 ⟨p2, (List.forall_mem_cons.2 ⟨p2, (List.forall_mem_cons.2 ⟨p2, (List.forall_mem_cons.2 ⟨p2, (List.forall_mem_cons.2 ⟨p2, (List.forall_mem_cons.2 ⟨p2, (List.forall_mem_cons.2 ⟨p2, (List.forall_mem_cons.2 ⟨p2, (List.forall_mem_cons.2 ⟨p2, (List.forall_mem_cons.2 ⟨p2, (List.forall_mem_cons.2 ⟨p2, (List.forall_mem_cons.2 ⟨p2, (List.forall_mem_cons.2 ⟨p2, (List.forall_mem_cons.2 ⟨p2, (List.forall_mem_cons.2 ⟨p2, (List.forall_mem_cons.2 ⟨p2, (List.forall_mem_cons.2 ⟨p2, (List.forall_mem_cons.2 ⟨p3, (List.forall_mem_cons.2 ⟨p9, (List.forall_mem_cons.2 ⟨p10, (List.forall_mem_cons.2 ⟨p19, (fun _ h => nomatch h)⟩)⟩)⟩)⟩)⟩)⟩)⟩)⟩)⟩)⟩)⟩)⟩)⟩)⟩)⟩)⟩)⟩)⟩)⟩)⟩)⟩)⟩)⟩)⟩)⟩)⟩)⟩)⟩)⟩)⟩)⟩)⟩)⟩)⟩)⟩)⟩) (pw_of (f := 255) (by decide +kernel) (by decide +kernel)) p8_ne
theorem p42 : CP 1709 := small (by decide) (by decide +kernel)
theorem p43 : CP 24859 := small (by decide) (by decide +kernel)
theorem p46 : CP 359 := small (by decide) (by decide +kernel)
theorem p48_ne (n : Nat) (h : n ∈ [2, 2, 17, 19, 53]) : 2 ^ ((68477 - 1) / n) % 68477 ≠ 1 := by
  have key : ∀ n ∈ [2, 2, 17, 19, 53], pm 68477 17 1 2 ((68477 - 1) / n) ≠ 1 ∧ (68477 - 1) / n < 2 ^ 17 := by decide +kernel
  have k := key n h
  rw [pm_eq _ _ _ _ _ k.2, Nat.one_mul] at k
  exact k.1
theorem p48_pr : PR 68477 :=
  pratt (p := 68477) (g := 2) (fs := [2, 2, 17, 19, 53]) (by decide) (by decide +kernel) (List.forall_mem_cons.2 ⟨p2, (List.forall_mem_cons.2 ⟨p2, (List.forall_mem_cons.2 ⟨p32, (List.forall_mem_cons.2 ⟨p29, (List.forall_mem_cons.2 ⟨p25, (fun _ h => nomatch h)⟩)⟩)⟩)⟩)⟩) (pw_of (f := 17) (by decide +kernel) (by decide +kernel)) p48_ne
theorem p48 : CP 68477 := p48_pr.cp
theorem p47_ne (n : Nat) (h : n ∈ [2, 7, 68477]) : 7 ^ ((958679 - 1) / n) % 958679 ≠ 1 := by
  have key : ∀ n ∈ [2, 7, 68477], pm 958679 20 1 7 ((958679 - 1) / n) ≠ 1 ∧ (958679 - 1) / n < 2 ^ 20 := by decide +kernel
  have k := key n h
  rw [pm_eq _ _ _ _ _ k.2, Nat.one_mul] at k
  exact k.1
theorem p47_pr : PR 958679 :=
  pratt (p := 958679) (g := 7) (fs := [2, 7, 68477]) (by decide) (by decide +kernel) (List.forall_mem_cons.2 ⟨p2, (List.forall_mem_cons.2 ⟨p28, (List.forall_mem_cons.2 ⟨p48, (fun _ h => nomatch h)⟩)⟩)⟩) (pw_of (f := 20) (by decide +kernel) (by decide +kernel)) p47_ne
theorem p47 : CP 958679 := p47_pr.cp
theorem p45_ne (n : Nat) (h : n ∈ [2, 2, 3, 359, 958679]) : 5 ^ ((4129989133 - 1) / n) % 4129989133 ≠ 1 := by
  have key : ∀ n ∈ [2, 2, 3, 359, 958679], pm 4129989133 32 1 5 ((4129989133 - 1) / n) ≠ 1 ∧ (4129989133 - 1) / n < 2 ^ 32 := by decide +kernel
  have k := key n h
  rw [pm_eq _ _ _ _ _ k.2, Nat.one_mul] at k
  exact k.1
theorem p45_pr : PR 4129989133 :=
  pratt (p := 4129989133) (g := 5) (fs := [2, 2, 3, 359, 958679]) (by decide) (by decide +kernel) (List.forall_mem_cons.2 ⟨p2, (List.forall_mem_cons.2 ⟨p2, (List.forall_mem_cons.2 ⟨p3, (List.forall_mem_cons.2 ⟨p46, (List.forall_mem_cons.2 ⟨p47, (fun _ h => nomatch h)⟩)⟩)⟩)⟩)⟩) (pw_of (f := 32) (by decide +kernel) (by decide +kernel)) p45_ne
theorem p45 : CP 4129989133 := p45_pr.cp
theorem p50 : CP 71 := small (by decide) (by decide +kernel)
theorem p55 : CP 29 := small (by decide) (by decide +kernel)
theorem p56 : CP 241 := small (by decide) (by decide +kernel)
theorem p54_ne (n : Nat) (h : n ∈ [2, 3, 3, 29, 241]) : 3 ^ ((125803 - 1) / n) % 125803 ≠ 1 := by
  have key : ∀ n ∈ [2, 3, 3, 29, 241], pm 125803 17 1 3 ((125803 - 1) / n) ≠ 1 ∧ (125803 - 1) / n < 2 ^ 17 := by decide +kernel
  have k := key n h
  rw [pm_eq _ _ _ _ _ k.2, Nat.one_mul] at k
  exact k.1
theorem p54_pr : PR 125803 :=
  pratt (p := 125803) (g := 3) (fs := [2, 3, 3, 29, 241]) (by decide) (by decide +kernel) (List.forall_mem_cons.2 ⟨p2, (List.forall_mem_cons.2 ⟨p3, (List.forall_mem_cons.2 ⟨p3, (List.forall_mem_cons.2 ⟨p55, (List.forall_mem_cons.2 ⟨p56, (fun _ h => nomatch h)⟩)⟩)⟩)⟩)⟩) (pw_of (f := 17) (by decide +kernel) (by decide +kernel)) p54_ne
theorem p54 : CP 125803 := p54_pr.cp
theorem p53_ne (n : Nat) (h : n ∈ [2, 2, 2, 2, 125803]) : 3 ^ ((2012849 - 1) / n) % 2012849 ≠ 1 := by
  have key : ∀ n ∈ [2, 2, 2, 2, 125803], pm 2012849 21 1 3 ((2012849 - 1) / n) ≠ 1 ∧ (2012849 - 1) / n < 2 ^ 21 := by decide +kernel
  have k := key n h
  rw [pm_eq _ _ _ _ _ k.2, Nat.one_mul] at k
  exact k.1
theorem p53_pr : PR 2012849 :=
  pratt (p := 2012849) (g := 3) (fs := [2, 2, 2, 2, 125803]) (by decide) (by decide +kernel) (List.forall_mem_cons.2 ⟨p2, (List.forall_mem_cons.2 ⟨p2, (List.forall_mem_cons.2 ⟨p2, (List.forall_mem_cons.2 ⟨p2, (List.forall_mem_cons.2 ⟨p54, (fun _ h => nomatch h)⟩)⟩)⟩)⟩)⟩) (pw_of (f := 21) (by decide +kernel) (by decide +kernel)) p53_ne
theorem p53 : CP 2012849 := p53_pr.cp
theorem p52_ne (n : Nat) (h : n ∈ [2, 2012849]) : 2 ^ ((4025699 - 1) / n) % 4025699 ≠ 1 := by
  have key : ∀ n ∈ [2, 2012849], pm 4025699 22 1 2 ((4025699 - 1) / n) ≠ 1 ∧ (4025699 - 1) / n < 2 ^ 22 := by decide +kernel
  have k := key n h
  rw [pm_eq _ _ _ _ _ k.2, Nat.one_mul] at k
  exact k.1
theorem p52_pr : PR 4025699 :=
  pratt (p := 4025699) (g := 2) (fs := [2, 2012849]) (by decide) (by decide +kernel) (List.forall_mem_cons.2 ⟨p2, (List.forall_mem_cons.2 ⟨p53, (fun _ h => nomatch h)⟩)⟩) (pw_of (f := 22) (by decide +kernel) (by decide +kernel)) p52_ne
theorem p52 : CP 4025699 := p52_pr.cp
theorem p51_ne (n : Nat) (h : n ∈ [2, 2, 5, 4025699]) : 2 ^ ((80513981 - 1) / n) % 80513981 ≠ 1 := by
  have key : ∀ n ∈ [2, 2, 5, 4025699], pm 80513981 27 1 2 ((80513981 - 1) / n) ≠ 1 ∧ (80513981 - 1) / n < 2 ^ 27 := by decide +kernel
  have k := key n h
  rw [pm_eq _ _ _ _ _ k.2, Nat.one_mul] at k
  exact k.1
theorem p51_pr : PR 80513981 :=
  pratt (p := 80513981) (g := 2) (fs := [2, 2, 5, 4025699]) (by decide) (by decide +kernel) (List.forall_mem_cons.2 ⟨p2, (List.forall_mem_cons.2 ⟨p2, (List.forall_mem_cons.2 ⟨p39, (List.forall_mem_cons.2 ⟨p52, (fun _ h => nomatch h)⟩)⟩)⟩)⟩) (pw_of (f := 27) (by decide +kernel) (by decide +kernel)) p51_ne
theorem p51 : CP 80513981 := p51_pr.cp
theorem p49_ne (n : Nat) (h : n ∈ [2, 3, 3, 3, 17, 71, 80513981]) : 2 ^ ((5247740253619 - 1) / n) % 5247740253619 ≠ 1 := by
  have key : ∀ n ∈ [2, 3, 3, 3, 17, 71, 80513981], pm 5247740253619 43 1 2 ((5247740253619 - 1) / n) ≠ 1 ∧ (5247740253619 - 1) / n < 2 ^ 43 := by decide +kernel
  have k := key n h
  rw [pm_eq _ _ _ _ _ k.2, Nat.one_mul] at k
  exact k.1
theorem p49_pr : PR 5247740253619 :=
  pratt (p := 5247740253619) (g := 2) (fs := [2, 3, 3, 3, 17, 71, 80513981]) (by decide) (by decide +kernel) (List.forall_mem_cons.2 ⟨p2, (List.forall_mem_cons.2 ⟨p3, (List.forall_mem_cons.2 ⟨p3, (List.forall_mem_cons.2 ⟨p3, (List.forall_mem_cons.2 ⟨p32, (List.forall_mem_cons.2 ⟨p50, (List.forall_mem_cons.2 ⟨p51, (fun _ h => nomatch h)⟩)⟩)⟩)⟩)⟩)⟩)⟩) (pw_of (f := 43) (by decide +kernel) (by decide +kernel)) p49_ne
theorem p49 : CP 5247740253619 := p49_pr.cp
theorem p44_ne (n : Nat) (h : n ∈ [2, 3, 13, 4129989133, 5247740253619]) : 2 ^ ((1690502597179744445941507 - 1) / n) % 1690502597179744445941507 ≠ 1 := by
  have key : ∀ n ∈ [2, 3, 13, 4129989133, 5247740253619], pm 1690502597179744445941507 81 1 2 ((1690502597179744445941507 - 1) / n) ≠ 1 ∧ (1690502597179744445941507 - 1) / n < 2 ^ 81 := by decide +kernel
  have k := key n h
  rw [pm_eq _ _ _ _ _ k.2, Nat.one_mul] at k
  exact k.1
theorem p44_pr : PR 1690502597179744445941507 :=
  pratt (p := 1690502597179744445941507) (g := 2) (fs := [2, 3, 13, 4129989133, 5247740253619]) (by decide) (by decide +kernel) (List.forall_mem_cons.2 ⟨p2, (List.forall_mem_cons.2 ⟨p3, (List.forall_mem_cons.2 ⟨p4, (List.forall_mem_cons.2 ⟨p45, (List.forall_mem_cons.2 ⟨p49, (fun _ h => nomatch h)⟩)⟩)⟩)⟩)⟩) (pw_of (f := 81) (by decide +kernel) (by decide +kernel)) p44_ne
theorem p44 : CP 1690502597179744445941507 := p44_pr.cp
theorem p59 : CP 173 := small (by decide) (by decide +kernel)
theorem p58_ne (n : Nat) (h : n ∈ [2, 2, 2, 3, 71, 173]) : 10 ^ ((294793 - 1) / n) % 294793 ≠ 1 := by
  have key : ∀ n ∈ [2, 2, 2, 3, 71, 173], pm 294793 19 1 10 ((294793 - 1) / n) ≠ 1 ∧ (294793 - 1) / n < 2 ^ 19 := by decide +kernel
  have k := key n h
  rw [pm_eq _ _ _ _ _ k.2, Nat.one_mul] at k
  exact k.1
theorem p58_pr : PR 294793 :=
  pratt (p := 294793) (g := 10) (fs := [2, 2, 2, 3, 71, 173]) (by decide) (by decide +kernel) (List.forall_mem_cons.2 ⟨p2, (List.forall_mem_cons.2 ⟨p2, (List.forall_mem_cons.2 ⟨p2, (List.forall_mem_cons.2 ⟨p3, (List.forall_mem_cons.2 ⟨p50, (List.forall_mem_cons.2 ⟨p59, (fun _ h => nomatch h)⟩)⟩)⟩)⟩)⟩)⟩) (pw_of (f := 19) (by decide +kernel) (by decide +kernel)) p58_ne
theorem p58 : CP 294793 := p58_pr.cp
theorem p61 : CP 2557 := small (by decide) (by decide +kernel)
theorem p60_ne (n : Nat) (h : n ∈ [2, 827, 2557]) : 13 ^ ((4229279 - 1) / n) % 4229279 ≠ 1 := by
  have key : ∀ n ∈ [2, 827, 2557], pm 4229279 23 1 13 ((4229279 - 1) / n) ≠ 1 ∧ (4229279 - 1) / n < 2 ^ 23 := by decide +kernel
  have k := key n h
  rw [pm_eq _ _ _ _ _ k.2, Nat.one_mul] at k
  exact k.1
theorem p60_pr : PR 4229279 :=
  pratt (p := 4229279) (g := 13) (fs := [2, 827, 2557]) (by decide) (by decide +kernel) (List.forall_mem_cons.2 ⟨p2, (List.forall_mem_cons.2 ⟨p5, (List.forall_mem_cons.2 ⟨p61, (fun _ h => nomatch h)⟩)⟩)⟩) (pw_of (f := 23) (by decide +kernel) (by decide +kernel)) p60_ne
theorem p60 : CP 4229279 := p60_pr.cp
theorem p64 : CP 6091 := small (by decide) (by decide +kernel)
theorem p63_ne (n : Nat) (h : n ∈ [2, 2, 2, 3, 3, 13, 6091]) : 7 ^ ((5701177 - 1) / n) % 5701177 ≠ 1 := by
  have key : ∀ n ∈ [2, 2, 2, 3, 3, 13, 6091], pm 5701177 23 1 7 ((5701177 - 1) / n) ≠ 1 ∧ (5701177 - 1) / n < 2 ^ 23 := by decide +kernel
  have k := key n h
  rw [pm_eq _ _ _ _ _ k.2, Nat.one_mul] at k
  exact k.1
theorem p63_pr : PR 5701177 :=
  pratt (p := 5701177) (g := 7) (fs := [2, 2, 2, 3, 3, 13, 6091]) (by decide) (by decide +kernel) (List.forall_mem_cons.2 ⟨p2, (List.forall_mem_cons.2 ⟨p2, (List.forall_mem_cons.2 ⟨p2, (List.forall_mem_cons.2 ⟨p3, (List.forall_mem_cons.2 ⟨p3, (List.forall_mem_cons.2 ⟨p4, (List.forall_mem_cons.2 ⟨p64, (fun _ h => nomatch h)⟩)⟩)⟩)⟩)⟩)⟩)⟩) (pw_of (f := 23) (by decide +kernel) (by decide +kernel)) p63_ne
theorem p63 : CP 5701177 := p63_pr.cp
theorem p62_ne (n : Nat) (h : n ∈ [2, 5, 7, 5701177]) : 7 ^ ((399082391 - 1) / n) % 399082391 ≠ 1 := by
  have key : ∀ n ∈ [2, 5, 7, 5701177], pm 399082391 29 1 7 ((399082391 - 1) / n) ≠ 1 ∧ (399082391 - 1) / n < 2 ^ 29 := by decide +kernel
  have k := key n h
  rw [pm_eq _ _ _ _ _ k.2, Nat.one_mul] at k
  exact k.1
theorem p62_pr : PR 399082391 :=
  pratt (p := 399082391) (g := 7) (fs := [2, 5, 7, 5701177]) (by decide) (by decide +kernel) (List.forall_mem_cons.2 ⟨p2, (List.forall_mem_cons.2 ⟨p39, (List.forall_mem_cons.2 ⟨p28, (List.forall_mem_cons.2 ⟨p63, (fun _ h => nomatch h)⟩)⟩)⟩)⟩) (pw_of (f := 29) (by decide +kernel) (by decide +kernel)) p62_ne
theorem p62 : CP 399082391 := p62_pr.cp
theorem p66 : CP 757 := small (by decide) (by decide +kernel)
theorem p67 : CP 12149 := small (by decide) (by decide +kernel)
theorem p68 : CP 31649 := small (by decide) (by decide +kernel)
theorem p65_ne (n : Nat) (h : n ∈ [2, 3, 3, 757, 12149, 31649]) : 2 ^ ((5239247429827 - 1) / n) % 5239247429827 ≠ 1 := by
  have key : ∀ n ∈ [2, 3, 3, 757, 12149, 31649], pm 5239247429827 43 1 2 ((5239247429827 - 1) / n) ≠ 1 ∧ (5239247429827 - 1) / n < 2 ^ 43 := by decide +kernel
  have k := key n h
  rw [pm_eq _ _ _ _ _ k.2, Nat.one_mul] at k
  exact k.1
theorem p65_pr : PR 5239247429827 :=
  pratt (p := 5239247429827) (g := 2) (fs := [2, 3, 3, 757, 12149, 31649]) (by decide) (by decide +kernel) (List.forall_mem_cons.2 ⟨p2, (List.forall_mem_cons.2 ⟨p3, (List.forall_mem_cons.2 ⟨p3, (List.forall_mem_cons.2 ⟨p66, (List.forall_mem_cons.2 ⟨p67, (List.forall_mem_cons.2 ⟨p68, (fun _ h => nomatch h)⟩)⟩)⟩)⟩)⟩)⟩) (pw_of (f := 43) (by decide +kernel) (by decide +kernel)) p65_ne
theorem p65 : CP 5239247429827 := p65_pr.cp
theorem p57_ne (n : Nat) (h : n ∈ [2, 2, 294793, 4229279, 399082391, 5239247429827]) : 2 ^ ((10427374428728808478656897599072717 - 1) / n) % 10427374428728808478656897599072717 ≠ 1 := by
  have key : ∀ n ∈ [2, 2, 294793, 4229279, 399082391, 5239247429827], pm 10427374428728808478656897599072717 114 1 2 ((10427374428728808478656897599072717 - 1) / n) ≠ 1 ∧ (10427374428728808478656897599072717 - 1) / n < 2 ^ 114 := by decide +kernel
  have k := key n h
  rw [pm_eq _ _ _ _ _ k.2, Nat.one_mul] at k
  exact k.1
theorem p57_pr : PR 10427374428728808478656897599072717 :=
  pratt (p := 10427374428728808478656897599072717) (g := 2) (fs := [2, 2, 294793, 4229279, 399082391, 5239247429827]) (by decide) (by decide +kernel) (List.forall_mem_cons.2 ⟨p2, (List.forall_mem_cons.2 ⟨p2, (List.forall_mem_cons.2 ⟨p58, (List.forall_mem_cons.2 ⟨p60, (List.forall_mem_cons.2 ⟨p62, (List.forall_mem_cons.2 ⟨p65, (fun _ h => nomatch h)⟩)⟩)⟩)⟩)⟩)⟩) (pw_of (f := 114) (by decide +kernel) (by decide +kernel)) p57_ne
theorem p57 : CP 10427374428728808478656897599072717 := p57_pr.cp
theorem p41_ne (n : Nat) (h : n ∈ [2, 2, 2, 2, 2, 2, 2, 2, 2, 2, 2, 2, 2, 2, 2, 2, 2, 2, 2, 2, 2, 2, 2, 2, 2, 2, 2, 2, 2, 2, 2, 2, 3, 3, 1709, 24859, 1690502597179744445941507, 10427374428728808478656897599072717]) : 5 ^ ((28948022309329048855892746252171976963363056481941647379679742748393362948097 - 1) / n) % 28948022309329048855892746252171976963363056481941647379679742748393362948097 ≠ 1 := by
  have key : ∀ n ∈ [2, 2, 2, 2, 2, 2, 2, 2, 2, 2, 2, 2, 2, 2, 2, 2, 2, 2, 2, 2, 2, 2, 2, 2, 2, 2, 2, 2, 2, 2, 2, 2, 3, 3, 1709, 24859, 1690502597179744445941507, 10427374428728808478656897599072717], pm 28948022309329048855892746252171976963363056481941647379679742748393362948097 255 1 5 ((28948022309329048855892746252171976963363056481941647379679742748393362948097 - 1) / n) ≠ 1 ∧ (28948022309329048855892746252171976963363056481941647379679742748393362948097 - 1) / n < 2 ^ 255 := by decide +kernel
  have k := key n h
  rw [pm_eq _ _ _ _ _ k.2, Nat.one_mul] at k
  exact k.1
theorem p41_pr : PR 28948022309329048855892746252171976963363056481941647379679742748393362948097 :=
  pratt (p := 28948022309329048855892746252171976963363056481941647379679742748393362948097) (g := 5) (fs := [2, 2, 2, 2, 2, 2, 2, 2, 2, 2, 2, 2, 2, 2, 2, 2, 2, 2, 2, 2, 2, 2, 2, 2, 2, 2, 2, 2, 2, 2, 2, 2, 3, 3, 1709, 24859, 1690502597179744445941507, 10427374428728808478656897599072717]) (by decide) (by decide +kernel) (List.forall_mem_cons.2 ⟨p2, (List.forall_mem_cons.2 ⟨p2, (List.forall_mem_cons.2 ⟨p2, (List.forall_mem_cons.2 ⟨p2, (List.forall_mem_cons.2 ⟨p2, (List.forall_mem_cons.2 ⟨p2, (List.forall_mem_cons.2 ⟨p2, (List.forall_mem_cons.2 ⟨p2, (List.forall_mem_cons.2 ⟨p2, (List.forall_mem_cons.2 ⟨p2, (List.forall_mem_cons.2 ⟨p2, (List.forall_mem_cons.2 ⟨p2, (List.forall_mem_cons.2 ⟨p2, (List.forall_mem_cons.2 ⟨p2, (List.forall_mem_cons.2 ⟨p2, (List.forall_mem_cons.2 ⟨p2, (List.forall_mem_cons.2 ⟨p2, (List.forall_mem_cons.2 ⟨p2, (List.forall_mem_cons.2 ⟨p2, (List.forall_mem_cons.2 ⟨p2, (List.forall_mem_cons.2 ⟨p2, (List.forall_mem_cons.2 ⟨p2, (List.forall_mem_cons.2 ⟨p2, (List.forall_mem_cons.2 ⟨p2, (List.forall_mem_cons.2 ⟨p2, (List.forall_mem_cons.2 ⟨p2, (List.forall_mem_cons.2 ⟨p2, (List.forall_mem_cons.2 ⟨p2, (List.forall_mem_cons.2 ⟨p2, (List.forall_mem_cons.2 ⟨p2, (List.forall_mem_cons.2 ⟨p2, (List.forall_mem_cons.2 ⟨p2, (List.forall_mem_cons.2 ⟨p3, (List.forall_mem_cons.2 ⟨p3, (List.forall_mem_cons.2 ⟨p42, (List.forall_mem_cons.2 ⟨p43, (List.forall_mem_cons.2 ⟨p44, (List.forall_mem_cons.2 ⟨p57, (fun _ h => nomatch h)⟩)⟩)⟩)⟩)⟩)⟩)⟩)⟩)⟩)⟩)⟩)⟩)⟩)⟩)⟩)⟩)⟩)⟩)⟩)⟩)⟩)⟩)⟩)⟩)⟩)⟩)⟩)⟩)⟩)⟩)⟩)⟩)⟩)⟩)⟩)⟩)⟩)⟩) (pw_of (f := 255) (by decide +kernel) (by decide +kernel)) p41_ne
theorem fermat0 : PR 16513537 := p1_pr
theorem fermat0_ord (n : Nat) (h0 : 0 < n) (h1 : n < 16513537 - 1) : 5 ^ n % 16513537 ≠ 1 := order_of (by decide) (fs := [2, 2, 2, 2, 2, 2, 2, 2, 2, 3, 13, 827]) (by decide +kernel) (List.forall_mem_cons.2 ⟨p2, (List.forall_mem_cons.2 ⟨p2, (List.forall_mem_cons.2 ⟨p2, (List.forall_mem_cons.2 ⟨p2, (List.forall_mem_cons.2 ⟨p2, (List.forall_mem_cons.2 ⟨p2, (List.forall_mem_cons.2 ⟨p2, (List.forall_mem_cons.2 ⟨p2, (List.forall_mem_cons.2 ⟨p2, (List.forall_mem_cons.2 ⟨p3, (List.forall_mem_cons.2 ⟨p4, (List.forall_mem_cons.2 ⟨p5, (fun _ h => nomatch h)⟩)⟩)⟩)⟩)⟩)⟩)⟩)⟩)⟩)⟩)⟩)⟩) (pw_of (f := 24) (by decide +kernel) (by decide +kernel)) p1_ne n h0 h1
theorem fermat1 : PR 16521217 := p6_pr
theorem fermat1_ord (n : Nat) (h0 : 0 < n) (h1 : n < 16521217 - 1) : 5 ^ n % 16521217 ≠ 1 := order_of (by decide) (fs := [2, 2, 2, 2, 2, 2, 2, 2, 2, 2, 2, 3, 2689]) (by decide +kernel) (List.forall_mem_cons.2 ⟨p2, (List.forall_mem_cons.2 ⟨p2, (List.forall_mem_cons.2 ⟨p2, (List.forall_mem_cons.2 ⟨p2, (List.forall_mem_cons.2 ⟨p2, (List.forall_mem_cons.2 ⟨p2, (List.forall_mem_cons.2 ⟨p2, (List.forall_mem_cons.2 ⟨p2, (List.forall_mem_cons.2 ⟨p2, (List.forall_mem_cons.2 ⟨p2, (List.forall_mem_cons.2 ⟨p2, (List.forall_mem_cons.2 ⟨p3, (List.forall_mem_cons.2 ⟨p7, (fun _ h => nomatch h)⟩)⟩)⟩)⟩)⟩)⟩)⟩)⟩)⟩)⟩)⟩)⟩)⟩) (pw_of (f := 24) (by decide +kernel) (by decide +kernel)) p6_ne n h0 h1
theorem fermat2 : PR 28948022309329048855892746252171976963363056481941560715954676764349967630337 := p8_pr
theorem fermat2_ord (n : Nat) (h0 : 0 < n) (h1 : n < 28948022309329048855892746252171976963363056481941560715954676764349967630337 - 1) : 5 ^ n % 28948022309329048855892746252171976963363056481941560715954676764349967630337 ≠ 1 := order_of (by decide) (fs := [2, 2, 2, 2, 2, 2, 2, 2, 2, 2, 2, 2, 2, 2, 2, 2, 2, 2, 2, 2, 2, 2, 2, 2, 2, 2, 2, 2, 2, 2, 2, 2, 3, 463, 539204044132271846773, 8999194758858563409123804352480028797519453]) (by decide +kernel) (List.forall_mem_cons.2 ⟨p2, (List.forall_mem_cons.2 ⟨p2, (List.forall_mem_cons.2 ⟨p2, (List.forall_mem_cons.2 ⟨p2, (List.forall_mem_cons.2 ⟨p2, (List.forall_mem_cons.2 ⟨p2, (List.forall_mem_cons.2 ⟨p2, (List.forall_mem_cons.2 ⟨p2, (List.forall_mem_cons.2 ⟨p2, (List.forall_mem_cons.2 ⟨p2, (List.forall_mem_cons.2 ⟨p2, (List.forall_mem_cons.2 ⟨p2, (List.forall_mem_cons.2 ⟨p2, (List.forall_mem_cons.2 ⟨p2, (List.forall_mem_cons.2 ⟨p2, (List.forall_mem_cons.2 ⟨p2, (List.forall_mem_cons.2 ⟨p2, (List.forall_mem_cons.2 ⟨p2, (List.forall_mem_cons.2 ⟨p2, (List.forall_mem_cons.2 ⟨p2, (List.forall_mem_cons.2 ⟨p2, (List.forall_mem_cons.2 ⟨p2, (List.forall_mem_cons.2 ⟨p2, (List.forall_mem_cons.2 ⟨p2, (List.forall_mem_cons.2 ⟨p2, (List.forall_mem_cons.2 ⟨p2, (List.forall_mem_cons.2 ⟨p2, (List.forall_mem_cons.2 ⟨p2, (List.forall_mem_cons.2 ⟨p2, (List.forall_mem_cons.2 ⟨p2, (List.forall_mem_cons.2 ⟨p2, (List.forall_mem_cons.2 ⟨p2, (List.forall_mem_cons.2 ⟨p3, (List.forall_mem_cons.2 ⟨p9, (List.forall_mem_cons.2 ⟨p10, (List.forall_mem_cons.2 ⟨p19, (fun _ h => nomatch h)⟩)⟩)⟩)⟩)⟩)⟩)⟩)⟩)⟩)⟩)⟩)⟩)⟩)⟩)⟩)⟩)⟩)⟩)⟩)⟩)⟩)⟩)⟩)⟩)⟩)⟩)⟩)⟩)⟩)⟩)⟩)⟩)⟩)⟩)⟩)⟩) (pw_of (f := 255) (by decide +kernel) (by decide +kernel)) p8_ne n h0 h1
theorem fermat3 : PR 28948022309329048855892746252171976963363056481941647379679742748393362948097 := p41_pr
theorem fermat3_ord (n : Nat) (h0 : 0 < n) (h1 : n < 28948022309329048855892746252171976963363056481941647379679742748393362948097 - 1) : 5 ^ n % 28948022309329048855892746252171976963363056481941647379679742748393362948097 ≠ 1 := order_of (by decide) (fs := [2, 2, 2, 2, 2, 2, 2, 2, 2, 2, 2, 2, 2, 2, 2, 2, 2, 2, 2, 2, 2, 2, 2, 2, 2, 2, 2, 2, 2, 2, 2, 2, 3, 3, 1709, 24859, 1690502597179744445941507, 10427374428728808478656897599072717]) (by decide +kernel) (List.forall_mem_cons.2 ⟨p2, (List.forall_mem_cons.2 ⟨p2, (List.forall_mem_cons.2 ⟨p2, (List.forall_mem_cons.2 ⟨p2, (List.forall_mem_cons.2 ⟨p2, (List.forall_mem_cons.2 ⟨p2, (List.forall_mem_cons.2 ⟨p2, (List.forall_mem_cons.2 ⟨p2, (List.forall_mem_cons.2 ⟨p2, (List.forall_mem_cons.2 ⟨p2, (List.forall_mem_cons.2 ⟨p2, (List.forall_mem_cons.2 ⟨p2, (List.forall_mem_cons.2 ⟨p2, (List.forall_mem_cons.2 ⟨p2, (List.forall_mem_cons.2 ⟨p2, (List.forall_mem_cons.2 ⟨p2, (List.forall_mem_cons.2 ⟨p2, (List.forall_mem_cons.2 ⟨p2, (List.forall_mem_cons.2 ⟨p2, (List.forall_mem_cons.2 ⟨p2, (List.forall_mem_cons.2 ⟨p2, (List.forall_mem_cons.2 ⟨p2, (List.forall_mem_cons.2 ⟨p2, (List.forall_mem_cons.2 ⟨p2, (List.forall_mem_cons.2 ⟨p2, (List.forall_mem_cons.2 ⟨p2, (List.forall_mem_cons.2 ⟨p2, (List.forall_mem_cons.2 ⟨p2, (List.forall_mem_cons.2 ⟨p2, (List.forall_mem_cons.2 ⟨p2, (List.forall_mem_cons.2 ⟨p2, (List.forall_mem_cons.2 ⟨p2, (List.forall_mem_cons.2 ⟨p3, (List.forall_mem_cons.2 ⟨p3, (List.forall_mem_cons.2 ⟨p42, (List.forall_mem_cons.2 ⟨p43, (List.forall_mem_cons.2 ⟨p44, (List.forall_mem_cons.2 ⟨p57, (fun _ h => nomatch h)⟩)⟩)⟩)⟩)⟩)⟩)⟩)⟩)⟩)⟩)⟩)⟩)⟩)⟩)⟩)⟩)⟩)⟩)⟩)⟩)⟩)⟩)⟩)⟩)⟩)⟩)⟩)⟩)⟩)⟩)⟩)⟩)⟩)⟩)⟩)⟩)⟩)⟩) (pw_of (f := 255) (by decide +kernel) (by decide +kernel)) p41_ne n h0 h1
end Go.Num
namespace Go.Sx
open Go.Proofs
-- TY: TYX, cellsE, foldE, foldN, cellsN, b_EN, cellsNV, foldNV
set_option maxRecDepth 100000
set_option linter.unusedSimpArgs false
set_option pp.deepTerms false
set_option pp.deepTerms.threshold 3
section
variable {s : Int} {m sm ng sq : Nat} {ad : Int}
theorem c_Inv0 (F : FS s m ad sm ng sq) (a : Nat) (ha : a < W256) (h : a % m = 0) : Contract Try.prog 76 [.val (.int .i64 s), .val (EN a)] [.val (EN 0), .val (.int .i64 10)] := by
  refine contract_of (N := _) (vars := _) (c := bodyOf Try.f76) Try.func76 (body_eq rfl) rfl rfl (by rfl) mixed _ _ trivial 1000 ?_
  simp only [bodyOf, Try.f76, Option.getD_some, argA, argE, List.length_cons, List.length_nil, Nat.reduceAdd, Nat.reduceSub, List.replicate, List.cons_append, List.nil_append]
  simp only [SX, simprocAttr, TYX, cellsE, foldE, foldN, cellsN, b_EN, cellsNV, foldNV]
  refine CallVC.intro F.of ⟨rfl, trivial⟩ rfl rfl ?_
  simp only [SX, simprocAttr, TYX, cellsE, foldE, foldN, cellsN, b_EN, cellsNV, foldNV]
  refine CallVC.intro (F.reduce a ha) ⟨rfl, rfl, trivial⟩ rfl rfl ?_
  rw [h]
  simp only [SX, simprocAttr, TYX, cellsE, foldE, foldN, cellsN, b_EN, cellsNV, foldNV]
  refine X0 ?_
  simp only [SX, simprocAttr, TYX, cellsE, foldE, foldN, cellsN, b_EN, cellsNV, foldNV]
  refine XEq 0 0 (by decide) (by decide) (by rfl) (by rfl) ?_
  simp only [SX, simprocAttr, TYX, cellsE, foldE, foldN, cellsN, b_EN, cellsNV, foldNV]
  refine X0 ?_
  simp only [SX, simprocAttr, TYX, cellsE, foldE, foldN, cellsN, b_EN, cellsNV, foldNV]
theorem c_Inv (F : FS s m ad sm ng sq) (a : Nat) (ha : a < W256) (h : a % m ≠ 0) : Contract Try.prog 76 [.val (.int .i64 s), .val (EN a)] [.val (EN (a ^ (m - 2) % m)), .val (.int .i64 0)] := by
  have h1 := F.one
  have h2 := F.lt
  have hb : (a % m == 0) = false := by simpa using h
  refine contract_of (N := _) (vars := _) (c := bodyOf Try.f76) Try.func76 (body_eq rfl) rfl rfl (by rfl) mixed _ _ trivial 1000 ?_
  simp only [bodyOf, Try.f76, Option.getD_some, argA, argE, List.length_cons, List.length_nil, Nat.reduceAdd, Nat.reduceSub, List.replicate, List.cons_append, List.nil_append]
  simp only [SX, simprocAttr, TYX, cellsE, foldE, foldN, cellsN, b_EN, cellsNV, foldNV]
  refine CallVC.intro F.of ⟨rfl, trivial⟩ rfl rfl ?_
  simp only [SX, simprocAttr, TYX, cellsE, foldE, foldN, cellsN, b_EN, cellsNV, foldNV]
  refine CallVC.intro (F.reduce a ha) ⟨rfl, rfl, trivial⟩ rfl rfl ?_
  simp only [SX, simprocAttr, TYX, cellsE, foldE, foldN, cellsN, b_EN, cellsNV, foldNV]
  refine X0 ?_
  simp only [SX, simprocAttr, TYX, cellsE, foldE, foldN, cellsN, b_EN, cellsNV, foldNV]
  refine XEq (a % m) 0 (F.mod2 a) (by decide) (by rfl) (by rfl) ?_
  simp only [SX, simprocAttr, TYX, cellsE, foldE, foldN, cellsN, b_EN, cellsNV, foldNV, hb]
  refine X1 2 (by rfl) ?_
  rw [EN_small (by decide)]
  simp only [SX, simprocAttr, TYX, cellsE, foldE, foldN, cellsN, b_EN, cellsNV, foldNV]
  refine CallVC.intro (c_word_sub m 2 h2 (by decide)) ⟨rfl, rfl, trivial⟩ rfl rfl ?_
  rw [sub_of h2 h1]
  simp only [SX, simprocAttr, TYX, cellsE, foldE, foldN, cellsN, b_EN, cellsNV, foldNV]
  refine CallVC.intro (c_Exp F a (m - 2) ha (by omega)) ⟨rfl, rfl, rfl, trivial⟩ rfl rfl ?_
  simp only [SX, simprocAttr, TYX, cellsE, foldE, foldN, cellsN, b_EN, cellsNV, foldNV]
theorem n_Inv (F : NS s) (a : Nat) : Contract Try.prog 76 [.val (.int .i64 s), .val (EN a)] [.val (EN 0), .val (.int .i64 20)] := by
  refine contract_of (N := _) (vars := _) (c := bodyOf Try.f76) Try.func76 (body_eq rfl) rfl rfl (by rfl) mixed _ _ trivial 1000 ?_
  simp only [bodyOf, Try.f76, Option.getD_some, argA, argE, List.length_cons, List.length_nil, Nat.reduceAdd, Nat.reduceSub, List.replicate, List.cons_append, List.nil_append]
  simp only [SX, simprocAttr, TYX, cellsE, foldE, foldN, cellsN, b_EN, cellsNV, foldNV]
  refine CallVC.intro F.of ⟨rfl, trivial⟩ rfl rfl ?_
  simp only [SX, simprocAttr, TYX, cellsE, foldE, foldN, cellsN, b_EN, cellsNV, foldNV]
  refine X0 ?_
  simp only [SX, simprocAttr, TYX, cellsE, foldE, foldN, cellsN, b_EN, cellsNV, foldNV]
end
/-- A sort is one of four, or none. -/
theorem sort_cases (s : Int) : s = 0 ∨ s = 1 ∨ s = 2 ∨ s = 3 ∨ ((s == 0) = false ∧ (s == 1) = false ∧ (s == 2) = false ∧ (s == 3) = false) := by
  by_cases h0 : s = 0
  · exact .inl h0
  by_cases h1 : s = 1
  · exact .inr (.inl h1)
  by_cases h2 : s = 2
  · exact .inr (.inr (.inl h2))
  by_cases h3 : s = 3
  · exact .inr (.inr (.inr (.inl h3)))
  exact .inr (.inr (.inr (.inr ⟨by simpa using h0, by simpa using h1, by simpa using h2, by simpa using h3⟩)))
end Go.Sx
namespace Go.Sx
open Go.Proofs
-- SY
-- TY: TYX
set_option maxRecDepth 100000
set_option linter.unusedSimpArgs false
set_option pp.deepTerms false
set_option pp.deepTerms.threshold 3
/-- The modulus of a sort; 1 where there is none. -/
def md (s : Int) : Nat := if s = 0 then PA else if s = 1 then PB else if s = 2 then PC else if s = 3 then PD else 1
def kn (s : Int) : Bool := s == 0 || s == 1 || s == 2 || s == 3
/-- How often 2 divides the modulus less 1. -/
def adc (s : Int) : Int := if s = 0 then 9 else if s = 1 then 11 else if s = 2 then 32 else if s = 3 then 32 else 0
/-- The error of a sort. -/
def eS (s : Int) : Int := if kn s then 0 else 20
inductive Srt (s : Int) : Prop where
  | yes (hk : kn s = true) (he : eS s = 0) (sm ng sq : Nat) (F : FS s (md s) (adc s) sm ng sq) (R : RS s (md s)) (P : Num.PR (md s)) (h2 : 2 < md s)
  | no (hk : kn s = false) (he : eS s = 20) (hm : md s = 1) (F : NS s) (R : RN s) (ha : adc s = 0) (h : s < 0 ∨ 3 < s)
theorem srt (s : Int) : Srt s := by
  rcases sort_cases s with rfl | rfl | rfl | rfl | ⟨h0, h1, h2, h3⟩
  · exact .yes rfl rfl _ _ _ SA' RA Num.fermat0 (by decide)
  · exact .yes rfl rfl _ _ _ SB' RB Num.fermat1 (by decide)
  · exact .yes rfl rfl _ _ _ SC' RC Num.fermat2 (by decide)
  · exact .yes rfl rfl _ _ _ SD' RD Num.fermat3 (by decide)
  · have hk : kn s = false := by simp only [kn, h0, h1, h2, h3, Bool.or_self]
    refine .no hk (by simp [eS, hk]) ?_ (NS.mk' s h0 h1 h2 h3) (RN.mk' s h0 h1 h2 h3) ?_ ?_ <;> simp only [beq_eq_false_iff_ne, ne_eq] at h0 h1 h2 h3
    · simp only [md, h0, h1, h2, h3, if_false]
    · simp only [adc, h0, h1, h2, h3, if_false]
    · omega
theorem md_pos (s : Int) : 0 < md s := by
  cases srt s with
  | yes _ _ _ _ _ F => have := F.one; omega
  | no _ _ hm => omega
theorem md_lt (s : Int) : md s * 2 ≤ W256 := by
  cases srt s with
  | yes _ _ _ _ _ F => exact F.half
  | no _ _ hm => rw [hm]; decide
theorem md_mod (s : Int) (x : Nat) : x % md s < md s := Nat.mod_lt _ (md_pos s)
theorem md_w (s : Int) (x : Nat) : x % md s < W256 := by have := md_mod s x; have := md_lt s; omega
theorem md_w2 {s : Int} {x : Nat} (h : x < md s) : x < W256 := by have := md_lt s; omega
/-- 1 by a; 0 where a is 0. -/
def inv (s : Int) (a : Nat) : Nat := a ^ (md s - 2) % md s
/-- The error of an inverse. -/
def eI (s : Int) (a : Nat) : Int := if kn s then (if a % md s = 0 then 10 else 0) else 20
theorem inv_lt (s : Int) (a : Nat) : inv s a < md s := md_mod s _
section
variable (s : Int) (a b : Nat) (ha : a < W256) (hb : b < W256)
include ha hb
theorem u_Add : Contract Try.prog 50 [.val (.int .i64 s), .val (EN a), .val (EN b)] [.val (EN ((a + b) % md s))] := by
  cases srt s with
  | yes _ _ _ _ _ F => exact c_Add F a b ha hb
  | no _ _ hm F => rw [hm, Nat.mod_one]; exact n_Add F a b
theorem u_Sub : Contract Try.prog 77 [.val (.int .i64 s), .val (EN a), .val (EN b)] [.val (EN ((a + (md s - b % md s) % md s) % md s))] := by
  cases srt s with
  | yes _ _ _ _ _ F => exact c_Sub F a b ha hb
  | no _ _ hm F => rw [hm, Nat.mod_one]; exact n_Sub F a b
theorem u_Mul : Contract Try.prog 36 [.val (.int .i64 s), .val (EN a), .val (EN b)] [.val (EN (a * b % md s))] := by
  cases srt s with
  | yes _ _ _ _ _ F => exact c_Mul F a b ha hb
  | no _ _ hm F => rw [hm, Nat.mod_one]; exact n_Mul F a b
theorem u_Exp : Contract Try.prog 91 [.val (.int .i64 s), .val (EN a), .val (EN b)] [.val (EN (a ^ b % md s))] := by
  cases srt s with
  | yes _ _ _ _ _ F => exact c_Exp F a b ha hb
  | no _ _ hm F => rw [hm, Nat.mod_one]; exact n_Exp F a b
end
section
variable (s : Int) (a : Nat) (ha : a < W256)
include ha
theorem u_Neg : Contract Try.prog 81 [.val (.int .i64 s), .val (EN a)] [.val (EN ((md s - a % md s) % md s))] := by
  cases srt s with
  | yes _ _ _ _ _ F => exact c_Neg F a ha
  | no _ _ hm F => rw [hm, Nat.mod_one]; exact n_Neg F a
theorem u_Inv : Contract Try.prog 76 [.val (.int .i64 s), .val (EN a)] [.val (EN (inv s a)), .val (.int .i64 (eI s a))] := by
  unfold inv eI
  cases srt s with
  | yes hk _ _ _ _ F _ P h2 =>
    rw [hk, if_pos rfl]
    by_cases h : a % md s = 0
    · rw [if_pos h, Nat.pow_mod, h, Nat.zero_pow (by omega), Nat.zero_mod]
      exact c_Inv0 F a ha h
    · rw [if_neg h]; exact c_Inv F a ha h
  | no hk _ hm F => rw [hk, hm, Nat.mod_one]; exact n_Inv F a
end
/-- What the modulus is called, and the error. -/
def mN (s : Int) : Nat := if kn s then md s else 0
theorem u_of (s : Int) : ∃ sm ng sq, Contract Try.prog 79 [.val (.int .i64 s)] [.val (NV (mN s) (adc s) sm ng sq), .val (.int .i64 (eS s))] := by
  unfold mN
  cases srt s with
  | yes hk he sm ng sq F => rw [hk, he, if_pos rfl]; exact ⟨sm, ng, sq, F.of⟩
  | no hk he _ F _ ha => rw [hk, he, ha]; exact ⟨0, 0, 0, F.of⟩
theorem u_Modulus (s : Int) : Contract Try.prog 100 [.val (.int .i64 s)] [.val (EN (mN s)), .val (.int .i64 (eS s))] := by
  obtain ⟨sm, ng, sq, F⟩ := u_of s
  refine contract_of (N := _) (vars := _) (c := bodyOf Try.f100) Try.func100 (body_eq rfl) rfl rfl (by rfl) mixed _ _ trivial 1000 ?_
  simp only [bodyOf, Try.f100, Option.getD_some, argA, argE, List.length_cons, List.length_nil, Nat.reduceAdd, Nat.reduceSub, List.replicate, List.cons_append, List.nil_append]
  simp only [↓PX, SX, SYX, EY, simprocAttr, TYX]
  refine CallVC.intro (F) ⟨rfl, trivial⟩ rfl rfl ?_
  simp only [↓PX, SX, SYX, EY, simprocAttr, TYX, foldNV, cellsNV]
end Go.Sx
namespace Go.Sx
open Go.Proofs
-- SY
-- TY: TYX
set_option maxRecDepth 100000
set_option linter.unusedSimpArgs false
set_option pp.deepTerms false
set_option pp.deepTerms.threshold 8
theorem u_Adicity (s : Int) : Contract Try.prog 126 [.val (.int .i64 s)] [.val (.int .i64 (adc s)), .val (.int .i64 (eS s))] := by
  obtain ⟨sm, ng, sq, F⟩ := u_of s
  refine contract_of (N := _) (vars := _) (c := bodyOf Try.f126) Try.func126 (body_eq rfl) rfl rfl (by rfl) mixed _ _ trivial 1000 ?_
  simp only [bodyOf, Try.f126, Option.getD_some, argA, argE, List.length_cons, List.length_nil, Nat.reduceAdd, Nat.reduceSub, List.replicate, List.cons_append, List.nil_append]
  simp only [↓PX, SX, SYX, EY, simprocAttr, TYX]
  refine CallVC.intro (F) ⟨rfl, trivial⟩ rfl rfl ?_
  simp only [↓PX, SX, SYX, EY, simprocAttr, TYX, foldNV, cellsNV]
theorem kn_or (s : Int) (h : kn s = true) : s = 0 ∨ s = 1 ∨ s = 2 ∨ s = 3 := by
  simp only [kn, Bool.or_eq_true, beq_iff_eq] at h
  omega
def iN (s n : Int) : Nat := if 0 ≤ n then n.toNat % md s else (md s - (-n).toNat % md s) % md s
theorem iN_lt (s n : Int) : iN s n < md s := by unfold iN; split <;> exact md_mod _ _
theorem u_Int (s n : Int) (h0 : -9223372036854775808 ≤ n) (h1 : n < 9223372036854775808) : Contract Try.prog 90 [.val (.int .i64 s), .val (.int .i64 n)] [.val (EN (iN s n))] := by
  unfold iN
  by_cases hn : 0 ≤ n
  · rw [if_pos hn]
    have hd : decide (n < 0) = false := by simpa using hn
    have e : (n % 18446744073709551616).toNat = n.toNat := by omega
    have hb : n.toNat < 18446744073709551616 := by omega
    have hw : n.toNat < W256 := by unfold W256; omega
    refine contract_of (N := _) (vars := _) (c := bodyOf Try.f90) Try.func90 (body_eq rfl) rfl rfl (by rfl) mixed _ _ trivial 1000 ?_
    simp only [bodyOf, Try.f90, Option.getD_some, argA, argE, List.length_cons, List.length_nil, Nat.reduceAdd, Nat.reduceSub, List.replicate, List.cons_append, List.nil_append]
    simp only [↓PX, SX, SYX, EY, simprocAttr, TYX]
    simp only [↓PX, SX, SYX, EY, simprocAttr, TYX, hd, e, hb]
    repeat (first
      | (refine DrawVC.intro (by kernel_rfl) ?_)
      | exact trivial
      | (refine CallVC.intro (u_Add _ _ _ (by first | assumption | exact md_w _ _ | exact md_w2 (inv_lt _ _) | decide | omega) (by first | assumption | exact md_w _ _ | exact md_w2 (inv_lt _ _) | decide | omega)) ⟨rfl, rfl, rfl, trivial⟩ rfl rfl ?_; simp only [↓PX, SX, SYX, EY, simprocAttr, TYX]))
  · rw [if_neg hn]
    have hd : decide (n < 0) = true := by simpa using hn
    have e : usub 0 (n % 18446744073709551616).toNat = (-n).toNat := by rw [usub_eq]; omega
    have hb : (-n).toNat < 18446744073709551616 := by omega
    have hw : (-n).toNat < W256 := by unfold W256; omega
    refine contract_of (N := _) (vars := _) (c := bodyOf Try.f90) Try.func90 (body_eq rfl) rfl rfl (by rfl) mixed _ _ trivial 1000 ?_
    simp only [bodyOf, Try.f90, Option.getD_some, argA, argE, List.length_cons, List.length_nil, Nat.reduceAdd, Nat.reduceSub, List.replicate, List.cons_append, List.nil_append]
    simp only [↓PX, SX, SYX, EY, simprocAttr, TYX]
    simp only [↓PX, SX, SYX, EY, simprocAttr, TYX, hd, e, hb]
    repeat (first
      | (refine DrawVC.intro (by kernel_rfl) ?_)
      | exact trivial
      | (refine CallVC.intro (u_Neg _ _ (by first | assumption | exact md_w _ _ | exact md_w2 (inv_lt _ _) | decide | omega)) ⟨rfl, rfl, trivial⟩ rfl rfl ?_; simp only [↓PX, SX, SYX, EY, simprocAttr, TYX]))
end Go.Sx
namespace Go.Num
section
variable {m : Nat} [NeZero m]
theorem f_pow_succ (x : Fin m) (i : Nat) : x^(i+1) = x^i * x := by grind
theorem f_pow_zero (x : Fin m) : x^0 = 1 := by grind
theorem f_mul_pow (x y : Fin m) : ∀ i : Nat, (x * y)^i = x^i * y^i
  | 0 => by rw [f_pow_zero, f_pow_zero, f_pow_zero]; grind
  | i+1 => by rw [f_pow_succ, f_pow_succ, f_pow_succ, f_mul_pow x y i]; grind
theorem f_pow_add (x : Fin m) (i j : Nat) : x^(i+j) = x^i * x^j := by grind
theorem f_pow_mul (x : Fin m) (i : Nat) : ∀ j : Nat, x^(i*j) = (x^i)^j
  | 0 => by rw [Nat.mul_zero, f_pow_zero, f_pow_zero]
  | j+1 => by rw [Nat.mul_add, Nat.mul_one, f_pow_add, f_pow_mul x i j, f_pow_succ]
theorem f_one_pow : ∀ i : Nat, (1 : Fin m)^i = 1
  | 0 => f_pow_zero _
  | i+1 => by rw [f_pow_succ, f_one_pow i]; grind
def κ (m : Nat) [NeZero m] (a : Nat) : Fin m := Fin.ofNat m a
theorem κ_mul (a b : Nat) : κ m (a * b) = κ m a * κ m b := by apply Fin.ext; simp [κ, Fin.val_mul]
theorem κ_add (a b : Nat) : κ m (a + b) = κ m a + κ m b := by apply Fin.ext; simp [κ, Fin.val_add]
theorem κ_mod (a : Nat) : κ m (a % m) = κ m a := by apply Fin.ext; simp [κ]
theorem κ_val (a : Nat) : (κ m a).val = a % m := by simp [κ]
theorem κ_pow (a : Nat) : ∀ i, κ m (a ^ i) = κ m a ^ i
  | 0 => by rw [Nat.pow_zero, f_pow_zero]; apply Fin.ext; simp [κ]; rfl
  | i+1 => by rw [Nat.pow_succ, κ_mul, κ_pow a i, f_pow_succ]
theorem κ_inj {a b : Nat} : κ m a = κ m b ↔ a % m = b % m := by rw [Fin.ext_iff, κ_val, κ_val]
theorem κ_zero : κ m 0 = 0 := by apply Fin.ext; simp [κ]
theorem κ_one : κ m 1 = 1 := by apply Fin.ext; simp [κ]; rfl
theorem κ_neg (a : Nat) : κ m (m - a % m) = - κ m a := by
  have h : κ m (m - a % m) + κ m a = 0 := by
    rw [← κ_add, ← κ_zero, κ_inj]
    have := Nat.mod_lt a (Nat.pos_of_ne_zero (NeZero.ne m))
    have h2 := Nat.div_add_mod a m
    have e : m - a % m + a = m * (a / m + 1) := by rw [Nat.mul_add, Nat.mul_one]; omega
    rw [e]; simp
  grind

theorem κ_self (x : Fin m) : κ m x.val = x := by apply Fin.ext; rw [κ_val, Nat.mod_eq_of_lt x.isLt]
theorem κ_eq0 {a : Nat} : κ m a = 0 ↔ a % m = 0 := by rw [← κ_zero (m := m), κ_inj, Nat.zero_mod]
theorem κ_eq1 {a : Nat} (h : 1 < m) : κ m a = 1 ↔ a % m = 1 := by rw [← κ_one (m := m), κ_inj, Nat.mod_eq_of_lt h]
theorem κ_sub (a : Nat) : κ m ((m - a % m) % m) = - κ m a := by rw [κ_mod, κ_neg]
/-- The inverse. -/
def ι (x : Fin m) : Fin m := x ^ (m - 2)
theorem ι_mul (P : PR m) {x : Fin m} (h : x ≠ 0) : x * ι x = 1 := by
  have h1 := P.2 x.val (by rw [Nat.mod_eq_of_lt x.isLt]; intro h2; exact h (Fin.ext (by rw [h2]; rfl)))
  have h2 : κ m (x.val ^ (m - 1)) = κ m 1 := by rw [κ_inj, h1, Nat.mod_eq_of_lt P.1]
  rw [κ_pow, κ_self, κ_one] at h2
  have e : m - 1 = (m - 2) + 1 := by have := P.1; omega
  unfold ι
  rw [e, f_pow_succ] at h2
  grind
theorem f_nzd (P : PR m) {x y : Fin m} (h : x * y = 0) : x = 0 ∨ y = 0 := by
  by_cases hx : x = 0
  · exact .inl hx
  · have := ι_mul P hx
    exact .inr (by grind)
theorem f_one_ne (P : PR m) : (1 : Fin m) ≠ 0 := by
  intro h
  have h1 := congrArg Fin.val h
  rw [← κ_one (m := m), κ_val, Nat.mod_eq_of_lt P.1] at h1
  simp at h1
theorem f_sq1 (P : PR m) {x : Fin m} (h : x * x = 1) : x = 1 ∨ x = -1 := by
  have h2 : (x - 1) * (x + 1) = 0 := by grind
  rcases f_nzd P h2 with h3 | h3
  · exact .inl (by grind)
  · exact .inr (by grind)
theorem f_pow_ne (P : PR m) {x : Fin m} (h : x ≠ 0) : ∀ i : Nat, x ^ i ≠ 0
  | 0 => by rw [f_pow_zero]; exact f_one_ne P
  | i + 1 => by
    rw [f_pow_succ]
    intro h0
    rcases f_nzd P h0 with h1 | h1
    · exact f_pow_ne P h i h1
    · exact h h1
theorem f_fermat (P : PR m) {x : Fin m} (h : x ≠ 0) : x ^ (m - 1) = 1 := by
  have := ι_mul P h
  have e : m - 1 = (m - 2) + 1 := by have := P.1; omega
  unfold ι at this
  rw [e, f_pow_succ]
  grind
end
end Go.Num
