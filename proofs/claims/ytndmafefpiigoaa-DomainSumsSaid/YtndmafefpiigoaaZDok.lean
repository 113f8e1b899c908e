/-
  The transform's law: what it holds at last are the values at the powers of the root. No conditions.
-/
import Derived.Test.YtndmafefpiigoaaZDoj
namespace Go.Sx
open Go.Proofs Go.Num
set_option maxRecDepth 100000
set_option linter.unusedSimpArgs false
section
variable {m : Nat} [NeZero m]
/-- A sum over the numbers below n. -/
def sm : Nat → (Nat → Fin m) → Fin m
  | 0, _ => 0
  | n + 1, g => sm n g + g n
theorem sm_congr {g h : Nat → Fin m} : ∀ {n : Nat}, (∀ i, i < n → g i = h i) → sm n g = sm n h
  | 0, _ => rfl
  | n + 1, e => by
    show sm n g + g n = sm n h + h n
    rw [sm_congr fun i hi => e i (by omega), e n (by omega)]
theorem sm_add (g h : Nat → Fin m) : ∀ n, sm n (fun i => g i + h i) = sm n g + sm n h
  | 0 => by show (0 : Fin m) = 0 + 0; grind
  | n + 1 => by
    show sm n (fun i => g i + h i) + (g n + h n) = (sm n g + g n) + (sm n h + h n)
    rw [sm_add g h n]; grind
theorem sm_scale (c : Fin m) (g : Nat → Fin m) : ∀ n, sm n (fun i => c * g i) = c * sm n g
  | 0 => by show (0 : Fin m) = c * 0; grind
  | n + 1 => by
    show sm n (fun i => c * g i) + c * g n = c * (sm n g + g n)
    rw [sm_scale c g n]; grind
theorem sm_zero {g : Nat → Fin m} : ∀ {n : Nat}, (∀ i, i < n → g i = 0) → sm n g = 0
  | 0, _ => rfl
  | n + 1, h => by
    show sm n g + g n = 0
    rw [sm_zero fun i hi => h i (by omega), h n (by omega)]; grind
theorem sm_front (g : Nat → Fin m) : ∀ n, sm (n + 1) g = g 0 + sm n (fun i => g (i + 1))
  | 0 => by show (0 : Fin m) + g 0 = g 0 + 0; grind
  | n + 1 => by
    show sm (n + 1) g + g (n + 1) = g 0 + (sm n (fun i => g (i + 1)) + g (n + 1))
    rw [sm_front g n]; grind
theorem sm_two (g : Nat → Fin m) : ∀ n, sm (2 * n) g = sm n (fun i => g (2 * i)) + sm n (fun i => g (2 * i + 1))
  | 0 => by show (0 : Fin m) = 0 + 0; grind
  | n + 1 => by
    show sm (2 * n) g + g (2 * n) + g (2 * n + 1) = (sm n (fun i => g (2 * i)) + g (2 * n)) + (sm n (fun i => g (2 * i + 1)) + g (2 * n + 1))
    rw [sm_two g n]; grind
theorem sm_more {g : Nat → Fin m} {n : Nat} : ∀ {j : Nat}, (∀ i, n ≤ i → i < n + j → g i = 0) → sm (n + j) g = sm n g
  | 0, _ => rfl
  | j + 1, h => by
    show sm (n + j) g + g (n + j) = sm n g
    rw [sm_more fun i h1 h2 => h i h1 (by omega), h (n + j) (by omega) (by omega)]; grind
theorem evk_sm (x : Fin m) : ∀ l : List Nat, evk x l = sm l.length (fun i => co m l i * x ^ i)
  | [] => rfl
  | c :: l => by
    unfold evk
    rw [evk_sm x l, List.length_cons, sm_front, ← sm_scale, co_0, f_pow_zero]
    have : sm l.length (fun i => x * (co m l i * x ^ i)) = sm l.length (fun i => co m (c :: l) (i + 1) * x ^ (i + 1)) := sm_congr fun i _ => by
      rw [co_s, f_pow_succ]; grind
    rw [this]; grind
/-- Halves of a sum. -/
theorem radix (F : Nat → Fin m) (u : Fin m) (H r : Nat) : sm (2 * H) (fun j => F j * u ^ (r * j)) = sm H (fun j => F (2 * j) * (u * u) ^ (r * j)) + u ^ r * sm H (fun j => F (2 * j + 1) * (u * u) ^ (r * j)) := by
  have e : ∀ j, (u * u) ^ (r * j) = u ^ (r * (2 * j)) := fun j => by
    rw [f_mul_pow, ← f_pow_add]; congr 1; rw [Nat.mul_left_comm]; omega
  rw [sm_two, ← sm_scale]
  congr 1
  · exact sm_congr fun j _ => by rw [e]
  · exact sm_congr fun j _ => by
      rw [e, show r * (2 * j + 1) = r * (2 * j) + r by rw [Nat.mul_add, Nat.mul_one], f_pow_add]; grind
theorem per {v : Fin m} {H : Nat} (h : v ^ H = 1) (r j : Nat) : v ^ ((r + H) * j) = v ^ (r * j) := by
  rw [Nat.add_mul, f_pow_add, f_pow_mul v H, h, f_one_pow]; grind
end
theorem swF_all {n N : Nat} {f : Nat → Nat} {t : Nat} (ht : t < N) : swF n N f t = f (br n t) := by
  unfold swF; rw [if_pos (by omega)]
theorem br_two {d b : Nat} : br (d + 1) (2 * b) = br d b := by
  show 2 * b % 2 * 2 ^ d + br d (2 * b / 2) = br d b
  rw [Nat.mul_mod_right, Nat.mul_div_cancel_left _ (by decide)]; omega
theorem br_odd {d b : Nat} : br (d + 1) (2 * b + 1) = 2 ^ d + br d b := by
  show (2 * b + 1) % 2 * 2 ^ d + br d ((2 * b + 1) / 2) = 2 ^ d + br d b
  rw [show (2 * b + 1) % 2 = 1 by omega, show (2 * b + 1) / 2 = b by omega]; omega
/-- What a block holds after h stages. -/
def blk (s : Int) (w n : Nat) (f : Nat → Nat) (h b r : Nat) : Fin (md s) :=
  sm (2 ^ h) (fun j => κ (md s) (f (j * 2 ^ (n - h) + br (n - h) b)) * (κ (md s) w ^ 2 ^ (n - h)) ^ (r * j))
section
variable {s : Int} {w n : Nat} {f : Nat → Nat}
theorem blk_step {h : Nat} (hh : h < n) (b r : Nat) : blk s w n f (h + 1) b r = blk s w n f h (2 * b) r + (κ (md s) w ^ 2 ^ (n - (h + 1))) ^ r * blk s w n f h (2 * b + 1) r := by
  obtain ⟨d, hd⟩ : ∃ d, n - h = d + 1 := ⟨n - h - 1, by omega⟩
  have hd2 : n - (h + 1) = d := by omega
  unfold blk
  rw [hd, hd2, br_two, br_odd, show 2 ^ (h + 1) = 2 * 2 ^ h by rw [Nat.pow_succ]; omega,
    radix (fun j => κ (md s) (f (j * 2 ^ d + br d b))) (κ (md s) w ^ 2 ^ d) (2 ^ h) r]
  have e : κ (md s) w ^ 2 ^ (d + 1) = κ (md s) w ^ 2 ^ d * κ (md s) w ^ 2 ^ d := by
    rw [← f_pow_add]; congr 1; rw [Nat.pow_succ]; omega
  rw [e]
  congr 1
  · exact sm_congr fun j _ => by
      rw [show 2 * j * 2 ^ d = j * 2 ^ (d + 1) by rw [Nat.pow_succ, Nat.mul_comm 2 j, Nat.mul_assoc, Nat.mul_comm 2]]
  · congr 1
    exact sm_congr fun j _ => by
      rw [show (2 * j + 1) * 2 ^ d + br d b = j * 2 ^ (d + 1) + (2 ^ d + br d b) by
        rw [Nat.pow_succ, Nat.add_mul, Nat.mul_comm 2 j, Nat.mul_assoc, Nat.mul_comm 2]; omega]
theorem blk_per {h : Nat} (hh : h ≤ n) (hw : κ (md s) w ^ 2 ^ n = 1) (b r : Nat) : blk s w n f h b (r + 2 ^ h) = blk s w n f h b r := by
  unfold blk
  refine sm_congr fun j _ => ?_
  rw [per (H := 2 ^ h)]
  rw [← f_pow_mul, ← Nat.pow_add, show n - h + h = n by omega]; exact hw
theorem stA_blk (hw : κ (md s) w ^ 2 ^ n = 1) (hm : 0 < n → κ (md s) w ^ 2 ^ (n - 1) = -1) : ∀ h, h ≤ n → ∀ b r, b < 2 ^ (n - h) → r < 2 ^ h → κ (md s) (stA s w (2 ^ n) (swF n (2 ^ n) f) h (b * 2 ^ h + r)) = blk s w n f h b r
  | 0, _, b, r, hb, hr => by
    have hr : r = 0 := by simpa using hr
    subst hr
    show κ (md s) (swF n (2 ^ n) f (b * 1 + 0)) = blk s w n f 0 b 0
    rw [Nat.mul_one, Nat.add_zero, swF_all (by simpa using hb)]
    show _ = (0 : Fin (md s)) + κ (md s) (f (0 * 2 ^ n + br n b)) * (κ (md s) w ^ 2 ^ n) ^ (0 * 0)
    rw [Nat.zero_mul, Nat.zero_add, Nat.zero_mul, f_pow_zero]; grind
  | h + 1, hh, b, r, hb, hr => by
    have ih := stA_blk hw hm h (by omega)
    obtain ⟨d, hd⟩ : ∃ d, n - h = d + 1 := ⟨n - h - 1, by omega⟩
    have hd2 : n - (h + 1) = d := by omega
    have hdh : d + h + 1 = n := by omega
    rw [hd, Nat.pow_succ] at ih
    rw [hd2] at hb
    rw [blk_step (by omega), hd2]
    obtain ⟨H, hH⟩ : ∃ H, 2 ^ h = H := ⟨_, rfl⟩
    have hH0 : 0 < H := by rw [← hH]; exact Nat.two_pow_pos h
    have hS : κ (md s) (stW s w (2 ^ n) H) = κ (md s) w ^ 2 ^ d := by
      unfold stW
      rw [κ_mod, κ_pow, ← hH, ← hdh, show 2 * 2 ^ h = 2 ^ (h + 1) by rw [Nat.pow_succ]; omega, show d + h + 1 = d + (h + 1) from rfl, Nat.pow_add, Nat.mul_div_cancel _ (Nat.two_pow_pos _)]
    have hN : (κ (md s) w ^ 2 ^ d) ^ H = -1 := by
      rw [← f_pow_mul, ← hH, ← Nat.pow_add, show d + h = n - 1 by omega]; exact hm (by omega)
    rw [hH] at ih
    show κ (md s) (stF s (stW s w (2 ^ n) (2 ^ h)) (2 ^ h) (stA s w (2 ^ n) (swF n (2 ^ n) f) h) (b * 2 ^ (h + 1) + r)) = _
    rw [Nat.pow_succ, hH] at hr ⊢
    have hbH : b * (H * 2) = 2 * b * H := by rw [Nat.mul_comm H 2, ← Nat.mul_assoc, Nat.mul_comm b 2]
    have hbH1 : (2 * b + 1) * H = 2 * b * H + H := by rw [Nat.add_mul, Nat.one_mul]
    have hmod : (b * (H * 2) + r) % (2 * H) = r := by
      rw [Nat.mul_comm H 2, Nat.mul_comm b, Nat.mul_add_mod, Nat.mod_eq_of_lt (by omega)]
    have ha := ih (2 * b)
    have hb1 := ih (2 * b + 1)
    by_cases hrH : r < H
    · have hmod2 : (b * (H * 2) + r) % H = r := by
        rw [hbH, Nat.mul_comm (2 * b), Nat.mul_add_mod, Nat.mod_eq_of_lt hrH]
      unfold stF
      rw [hmod, if_pos hrH, hmod2, κ_mod, κ_add, κ_mod, κ_mul, κ_pw, hS, hbH, ha r (by omega) hrH,
        show 2 * b * H + r + H = (2 * b + 1) * H + r by rw [hbH1]; omega, hb1 r (by omega) hrH]
      grind
    · obtain ⟨r', rfl⟩ : ∃ r', r = r' + H := ⟨r - H, by omega⟩
      have hr' : r' < H := by omega
      have hmod2 : (b * (H * 2) + (r' + H)) % H = r' := by
        rw [hbH, show 2 * b * H + (r' + H) = H * (2 * b + 1) + r' by rw [Nat.mul_comm H, hbH1]; omega, Nat.mul_add_mod, Nat.mod_eq_of_lt hr']
      unfold stF
      rw [hmod, if_neg hrH, hmod2, κ_sb, κ_mod, κ_mul, κ_pw, hS, hbH, show 2 * b * H + (r' + H) - H = 2 * b * H + r' by omega, ha r' (by omega) hr',
        show 2 * b * H + (r' + H) = (2 * b + 1) * H + r' by rw [hbH1]; omega, hb1 r' (by omega) hr', f_pow_add, hN]
      have p0 := blk_per (f := f) (h := h) (by omega) hw (2 * b) r'
      have p1 := blk_per (f := f) (h := h) (by omega) hw (2 * b + 1) r'
      rw [hH] at p0 p1
      rw [p0, p1]
      grind
/-- The transform: at last place t holds the value at the t-th power. -/
theorem stA_all (hw : κ (md s) w ^ 2 ^ n = 1) (hm : 0 < n → κ (md s) w ^ 2 ^ (n - 1) = -1) {t : Nat} (ht : t < 2 ^ n) : κ (md s) (stA s w (2 ^ n) (swF n (2 ^ n) f) n t) = sm (2 ^ n) (fun j => κ (md s) (f j) * κ (md s) w ^ (t * j)) := by
  have h := stA_blk (f := f) hw hm n (Nat.le_refl n) 0 t (by rw [Nat.sub_self]; decide) ht
  rw [Nat.zero_mul, Nat.zero_add] at h
  rw [h]
  unfold blk
  refine sm_congr fun j _ => ?_
  rw [Nat.sub_self, Nat.pow_zero, Nat.mul_one]
  show κ (md s) (f (j + 0)) * (κ (md s) w ^ 1) ^ (t * j) = _
  rw [Nat.add_zero, show κ (md s) w ^ 1 = κ (md s) w by rw [show (1 : Nat) = 0 + 1 from rfl, f_pow_succ, f_pow_zero]; grind]
theorem stA_lt (hf : n = 0 → f 0 < md s) {t : Nat} (ht : t < 2 ^ n) : stA s w (2 ^ n) (swF n (2 ^ n) f) n t < md s := by
  cases n with
  | zero =>
    have : t = 0 := by simpa using ht
    subst this
    show swF 0 (2 ^ 0) f 0 < md s
    rw [swF_all (by decide)]
    exact hf rfl
  | succ n =>
    show stF s _ _ _ t < md s
    unfold stF
    split
    · exact md_mod _ _
    · exact md_mod _ _
end
/-- Half of a root of unity's order. -/
theorem half_neg {s k : Int} (h : ptO s k = true) (hk : 0 < k.toNat) : κ (md s) (rk s k) ^ 2 ^ (k.toNat - 1) = -1 := by
  have P := pr_of (ptO_iff.1 h).1
  obtain ⟨h1, h2⟩ := rk_facts h
  have h3 := h1 (k.toNat - 1) (by omega)
  rcases f_sq1 P (x := κ (md s) (rk s k) ^ 2 ^ (k.toNat - 1)) (by rw [← f_pow_add, show 2 ^ (k.toNat - 1) + 2 ^ (k.toNat - 1) = 2 ^ (k.toNat - 1 + 1) by rw [Nat.pow_succ]; omega, show k.toNat - 1 + 1 = k.toNat by omega]; exact h2) with h4 | h4
  · exact absurd h4 h3
  · exact h4
/-- The transform of the shifted coefficients: the values. -/
theorem tr_values {s : Int} {n sh : Nat} {l : List Nat} (h : ptO s n = true) (hl : l.length ≤ 2 ^ n) {t : Nat} (ht : t < 2 ^ n) : stA s (rk s n) (2 ^ n) (swF n (2 ^ n) (shF s sh l)) n t = vaF s n sh l t := by
  obtain ⟨h1, h2⟩ := rk_facts h
  have hlt : stA s (rk s n) (2 ^ n) (swF n (2 ^ n) (shF s sh l)) n t < md s := stA_lt (fun _ => by unfold shF; split; exact md_mod _ _; exact md_pos s) ht
  have hlv : vaF s n sh l t < md s := evp_md _ _ _
  have key : κ (md s) (stA s (rk s n) (2 ^ n) (swF n (2 ^ n) (shF s sh l)) n t) = κ (md s) (vaF s n sh l t) := by
    have h2' : κ (md s) (rk s n) ^ 2 ^ n = 1 := h2
    have h3' : 0 < n → κ (md s) (rk s n) ^ 2 ^ (n - 1) = -1 := fun hn => half_neg h hn
    rw [stA_all (f := shF s sh l) h2' h3' ht]
    unfold vaF
    rw [κ_evp, κ_mod, κ_mul, ptk, evk_sm]
    obtain ⟨j, hj⟩ : ∃ j, 2 ^ n = l.length + j := ⟨2 ^ n - l.length, by omega⟩
    rw [hj, sm_more]
    · refine sm_congr fun i hi => ?_
      unfold shF
      rw [if_pos hi, κ_mod, κ_mul, κ_pw, f_mul_pow, f_pow_mul]
      show _ = κ (md s) (l.getD i 0) * _
      grind
    · intro i h1 _
      unfold shF
      rw [if_neg (by omega), κ_zero]; grind
  rw [κ_inj, Nat.mod_eq_of_lt hlt, Nat.mod_eq_of_lt hlv] at key
  exact key
section
variable {s : Int} {n : Nat} {l : List Nat}
theorem back_pow (h : ptO s n = true) (j : Nat) : κ (md s) (rk s n) ^ j * κ (md s) (inv s (rk s n)) ^ j = 1 := by
  rw [← f_mul_pow, κ_inv, ι_mul (pr_of (ptO_iff.1 h).1) (rk_ne h), f_one_pow]
theorem back_one (h : ptO s n = true) : κ (md s) (inv s (rk s n)) ^ 2 ^ n = 1 := by
  have h1 := back_pow h (2 ^ n)
  have h2 : κ (md s) (rk s n) ^ 2 ^ n = 1 := (rk_facts h).2
  rw [h2] at h1
  rw [← h1]; grind
theorem pt_back (h : ptO s n = true) {j : Nat} (hj : j < 2 ^ n) : κ (md s) (pt s n ((2 ^ n - j) % 2 ^ n)) = κ (md s) (inv s (rk s n)) ^ j := by
  have h2 : κ (md s) (rk s n) ^ 2 ^ n = 1 := (rk_facts h).2
  rw [ptk]
  rcases Nat.eq_zero_or_pos j with rfl | hj0
  · rw [Nat.sub_zero, Nat.mod_self, f_pow_zero, f_pow_zero]
  · rw [Nat.mod_eq_of_lt (by omega)]
    have h3 := back_pow h j
    have h4 : κ (md s) (rk s n) ^ (2 ^ n - j) * κ (md s) (rk s n) ^ j = 1 := by
      rw [← f_pow_add, Nat.sub_add_cancel (by omega), h2]
    grind
end
end Go.Sx
