/-
  The transform's law: what it holds at last are the values at the powers of the root. No conditions.
-/
import Derived.Test.YtmjhaopkhceegaaZDoi
namespace Go.Sx
open Go.Proofs Go.Num
set_option maxRecDepth 100000
set_option linter.unusedSimpArgs false
section
variable {m : Nat} [NeZero m]
/-- A sum over the numbers below n. -/
def sm : Nat → (Nat → Fin m) → Fin m
  | 0, _ => 0
  | n + 1, g => sm n g + g n
theorem sm_congr {g h : Nat → Fin m} : ∀ {n : Nat}, (∀ i, i < n → g i = h i) → sm n g = sm n h
  | 0, _ => rfl
  | n + 1, e => by
    show sm n g + g n = sm n h + h n
    rw [sm_congr fun i hi => e i (by omega), e n (by omega)]
theorem sm_add (g h : Nat → Fin m) : ∀ n, sm n (fun i => g i + h i) = sm n g + sm n h
  | 0 => by show (0 : Fin m) = 0 + 0; grind
  | n + 1 => by
    show sm n (fun i => g i + h i) + (g n + h n) = (sm n g + g n) + (sm n h + h n)
    rw [sm_add g h n]; grind
theorem sm_scale (c : Fin m) (g : Nat → Fin m) : ∀ n, sm n (fun i => c * g i) = c * sm n g
  | 0 => by show (0 : Fin m) = c * 0; grind
  | n + 1 => by
    show sm n (fun i => c * g i) + c * g n = c * (sm n g + g n)
    rw [sm_scale c g n]; grind
theorem sm_zero {g : Nat → Fin m} : ∀ {n : Nat}, (∀ i, i < n → g i = 0) → sm n g = 0
  | 0, _ => rfl
  | n + 1, h => by
    show sm n g + g n = 0
    rw [sm_zero fun i hi => h i (by omega), h n (by omega)]; grind
theorem sm_front (g : Nat → Fin m) : ∀ n, sm (n + 1) g = g 0 + sm n (fun i => g (i + 1))
  | 0 => by show (0 : Fin m) + g 0 = g 0 + 0; grind
  | n + 1 => by
    show sm (n + 1) g + g (n + 1) = g 0 + (sm n (fun i => g (i + 1)) + g (n + 1))
    rw [sm_front g n]; grind
theorem sm_more {g : Nat → Fin m} {n : Nat} : ∀ {j : Nat}, (∀ i, n ≤ i → i < n + j → g i = 0) → sm (n + j) g = sm n g
  | 0, _ => rfl
  | j + 1, h => by
    show sm (n + j) g + g (n + j) = sm n g
    rw [sm_more fun i h1 h2 => h i h1 (by omega), h (n + j) (by omega) (by omega)]; grind
theorem evk_sm (x : Fin m) : ∀ l : List Nat, evk x l = sm l.length (fun i => co m l i * x ^ i)
  | [] => rfl
  | c :: l => by
    unfold evk
    rw [evk_sm x l, List.length_cons, sm_front, ← sm_scale, co_0, f_pow_zero]
    have : sm l.length (fun i => x * (co m l i * x ^ i)) = sm l.length (fun i => co m (c :: l) (i + 1) * x ^ (i + 1)) := sm_congr fun i _ => by
      rw [co_s, f_pow_succ]; grind
    rw [this]; grind
end
/-- What a block holds after h stages. -/
def blk (s : Int) (w n : Nat) (f : Nat → Nat) (h b r : Nat) : Fin (md s) :=
  sm (2 ^ h) (fun j => κ (md s) (f (j * 2 ^ (n - h) + br (n - h) b)) * (κ (md s) w ^ 2 ^ (n - h)) ^ (r * j))
section
variable {s : Int} {w n : Nat} {f : Nat → Nat}
end
section
variable {s : Int} {n : Nat} {l : List Nat}
theorem back_pow (h : ptO s n = true) (j : Nat) : κ (md s) (rk s n) ^ j * κ (md s) (inv s (rk s n)) ^ j = 1 := by
  rw [← f_mul_pow, κ_inv, ι_mul (pr_of (ptO_iff.1 h).1) (rk_ne h), f_one_pow]
theorem back_one (h : ptO s n = true) : κ (md s) (inv s (rk s n)) ^ 2 ^ n = 1 := by
  have h1 := back_pow h (2 ^ n)
  have h2 : κ (md s) (rk s n) ^ 2 ^ n = 1 := (rk_facts h).2
  rw [h2] at h1
  rw [← h1]; grind
theorem pt_back (h : ptO s n = true) {j : Nat} (hj : j < 2 ^ n) : κ (md s) (pt s n ((2 ^ n - j) % 2 ^ n)) = κ (md s) (inv s (rk s n)) ^ j := by
  have h2 : κ (md s) (rk s n) ^ 2 ^ n = 1 := (rk_facts h).2
  rw [ptk]
  rcases Nat.eq_zero_or_pos j with rfl | hj0
  · rw [Nat.sub_zero, Nat.mod_self, f_pow_zero, f_pow_zero]
  · rw [Nat.mod_eq_of_lt (by omega)]
    have h3 := back_pow h j
    have h4 : κ (md s) (rk s n) ^ (2 ^ n - j) * κ (md s) (rk s n) ^ j = 1 := by
      rw [← f_pow_add, Nat.sub_add_cancel (by omega), h2]
    grind
end
end Go.Sx
