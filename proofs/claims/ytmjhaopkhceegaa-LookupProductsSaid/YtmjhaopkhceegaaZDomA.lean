/-
  Layer 6: sizes, points, what vanishes, of domain and of the reference. Points of the reference; the powers of a root of unity. Lagrange of domain and of the reference. Lagrange of the reference. Roots of unity: points, what vanishes, Lagrange's polynomials. Lagrange's polynomials by one formula. Both Lagranges are one. Values of the reference; what is asked before a transform. Reversed bits. The transform in place: what it holds. The transform's law: what it holds at last are the values at the powers of the root. No conditions.
-/
import Derived.Test.YtmjhaopkhceegaaZPpj
import Derived.Test.YtmjhaopkhceegaaZSqrA
import Derived.Test.YtmjhaopkhceegaaZDed
namespace Go.Sx
open Go.Proofs Go.Num
-- SY
-- TY: TYX, UX
set_option maxRecDepth 100000
set_option linter.unusedSimpArgs false
set_option pp.deepTerms true
set_option pp.maxSteps 100000
theorem shl_i {k : Nat} (h : k ≤ 9) : IntKind.i64.wrap (1 * 2 ^ (min k IntKind.i64.bits)) = ((2 ^ k : Nat) : Int) := by
  have : k = 0 ∨ k = 1 ∨ k = 2 ∨ k = 3 ∨ k = 4 ∨ k = 5 ∨ k = 6 ∨ k = 7 ∨ k = 8 ∨ k = 9 := by omega
  rcases this with h | h | h | h | h | h | h | h | h | h <;> subst h <;> decide
/-- Is it a size? -/
def szO (k : Int) : Bool := decide (0 ≤ k) && decide (k ≤ 9)
/-! ### powers -/
def pw (s : Int) (a x : Nat) : Nat → Nat
  | 0 => a
  | i + 1 => pw s a x i * x % md s
/-! ### points -/
def ptO (s k : Int) : Bool := kn s && szO k
theorem ptO_iff {s k : Int} : ptO s k = true ↔ kn s = true ∧ 0 ≤ k ∧ k ≤ 9 := by simp [ptO, szO]
theorem adc9 {s : Int} (h : kn s = true) : 9 ≤ adc s := by
  rcases sort_cases s with rfl | rfl | rfl | rfl | ⟨h0, h1, h2, h3⟩
  · decide
  · decide
  · decide
  · decide
  · exfalso; simp [kn, h0, h1, h2, h3] at h
/-! ### what vanishes at all points -/
end Go.Sx
namespace Go.Sx
open Go.Proofs Go.Num
-- SY
-- TY: TYX, UX
set_option maxRecDepth 100000
set_option linter.unusedSimpArgs false
set_option pp.deepTerms true
set_option pp.maxSteps 100000
theorem b_shl_iu {P : Program} {T : Nat → AV} {ty ty' : TypeId} {x y : Operand} {p : Int} {b : Nat} : binOn P T .shl ty x y ty' (.o (.v (.int .i64 p))) (.o (.v (u64 b))) = .ok (0 ≤ (b : Int)) (val (.int .i64 (IntKind.i64.wrap (p * 2 ^ (min b IntKind.i64.bits))))) := rfl
end Go.Sx
namespace Go.Sx
open Go.Proofs Go.Num
-- SY
-- TY: TYX, UX
set_option maxRecDepth 100000
set_option linter.unusedSimpArgs false
set_option pp.deepTerms true
set_option pp.maxSteps 100000
/-- A point. -/
def pt (s k : Int) (i : Nat) : Nat := pw s 1 (rk s k) i
end Go.Sx
namespace Go.Sx
open Go.Proofs Go.Num
-- SY
-- TY: TYX, UX
set_option maxRecDepth 100000
set_option linter.unusedSimpArgs false
set_option pp.deepTerms true
set_option pp.maxSteps 100000
end Go.Sx
namespace Go.Sx
open Go.Proofs Go.Num
set_option maxRecDepth 100000
set_option linter.unusedSimpArgs false
section
variable {m : Nat} [NeZero m]
/-- An order that is a power of two divides. -/
theorem ord_dvd : ∀ (k : Nat) {w : Fin m} {d : Nat}, (∀ i, i < k → w ^ 2 ^ i ≠ 1) → w ^ 2 ^ k = 1 → w ^ d = 1 → 2 ^ k ∣ d
  | 0, _, d, _, _, _ => by simp
  | k + 1, w, d, h1, h2, h3 => by
    have e : ∀ j, (w * w) ^ j = w ^ (2 * j) := fun j => by
      rw [f_pow_mul w 2 j]; congr 1; grind
    have hd : 2 ^ k ∣ d := by
      refine ord_dvd k (w := w * w) (d := d) (fun i hi => ?_) ?_ ?_
      · rw [e, show 2 * 2 ^ i = 2 ^ (i + 1) by rw [Nat.pow_succ]; omega]; exact h1 (i + 1) (by omega)
      · rw [e, show 2 * 2 ^ k = 2 ^ (k + 1) by rw [Nat.pow_succ]; omega]; exact h2
      · rw [e, Nat.mul_comm, f_pow_mul, h3, f_one_pow]
    rcases Nat.mod_two_eq_zero_or_one d with hd2 | hd2
    · obtain ⟨c, rfl⟩ : ∃ c, d = 2 * c := ⟨d / 2, by omega⟩
      have : 2 ^ k ∣ c := by
        refine ord_dvd k (w := w * w) (d := c) (fun i hi => ?_) ?_ ?_
        · rw [e, show 2 * 2 ^ i = 2 ^ (i + 1) by rw [Nat.pow_succ]; omega]; exact h1 (i + 1) (by omega)
        · rw [e, show 2 * 2 ^ k = 2 ^ (k + 1) by rw [Nat.pow_succ]; omega]; exact h2
        · rw [e]; exact h3
      rw [Nat.pow_succ, Nat.mul_comm]
      exact Nat.mul_dvd_mul_left 2 this
    · exfalso
      cases k with
      | succ k =>
        have : 2 ∣ d := Nat.dvd_trans ⟨2 ^ k, by rw [Nat.pow_succ]; omega⟩ hd
        omega
      | zero =>
        obtain ⟨c, rfl⟩ : ∃ c, d = 2 * c + 1 := ⟨d / 2, by omega⟩
        have h4 : w ^ (2 * c) = 1 := by
          rw [f_pow_mul]
          have : w ^ 2 = 1 := h2
          rw [this, f_one_pow]
        rw [f_pow_add, h4] at h3
        refine h1 0 (by omega) ?_
        rw [← h3]
        grind
end
theorem κ_pw {s : Int} {x : Nat} : ∀ i, κ (md s) (pw s 1 x i) = κ (md s) x ^ i
  | 0 => by rw [f_pow_zero]; exact κ_one
  | i + 1 => by
    show κ (md s) (pw s 1 x i * x % md s) = _
    rw [κ_mod, κ_mul, κ_pw i, f_pow_succ]
theorem ptk {s k : Int} (i : Nat) : κ (md s) (pt s k i) = κ (md s) (rk s k) ^ i := κ_pw i
section
variable {s k : Int}
theorem sS9 (h : kn s = true) : 8 ≤ sS s := by
  rcases sort_cases s with rfl | rfl | rfl | rfl | ⟨h0, h1, h2, h3⟩
  · decide
  · decide
  · decide
  · decide
  · exfalso; simp [kn, h0, h1, h2, h3] at h
theorem rk_facts (h : ptO s k = true) : (∀ i, i < k.toNat → κ (md s) (rk s k) ^ 2 ^ i ≠ 1) ∧ κ (md s) (rk s k) ^ 2 ^ k.toNat = 1 := by
  obtain ⟨h1, h2, h3⟩ := ptO_iff.1 h
  have P := pr_of h1
  have h9 := sS9 h1
  have ha := adc9 h1
  have hr : rk s k = 5 ^ ((md s - 1) / 2 ^ k.toNat) % md s := by
    unfold rk
    have hr : rkO s k := ⟨h2, by omega⟩
    rw [if_pos ⟨h1, hr⟩]
  obtain ⟨g1, g2⟩ := rk_ord h1 (j := k.toNat) (by omega) hr
  constructor
  · intro i hi
    rw [← κ_pow, Ne, κ_eq1 P.1]
    exact g1 i hi
  · rw [← κ_pow, κ_eq1 P.1]
    exact g2
theorem rk_ne (h : ptO s k = true) : κ (md s) (rk s k) ≠ 0 := by
  have P := pr_of (ptO_iff.1 h).1
  obtain ⟨_, h2⟩ := rk_facts h
  intro h0
  rw [h0] at h2
  have hp : 0 < 2 ^ k.toNat := Nat.two_pow_pos _
  obtain ⟨c, hc⟩ : ∃ c, 2 ^ k.toNat = c + 1 := ⟨2 ^ k.toNat - 1, by omega⟩
  rw [hc, f_pow_succ] at h2
  exact f_one_ne P (by rw [← h2]; grind)
/-- The points are no two the same. -/
theorem pt_inj (h : ptO s k = true) {i j : Nat} (hi : i < 2 ^ k.toNat) (hj : j < 2 ^ k.toNat) (e : κ (md s) (pt s k i) = κ (md s) (pt s k j)) : i = j := by
  have P := pr_of (ptO_iff.1 h).1
  obtain ⟨h1, h2⟩ := rk_facts h
  have key : ∀ i j, i ≤ j → j < 2 ^ k.toNat → κ (md s) (rk s k) ^ i = κ (md s) (rk s k) ^ j → i = j := by
    intro i j hij hj e
    obtain ⟨d, rfl⟩ : ∃ d, j = i + d := ⟨j - i, by omega⟩
    rw [f_pow_add] at e
    have hne := f_pow_ne P (rk_ne h) i
    have h3 : κ (md s) (rk s k) ^ i * (κ (md s) (rk s k) ^ d - 1) = 0 := by grind
    have h4 : κ (md s) (rk s k) ^ d = 1 := by
      have := (f_nzd P h3).resolve_left hne
      grind
    have h5 := ord_dvd _ h1 h2 h4
    rcases Nat.eq_zero_or_pos d with h6 | h6
    · omega
    · have := Nat.le_of_dvd h6 h5
      omega
  rw [ptk, ptk] at e
  rcases Nat.le_total i j with hij | hij
  · exact key i j hij hj e
  · exact (key j i hij hi e.symm).symm
end
end Go.Sx
namespace Go.Sx
open Go.Proofs Go.Num
set_option maxRecDepth 100000
set_option linter.unusedSimpArgs false
section
variable {m : Nat} [NeZero m]
end
section
variable {s : Int}
end
section
variable {s k : Int}
end
end Go.Sx
namespace Go.Sx
open Go.Proofs Go.Num
set_option maxRecDepth 100000
set_option linter.unusedSimpArgs false
section
variable {s k : Int}
theorem two_ne (h : kn s = true) : κ (md s) 2 ≠ 0 := by
  cases srt s with
  | no hk => rw [h] at hk; cases hk
  | yes _ _ _ _ _ _ _ _ h2 => rw [Ne, κ_eq0, Nat.mod_eq_of_lt h2]; decide
theorem n_ne (h : ptO s k = true) : κ (md s) (2 ^ k.toNat) ≠ 0 := by
  have hk := (ptO_iff.1 h).1
  rw [κ_pow]
  exact f_pow_ne (pr_of hk) (two_ne hk) _
end
end Go.Sx
namespace Go.Sx
open Go.Proofs Go.Num
-- SY
-- TY: TYX, UX
set_option maxRecDepth 100000
set_option linter.unusedSimpArgs false
set_option pp.deepTerms true
set_option pp.maxSteps 100000
def vaF (s k : Int) (sh : Nat) (l : List Nat) (i : Nat) : Nat := evp (md s) (sh * pt s k i % md s) l
def coB (s k : Int) (sh : Nat) : Nat → Nat := pw s (inv s (iN s ((2 ^ k.toNat : Nat) : Int))) (inv s sh)
def coF (s k : Int) (sh : Nat) (l : List Nat) (j : Nat) : Nat := evp (md s) (pt s k ((2 ^ k.toNat - j) % 2 ^ k.toNat)) l * coB s k sh j % md s
end Go.Sx
namespace Go.Sx
open Go.Proofs Go.Num
-- SY
-- TY: TYX, UX
set_option maxRecDepth 100000
set_option linter.unusedSimpArgs false
set_option pp.deepTerms true
set_option pp.maxSteps 100000
/-- The bits of a number below 2^k, turned round. -/
def br : Nat → Nat → Nat
  | 0, _ => 0
  | k + 1, i => i % 2 * 2 ^ k + br k (i / 2)
end Go.Sx
namespace Go.Sx
open Go.Proofs Go.Num
-- SY
-- TY: TYX, UX
set_option maxRecDepth 100000
set_option linter.unusedSimpArgs false
set_option pp.deepTerms true
set_option pp.maxSteps 100000
section
variable {s : Int} {st H b i N q : Nat} {A : Nat → Nat}
end
end Go.Sx
namespace Go.Sx
open Go.Proofs Go.Num
set_option maxRecDepth 100000
set_option linter.unusedSimpArgs false
section
variable {m : Nat} [NeZero m]
/-- A sum over the numbers below n. -/
def sm : Nat → (Nat → Fin m) → Fin m
  | 0, _ => 0
  | n + 1, g => sm n g + g n
theorem sm_congr {g h : Nat → Fin m} : ∀ {n : Nat}, (∀ i, i < n → g i = h i) → sm n g = sm n h
  | 0, _ => rfl
  | n + 1, e => by
    show sm n g + g n = sm n h + h n
    rw [sm_congr fun i hi => e i (by omega), e n (by omega)]
theorem sm_add (g h : Nat → Fin m) : ∀ n, sm n (fun i => g i + h i) = sm n g + sm n h
  | 0 => by show (0 : Fin m) = 0 + 0; grind
  | n + 1 => by
    show sm n (fun i => g i + h i) + (g n + h n) = (sm n g + g n) + (sm n h + h n)
    rw [sm_add g h n]; grind
theorem sm_scale (c : Fin m) (g : Nat → Fin m) : ∀ n, sm n (fun i => c * g i) = c * sm n g
  | 0 => by show (0 : Fin m) = c * 0; grind
  | n + 1 => by
    show sm n (fun i => c * g i) + c * g n = c * (sm n g + g n)
    rw [sm_scale c g n]; grind
theorem sm_zero {g : Nat → Fin m} : ∀ {n : Nat}, (∀ i, i < n → g i = 0) → sm n g = 0
  | 0, _ => rfl
  | n + 1, h => by
    show sm n g + g n = 0
    rw [sm_zero fun i hi => h i (by omega), h n (by omega)]; grind
theorem sm_front (g : Nat → Fin m) : ∀ n, sm (n + 1) g = g 0 + sm n (fun i => g (i + 1))
  | 0 => by show (0 : Fin m) + g 0 = g 0 + 0; grind
  | n + 1 => by
    show sm (n + 1) g + g (n + 1) = g 0 + (sm n (fun i => g (i + 1)) + g (n + 1))
    rw [sm_front g n]; grind
theorem sm_more {g : Nat → Fin m} {n : Nat} : ∀ {j : Nat}, (∀ i, n ≤ i → i < n + j → g i = 0) → sm (n + j) g = sm n g
  | 0, _ => rfl
  | j + 1, h => by
    show sm (n + j) g + g (n + j) = sm n g
    rw [sm_more fun i h1 h2 => h i h1 (by omega), h (n + j) (by omega) (by omega)]; grind
theorem evk_sm (x : Fin m) : ∀ l : List Nat, evk x l = sm l.length (fun i => co m l i * x ^ i)
  | [] => rfl
  | c :: l => by
    unfold evk
    rw [evk_sm x l, List.length_cons, sm_front, ← sm_scale, co_0, f_pow_zero]
    have : sm l.length (fun i => x * (co m l i * x ^ i)) = sm l.length (fun i => co m (c :: l) (i + 1) * x ^ (i + 1)) := sm_congr fun i _ => by
      rw [co_s, f_pow_succ]; grind
    rw [this]; grind
end
/-- What a block holds after h stages. -/
def blk (s : Int) (w n : Nat) (f : Nat → Nat) (h b r : Nat) : Fin (md s) :=
  sm (2 ^ h) (fun j => κ (md s) (f (j * 2 ^ (n - h) + br (n - h) b)) * (κ (md s) w ^ 2 ^ (n - h)) ^ (r * j))
section
variable {s : Int} {w n : Nat} {f : Nat → Nat}
end
section
variable {s : Int} {n : Nat} {l : List Nat}
theorem back_pow (h : ptO s n = true) (j : Nat) : κ (md s) (rk s n) ^ j * κ (md s) (inv s (rk s n)) ^ j = 1 := by
  rw [← f_mul_pow, κ_inv, ι_mul (pr_of (ptO_iff.1 h).1) (rk_ne h), f_one_pow]
theorem back_one (h : ptO s n = true) : κ (md s) (inv s (rk s n)) ^ 2 ^ n = 1 := by
  have h1 := back_pow h (2 ^ n)
  have h2 : κ (md s) (rk s n) ^ 2 ^ n = 1 := (rk_facts h).2
  rw [h2] at h1
  rw [← h1]; grind
theorem pt_back (h : ptO s n = true) {j : Nat} (hj : j < 2 ^ n) : κ (md s) (pt s n ((2 ^ n - j) % 2 ^ n)) = κ (md s) (inv s (rk s n)) ^ j := by
  have h2 : κ (md s) (rk s n) ^ 2 ^ n = 1 := (rk_facts h).2
  rw [ptk]
  rcases Nat.eq_zero_or_pos j with rfl | hj0
  · rw [Nat.sub_zero, Nat.mod_self, f_pow_zero, f_pow_zero]
  · rw [Nat.mod_eq_of_lt (by omega)]
    have h3 := back_pow h j
    have h4 : κ (md s) (rk s n) ^ (2 ^ n - j) * κ (md s) (rk s n) ^ j = 1 := by
      rw [← f_pow_add, Nat.sub_add_cancel (by omega), h2]
    grind
end
end Go.Sx
