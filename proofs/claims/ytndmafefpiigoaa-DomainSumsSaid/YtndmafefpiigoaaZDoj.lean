/-
  The transform in place: what it holds. No conditions.
-/
import Derived.Test.YtndmafefpiigoaaZDoi
namespace Go.Sx
open Go.Proofs Go.Num
-- SY
-- TY: TYX, UX
set_option maxRecDepth 100000
set_option linter.unusedSimpArgs false
set_option pp.deepTerms true
set_option pp.maxSteps 100000
/-- The coefficients over the shift. -/
def shF (s : Int) (sh : Nat) (l : List Nat) (i : Nat) : Nat := if i < l.length then l.getD i 0 * pw s 1 sh i % md s else 0
def shG (s : Int) (sh : Nat) (l : List Nat) (j i : Nat) : Nat := if i < j then l.getD i 0 * pw s 1 sh i % md s else 0
/-- The places changed, when the first i are through. -/
def swF (k i : Nat) (f : Nat → Nat) (t : Nat) : Nat := if min t (br k t) < i then f (br k t) else f t
theorem swF_0 {k : Nat} {f : Nat → Nat} : swF k 0 f = f := by funext t; unfold swF; rw [if_neg (by omega)]
theorem br_ok : ∀ k, k < 10 → ∀ t, t < 2 ^ k → br k t < 2 ^ k ∧ br k (br k t) = t := by decide +kernel
theorem swF_no {k i N : Nat} {f : Nat → Nat} (hk : k ≤ 9) (hN : 2 ^ k = N) (hi : i < N) (h : br k i ≤ i) : tab N (swF k i f) = tab N (swF k (i + 1) f) := by
  refine tab_congr fun t ht => ?_
  obtain ⟨b1, b2⟩ := br_ok k (by omega) t (by omega)
  unfold swF
  by_cases h1 : min t (br k t) < i
  · rw [if_pos h1, if_pos (by omega)]
  · rw [if_neg h1]
    by_cases h2 : min t (br k t) < i + 1
    · rw [if_pos h2]
      have h3 : min t (br k t) = i := by omega
      by_cases h4 : t = i
      · subst h4
        have : br k t = t := by omega
        rw [this]
      · have h5 : br k t = i := by omega
        rw [h5] at b2
        omega
    · rw [if_neg h2]
theorem swF_yes {k i N : Nat} {f : Nat → Nat} (hk : k ≤ 9) (hN : 2 ^ k = N) (hi : i < N) (h : i < br k i) : ((tab N (swF k i f)).set i (swF k i f (br k i))).set (br k i) (swF k i f i) = tab N (swF k (i + 1) f) := by
  obtain ⟨b1, b2⟩ := br_ok k (by omega) i (by omega)
  rw [tab_set, tab_set]
  refine tab_congr fun t ht => ?_
  obtain ⟨c1, c2⟩ := br_ok k (by omega) t (by omega)
  by_cases h1 : t = br k i
  · rw [if_pos h1]
    unfold swF
    rw [h1, b2, if_neg (by omega), if_pos (by omega)]
  · rw [if_neg h1]
    by_cases h2 : t = i
    · rw [if_pos h2]
      unfold swF
      rw [h2, b2, if_neg (by omega), if_pos (by omega)]
    · rw [if_neg h2]
      unfold swF
      by_cases h3 : min t (br k t) < i
      · rw [if_pos h3, if_pos (by omega)]
      · have h4 : ¬ min t (br k t) < i + 1 := by
          intro h5
          have h6 : br k t = i := by omega
          rw [h6] at c2
          exact h1 c2.symm
        rw [if_neg h3, if_neg h4]
theorem br_bits : ∀ k, k < 10 → ∀ i, i < 2 ^ k → bits .and .i64 (((rvP (i * 2 ^ (63 - (k - 1)) % 18446744073709551616) : Int) + 9223372036854775808) % 18446744073709551616 - 9223372036854775808) (((2 ^ k : Nat) : Int) - 1) = (br k i : Int) := by decide +kernel
theorem br_go {k i : Nat} (hk : k ≤ 9) (hi : i < 2 ^ k) : bits .and .i64 (((rv64 (ushl ((i : Int) % 18446744073709551616).toNat (63 - (k - 1))) : Int) + 9223372036854775808) % 18446744073709551616 - 9223372036854775808) (IntKind.i64.wrap (((2 ^ k : Nat) : Int) - 1)) = (br k i : Int) := by
  have hp := pow_le9 hk
  have hpos := Nat.two_pow_pos k
  have e1 : ((i : Int) % 18446744073709551616).toNat = i := by omega
  have e2 : IntKind.i64.wrap (((2 ^ k : Nat) : Int) - 1) = ((2 ^ k : Nat) : Int) - 1 := wI (by omega) (by omega)
  have e3 : ushl i (63 - (k - 1)) = i * 2 ^ (63 - (k - 1)) % 18446744073709551616 := by
    rw [ushl_eq]; unfold sh; rw [Nat.min_eq_left (by omega)]
  rw [e1, e2, e3, rv64_eq (Nat.mod_lt _ (by decide))]
  exact br_bits k (by omega) i hi
/-- A stage: what place t holds after it. -/
def stF (s : Int) (st half : Nat) (A : Nat → Nat) (t : Nat) : Nat := if t % (2 * half) < half then (A t + A (t + half) * pw s 1 st (t % half) % md s) % md s else sb (md s) (A (t - half)) (A t * pw s 1 st (t % half) % md s)
/-- The step of a stage. -/
def stW (s : Int) (w N half : Nat) : Nat := w ^ (N / (2 * half)) % md s
/-- After the first h stages. -/
def stA (s : Int) (w N : Nat) (f : Nat → Nat) : Nat → Nat → Nat
  | 0 => f
  | h + 1 => stF s (stW s w N (2 ^ h)) (2 ^ h) (stA s w N f h)
/-- Within a stage: the blocks below at are through, and i places of the block at. -/
def stP (s : Int) (st half at' i : Nat) (A : Nat → Nat) (t : Nat) : Nat := if t / (2 * half) * (2 * half) < at' ∨ (t / (2 * half) * (2 * half) = at' ∧ t % half < i) then stF s st half A t else A t
section
variable {s : Int} {st H b i N q : Nat} {A : Nat → Nat}
theorem ite_iff {P Q : Prop} [Decidable P] [Decidable Q] {x y : Nat} (h : P ↔ Q) : (if P then x else y) = if Q then x else y := by
  by_cases hp : P
  · rw [if_pos hp, if_pos (h.1 hp)]
  · rw [if_neg hp, if_neg fun hq => hp (h.2 hq)]
theorem blk_x (hi : i < H) : (2 * H * b + i) / (2 * H) = b ∧ (2 * H * b + i) % (2 * H) = i ∧ (2 * H * b + i) % H = i := by
  refine ⟨?_, ?_, ?_⟩
  · rw [Nat.mul_add_div (by omega), Nat.div_eq_of_lt (by omega)]; omega
  · rw [Nat.mul_add_mod, Nat.mod_eq_of_lt (by omega)]
  · rw [show 2 * H * b + i = H * (2 * b) + i by rw [Nat.mul_comm 2 H, Nat.mul_assoc], Nat.mul_add_mod, Nat.mod_eq_of_lt hi]
theorem blk_y (hi : i < H) : (2 * H * b + H + i) / (2 * H) = b ∧ (2 * H * b + H + i) % (2 * H) = H + i ∧ (2 * H * b + H + i) % H = i := by
  refine ⟨?_, ?_, ?_⟩
  · rw [Nat.add_assoc, Nat.mul_add_div (by omega), Nat.div_eq_of_lt (by omega)]; omega
  · rw [Nat.add_assoc, Nat.mul_add_mod, Nat.mod_eq_of_lt (by omega)]
  · rw [show 2 * H * b + H + i = H * (2 * b + 1) + i by rw [Nat.mul_comm 2 H, Nat.mul_assoc, Nat.mul_add, Nat.mul_one], Nat.mul_add_mod, Nat.mod_eq_of_lt hi]
theorem stP_eq (hH : 0 < H) (t : Nat) : stP s st H (2 * H * b) i A t = if t / (2 * H) < b ∨ (t / (2 * H) = b ∧ t % H < i) then stF s st H A t else A t := by
  unfold stP
  have e1 : t / (2 * H) * (2 * H) < 2 * H * b ↔ t / (2 * H) < b := by
    rw [Nat.mul_comm (2 * H) b]; exact Nat.mul_lt_mul_right (by omega)
  have e2 : t / (2 * H) * (2 * H) = 2 * H * b ↔ t / (2 * H) = b := by
    rw [Nat.mul_comm (2 * H) b]; exact Nat.mul_left_inj (by omega)
  exact ite_iff (or_congr e1 (⟨fun h => ⟨e2.1 h.1, h.2⟩, fun h => ⟨e2.2 h.1, h.2⟩⟩))
theorem stP_x (hi : i < H) : stP s st H (2 * H * b) i A (2 * H * b + i) = A (2 * H * b + i) := by
  obtain ⟨e1, _, e3⟩ := blk_x (b := b) hi
  rw [stP_eq (by omega), e1, e3, if_neg (by omega)]
theorem stP_y (hi : i < H) : stP s st H (2 * H * b) i A (2 * H * b + H + i) = A (2 * H * b + H + i) := by
  obtain ⟨e1, _, e3⟩ := blk_y (b := b) hi
  rw [stP_eq (by omega), e1, e3, if_neg (by omega)]
theorem stP_set (hi : i < H) : ((tab N (stP s st H (2 * H * b) i A)).set (2 * H * b + i) ((A (2 * H * b + i) + A (2 * H * b + H + i) * pw s 1 st i % md s) % md s)).set (2 * H * b + H + i) (sb (md s) (A (2 * H * b + i)) (A (2 * H * b + H + i) * pw s 1 st i % md s)) = tab N (stP s st H (2 * H * b) (i + 1) A) := by
  rw [tab_set, tab_set]
  refine tab_congr fun t _ => ?_
  obtain ⟨x1, x2, x3⟩ := blk_x (b := b) hi
  obtain ⟨y1, y2, y3⟩ := blk_y (b := b) hi
  rw [stP_eq (by omega), stP_eq (by omega)]
  by_cases hy : t = 2 * H * b + H + i
  · rw [if_pos hy, hy, y1, y3, if_pos (by omega)]
    unfold stF
    rw [y2, if_neg (by omega), y3, show 2 * H * b + H + i - H = 2 * H * b + i by omega]
  · rw [if_neg hy]
    by_cases hx : t = 2 * H * b + i
    · rw [if_pos hx, hx, x1, x3, if_pos (by omega)]
      unfold stF
      rw [x2, if_pos hi, x3, show 2 * H * b + i + H = 2 * H * b + H + i by omega]
    · rw [if_neg hx]
      have key : t / (2 * H) = b → t % H ≠ i := by
        intro h1 h2
        have h3 := Nat.div_add_mod t (2 * H)
        rw [h1] at h3
        have h4 : t % (2 * H) < 2 * H := Nat.mod_lt _ (by omega)
        have h5 : t % (2 * H) % H = t % H := Nat.mod_mod_of_dvd t ⟨2, by omega⟩
        rw [h2] at h5
        rcases Nat.lt_or_ge (t % (2 * H)) H with h6 | h6
        · rw [Nat.mod_eq_of_lt h6] at h5; omega
        · rw [Nat.mod_eq_sub_mod h6, Nat.mod_eq_of_lt (by omega)] at h5; omega
      have e : (t / (2 * H) < b ∨ (t / (2 * H) = b ∧ t % H < i)) ↔ (t / (2 * H) < b ∨ (t / (2 * H) = b ∧ t % H < i + 1)) := by
        constructor
        · rintro (h | ⟨h1, h2⟩)
          · exact Or.inl h
          · exact Or.inr ⟨h1, by omega⟩
        · rintro (h | ⟨h1, h2⟩)
          · exact Or.inl h
          · exact Or.inr ⟨h1, by have := key h1; omega⟩
      exact ite_iff e
theorem stP_end (hH : 0 < H) : stP s st H (2 * H * b) H A = stP s st H (2 * H * (b + 1)) 0 A := by
  funext t
  rw [stP_eq hH, stP_eq hH]
  have h1 : t % H < H := Nat.mod_lt _ hH
  exact ite_iff (by omega)
theorem stP_all (hH : 0 < H) (hN : N = 2 * H * q) : tab N (stP s st H (2 * H * q) 0 A) = tab N (stF s st H A) := by
  refine tab_congr fun t ht => ?_
  rw [stP_eq hH, if_pos (Or.inl _)]
  rw [Nat.div_lt_iff_lt_mul (by omega), Nat.mul_comm]; omega
end
end Go.Sx
