/-
  Bytes of a number; bundles for lists of bytes. No conditions.
-/
import Derived.Test.YtmgheellmllfpaaZSqx
namespace Go.Sx
open Go.Proofs Go.Num
theorem bL_full {l : List Nat} : (LC bC l).take l.length = LC bC l := by rw [bL_take, List.take_length]
theorem bL_nil : LC bC [] = [] := rfl
theorem bL_pre {l r : List Nat} : (LC bC (l ++ r)).take l.length = LC bC l := by rw [bL_take, List.take_left]
/-- A limb by its place. -/
def lb (x j : Nat) : Nat := x / 2 ^ (64 * j) % 18446744073709551616
theorem lb_0 (x : Nat) : lb x 0 = L0 x := by unfold lb L0; simp
theorem lb_1 (x : Nat) : lb x 1 = L1 x := by unfold lb L1; rfl
theorem lb_2 (x : Nat) : lb x 2 = L2 x := by unfold lb L2; rfl
theorem lb_3 (x : Nat) : lb x 3 = L3 x := by unfold lb L3; rfl
theorem lb_at {x j : Nat} (h : j < 4) : [u64 (L0 x), u64 (L1 x), u64 (L2 x), u64 (L3 x)].getD j undef = u64 (lb x j) := by
  have hj : j = 0 ∨ j = 1 ∨ j = 2 ∨ j = 3 := by omega
  rcases hj with rfl | rfl | rfl | rfl
  · rw [lb_0]; rfl
  · rw [lb_1]; rfl
  · rw [lb_2]; rfl
  · rw [lb_3]; rfl
/-- A byte of a number. -/
def by8 (x i : Nat) : Nat := x / 256 ^ i % 256
theorem by8_lt (x i : Nat) : by8 x i < 256 := Nat.mod_lt _ (by decide)
theorem pow256 (i : Nat) : 256 ^ i = 2 ^ (8 * i) := by rw [Nat.pow_mul]
theorem byte_of {x i : Nat} : ushr (lb x (i / 8)) (8 * (i % 8)) % 256 = by8 x i := by
  rw [ushr_eq]
  unfold lb by8 sh
  have hr : i % 8 < 8 := Nat.mod_lt _ (by decide)
  rw [Nat.min_eq_left (by omega), pow256]
  have e : (18446744073709551616 : Nat) = 2 ^ (8 * (i % 8)) * 2 ^ (64 - 8 * (i % 8)) := by rw [← Nat.pow_add, show 8 * (i % 8) + (64 - 8 * (i % 8)) = 64 by omega]
  rw [e, Nat.mod_mul_right_div_self, Nat.div_div_eq_div_mul, ← Nat.pow_add, show 64 * (i / 8) + 8 * (i % 8) = 8 * i by omega]
  have hd : (256 : Nat) ∣ 2 ^ (64 - 8 * (i % 8)) := ⟨2 ^ (64 - 8 * (i % 8) - 8), by rw [show (256 : Nat) = 2 ^ 8 by rfl, ← Nat.pow_add, show 8 + (64 - 8 * (i % 8) - 8) = 64 - 8 * (i % 8) by omega]⟩
  rw [Nat.mod_mod_of_dvd _ hd]
theorem c8 {y : Nat} : Value.int .u8 ((y : Int) % 256) = .int .u8 ((y % 256 : Nat) : Int) := by congr 1
theorem q8 {i : Nat} (h : i < 9223372036854775807) : IntKind.i64.wrap ((i : Int).tdiv 8) = ((i / 8 : Nat) : Int) := by
  have e : (i : Int).tdiv 8 = ((i / 8 : Nat) : Int) := by rw [Int.tdiv_eq_ediv_of_nonneg (by omega)]; rfl
  rw [e, wN (by omega)]
theorem r8 {i : Nat} : (i : Int).tmod 8 = ((i % 8 : Nat) : Int) := by rw [Int.tmod_eq_emod_of_nonneg (by omega)]; rfl
theorem m8 {i : Nat} : IntKind.i64.wrap (8 * ((i % 8 : Nat) : Int)) = ((8 * (i % 8) : Nat) : Int) := by
  have := Nat.mod_lt i (show 8 > 0 by decide)
  rw [wI (by omega) (by omega)]; omega
theorem uN {y : Nat} (h : y < 18446744073709551616) : ((y : Int) % 18446744073709551616).toNat = y := by omega
/-- The number of bytes, the least first. -/
def nb (l : List Nat) : Nat → Nat
  | 0 => 0
  | i + 1 => nb l i + l.getD i 0 * 256 ^ i
theorem nb_lt {l : List Nat} (h : ∀ x ∈ l, x < 256) : ∀ i, i ≤ l.length → nb l i < 256 ^ i
  | 0, _ => by simp [nb]
  | i + 1, hi => by
    have h1 := nb_lt h i (by omega)
    have h2 : l.getD i 0 < 256 := getD_lt h (by omega)
    have h3 : l.getD i 0 * 256 ^ i ≤ 255 * 256 ^ i := Nat.mul_le_mul_right _ (by omega)
    rw [nb, Nat.pow_succ]
    omega
theorem nb_by8 {l : List Nat} (h : ∀ x ∈ l, x < 256) : ∀ i, i ≤ l.length → ∀ j, j < i → by8 (nb l i) j = l.getD j 0
  | 0, _, _, hj => by omega
  | i + 1, hi, j, hj => by
    have h1 := nb_lt h i (by omega)
    have h2 : l.getD i 0 < 256 := getD_lt h (by omega)
    by_cases e : j = i
    · subst e
      unfold by8
      rw [nb, Nat.add_mul_div_right _ _ (Nat.pos_of_ne_zero (by simp)), Nat.div_eq_of_lt h1, Nat.zero_add, Nat.mod_eq_of_lt h2]
    · have ih := nb_by8 h i (by omega) j (by omega)
      rw [← ih]
      unfold by8
      have e2 : 256 ^ i = 256 ^ j * (256 * 256 ^ (i - j - 1)) := by rw [← Nat.pow_succ', ← Nat.pow_add]; congr 1; omega
      rw [nb, e2, ← Nat.mul_assoc, Nat.mul_comm (l.getD i 0), Nat.mul_assoc, Nat.add_mul_div_left _ _ (Nat.pos_of_ne_zero (by simp)), Nat.mul_left_comm, Nat.add_mul_mod_self_left]
theorem nb_inj {l l' : List Nat} (h : ∀ x ∈ l, x < 256) (h' : ∀ x ∈ l', x < 256) {n : Nat} (hl : l.length = n) (hl' : l'.length = n) (e : nb l n = nb l' n) : l = l' := by
  apply List.ext_getElem (by omega)
  intro j h1 h2
  have a := nb_by8 h n (by omega) j (by omega)
  have b := nb_by8 h' n (by omega) j (by omega)
  rw [e, b] at a
  simpa [List.getD, h1, h2] using a.symm
/-- The bytes of a number, as a list; and back. -/
def byL (x : Nat) : List Nat := tab 32 (by8 x)
theorem byL_len (x : Nat) : (byL x).length = 32 := tab_len
theorem byL_lt (x : Nat) : ∀ y ∈ byL x, y < 256 := by
  intro y hy
  obtain ⟨i, _, rfl⟩ := List.mem_map.1 hy
  exact by8_lt x i
theorem nb_of_by8 {x : Nat} {l : List Nat} : ∀ i, (∀ j, j < i → l.getD j 0 = by8 x j) → nb l i = x % 256 ^ i
  | 0, _ => by simp [nb, Nat.mod_one]
  | i + 1, h => by
    rw [nb, nb_of_by8 i (fun j hj => h j (by omega)), h i (by omega), Nat.pow_succ]
    unfold by8
    have := Nat.mod_mul (x := x) (a := 256 ^ i) (b := 256)
    rw [this, Nat.mul_comm (256 ^ i)]
theorem nb_byL {x : Nat} (h : x < W256) : nb (byL x) 32 = x := by
  rw [nb_of_by8 (x := x) (l := byL x) 32 (fun j hj => tab_at hj), Nat.mod_eq_of_lt]
  exact h
theorem byL_nb {l : List Nat} (h : ∀ x ∈ l, x < 256) (hl : l.length = 32) : byL (nb l 32) = l := by
  apply List.ext_getElem (by rw [byL_len, hl])
  intro j h1 h2
  have a := nb_by8 h 32 (by omega) j (by omega)
  have b : (byL (nb l 32)).getD j 0 = by8 (nb l 32) j := tab_at (by omega)
  simp only [List.getD, List.getElem?_eq_getElem h1, List.getElem?_eq_getElem h2, Option.getD_some] at a b
  rw [b, a]
theorem BY : type_of% (And.intro (And.intro (And.intro @bL_len @bL_one) (And.intro @bL_mk @bL_full)) (And.intro (And.intro @bL_app1 @bL_app) (And.intro @bL_nil @bL_pre))) :=
  And.intro (And.intro (And.intro @bL_len @bL_one) (And.intro @bL_mk @bL_full)) (And.intro (And.intro @bL_app1 @bL_app) (And.intro @bL_nil @bL_pre))
end Go.Sx
