/-
  Squares and roots in a prime field with a known power of two. Roots by the sort: what Sqrt answers. Walks: halves, Sqrt, of the field. Walks of the reference: half, halves, Sqrt; Root of both. Root of both; the laws FieldRoots and FieldSquares. No conditions.
-/
import Derived.Test.YtmjhaopkhceegaaZFieldD
import Derived.Test.YtmjhaopkhceegaaZInv
namespace Go.Num
section
variable {m : Nat} [NeZero m]
/-- m - 1 is 2^(S+1) q; g's power to 2^S q is -1. -/
structure SqF (m : Nat) [NeZero m] (S q : Nat) (g : Fin m) : Prop where
  P : PR m
  odd : m % 2 = 1
  fac : m - 1 = 2 ^ (S + 1) * q
  qodd : q % 2 = 1
  gen : g ^ (2 ^ S * q) = -1
theorem f_sq (x : Fin m) : x ^ 2 = x * x := by grind
theorem f_pow_two_succ (x : Fin m) (k : Nat) : x ^ (2 ^ (k + 1)) = x ^ (2 ^ k) * x ^ (2 ^ k) := by
  rw [Nat.pow_succ, f_pow_mul, f_sq]
theorem f_pow_two_succ' (x : Fin m) (k : Nat) : x ^ (2 ^ (k + 1)) = (x * x) ^ (2 ^ k) := by
  rw [f_pow_two_succ, f_mul_pow]
theorem f_pow_one (x : Fin m) : x ^ 1 = x := by grind
theorem f_pow_comm (x : Fin m) (i j : Nat) : (x ^ i) ^ j = (x ^ j) ^ i := by rw [← f_pow_mul, ← f_pow_mul, Nat.mul_comm]
variable {S q : Nat} {g : Fin m}
theorem SqF.z (F : SqF m S q g) : (g ^ q) ^ (2 ^ S) = -1 := by rw [← f_pow_mul, Nat.mul_comm]; exact F.gen
theorem SqF.full (F : SqF m S q g) {x : Fin m} (h : x ≠ 0) : (x ^ q) ^ (2 ^ (S + 1)) = 1 := by
  rw [← f_pow_mul, Nat.mul_comm, ← F.fac]; exact f_fermat F.P h
theorem SqF.root (F : SqF m S q g) (x : Fin m) : ∀ (k : Nat), k ≤ S → ∀ X T : Fin m, X * X = x * T → T ^ (2 ^ k) = 1 → ∃ r, r * r = x
  | 0, _, X, T, h1, h2 => ⟨X, by rw [Nat.pow_zero, f_pow_one] at h2; grind⟩
  | k + 1, hk, X, T, h1, h2 => by
    rw [f_pow_two_succ] at h2
    rcases f_sq1 F.P h2 with h3 | h3
    · exact F.root x k (by omega) X T h1 h3
    · let b := (g ^ q) ^ (2 ^ (S - (k + 1)))
      have hb : b ^ (2 ^ (k + 1)) = -1 := by
        show ((g ^ q) ^ (2 ^ (S - (k + 1)))) ^ (2 ^ (k + 1)) = -1
        rw [← f_pow_mul, ← Nat.pow_add, show S - (k + 1) + (k + 1) = S by omega]
        exact F.z
      refine F.root x k (by omega) (X * b) (T * (b * b)) (by grind) ?_
      rw [f_mul_pow, h3, ← f_pow_two_succ', hb]
      grind
theorem SqF.start (F : SqF m S q g) (x : Fin m) : x ^ ((q + 1) / 2) * x ^ ((q + 1) / 2) = x * x ^ q := by
  have := F.qodd
  rw [← f_pow_add, show (q + 1) / 2 + (q + 1) / 2 = q + 1 by omega, f_pow_succ]
  grind
/-- Euler: x is a square just if that power is 1. -/
theorem SqF.euler (F : SqF m S q g) {x : Fin m} (h : x ≠ 0) : (∃ r, r * r = x) ↔ (x ^ q) ^ (2 ^ S) = 1 := by
  constructor
  · rintro ⟨r, rfl⟩
    have hr : r ≠ 0 := by intro h0; exact h (by rw [h0]; grind)
    rw [f_mul_pow, ← f_pow_two_succ']
    exact F.full hr
  · intro h1
    exact F.root x S (Nat.le_refl _) _ _ (F.start x) h1
end
end Go.Num
namespace Go.Sx
open Go.Proofs Go.Num
def sS (s : Int) : Nat := if s = 0 then 8 else if s = 1 then 10 else 31
def qS (s : Int) : Nat := (md s - 1) / 2 ^ (sS s + 1)
theorem sqf_of {m S q : Nat} [NeZero m] (P : PR m) (odd : m % 2 = 1) (fac : m - 1 = 2 ^ (S + 1) * q) (qodd : q % 2 = 1) (ord : ∀ n, 0 < n → n < m - 1 → 5 ^ n % m ≠ 1) (h5 : 5 % m ≠ 0) : SqF m S q (κ m 5) := by
  refine ⟨P, odd, fac, qodd, ?_⟩
  have h0 : κ m 5 ≠ 0 := by rw [ne_eq, κ_eq0]; exact h5
  have h1 : κ m 5 ^ (2 ^ S * q) * κ m 5 ^ (2 ^ S * q) = 1 := by
    rw [← f_pow_add, ← Nat.two_mul, ← Nat.mul_assoc, Nat.mul_comm 2, ← Nat.pow_succ, ← fac]
    exact f_fermat P h0
  rcases f_sq1 P h1 with h2 | h2
  · rw [← κ_pow, κ_eq1 P.1] at h2
    have hq : 0 < q := by omega
    have hp : 0 < 2 ^ S := Nat.pos_of_ne_zero (by simp)
    refine absurd h2 (ord _ (Nat.mul_pos hp hq) ?_)
    rw [fac, Nat.pow_succ, Nat.mul_comm (2 ^ S) 2, Nat.mul_assoc]
    have := Nat.mul_pos hp hq
    omega
  · exact h2
theorem sqf (s : Int) (hk : kn s = true) : SqF (md s) (sS s) (qS s) (κ (md s) 5) := by
  rcases kn_or s hk with rfl | rfl | rfl | rfl
  · exact sqf_of fermat0 (by decide) (by decide) (by decide) fermat0_ord (by decide)
  · exact sqf_of fermat1 (by decide) (by decide) (by decide) fermat1_ord (by decide)
  · exact sqf_of fermat2 (by decide) (by decide) (by decide) fermat2_ord (by decide)
  · exact sqf_of fermat3 (by decide) (by decide) (by decide) fermat3_ord (by decide)
open Classical in
/-- The even root; 0 where there is none. -/
noncomputable def rt (s : Int) (a : Nat) : Nat := if h : ∃ r, r < md s ∧ r * r % md s = a % md s ∧ r % 2 = 0 then Classical.choose h else 0
/-- a is a square. -/
def SqP (s : Int) (a : Nat) : Prop := ∃ r : Fin (md s), r * r = κ (md s) a
end Go.Sx
namespace Go.Sx
open Go.Proofs Go.Num
-- SY
-- TY: TYX, cellsNV, foldNV
set_option maxRecDepth 100000
set_option linter.unusedSimpArgs false
set_option pp.deepTerms true
set_option pp.maxSteps 100000
/-- What the search keeps: x x = a t; the orders of t and z. -/
structure Tns (s : Int) (a : Nat) (g : Nat × Nat × Nat × Nat) : Prop where
  lo : 1 ≤ g.1
  hi : g.1 ≤ sS s + 1
  x : g.2.1 < md s
  t : g.2.2.1 < md s
  z : g.2.2.2 < md s
  sq : κ (md s) g.2.1 * κ (md s) g.2.1 = κ (md s) a * κ (md s) g.2.2.1
  zo : κ (md s) g.2.2.2 ^ (2 ^ (g.1 - 1)) = -1
  to : κ (md s) g.2.2.1 ^ (2 ^ g.1) = 1
  first : (g.1 = sS s + 1 ∧ κ (md s) g.2.2.1 = κ (md s) a ^ qS s) ∨ (κ (md s) g.2.2.1 ^ (2 ^ (g.1 - 1)) = 1 ∧ SqP s a)
theorem Tns.start {s : Int} {a : Nat} (G : SqF (md s) (sS s) (qS s) (κ (md s) 5)) (h : κ (md s) a ≠ 0) : Tns s a (sS s + 1, a ^ ((qS s + 1) / 2) % md s, a ^ qS s % md s, 5 ^ qS s % md s) := by
  refine ⟨Nat.le_add_left _ _, Nat.le_refl _, md_mod _ _, md_mod _ _, md_mod _ _, ?_, ?_, ?_, .inl ⟨rfl, ?_⟩⟩ <;> dsimp only
  · rw [κ_mod, κ_mod, κ_pow, κ_pow]; exact G.start _
  · rw [κ_mod, κ_pow]; exact G.z
  · rw [κ_mod, κ_pow]; exact G.full h
  · rw [κ_mod, κ_pow]
theorem pow_one_up {m : Nat} [NeZero m] {x : Fin m} {k : Nat} (h : x ^ (2 ^ k) = 1) : ∀ j, x ^ (2 ^ (k + j)) = 1
  | 0 => h
  | j + 1 => by rw [← Nat.add_assoc, f_pow_two_succ, pow_one_up h j]; grind
theorem Tns.step {s : Int} {a mv x t z k b : Nat} (G : SqF (md s) (sS s) (qS s) (κ (md s) 5)) (h : κ (md s) a ≠ 0) (h1 : 1 ≤ mv) (h3 : mv ≤ sS s + 1)
    (i1 : κ (md s) x * κ (md s) x = κ (md s) a * κ (md s) t) (i2 : κ (md s) z ^ (2 ^ (mv - 1)) = -1)
    (i4 : (mv = sS s + 1 ∧ κ (md s) t = κ (md s) a ^ qS s) ∨ (κ (md s) t ^ (2 ^ (mv - 1)) = 1 ∧ SqP s a))
    (hkm : k < mv) (hk0 : k ≠ 0) (hk : κ (md s) t ^ (2 ^ (k - 1)) ≠ 1) (h4 : κ (md s) t ^ (2 ^ k) = 1) (hb : κ (md s) b = κ (md s) z ^ (2 ^ (mv - k - 1))) :
    Tns s a (k, x * b % md s, t * (b * b % md s) % md s, b * b % md s) := by
  have e : k = k - 1 + 1 := by omega
  have hz : (κ (md s) b * κ (md s) b) ^ (2 ^ (k - 1)) = -1 := by
    rw [← f_pow_two_succ', ← e, hb, ← f_pow_mul, ← Nat.pow_add, show mv - k - 1 + k = mv - 1 by omega]
    exact i2
  have ht : κ (md s) t ^ (2 ^ (k - 1)) = -1 := by
    rw [e, f_pow_two_succ] at h4
    exact (f_sq1 G.P h4).resolve_left hk
  have ht1 : (κ (md s) t * (κ (md s) b * κ (md s) b)) ^ (2 ^ (k - 1)) = 1 := by
    rw [f_mul_pow, ht, hz]; grind
  refine ⟨by omega, by omega, md_mod _ _, md_mod _ _, md_mod _ _, ?_, ?_, ?_, .inr ⟨?_, ?_⟩⟩ <;> (try dsimp only)
  · rw [κ_mod, κ_mod, κ_mul, κ_mul, κ_mod, κ_mul]; grind
  · rw [κ_mod, κ_mul]; exact hz
  · rw [κ_mod, κ_mul, κ_mod, κ_mul]
    rw [e]
    exact pow_one_up ht1 1
  · rw [κ_mod, κ_mul, κ_mod, κ_mul]; exact ht1
  · rcases i4 with ⟨h5, h6⟩ | ⟨_, h6⟩
    · have h7 := pow_one_up h4 (sS s - k)
      rw [show k + (sS s - k) = sS s by omega, h6] at h7
      exact (G.euler h).2 h7
    · exact h6
end Go.Sx
namespace Go.Sx
open Go.Proofs Go.Num
-- SY
-- TY: TYX, cellsNV, foldNV
set_option maxRecDepth 100000
set_option linter.unusedSimpArgs false
set_option pp.deepTerms true
set_option pp.maxSteps 100000
/-- What the reference's search keeps. -/
structure Vns (s : Int) (a : Nat) (g : Nat × Nat × Nat × Nat) : Prop where
  hi : g.1 ≤ sS s
  x : g.2.1 < md s
  b : g.2.2.1 < md s
  z : g.2.2.2 < md s
  sq : κ (md s) g.2.1 * κ (md s) g.2.1 = κ (md s) a * κ (md s) g.2.2.1
  zo : κ (md s) g.2.2.2 ^ (2 ^ g.1) = -1
  bo : κ (md s) g.2.2.1 ^ (2 ^ g.1) = 1
theorem Vns.start {s : Int} {a : Nat} (G : SqF (md s) (sS s) (qS s) (κ (md s) 5)) (h : κ (md s) a ≠ 0) (hq : SqP s a) : Vns s a (sS s, a ^ ((qS s + 1) / 2) % md s, a ^ qS s % md s, 5 ^ qS s % md s) := by
  refine ⟨Nat.le_refl _, md_mod _ _, md_mod _ _, md_mod _ _, ?_, ?_, ?_⟩ <;> (try dsimp only)
  · rw [κ_mod, κ_mod, κ_pow, κ_pow]; exact G.start _
  · rw [κ_mod, κ_pow]; exact G.z
  · rw [κ_mod, κ_pow]; exact (G.euler h).1 hq
end Go.Sx
namespace Go.Sx
open Go.Proofs Go.Num
-- SY
-- TY: TYX, cellsNV, foldNV
set_option maxRecDepth 100000
set_option linter.unusedSimpArgs false
set_option pp.deepTerms true
set_option pp.maxSteps 100000
/-- Is there a root of the order 2^k? -/
def rkO (s k : Int) : Prop := 0 ≤ k ∧ k ≤ adc s
instance (s k : Int) : Decidable (rkO s k) := by unfold rkO; infer_instance
def rk (s k : Int) : Nat := if kn s = true ∧ rkO s k then 5 ^ ((md s - 1) / 2 ^ k.toNat) % md s else 0
end Go.Sx
