/-
  Walks: halves, Sqrt, of the field. No conditions.
-/
import Derived.Test.YtmjhaopkhceegaaZSqs
namespace Go.Sx
open Go.Proofs Go.Num
-- SY
-- TY: TYX, cellsNV, foldNV
set_option maxRecDepth 100000
set_option linter.unusedSimpArgs false
set_option pp.deepTerms true
set_option pp.maxSteps 100000
/-- What the search keeps: x x = a t; the orders of t and z. -/
structure Tns (s : Int) (a : Nat) (g : Nat × Nat × Nat × Nat) : Prop where
  lo : 1 ≤ g.1
  hi : g.1 ≤ sS s + 1
  x : g.2.1 < md s
  t : g.2.2.1 < md s
  z : g.2.2.2 < md s
  sq : κ (md s) g.2.1 * κ (md s) g.2.1 = κ (md s) a * κ (md s) g.2.2.1
  zo : κ (md s) g.2.2.2 ^ (2 ^ (g.1 - 1)) = -1
  to : κ (md s) g.2.2.1 ^ (2 ^ g.1) = 1
  first : (g.1 = sS s + 1 ∧ κ (md s) g.2.2.1 = κ (md s) a ^ qS s) ∨ (κ (md s) g.2.2.1 ^ (2 ^ (g.1 - 1)) = 1 ∧ SqP s a)
theorem Tns.start {s : Int} {a : Nat} (G : SqF (md s) (sS s) (qS s) (κ (md s) 5)) (h : κ (md s) a ≠ 0) : Tns s a (sS s + 1, a ^ ((qS s + 1) / 2) % md s, a ^ qS s % md s, 5 ^ qS s % md s) := by
  refine ⟨Nat.le_add_left _ _, Nat.le_refl _, md_mod _ _, md_mod _ _, md_mod _ _, ?_, ?_, ?_, .inl ⟨rfl, ?_⟩⟩ <;> dsimp only
  · rw [κ_mod, κ_mod, κ_pow, κ_pow]; exact G.start _
  · rw [κ_mod, κ_pow]; exact G.z
  · rw [κ_mod, κ_pow]; exact G.full h
  · rw [κ_mod, κ_pow]
theorem pow_one_up {m : Nat} [NeZero m] {x : Fin m} {k : Nat} (h : x ^ (2 ^ k) = 1) : ∀ j, x ^ (2 ^ (k + j)) = 1
  | 0 => h
  | j + 1 => by rw [← Nat.add_assoc, f_pow_two_succ, pow_one_up h j]; grind
theorem Tns.step {s : Int} {a mv x t z k b : Nat} (G : SqF (md s) (sS s) (qS s) (κ (md s) 5)) (h : κ (md s) a ≠ 0) (h1 : 1 ≤ mv) (h3 : mv ≤ sS s + 1)
    (i1 : κ (md s) x * κ (md s) x = κ (md s) a * κ (md s) t) (i2 : κ (md s) z ^ (2 ^ (mv - 1)) = -1)
    (i4 : (mv = sS s + 1 ∧ κ (md s) t = κ (md s) a ^ qS s) ∨ (κ (md s) t ^ (2 ^ (mv - 1)) = 1 ∧ SqP s a))
    (hkm : k < mv) (hk0 : k ≠ 0) (hk : κ (md s) t ^ (2 ^ (k - 1)) ≠ 1) (h4 : κ (md s) t ^ (2 ^ k) = 1) (hb : κ (md s) b = κ (md s) z ^ (2 ^ (mv - k - 1))) :
    Tns s a (k, x * b % md s, t * (b * b % md s) % md s, b * b % md s) := by
  have e : k = k - 1 + 1 := by omega
  have hz : (κ (md s) b * κ (md s) b) ^ (2 ^ (k - 1)) = -1 := by
    rw [← f_pow_two_succ', ← e, hb, ← f_pow_mul, ← Nat.pow_add, show mv - k - 1 + k = mv - 1 by omega]
    exact i2
  have ht : κ (md s) t ^ (2 ^ (k - 1)) = -1 := by
    rw [e, f_pow_two_succ] at h4
    exact (f_sq1 G.P h4).resolve_left hk
  have ht1 : (κ (md s) t * (κ (md s) b * κ (md s) b)) ^ (2 ^ (k - 1)) = 1 := by
    rw [f_mul_pow, ht, hz]; grind
  refine ⟨by omega, by omega, md_mod _ _, md_mod _ _, md_mod _ _, ?_, ?_, ?_, .inr ⟨?_, ?_⟩⟩ <;> (try dsimp only)
  · rw [κ_mod, κ_mod, κ_mul, κ_mul, κ_mod, κ_mul]; grind
  · rw [κ_mod, κ_mul]; exact hz
  · rw [κ_mod, κ_mul, κ_mod, κ_mul]
    rw [e]
    exact pow_one_up ht1 1
  · rw [κ_mod, κ_mul, κ_mod, κ_mul]; exact ht1
  · rcases i4 with ⟨h5, h6⟩ | ⟨_, h6⟩
    · have h7 := pow_one_up h4 (sS s - k)
      rw [show k + (sS s - k) = sS s by omega, h6] at h7
      exact (G.euler h).2 h7
    · exact h6
end Go.Sx
