/-
  Roots by the sort: what Sqrt answers. No conditions.
-/
import Derived.Test.YtmgheellmllfpaaZInw
import Derived.Test.YtmgheellmllfpaaZSqr
namespace Go.Sx
open Go.Proofs Go.Num
def sS (s : Int) : Nat := if s = 0 then 8 else if s = 1 then 10 else 31
def qS (s : Int) : Nat := (md s - 1) / 2 ^ (sS s + 1)
theorem adc_S (s : Int) (hk : kn s = true) : adc s = ((sS s + 1 : Nat) : Int) := by
  rcases kn_or s hk with rfl | rfl | rfl | rfl <;> rfl
theorem sqf_of {m S q : Nat} [NeZero m] (P : PR m) (odd : m % 2 = 1) (fac : m - 1 = 2 ^ (S + 1) * q) (qodd : q % 2 = 1) (ord : ∀ n, 0 < n → n < m - 1 → 5 ^ n % m ≠ 1) (h5 : 5 % m ≠ 0) : SqF m S q (κ m 5) := by
  refine ⟨P, odd, fac, qodd, ?_⟩
  have h0 : κ m 5 ≠ 0 := by rw [ne_eq, κ_eq0]; exact h5
  have h1 : κ m 5 ^ (2 ^ S * q) * κ m 5 ^ (2 ^ S * q) = 1 := by
    rw [← f_pow_add, ← Nat.two_mul, ← Nat.mul_assoc, Nat.mul_comm 2, ← Nat.pow_succ, ← fac]
    exact f_fermat P h0
  rcases f_sq1 P h1 with h2 | h2
  · rw [← κ_pow, κ_eq1 P.1] at h2
    have hq : 0 < q := by omega
    have hp : 0 < 2 ^ S := Nat.pos_of_ne_zero (by simp)
    refine absurd h2 (ord _ (Nat.mul_pos hp hq) ?_)
    rw [fac, Nat.pow_succ, Nat.mul_comm (2 ^ S) 2, Nat.mul_assoc]
    have := Nat.mul_pos hp hq
    omega
  · exact h2
theorem sqf (s : Int) (hk : kn s = true) : SqF (md s) (sS s) (qS s) (κ (md s) 5) := by
  rcases kn_or s hk with rfl | rfl | rfl | rfl
  · exact sqf_of fermat0 (by decide) (by decide) (by decide) fermat0_ord (by decide)
  · exact sqf_of fermat1 (by decide) (by decide) (by decide) fermat1_ord (by decide)
  · exact sqf_of fermat2 (by decide) (by decide) (by decide) fermat2_ord (by decide)
  · exact sqf_of fermat3 (by decide) (by decide) (by decide) fermat3_ord (by decide)
open Classical in
/-- The even root; 0 where there is none. -/
noncomputable def rt (s : Int) (a : Nat) : Nat := if h : ∃ r, r < md s ∧ r * r % md s = a % md s ∧ r % 2 = 0 then Classical.choose h else 0
/-- a is a square. -/
def SqP (s : Int) (a : Nat) : Prop := ∃ r : Fin (md s), r * r = κ (md s) a
open Classical in
noncomputable def eQ (s : Int) (a : Nat) : Int := if kn s then (if SqP s a then 0 else 22) else 20
theorem rt_lt (s : Int) (a : Nat) : rt s a < md s := by
  unfold rt
  split
  · rename_i h; exact (Classical.choose_spec h).1
  · exact md_pos s
theorem sq_val {s : Int} {r a : Nat} : r * r % md s = a % md s ↔ κ (md s) r * κ (md s) r = κ (md s) a := by rw [← κ_mul, κ_inj]
theorem rt_of {s : Int} (hk : kn s = true) {a r : Nat} (h1 : r < md s) (h2 : κ (md s) r * κ (md s) r = κ (md s) a) (h3 : r % 2 = 0) : rt s a = r := by
  have F := sqf s hk
  unfold rt
  have h : ∃ r, r < md s ∧ r * r % md s = a % md s ∧ r % 2 = 0 := ⟨r, h1, sq_val.2 h2, h3⟩
  rw [dif_pos h]
  obtain ⟨g1, g2, g3⟩ := Classical.choose_spec h
  generalize Classical.choose h = c at *
  have e := even_one F.P F.odd (r := κ (md s) c) (r' := κ (md s) r) (by rw [sq_val.1 g2, h2]) (by rw [κ_small g1]; exact g3) (by rw [κ_small h1]; exact h3)
  have := congrArg Fin.val e
  rwa [κ_small g1, κ_small h1] at this
theorem rt_none {s : Int} {a : Nat} (h : ¬ SqP s a) : rt s a = 0 := by
  unfold rt
  rw [dif_neg]
  rintro ⟨r, _, h2, _⟩
  exact h ⟨κ (md s) r, sq_val.1 h2⟩
theorem rt_zero {s : Int} (hk : kn s = true) {a : Nat} (h : a % md s = 0) : rt s a = 0 := by
  refine rt_of hk (md_pos s) ?_ rfl
  rw [κ_zero, κ_eq0.2 h]; grind
theorem sq_zero {s : Int} {a : Nat} (h : a % md s = 0) : SqP s a := ⟨0, by rw [κ_eq0.2 h]; grind⟩
theorem rt_no {s : Int} (hk : kn s = false) (hm : md s = 1) (a : Nat) : rt s a = 0 := by have := rt_lt s a; omega
/-- The even one of a root and its negative. -/
theorem rt_neg {s : Int} (hk : kn s = true) {a r : Nat} (h1 : r < md s) (h2 : κ (md s) r * κ (md s) r = κ (md s) a) (h3 : r % 2 = 1) : rt s a = (md s - r % md s) % md s := by
  have F := sqf s hk
  have ho := F.odd
  refine rt_of hk (md_mod _ _) ?_ ?_
  · rw [κ_sub]; grind
  · rw [Nat.mod_eq_of_lt h1, Nat.mod_eq_of_lt (show md s - r < md s by omega)]; omega
theorem rt_sq {s : Int} (hk : kn s = true) {a : Nat} (h : SqP s a) : κ (md s) (rt s a) * κ (md s) (rt s a) = κ (md s) a ∧ rt s a % 2 = 0 := by
  have F := sqf s hk
  obtain ⟨r, hr⟩ := h
  have e : κ (md s) r.val * κ (md s) r.val = κ (md s) a := by rw [κ_self]; exact hr
  by_cases hp : r.val % 2 = 0
  · have := rt_of hk r.isLt e hp
    rw [this]; exact ⟨e, hp⟩
  · have hp : r.val % 2 = 1 := by omega
    have := rt_neg hk r.isLt e hp
    have ho := F.odd
    have hl := r.isLt
    rw [this]
    refine ⟨by rw [κ_sub]; grind, ?_⟩
    rw [Nat.mod_eq_of_lt hl, Nat.mod_eq_of_lt (show md s - r.val < md s by omega)]; omega
end Go.Sx
