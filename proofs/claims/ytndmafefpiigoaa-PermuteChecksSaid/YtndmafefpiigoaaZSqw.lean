/-
  Walks: halves, Sqrt, of the field. No conditions.
-/
import Derived.Test.YtndmafefpiigoaaZSqs
namespace Go.Sx
open Go.Proofs Go.Num
-- SY
-- TY: TYX, cellsNV, foldNV
set_option maxRecDepth 100000
set_option linter.unusedSimpArgs false
set_option pp.deepTerms true
set_option pp.maxSteps 100000
theorem c_halves (a n : Nat) (ha : a < W256) (hn : n < 9223372036854775807) : Contract Try.prog 120 [.val (EN a), .val (.int .i64 (n : Int))] [.val (EN (a / 2 ^ n))] := by
  refine contract_of (N := _) (vars := _) (c := bodyOf Try.f120) Try.func120 (body_eq rfl) rfl rfl (by rfl) mixed _ _ trivial 1000 ?_
  simp only [bodyOf, Try.f120, Option.getD_some, argA, argE, List.length_cons, List.length_nil, Nat.reduceAdd, Nat.reduceSub, List.replicate, List.cons_append, List.nil_append]
  simp only [↓PX, SX, SYX, EY, simprocAttr, TYX, cellsNV, foldNV]
  refine loop_hav ?_
  simp only [↓PX, SX, SYX, EY, simprocAttr, TYX, cellsNV, foldNV]
  refine loop_go mixed (by trivial) (γ := Nat) (fun i => i ≤ n) (fun i => n - i) (fun i => [(6, iv i)]) (fun i => [(2, .box (eC (a / 2 ^ i)))]) 0 (by omega) (St.le_of id (by simp [-List.getD_eq_getElem?_getD, SYX, iv, Tle, AVle, A0le, Mem.get, eC, Nat.div_one]) (by simp [-List.getD_eq_getElem?_getD, SYX, Mle, Ele, Hle, Tle, AVle, A0le, Mem.get, eC, Nat.div_one]) (by simp [SYX]) (by simp [SYX])) ?_
  intro i hi
  have hlt : a / 2 ^ i < W256 := Nat.lt_of_le_of_lt (Nat.div_le_self _ _) ha
  simp only [↓PX, SX, SYX, EY, simprocAttr, TYX, cellsNV, foldNV]
  refine cond_split (fun h0 => ?_) (fun h0 => ?_)
  · have h0 : i < n := by simpa using h0
    simp only [↓PX, SX, SYX, EY, simprocAttr, TYX, cellsNV, foldNV]
    refine CallVC.intro (c_half _ hlt) ⟨rfl, trivial⟩ rfl rfl ?_
    simp only [↓PX, SX, SYX, EY, simprocAttr, TYX, cellsNV, foldNV, wS (j := i) (by omega)]
    exact ⟨i + 1, by omega, by omega, (St.le_of id (by simp [-List.getD_eq_getElem?_getD, SYX, iv, Tle, AVle, A0le, Mem.get, Nat.div_div_eq_div_mul, Nat.pow_succ]) (by simp [-List.getD_eq_getElem?_getD, SYX, Mle, Ele, Hle, Tle, AVle, A0le, Mem.get, Nat.div_div_eq_div_mul, Nat.pow_succ]) (by simp [SYX]) (by simp [SYX]))⟩
  · have h0 : i = n := by
      have : n ≤ i := by simpa using h0
      omega
    subst h0
    simp only [↓PX, SX, SYX, EY, simprocAttr, TYX, cellsNV, foldNV]
/-- What the search keeps: x x = a t; the orders of t and z. -/
structure Tns (s : Int) (a : Nat) (g : Nat × Nat × Nat × Nat) : Prop where
  lo : 1 ≤ g.1
  hi : g.1 ≤ sS s + 1
  x : g.2.1 < md s
  t : g.2.2.1 < md s
  z : g.2.2.2 < md s
  sq : κ (md s) g.2.1 * κ (md s) g.2.1 = κ (md s) a * κ (md s) g.2.2.1
  zo : κ (md s) g.2.2.2 ^ (2 ^ (g.1 - 1)) = -1
  to : κ (md s) g.2.2.1 ^ (2 ^ g.1) = 1
  first : (g.1 = sS s + 1 ∧ κ (md s) g.2.2.1 = κ (md s) a ^ qS s) ∨ (κ (md s) g.2.2.1 ^ (2 ^ (g.1 - 1)) = 1 ∧ SqP s a)
theorem Tns.start {s : Int} {a : Nat} (G : SqF (md s) (sS s) (qS s) (κ (md s) 5)) (h : κ (md s) a ≠ 0) : Tns s a (sS s + 1, a ^ ((qS s + 1) / 2) % md s, a ^ qS s % md s, 5 ^ qS s % md s) := by
  refine ⟨Nat.le_add_left _ _, Nat.le_refl _, md_mod _ _, md_mod _ _, md_mod _ _, ?_, ?_, ?_, .inl ⟨rfl, ?_⟩⟩ <;> dsimp only
  · rw [κ_mod, κ_mod, κ_pow, κ_pow]; exact G.start _
  · rw [κ_mod, κ_pow]; exact G.z
  · rw [κ_mod, κ_pow]; exact G.full h
  · rw [κ_mod, κ_pow]
theorem pow_one_up {m : Nat} [NeZero m] {x : Fin m} {k : Nat} (h : x ^ (2 ^ k) = 1) : ∀ j, x ^ (2 ^ (k + j)) = 1
  | 0 => h
  | j + 1 => by rw [← Nat.add_assoc, f_pow_two_succ, pow_one_up h j]; grind
theorem Tns.step {s : Int} {a mv x t z k b : Nat} (G : SqF (md s) (sS s) (qS s) (κ (md s) 5)) (h : κ (md s) a ≠ 0) (h1 : 1 ≤ mv) (h3 : mv ≤ sS s + 1)
    (i1 : κ (md s) x * κ (md s) x = κ (md s) a * κ (md s) t) (i2 : κ (md s) z ^ (2 ^ (mv - 1)) = -1)
    (i4 : (mv = sS s + 1 ∧ κ (md s) t = κ (md s) a ^ qS s) ∨ (κ (md s) t ^ (2 ^ (mv - 1)) = 1 ∧ SqP s a))
    (hkm : k < mv) (hk0 : k ≠ 0) (hk : κ (md s) t ^ (2 ^ (k - 1)) ≠ 1) (h4 : κ (md s) t ^ (2 ^ k) = 1) (hb : κ (md s) b = κ (md s) z ^ (2 ^ (mv - k - 1))) :
    Tns s a (k, x * b % md s, t * (b * b % md s) % md s, b * b % md s) := by
  have e : k = k - 1 + 1 := by omega
  have hz : (κ (md s) b * κ (md s) b) ^ (2 ^ (k - 1)) = -1 := by
    rw [← f_pow_two_succ', ← e, hb, ← f_pow_mul, ← Nat.pow_add, show mv - k - 1 + k = mv - 1 by omega]
    exact i2
  have ht : κ (md s) t ^ (2 ^ (k - 1)) = -1 := by
    rw [e, f_pow_two_succ] at h4
    exact (f_sq1 G.P h4).resolve_left hk
  have ht1 : (κ (md s) t * (κ (md s) b * κ (md s) b)) ^ (2 ^ (k - 1)) = 1 := by
    rw [f_mul_pow, ht, hz]; grind
  refine ⟨by omega, by omega, md_mod _ _, md_mod _ _, md_mod _ _, ?_, ?_, ?_, .inr ⟨?_, ?_⟩⟩ <;> (try dsimp only)
  · rw [κ_mod, κ_mod, κ_mul, κ_mul, κ_mod, κ_mul]; grind
  · rw [κ_mod, κ_mul]; exact hz
  · rw [κ_mod, κ_mul, κ_mod, κ_mul]
    rw [e]
    exact pow_one_up ht1 1
  · rw [κ_mod, κ_mul, κ_mod, κ_mul]; exact ht1
  · rcases i4 with ⟨h5, h6⟩ | ⟨_, h6⟩
    · have h7 := pow_one_up h4 (sS s - k)
      rw [show k + (sS s - k) = sS s by omega, h6] at h7
      exact (G.euler h).2 h7
    · exact h6
end Go.Sx
