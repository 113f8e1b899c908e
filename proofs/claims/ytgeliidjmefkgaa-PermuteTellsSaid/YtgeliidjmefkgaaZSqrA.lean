/-
  Squares and roots in a prime field with a known power of two. Roots by the sort: what Sqrt answers. Walks: halves, Sqrt, of the field. Walks of the reference: half, halves, Sqrt; Root of both. Root of both; the laws FieldRoots and FieldSquares. No conditions.
-/
import Derived.Test.YtgeliidjmefkgaaZFieldD
import Derived.Test.YtgeliidjmefkgaaZInv
namespace Go.Num
section
variable {m : Nat} [NeZero m]
/-- m - 1 is 2^(S+1) q; g's power to 2^S q is -1. -/
structure SqF (m : Nat) [NeZero m] (S q : Nat) (g : Fin m) : Prop where
  P : PR m
  odd : m % 2 = 1
  fac : m - 1 = 2 ^ (S + 1) * q
  qodd : q % 2 = 1
  gen : g ^ (2 ^ S * q) = -1
theorem f_sq (x : Fin m) : x ^ 2 = x * x := by grind
theorem f_pow_two_succ (x : Fin m) (k : Nat) : x ^ (2 ^ (k + 1)) = x ^ (2 ^ k) * x ^ (2 ^ k) := by
  rw [Nat.pow_succ, f_pow_mul, f_sq]
theorem f_pow_two_succ' (x : Fin m) (k : Nat) : x ^ (2 ^ (k + 1)) = (x * x) ^ (2 ^ k) := by
  rw [f_pow_two_succ, f_mul_pow]
theorem f_pow_one (x : Fin m) : x ^ 1 = x := by grind
theorem f_pow_comm (x : Fin m) (i j : Nat) : (x ^ i) ^ j = (x ^ j) ^ i := by rw [← f_pow_mul, ← f_pow_mul, Nat.mul_comm]
variable {S q : Nat} {g : Fin m}
theorem SqF.z (F : SqF m S q g) : (g ^ q) ^ (2 ^ S) = -1 := by rw [← f_pow_mul, Nat.mul_comm]; exact F.gen
theorem SqF.full (F : SqF m S q g) {x : Fin m} (h : x ≠ 0) : (x ^ q) ^ (2 ^ (S + 1)) = 1 := by
  rw [← f_pow_mul, Nat.mul_comm, ← F.fac]; exact f_fermat F.P h
theorem SqF.root (F : SqF m S q g) (x : Fin m) : ∀ (k : Nat), k ≤ S → ∀ X T : Fin m, X * X = x * T → T ^ (2 ^ k) = 1 → ∃ r, r * r = x
  | 0, _, X, T, h1, h2 => ⟨X, by rw [Nat.pow_zero, f_pow_one] at h2; grind⟩
  | k + 1, hk, X, T, h1, h2 => by
    rw [f_pow_two_succ] at h2
    rcases f_sq1 F.P h2 with h3 | h3
    · exact F.root x k (by omega) X T h1 h3
    · let b := (g ^ q) ^ (2 ^ (S - (k + 1)))
      have hb : b ^ (2 ^ (k + 1)) = -1 := by
        show ((g ^ q) ^ (2 ^ (S - (k + 1)))) ^ (2 ^ (k + 1)) = -1
        rw [← f_pow_mul, ← Nat.pow_add, show S - (k + 1) + (k + 1) = S by omega]
        exact F.z
      refine F.root x k (by omega) (X * b) (T * (b * b)) (by grind) ?_
      rw [f_mul_pow, h3, ← f_pow_two_succ', hb]
      grind
theorem SqF.start (F : SqF m S q g) (x : Fin m) : x ^ ((q + 1) / 2) * x ^ ((q + 1) / 2) = x * x ^ q := by
  have := F.qodd
  rw [← f_pow_add, show (q + 1) / 2 + (q + 1) / 2 = q + 1 by omega, f_pow_succ]
  grind
/-- Euler: x is a square just if that power is 1. -/
theorem SqF.euler (F : SqF m S q g) {x : Fin m} (h : x ≠ 0) : (∃ r, r * r = x) ↔ (x ^ q) ^ (2 ^ S) = 1 := by
  constructor
  · rintro ⟨r, rfl⟩
    have hr : r ≠ 0 := by intro h0; exact h (by rw [h0]; grind)
    rw [f_mul_pow, ← f_pow_two_succ']
    exact F.full hr
  · intro h1
    exact F.root x S (Nat.le_refl _) _ _ (F.start x) h1
end
end Go.Num
namespace Go.Sx
open Go.Proofs Go.Num
def sS (s : Int) : Nat := if s = 0 then 8 else if s = 1 then 10 else 31
def qS (s : Int) : Nat := (md s - 1) / 2 ^ (sS s + 1)
theorem adc_S (s : Int) (hk : kn s = true) : adc s = ((sS s + 1 : Nat) : Int) := by
  rcases kn_or s hk with rfl | rfl | rfl | rfl <;> rfl
theorem sqf_of {m S q : Nat} [NeZero m] (P : PR m) (odd : m % 2 = 1) (fac : m - 1 = 2 ^ (S + 1) * q) (qodd : q % 2 = 1) (ord : ∀ n, 0 < n → n < m - 1 → 5 ^ n % m ≠ 1) (h5 : 5 % m ≠ 0) : SqF m S q (κ m 5) := by
  refine ⟨P, odd, fac, qodd, ?_⟩
  have h0 : κ m 5 ≠ 0 := by rw [ne_eq, κ_eq0]; exact h5
  have h1 : κ m 5 ^ (2 ^ S * q) * κ m 5 ^ (2 ^ S * q) = 1 := by
    rw [← f_pow_add, ← Nat.two_mul, ← Nat.mul_assoc, Nat.mul_comm 2, ← Nat.pow_succ, ← fac]
    exact f_fermat P h0
  rcases f_sq1 P h1 with h2 | h2
  · rw [← κ_pow, κ_eq1 P.1] at h2
    have hq : 0 < q := by omega
    have hp : 0 < 2 ^ S := Nat.pos_of_ne_zero (by simp)
    refine absurd h2 (ord _ (Nat.mul_pos hp hq) ?_)
    rw [fac, Nat.pow_succ, Nat.mul_comm (2 ^ S) 2, Nat.mul_assoc]
    have := Nat.mul_pos hp hq
    omega
  · exact h2
theorem sqf (s : Int) (hk : kn s = true) : SqF (md s) (sS s) (qS s) (κ (md s) 5) := by
  rcases kn_or s hk with rfl | rfl | rfl | rfl
  · exact sqf_of fermat0 (by decide) (by decide) (by decide) fermat0_ord (by decide)
  · exact sqf_of fermat1 (by decide) (by decide) (by decide) fermat1_ord (by decide)
  · exact sqf_of fermat2 (by decide) (by decide) (by decide) fermat2_ord (by decide)
  · exact sqf_of fermat3 (by decide) (by decide) (by decide) fermat3_ord (by decide)
open Classical in
/-- The even root; 0 where there is none. -/
noncomputable def rt (s : Int) (a : Nat) : Nat := if h : ∃ r, r < md s ∧ r * r % md s = a % md s ∧ r % 2 = 0 then Classical.choose h else 0
/-- a is a square. -/
def SqP (s : Int) (a : Nat) : Prop := ∃ r : Fin (md s), r * r = κ (md s) a
end Go.Sx
namespace Go.Sx
open Go.Proofs Go.Num
-- SY
-- TY: TYX, cellsNV, foldNV
set_option maxRecDepth 100000
set_option linter.unusedSimpArgs false
set_option pp.deepTerms true
set_option pp.maxSteps 100000
theorem c_halves (a n : Nat) (ha : a < W256) (hn : n < 9223372036854775807) : Contract Try.prog 120 [.val (EN a), .val (.int .i64 (n : Int))] [.val (EN (a / 2 ^ n))] := by
  refine contract_of (N := _) (vars := _) (c := bodyOf Try.f120) Try.func120 (body_eq rfl) rfl rfl (by rfl) mixed _ _ trivial 1000 ?_
  simp only [bodyOf, Try.f120, Option.getD_some, argA, argE, List.length_cons, List.length_nil, Nat.reduceAdd, Nat.reduceSub, List.replicate, List.cons_append, List.nil_append]
  simp only [↓PX, SX, SYX, EY, simprocAttr, TYX, cellsNV, foldNV]
  refine loop_hav ?_
  simp only [↓PX, SX, SYX, EY, simprocAttr, TYX, cellsNV, foldNV]
  refine loop_go mixed (by trivial) (γ := Nat) (fun i => i ≤ n) (fun i => n - i) (fun i => [(6, iv i)]) (fun i => [(2, .box (eC (a / 2 ^ i)))]) 0 (by omega) (St.le_of id (by simp [-List.getD_eq_getElem?_getD, SYX, iv, Tle, AVle, A0le, Mem.get, eC, Nat.div_one]) (by simp [-List.getD_eq_getElem?_getD, SYX, Mle, Ele, Hle, Tle, AVle, A0le, Mem.get, eC, Nat.div_one]) (by simp [SYX]) (by simp [SYX])) ?_
  intro i hi
  have hlt : a / 2 ^ i < W256 := Nat.lt_of_le_of_lt (Nat.div_le_self _ _) ha
  simp only [↓PX, SX, SYX, EY, simprocAttr, TYX, cellsNV, foldNV]
  refine cond_split (fun h0 => ?_) (fun h0 => ?_)
  · have h0 : i < n := by simpa using h0
    simp only [↓PX, SX, SYX, EY, simprocAttr, TYX, cellsNV, foldNV]
    refine CallVC.intro (c_half _ hlt) ⟨rfl, trivial⟩ rfl rfl ?_
    simp only [↓PX, SX, SYX, EY, simprocAttr, TYX, cellsNV, foldNV, wS (j := i) (by omega)]
    exact ⟨i + 1, by omega, by omega, (St.le_of id (by simp [-List.getD_eq_getElem?_getD, SYX, iv, Tle, AVle, A0le, Mem.get, Nat.div_div_eq_div_mul, Nat.pow_succ]) (by simp [-List.getD_eq_getElem?_getD, SYX, Mle, Ele, Hle, Tle, AVle, A0le, Mem.get, Nat.div_div_eq_div_mul, Nat.pow_succ]) (by simp [SYX]) (by simp [SYX]))⟩
  · have h0 : i = n := by
      have : n ≤ i := by simpa using h0
      omega
    subst h0
    simp only [↓PX, SX, SYX, EY, simprocAttr, TYX, cellsNV, foldNV]
/-- What the search keeps: x x = a t; the orders of t and z. -/
structure Tns (s : Int) (a : Nat) (g : Nat × Nat × Nat × Nat) : Prop where
  lo : 1 ≤ g.1
  hi : g.1 ≤ sS s + 1
  x : g.2.1 < md s
  t : g.2.2.1 < md s
  z : g.2.2.2 < md s
  sq : κ (md s) g.2.1 * κ (md s) g.2.1 = κ (md s) a * κ (md s) g.2.2.1
  zo : κ (md s) g.2.2.2 ^ (2 ^ (g.1 - 1)) = -1
  to : κ (md s) g.2.2.1 ^ (2 ^ g.1) = 1
  first : (g.1 = sS s + 1 ∧ κ (md s) g.2.2.1 = κ (md s) a ^ qS s) ∨ (κ (md s) g.2.2.1 ^ (2 ^ (g.1 - 1)) = 1 ∧ SqP s a)
theorem Tns.start {s : Int} {a : Nat} (G : SqF (md s) (sS s) (qS s) (κ (md s) 5)) (h : κ (md s) a ≠ 0) : Tns s a (sS s + 1, a ^ ((qS s + 1) / 2) % md s, a ^ qS s % md s, 5 ^ qS s % md s) := by
  refine ⟨Nat.le_add_left _ _, Nat.le_refl _, md_mod _ _, md_mod _ _, md_mod _ _, ?_, ?_, ?_, .inl ⟨rfl, ?_⟩⟩ <;> dsimp only
  · rw [κ_mod, κ_mod, κ_pow, κ_pow]; exact G.start _
  · rw [κ_mod, κ_pow]; exact G.z
  · rw [κ_mod, κ_pow]; exact G.full h
  · rw [κ_mod, κ_pow]
theorem pow_one_up {m : Nat} [NeZero m] {x : Fin m} {k : Nat} (h : x ^ (2 ^ k) = 1) : ∀ j, x ^ (2 ^ (k + j)) = 1
  | 0 => h
  | j + 1 => by rw [← Nat.add_assoc, f_pow_two_succ, pow_one_up h j]; grind
theorem Tns.step {s : Int} {a mv x t z k b : Nat} (G : SqF (md s) (sS s) (qS s) (κ (md s) 5)) (h : κ (md s) a ≠ 0) (h1 : 1 ≤ mv) (h3 : mv ≤ sS s + 1)
    (i1 : κ (md s) x * κ (md s) x = κ (md s) a * κ (md s) t) (i2 : κ (md s) z ^ (2 ^ (mv - 1)) = -1)
    (i4 : (mv = sS s + 1 ∧ κ (md s) t = κ (md s) a ^ qS s) ∨ (κ (md s) t ^ (2 ^ (mv - 1)) = 1 ∧ SqP s a))
    (hkm : k < mv) (hk0 : k ≠ 0) (hk : κ (md s) t ^ (2 ^ (k - 1)) ≠ 1) (h4 : κ (md s) t ^ (2 ^ k) = 1) (hb : κ (md s) b = κ (md s) z ^ (2 ^ (mv - k - 1))) :
    Tns s a (k, x * b % md s, t * (b * b % md s) % md s, b * b % md s) := by
  have e : k = k - 1 + 1 := by omega
  have hz : (κ (md s) b * κ (md s) b) ^ (2 ^ (k - 1)) = -1 := by
    rw [← f_pow_two_succ', ← e, hb, ← f_pow_mul, ← Nat.pow_add, show mv - k - 1 + k = mv - 1 by omega]
    exact i2
  have ht : κ (md s) t ^ (2 ^ (k - 1)) = -1 := by
    rw [e, f_pow_two_succ] at h4
    exact (f_sq1 G.P h4).resolve_left hk
  have ht1 : (κ (md s) t * (κ (md s) b * κ (md s) b)) ^ (2 ^ (k - 1)) = 1 := by
    rw [f_mul_pow, ht, hz]; grind
  refine ⟨by omega, by omega, md_mod _ _, md_mod _ _, md_mod _ _, ?_, ?_, ?_, .inr ⟨?_, ?_⟩⟩ <;> (try dsimp only)
  · rw [κ_mod, κ_mod, κ_mul, κ_mul, κ_mod, κ_mul]; grind
  · rw [κ_mod, κ_mul]; exact hz
  · rw [κ_mod, κ_mul, κ_mod, κ_mul]
    rw [e]
    exact pow_one_up ht1 1
  · rw [κ_mod, κ_mul, κ_mod, κ_mul]; exact ht1
  · rcases i4 with ⟨h5, h6⟩ | ⟨_, h6⟩
    · have h7 := pow_one_up h4 (sS s - k)
      rw [show k + (sS s - k) = sS s by omega, h6] at h7
      exact (G.euler h).2 h7
    · exact h6
end Go.Sx
namespace Go.Sx
open Go.Proofs Go.Num
-- SY
-- TY: TYX, cellsNV, foldNV
set_option maxRecDepth 100000
set_option linter.unusedSimpArgs false
set_option pp.deepTerms true
set_option pp.maxSteps 100000
/-- What the reference's search keeps. -/
structure Vns (s : Int) (a : Nat) (g : Nat × Nat × Nat × Nat) : Prop where
  hi : g.1 ≤ sS s
  x : g.2.1 < md s
  b : g.2.2.1 < md s
  z : g.2.2.2 < md s
  sq : κ (md s) g.2.1 * κ (md s) g.2.1 = κ (md s) a * κ (md s) g.2.2.1
  zo : κ (md s) g.2.2.2 ^ (2 ^ g.1) = -1
  bo : κ (md s) g.2.2.1 ^ (2 ^ g.1) = 1
theorem Vns.start {s : Int} {a : Nat} (G : SqF (md s) (sS s) (qS s) (κ (md s) 5)) (h : κ (md s) a ≠ 0) (hq : SqP s a) : Vns s a (sS s, a ^ ((qS s + 1) / 2) % md s, a ^ qS s % md s, 5 ^ qS s % md s) := by
  refine ⟨Nat.le_refl _, md_mod _ _, md_mod _ _, md_mod _ _, ?_, ?_, ?_⟩ <;> (try dsimp only)
  · rw [κ_mod, κ_mod, κ_pow, κ_pow]; exact G.start _
  · rw [κ_mod, κ_pow]; exact G.z
  · rw [κ_mod, κ_pow]; exact (G.euler h).1 hq
end Go.Sx
namespace Go.Sx
open Go.Proofs Go.Num
-- SY
-- TY: TYX, cellsNV, foldNV
set_option maxRecDepth 100000
set_option linter.unusedSimpArgs false
set_option pp.deepTerms true
set_option pp.maxSteps 100000
/-- Is there a root of the order 2^k? -/
def rkO (s k : Int) : Prop := 0 ≤ k ∧ k ≤ adc s
instance (s k : Int) : Decidable (rkO s k) := by unfold rkO; infer_instance
def rk (s k : Int) : Nat := if kn s = true ∧ rkO s k then 5 ^ ((md s - 1) / 2 ^ k.toNat) % md s else 0
def eR (s k : Int) : Int := if kn s then (if rkO s k then 0 else 60) else 20
theorem rk_w (s k : Int) : rk s k < md s := by unfold rk; split; exact md_mod _ _; exact md_pos s
theorem u_Root (s k : Int) : Contract Try.prog 86 [.val (.int .i64 s), .val (.int .i64 k)] [.val (EN (rk s k)), .val (.int .i64 (eR s k))] := by
  cases srt s with
  | no hk he hm F =>
    have e1 : rk s k = 0 := by simp [rk, hk]
    have e2 : eR s k = 20 := by simp [eR, hk]
    rw [e1, e2]
    refine contract_of (N := _) (vars := _) (c := bodyOf Try.f86) Try.func86 (body_eq rfl) rfl rfl (by rfl) mixed _ _ trivial 1000 ?_
    simp only [bodyOf, Try.f86, Option.getD_some, argA, argE, List.length_cons, List.length_nil, Nat.reduceAdd, Nat.reduceSub, List.replicate, List.cons_append, List.nil_append]
    simp only [↓PX, SX, SYX, EY, simprocAttr, TYX, cellsNV, foldNV]
    refine CallVC.intro (F.of) ⟨rfl, trivial⟩ rfl rfl ?_
    simp only [↓PX, SX, SYX, EY, simprocAttr, TYX, cellsNV, foldNV, he]
  | yes hk he sm ng sq F R P h2 =>
    by_cases h0 : k < 0
    · have hn : ¬ rkO s k := by unfold rkO; omega
      have e1 : rk s k = 0 := by simp [rk, hn]
      have e2 : eR s k = 60 := by simp [eR, hk, hn]
      have d1 : decide (k < 0) = true := by simpa using h0
      rw [e1, e2]
      refine contract_of (N := _) (vars := _) (c := bodyOf Try.f86) Try.func86 (body_eq rfl) rfl rfl (by rfl) mixed _ _ trivial 1000 ?_
      simp only [bodyOf, Try.f86, Option.getD_some, argA, argE, List.length_cons, List.length_nil, Nat.reduceAdd, Nat.reduceSub, List.replicate, List.cons_append, List.nil_append]
      simp only [↓PX, SX, SYX, EY, simprocAttr, TYX, cellsNV, foldNV]
      refine CallVC.intro (F.of) ⟨rfl, trivial⟩ rfl rfl ?_
      simp only [↓PX, SX, SYX, EY, simprocAttr, TYX, cellsNV, foldNV, he, d1]
    · have d1 : decide (k < 0) = false := by simpa using h0
      by_cases h1 : adc s < k
      · have hn : ¬ rkO s k := by unfold rkO; omega
        have e1 : rk s k = 0 := by simp [rk, hn]
        have e2 : eR s k = 60 := by simp [eR, hk, hn]
        have d2 : decide (adc s < k) = true := by simpa using h1
        rw [e1, e2]
        refine contract_of (N := _) (vars := _) (c := bodyOf Try.f86) Try.func86 (body_eq rfl) rfl rfl (by rfl) mixed _ _ trivial 1000 ?_
        simp only [bodyOf, Try.f86, Option.getD_some, argA, argE, List.length_cons, List.length_nil, Nat.reduceAdd, Nat.reduceSub, List.replicate, List.cons_append, List.nil_append]
        simp only [↓PX, SX, SYX, EY, simprocAttr, TYX, cellsNV, foldNV]
        refine CallVC.intro (F.of) ⟨rfl, trivial⟩ rfl rfl ?_
        simp only [↓PX, SX, SYX, EY, simprocAttr, TYX, cellsNV, foldNV, he, d1, d2]
      · have d2 : decide (adc s < k) = false := by simpa using h1
        have hn : rkO s k := by unfold rkO; omega
        have e1 : rk s k = 5 ^ ((md s - 1) / 2 ^ k.toNat) % md s := by simp [rk, hk, hn]
        have e2 : eR s k = 0 := by simp [eR, hk, hn]
        have hw : md s < W256 := by have := md_lt s; omega
        have e3 : (md s + W256 - 1) % W256 = md s - 1 := sub_of hw (by omega)
        obtain ⟨j, hj⟩ : ∃ j : Nat, k = (j : Int) := ⟨k.toNat, by omega⟩
        have hj32 : j ≤ 32 := by
          have := adc_S s hk
          have hs31 : sS s ≤ 31 := by unfold sS; split <;> (try split) <;> omega
          omega
        subst hj
        rw [e1, e2]
        have hdl := Nat.div_le_self (md s - 1) (2 ^ j)
        have hdw : (md s - 1) / 2 ^ j < W256 := by omega
        have h5 : (5 : Nat) < W256 := by decide
        refine contract_of (N := _) (vars := _) (c := bodyOf Try.f86) Try.func86 (body_eq rfl) rfl rfl (by rfl) mixed _ _ trivial 1000 ?_
        simp only [bodyOf, Try.f86, Option.getD_some, argA, argE, List.length_cons, List.length_nil, Nat.reduceAdd, Nat.reduceSub, List.replicate, List.cons_append, List.nil_append]
        simp only [↓PX, SX, SYX, EY, simprocAttr, TYX, cellsNV, foldNV]
        refine CallVC.intro (F.of) ⟨rfl, trivial⟩ rfl rfl ?_
        simp only [↓PX, SX, SYX, EY, simprocAttr, TYX, cellsNV, foldNV, he, d1, d2]
        refine CallVC.intro (c_word_sub (md s) 1 hw (by decide)) ⟨rfl, rfl, trivial⟩ rfl rfl ?_
        simp only [↓PX, SX, SYX, EY, simprocAttr, TYX, cellsNV, foldNV, e3]
        repeat (first | refine DrawVC.intro (by kernel_rfl) ?_ | refine And.intro (by omega) ?_ | exact trivial)
        refine CallVC.intro (c_halves (md s - 1) j (by omega) (by omega)) ⟨rfl, rfl, trivial⟩ rfl rfl ?_
        simp only [↓PX, SX, SYX, EY, simprocAttr, TYX, cellsNV, foldNV]
        repeat (first
          | (refine DrawVC.intro (by kernel_rfl) ?_)
          | exact trivial
          | (refine CallVC.intro (u_Exp _ _ _ (by first | assumption | exact md_w _ _ | exact md_w2 (inv_lt _ _) | decide | omega) (by first | assumption | exact md_w _ _ | exact md_w2 (inv_lt _ _) | decide | omega)) ⟨rfl, rfl, rfl, trivial⟩ rfl rfl ?_; simp only [↓PX, SX, SYX, EY, simprocAttr, TYX, cellsNV, foldNV, Int.toNat_natCast]))
end Go.Sx
