/-
  Polynomials over a prime field: products, values, division, roots. No conditions.
-/
import Derived.Test.YtndmafefpiigoaaZPow
namespace Go.Sx
open Go.Proofs Go.Num
set_option maxRecDepth 100000
set_option linter.unusedSimpArgs false
section
variable {m : Nat} [NeZero m]
/-- A coefficient. -/
def co (m : Nat) [NeZero m] (l : List Nat) (i : Nat) : Fin m := κ m (l.getD i 0)
theorem co_nil (i : Nat) : co m [] i = 0 := by simp [co, κ_zero]
theorem co_0 (x : Nat) (l : List Nat) : co m (x :: l) 0 = κ m x := by simp [co]
theorem co_s (x : Nat) (l : List Nat) (i : Nat) : co m (x :: l) (i + 1) = co m l i := by simp [co]
theorem co_out {l : List Nat} {i : Nat} (h : l.length ≤ i) : co m l i = 0 := by unfold co; rw [getD_out h, κ_zero]
theorem co_tp (l : List Nat) (i : Nat) : co m (tp m l) i = co m l i := by unfold co; rw [tp_getD, κ_mod]
theorem co_pScale (a : List Nat) (x i : Nat) : co m (pScale a x) i = κ m x * co m a i := by
  unfold co pScale
  rw [getD_map (f := (· * x)) (Nat.zero_mul x), κ_mul]; grind
/-- The value at x. -/
def evk (x : Fin m) : List Nat → Fin m
  | [] => 0
  | c :: l => κ m c + x * evk x l
theorem evk_zero {x : Fin m} : ∀ {l : List Nat}, (∀ i, co m l i = 0) → evk x l = 0
  | [], _ => rfl
  | c :: l, h => by
    have h0 := h 0
    rw [co_0] at h0
    have := evk_zero (x := x) (l := l) fun i => by have := h (i + 1); rwa [co_s] at this
    unfold evk
    rw [h0, this]; grind
theorem evk_congr {x : Fin m} : ∀ {l l' : List Nat}, (∀ i, co m l i = co m l' i) → evk x l = evk x l'
  | [], l', h => by
    rw [evk_zero (l := l') fun i => by rw [← h i, co_nil]]; rfl
  | l, [], h => by
    rw [evk_zero (l := l) fun i => by rw [h i, co_nil]]; rfl
  | c :: l, c' :: l', h => by
    have h0 := h 0
    rw [co_0, co_0] at h0
    have := evk_congr (x := x) (l := l) (l' := l') fun i => by have := h (i + 1); rwa [co_s, co_s] at this
    unfold evk
    rw [h0, this]
theorem κ_evp (x : Nat) : ∀ l : List Nat, κ m (evp m x l) = evk (κ m x) l
  | [] => κ_zero
  | c :: l => by
    unfold evp evk
    rw [κ_mod, κ_add, κ_mod, κ_mul, κ_evp x l]; grind
def plL : List Nat → List Nat → List Nat
  | [], b => b
  | a, [] => a
  | x :: a, y :: b => (x + y) :: plL a b
theorem addL_nil (a : List Nat) : plL a [] = a := by cases a <;> rfl
theorem co_addL : ∀ (a b : List Nat) (i : Nat), co m (plL a b) i = co m a i + co m b i
  | [], b, i => by rw [co_nil]; show co m b i = _; grind
  | x :: a, [], i => by rw [co_nil, addL_nil]; grind
  | x :: a, y :: b, 0 => by unfold plL; rw [co_0, co_0, co_0, κ_add]
  | x :: a, y :: b, i + 1 => by unfold plL; rw [co_s, co_s, co_s]; exact co_addL a b i
theorem evk_addL (x : Fin m) : ∀ a b : List Nat, evk x (plL a b) = evk x a + evk x b
  | [], b => by show evk x b = _; unfold evk; grind [evk]
  | y :: a, [] => by rw [addL_nil]; show _ = evk x (y :: a) + 0; grind
  | y :: a, z :: b => by
    unfold plL
    simp only [evk]
    rw [evk_addL x a b, κ_add]; grind
theorem evk_pScale (x : Fin m) (k : Nat) : ∀ a : List Nat, evk x (pScale a k) = κ m k * evk x a
  | [] => by show (0 : Fin m) = κ m k * 0; grind
  | y :: a => by
    have := evk_pScale x k a
    unfold pScale at this ⊢
    simp only [List.map_cons, evk]
    rw [this, κ_mul]; grind
theorem evk_tp (x : Fin m) (l : List Nat) : evk x (tp m l) = evk x l := evk_congr fun i => co_tp l i
/-! ### products -/
/-- A list times a function. -/
def ml : List Nat → (Nat → Fin m) → Nat → Fin m
  | [], _, _ => 0
  | x :: l, g, 0 => κ m x * g 0
  | x :: l, g, k + 1 => κ m x * g (k + 1) + ml l g k
theorem ml_sub (g h : Nat → Fin m) : ∀ (l : List Nat) (k : Nat), ml l (fun i => g i - h i) k = ml l g k - ml l h k
  | [], _ => by simp [ml]
  | x :: l, 0 => by simp only [ml]; grind
  | x :: l, k + 1 => by simp only [ml]; rw [ml_sub g h l k]; grind
def shf (g : Nat → Fin m) : Nat → Fin m
  | 0 => 0
  | k + 1 => g k
/-- One coefficient alone. -/
def one (low : Nat) (c : Fin m) (i : Nat) : Fin m := if i = low then c else 0
theorem cS_cons (x : Nat) (a b : List Nat) : ∀ (n k : Nat), κ m (cS (x :: a) b (n + 1) k) = κ m x * co m b k + (match k with | 0 => 0 | k + 1 => κ m (cS a b n k))
  | 0, k => by
    cases k with
    | zero => simp [cS, κ_mul, co]
    | succ k => simp [cS, κ_mul, κ_zero, co]
  | n + 1, k => by
    rw [cS, κ_add, cS_cons x a b n k]
    cases k with
    | zero => rw [if_neg (by omega), κ_zero]; grind
    | succ k =>
      simp only []
      rw [cS, κ_add]
      by_cases h : n ≤ k
      · rw [if_pos (by omega), if_pos h, show (x :: a).getD (n + 1) 0 = a.getD n 0 by simp, show k + 1 - (n + 1) = k - n by omega]; grind
      · rw [if_neg (by omega), if_neg h]; grind
theorem cS_ml (b : List Nat) : ∀ (a : List Nat) (k : Nat), κ m (cS a b a.length k) = ml a (co m b) k
  | [], k => by simp [cS, κ_zero, ml]
  | x :: a, 0 => by
    rw [List.length_cons, cS_cons]; simp only [ml]; grind
  | x :: a, k + 1 => by
    rw [List.length_cons, cS_cons]; simp only [ml]; rw [cS_ml b a k]
theorem co_pMul (a b : List Nat) (k : Nat) : co m (pMul a b) k = ml a (co m b) k := by
  rw [← cS_ml]; show κ m ((pMul a b).getD k 0) = _; rw [pMul_getD]
/-- The product as a list, by its first factor. -/
def mulL : List Nat → List Nat → List Nat
  | [], _ => []
  | x :: a, b => plL (pScale b x) (0 :: mulL a b)
theorem co_mulL : ∀ (a b : List Nat) (k : Nat), co m (mulL a b) k = ml a (co m b) k
  | [], b, k => by unfold mulL; rw [co_nil]; rfl
  | x :: a, b, 0 => by unfold mulL; rw [co_addL, co_pScale, co_0, κ_zero]; simp only [ml]; grind
  | x :: a, b, k + 1 => by unfold mulL; rw [co_addL, co_pScale, co_s, co_mulL a b k]; simp only [ml]
theorem evk_mulL (x : Fin m) : ∀ a b : List Nat, evk x (mulL a b) = evk x a * evk x b
  | [], b => by simp only [mulL, evk]; grind
  | y :: a, b => by
    unfold mulL
    rw [evk_addL, evk_pScale]
    simp only [evk]
    rw [evk_mulL x a b, κ_zero]; grind
theorem evk_pMul (x : Fin m) (a b : List Nat) : evk x (pMul a b) = evk x a * evk x b := by
  rw [← evk_mulL]
  exact evk_congr fun i => by rw [co_pMul, co_mulL]
/-! ### no divisors of nothing -/
theorem ml_top {Q : Nat → Fin m} {N : Nat} (hQ : ∀ i, N < i → Q i = 0) : ∀ {l : List Nat} {n : Nat}, l.length = n + 1 → ml l Q (N + n) = co m l n * Q N
  | [], n, h => by simp at h
  | [x], 0, _ => by
    rw [co_0, Nat.add_zero]
    cases N with
    | zero => rfl
    | succ N => simp only [ml]; grind
  | [x], n + 1, h => by simp at h
  | x :: y :: l, 0, h => by simp at h
  | x :: y :: l, n + 1, h => by
    rw [co_s, ← Nat.add_assoc]
    have := ml_top hQ (l := y :: l) (n := n) (by simpa using h)
    show κ m x * Q (N + n + 1) + ml (y :: l) Q (N + n) = _
    rw [this, hQ (N + n + 1) (by omega)]; grind
theorem ml_inj (P : PR m) {l : List Nat} {n : Nat} (hl : l.length = n + 1) (htop : co m l n ≠ 0) {Q : Nat → Fin m} : ∀ N, (∀ i, N ≤ i → Q i = 0) → (∀ k, n ≤ k → ml l Q k = 0) → ∀ i, Q i = 0
  | 0, hQ, _, i => hQ i (Nat.zero_le i)
  | N + 1, hQ, h, i => by
    have h1 := ml_top (N := N) (fun i hi => hQ i hi) hl
    rw [h (N + n) (by omega)] at h1
    have h2 : Q N = 0 := (f_nzd P h1.symm).resolve_left htop
    refine ml_inj P hl htop N (fun i hi => ?_) h i
    by_cases hi' : i = N
    · rw [hi']; exact h2
    · exact hQ i (by omega)
/-! ### roots -/
/-- What is left when a root's factor is taken out of c :: l. -/
def sdL (r : Fin m) : List Nat → List (Fin m)
  | [] => []
  | d :: l => evk r (d :: l) :: sdL r l
def evF (x : Fin m) : List (Fin m) → Fin m
  | [] => 0
  | c :: l => c + x * evF x l
theorem sdL_len (r : Fin m) : ∀ l : List Nat, (sdL r l).length = l.length
  | [] => rfl
  | d :: l => by simp [sdL, sdL_len r l]
theorem evF_map (x : Fin m) : ∀ l : List (Fin m), evk x (l.map Fin.val) = evF x l
  | [] => rfl
  | c :: l => by simp only [List.map_cons, evk, evF]; rw [evF_map x l, κ_self]
theorem sdL_ev (x r : Fin m) : ∀ l : List Nat, x * evk x l - r * evk r l = (x - r) * evF x (sdL r l)
  | [] => by simp only [sdL, evk, evF]; grind
  | d :: l => by
    have := sdL_ev x r l
    simp only [sdL, evk, evF] at this ⊢
    grind
theorem sdL_zero (r : Fin m) : ∀ {l : List Nat}, (∀ i, (sdL r l).getD i 0 = 0) → ∀ i, co m l i = 0
  | [], _, i => co_nil i
  | d :: l, h, i => by
    have h1 : ∀ i, co m l i = 0 := sdL_zero r fun i => by have := h (i + 1); simpa [sdL] using this
    cases i with
    | succ i => rw [co_s]; exact h1 i
    | zero =>
      have h0 : evk r (d :: l) = 0 := by have := h 0; simpa [sdL] using this
      unfold evk at h0
      rw [evk_zero h1] at h0
      rw [co_0]; grind
/-- More roots than coefficients: nothing at all. -/
theorem roots (P : PR m) : ∀ (rs : List (Fin m)) (l : List Nat), rs.Nodup → l.length ≤ rs.length → (∀ r ∈ rs, evk r l = 0) → ∀ i, co m l i = 0
  | [], l, _, hl, _, i => co_out (by simp at hl; simp [hl])
  | r :: rs, [], _, _, _, i => co_nil i
  | r :: rs, c :: l, hn, hl, h, i => by
    have hr : κ m c + r * evk r l = 0 := h r (by simp)
    have hq : ∀ i, co m ((sdL r l).map Fin.val) i = 0 := by
      refine roots P rs _ (List.nodup_cons.1 hn).2 (by simp [sdL_len] at hl ⊢; omega) fun r' h' => ?_
      rw [evF_map]
      have h1 : κ m c + r' * evk r' l = 0 := h r' (by simp [h'])
      have h2 := sdL_ev r' r l
      have h3 : (r' - r) * evF r' (sdL r l) = 0 := by rw [← h2]; grind
      refine (f_nzd P h3).resolve_left fun e => ?_
      have : r' = r := by grind
      exact (List.nodup_cons.1 hn).1 (this ▸ h')
    have hl0 : ∀ i, co m l i = 0 := sdL_zero r fun i => by
      have := hq i
      unfold co at this
      by_cases hi : i < (sdL r l).length
      · have e : ((sdL r l).map Fin.val).getD i 0 = ((sdL r l).getD i 0).val := by simp [List.getD, hi]
        rw [e, κ_self] at this
        exact this
      · simp [List.getD, Nat.not_lt.1 hi]
    cases i with
    | succ i => rw [co_s]; exact hl0 i
    | zero => rw [co_0]; rw [evk_zero hl0] at hr; grind
end
end Go.Sx
