/-
  Products, of poly and of the reference. No conditions.
-/
import Derived.Test.YtndmafefpiigoaaZPolyA
namespace Go.Sx
open Go.Proofs Go.Num
-- SY
-- TY: TYX, UX
set_option maxRecDepth 100000
set_option linter.unusedSimpArgs false
set_option pp.deepTerms true
set_option pp.maxSteps 100000
/-- A product's coefficient, of the first n of a. -/
def cS (a b : List Nat) : Nat → Nat → Nat
  | 0, _ => 0
  | n + 1, k => cS a b n k + (if n ≤ k then a.getD n 0 * b.getD (k - n) 0 else 0)
def pMul (a b : List Nat) : List Nat := tab (a.length + b.length) (cS a b a.length)
/-- What the loops have made when i rows and j columns are through. -/
def cv (m : Nat) (a b : List Nat) (i j k : Nat) : Nat := (cS a b i k + (if i ≤ k ∧ k < i + j then a.getD i 0 * b.getD (k - i) 0 else 0)) % m
theorem cS_out {a b : List Nat} : ∀ {n k : Nat}, n + b.length ≤ k + 1 → b.length ≠ 0 → cS a b n k = 0
  | 0, _, _, _ => rfl
  | n + 1, k, h, h0 => by
    rw [cS, cS_out (n := n) (by omega) h0, if_pos (by omega), getD_out (l := b) (i := k - n) (by omega), Nat.mul_zero]
theorem cS_nil {a : List Nat} : ∀ {n k : Nat}, cS a [] n k = 0
  | 0, _ => rfl
  | n + 1, k => by rw [cS, cS_nil]; simp
def mulR (m : Nat) (a b : List Nat) : List Nat := if a.length = 0 ∨ b.length = 0 then [] else tab (a.length + b.length - 1) (cv m a b a.length 0)
theorem pMul_getD (a b : List Nat) (k : Nat) : (pMul a b).getD k 0 = cS a b a.length k := by
  unfold pMul
  by_cases h : k < a.length + b.length
  · rw [tab_at h]
  · rw [tab_out (by omega)]
    by_cases h0 : b.length = 0
    · rw [List.eq_nil_of_length_eq_zero h0, cS_nil]
    · rw [cS_out (by omega) h0]
/-! ### what is trimmed already -/
/-- A polynomial over m. -/
structure Nrm (m : Nat) (l : List Nat) : Prop where
  lt : ∀ x ∈ l, x < m
  last : l = [] ∨ l.getD (l.length - 1) 0 ≠ 0
theorem Nrm.tp {m : Nat} {l : List Nat} (h : Nrm m l) : tp m l = l := tp_norm h.lt h.last
theorem nrm_tp {m : Nat} (hm : 0 < m) (l : List Nat) : Nrm m (Sx.tp m l) := by
  refine ⟨tp_lt hm l, ?_⟩
  by_cases h : Sx.tp m l = []
  · exact .inl h
  · refine .inr ?_
    rw [tp_getD]
    exact tp_last h
theorem Nrm.w {s : Int} {l : List Nat} (h : Nrm (md s) l) : ∀ x ∈ l, x < W256 := fun x hx => md_w2 (h.lt x hx)
theorem cS_top {a b : List Nat} (ha : a.length ≠ 0) (hb : b.length ≠ 0) : cS a b a.length (a.length + b.length - 2) = a.getD (a.length - 1) 0 * b.getD (b.length - 1) 0 := by
  obtain ⟨n, hn⟩ : ∃ n, a.length = n + 1 := ⟨a.length - 1, by omega⟩
  rw [hn, cS, cS_out (by omega) hb, if_pos (by omega)]
  have e1 : n + 1 + b.length - 2 - n = b.length - 1 := by omega
  rw [e1]; simp
theorem nzd {s : Int} (P : PR (md s)) {x y : Nat} (hx : x < md s) (hy : y < md s) (h : x ≠ 0) (h' : y ≠ 0) : x * y % md s ≠ 0 := by
  intro h0
  rw [← κ_eq0, κ_mul] at h0
  rcases f_nzd P h0 with h1 | h1
  · rw [κ_eq0, Nat.mod_eq_of_lt hx] at h1; exact h h1
  · rw [κ_eq0, Nat.mod_eq_of_lt hy] at h1; exact h' h1
theorem mulR_tp {s : Int} (P : PR (md s)) {a b : List Nat} (ha : Nrm (md s) a) (hb : Nrm (md s) b) : mulR (md s) a b = tp (md s) (pMul a b) := by
  by_cases h0 : a.length = 0
  · have : a = [] := List.eq_nil_of_length_eq_zero h0
    subst this
    have e : tp (md s) (pMul [] b) = [] := List.eq_nil_of_length_eq_zero (Nat.le_zero.1 (tp_len_le (n := 0) fun i _ => by rw [pMul_getD]; exact Nat.zero_mod _))
    rw [e]; simp [mulR]
  · by_cases h1 : b.length = 0
    · have : b = [] := List.eq_nil_of_length_eq_zero h1
      subst this
      have e : tp (md s) (pMul a []) = [] := List.eq_nil_of_length_eq_zero (Nat.le_zero.1 (tp_len_le (n := 0) fun i _ => by rw [pMul_getD, cS_nil]; exact Nat.zero_mod _))
      rw [e]; simp [mulR]
    · have hlast : cS a b a.length (a.length + b.length - 2) % md s ≠ 0 := by
        rw [cS_top h0 h1]
        refine nzd P ?_ ?_ (ha.last.resolve_left (by intro e; subst e; simp at h0)) (hb.last.resolve_left (by intro e; subst e; simp at h1))
        · exact getD_lt ha.lt (by omega)
        · exact getD_lt hb.lt (by omega)
      have hl : (tp (md s) (pMul a b)).length = a.length + b.length - 1 := by
        refine tp_len_eq (fun i hi => ?_) (.inr ?_)
        · rw [pMul_getD, cS_out (by omega) h1, Nat.zero_mod]
        · rw [pMul_getD, show a.length + b.length - 1 - 1 = a.length + b.length - 2 by omega]
          exact hlast
      unfold mulR
      rw [if_neg (by omega)]
      refine getD_ext (by rw [tab_len, hl]) fun i => ?_
      rw [tp_getD, pMul_getD]
      by_cases hi : i < a.length + b.length - 1
      · rw [tab_at hi]
        unfold cv
        rw [if_neg (by omega), Nat.add_zero]
      · rw [tab_out (by omega), cS_out (by omega) h1, Nat.zero_mod]
end Go.Sx
