/-
  The product of a lookup comes back to 1. No conditions.
-/
import Derived.Test.YtmjhaopkhceegaaZLkp
import Derived.Test.YtmjhaopkhceegaaZLky
namespace Go.Sx
open Go.Proofs Go.Num
section
variable {m : Nat} [NeZero m]
/-- A product over a list. -/
def lp (f : Nat → Fin m) : List Nat → Fin m
  | [] => 1
  | x :: l => f x * lp f l
theorem lp_perm {f : Nat → Fin m} {l r : List Nat} (h : l.Perm r) : lp f l = lp f r := by
  induction h with
  | nil => rfl
  | cons x _ ih => simp only [lp, ih]
  | swap x y l => simp only [lp]; grind
  | trans _ _ i1 i2 => rw [i1, i2]
theorem lp_snoc {f : Nat → Fin m} {x : Nat} : ∀ l : List Nat, lp f (l ++ [x]) = lp f l * f x
  | [] => by simp only [List.nil_append, lp]; grind
  | y :: l => by simp only [List.cons_append, lp, lp_snoc l]; grind
/-- A product of the first r. -/
def PF (f : Nat → Fin m) : Nat → Fin m
  | 0 => 1
  | r + 1 => PF f r * f r
theorem PF_mul {f g : Nat → Fin m} : ∀ r, PF (fun j => f j * g j) r = PF f r * PF g r
  | 0 => by simp only [PF]; grind
  | r + 1 => by simp only [PF, PF_mul r]; grind
theorem PF_take {g : Nat → Fin m} {l : List Nat} : ∀ r, r ≤ l.length → PF (fun j => g (l.getD j 0)) r = lp g (l.take r)
  | 0, _ => by simp [PF, lp]
  | r + 1, h => by rw [PF, PF_take r (by omega), take_snoc (by omega), lp_snoc]
theorem PF_all {g : Nat → Fin m} {l : List Nat} : PF (fun j => g (l.getD j 0)) l.length = lp g l := by rw [PF_take _ (Nat.le_refl _), List.take_length]
theorem PF_ne (P : PR m) {f : Nat → Fin m} : ∀ r, (∀ j, j < r → f j ≠ 0) → PF f r ≠ 0
  | 0, _ => f_one_ne P
  | r + 1, h => fun h0 => by
    rcases f_nzd P h0 with h1 | h1
    · exact PF_ne P r (fun j hj => h j (by omega)) h1
    · exact h r (by omega) h1
end
theorem lp_rsd {s : Int} {f : Nat → Fin (md s)} (hf : ∀ x, f (x % md s) = f x) : ∀ l : List Nat, lp f (rsd s l) = lp f l
  | [] => rfl
  | x :: l => by
    show f (x % md s) * lp f (rsd s l) = _
    rw [hf, lp_rsd hf l]; rfl
theorem κ_prN (s : Int) (β γ a b : Nat) : κ (md s) (prN s β γ a b) = (κ (md s) a + κ (md s) β) * (κ (md s) b + κ (md s) γ) := by
  unfold prN
  rw [κ_mod, κ_mul, κ_mod, κ_mod, κ_add, κ_add]
theorem κ_inv' (s : Int) (a : Nat) : κ (md s) (inv s a) = ι (κ (md s) a) := by
  unfold inv ι; rw [κ_mod, κ_pow]
theorem pdZ_PF {s : Int} {β γ : Nat} {i t so ma : List Nat} (P : PR (md s)) : ∀ r, (∀ j, j < r → pdD s β γ so ma j ≠ 0) →
    κ (md s) (pdZ s β γ i t so ma r) * PF (fun j => κ (md s) (pdD s β γ so ma j)) r = PF (fun j => κ (md s) (prN s β γ (i.getD j 0) (t.getD j 0))) r
  | 0, _ => by simp only [pdZ, PF, κ_one]; grind
  | r + 1, h => by
    have ih := pdZ_PF (i := i) (t := t) P r (fun j hj => h j (by omega))
    have hn : κ (md s) (pdD s β γ so ma r) ≠ 0 := by
      intro h0
      rw [κ_eq0, Nat.mod_eq_of_lt (show pdD s β γ so ma r < md s from md_mod s _)] at h0
      exact h r (by omega) h0
    have hi := ι_mul P hn
    simp only [pdZ, PF]
    rw [κ_mod, κ_mul, κ_mod, κ_mul, κ_inv']
    grind
/-- The product's end. -/
theorem pdZ_end {s : Int} {β γ : Nat} {i t L : List Nat} (P : PR (md s)) (hl : i.length = t.length) (hf : lft none (asc (rsd s i)) (asc (rsd s t)) = some L)
    (hd : ∀ j, j < i.length → pdD s β γ (asc (rsd s i)) (mtc none (asc (rsd s i)) L) j ≠ 0) : κ (md s) (pdZ s β γ i t (asc (rsd s i)) (mtc none (asc (rsd s i)) L) i.length) = 1 := by
  have h1 := pdZ_PF (i := i) (t := t) P i.length hd
  have hA : (asc (rsd s i)).length = i.length := by rw [asc_len, rsd_len]
  have hB : (mtc none (asc (rsd s i)) L).length = i.length := by rw [mtc_len, hA]
  have hp := pm_perm hl hf
  have hne := PF_ne P (f := fun j => κ (md s) (pdD s β γ (asc (rsd s i)) (mtc none (asc (rsd s i)) L) j)) i.length (fun j hj h0 => by
    rw [κ_eq0, Nat.mod_eq_of_lt (show pdD s β γ _ _ j < md s from md_mod s _)] at h0
    exact hd j hj h0)
  have e1 : PF (fun j => κ (md s) (pdD s β γ (asc (rsd s i)) (mtc none (asc (rsd s i)) L) j)) i.length = PF (fun j => κ (md s) (prN s β γ (i.getD j 0) (t.getD j 0))) i.length := by
    unfold pdD
    simp only [κ_prN]
    rw [PF_mul, PF_mul]
    have a1 := PF_all (g := fun x => κ (md s) x + κ (md s) β) (l := asc (rsd s i))
    have a2 := PF_all (g := fun x => κ (md s) x + κ (md s) β) (l := i)
    have a3 := PF_all (g := fun x => κ (md s) x + κ (md s) γ) (l := mtc none (asc (rsd s i)) L)
    have a4 := PF_all (g := fun x => κ (md s) x + κ (md s) γ) (l := t)
    rw [hA] at a1
    rw [hB] at a3
    rw [← hl] at a4
    rw [a1, a2, a3, a4, lp_perm (asc_perm _), lp_perm hp, lp_rsd (fun x => by rw [κ_mod]), lp_rsd (fun x => by rw [κ_mod])]
  rw [e1] at h1 hne
  have h2 : (κ (md s) (pdZ s β γ i t (asc (rsd s i)) (mtc none (asc (rsd s i)) L) i.length) - 1) * PF (fun j => κ (md s) (prN s β γ (i.getD j 0) (t.getD j 0))) i.length = 0 := by grind
  rcases f_nzd P h2 with h3 | h3
  · grind
  · exact absurd h3 hne
end Go.Sx
