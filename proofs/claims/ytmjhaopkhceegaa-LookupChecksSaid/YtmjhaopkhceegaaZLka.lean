/-
  Numbers in order: what the kit's sort answers is the rising list; inserting one by one answers it too. No conditions.
-/
import Derived.Test.YtmjhaopkhceegaaZFieldA
import Derived.Sort.AssemblyPlain
namespace Go.Sx
open Go.Sort
def ltN (x y : Nat) : Bool := decide (x < y)
theorem swo_ltN : SWO ltN where
  irrefl x := by simp [ltN]
  trans x y z h1 h2 := by simp only [ltN, decide_eq_true_eq] at *; omega
  ntrans x y z h1 h2 := by simp only [ltN, decide_eq_false_iff_not] at *; omega
def asc (l : List Nat) : List Nat := l.mergeSort (fun x y => !ltN y x)
theorem asc_perm (l : List Nat) : (asc l).Perm l := List.mergeSort_perm _ _
theorem le_ltN {x y : Nat} : (!ltN y x) = true ↔ x ≤ y := by simp only [ltN, Bool.not_eq_true', decide_eq_false_iff_not]; omega
theorem asc_pw (l : List Nat) : (asc l).Pairwise (· ≤ ·) := by
  refine (List.pairwise_mergeSort (le := fun x y => !ltN y x) ?_ ?_ l).imp fun h => le_ltN.1 h
  · intro a b c h1 h2
    rw [le_ltN] at *
    omega
  · intro a b
    rcases Nat.le_total a b with h | h
    · rw [le_ltN.2 h]; rfl
    · rw [le_ltN.2 h]; simp
theorem asc_uniq {l r : List Nat} (h : r.Perm l) (hs : r.Pairwise (· ≤ ·)) : r = asc l :=
  List.Perm.eq_of_pairwise (le := (· ≤ ·)) (fun a b _ _ h1 h2 => Nat.le_antisymm h1 h2) hs (asc_pw l) (h.trans (asc_perm l).symm)
theorem asc_len (l : List Nat) : (asc l).length = l.length := (asc_perm l).length_eq
theorem asc_mem {l : List Nat} {x : Nat} : x ∈ asc l ↔ x ∈ l := (asc_perm l).mem_iff
/-! ### One by one -/
/-- v put ahead of the first greater one. -/
def insU (v : Nat) : List Nat → List Nat
  | [] => [v]
  | x :: l => if v < x then v :: x :: l else x :: insU v l
theorem insU_perm (v : Nat) : ∀ l : List Nat, (insU v l).Perm (v :: l)
  | [] => .refl _
  | x :: l => by
    unfold insU
    split
    · exact .refl _
    · exact ((insU_perm v l).cons x).trans (.swap v x l)
theorem insU_pw (v : Nat) : ∀ {l : List Nat}, l.Pairwise (· ≤ ·) → (insU v l).Pairwise (· ≤ ·)
  | [], _ => by simp [insU]
  | x :: l, h => by
    have h1 := List.pairwise_cons.1 h
    unfold insU
    split
    · rename_i hv
      refine List.pairwise_cons.2 ⟨fun y hy => ?_, h⟩
      rcases List.mem_cons.1 hy with rfl | hy
      · omega
      · have := h1.1 y hy; omega
    · rename_i hv
      refine List.pairwise_cons.2 ⟨fun y hy => ?_, insU_pw v h1.2⟩
      rcases List.mem_cons.1 ((insU_perm v l).mem_iff.1 hy) with rfl | hy
      · omega
      · exact h1.1 y hy
def insA (l : List Nat) : List Nat := l.foldl (fun out v => insU v out) []
theorem insA_go : ∀ (l out : List Nat), out.Pairwise (· ≤ ·) → (l.foldl (fun out v => insU v out) out).Perm (l ++ out) ∧ (l.foldl (fun out v => insU v out) out).Pairwise (· ≤ ·)
  | [], out, h => ⟨.refl _, h⟩
  | v :: l, out, h => by
    obtain ⟨h1, h2⟩ := insA_go l (insU v out) (insU_pw v h)
    refine ⟨h1.trans ?_, h2⟩
    exact ((insU_perm v out).append_left l).trans List.perm_middle
theorem insA_asc (l : List Nat) : insA l = asc l := by
  obtain ⟨h1, h2⟩ := insA_go l [] .nil
  exact asc_uniq (by simpa [insA] using h1) h2
/-! ### A table beside its inputs -/
/-- The place of the first one. -/
def plc (v : Nat) (l : List Nat) : Nat := l.findIdx (fun x => decide (x = v))
theorem plc_lt {v : Nat} {l : List Nat} : plc v l < l.length ↔ v ∈ l := by
  unfold plc
  rw [List.findIdx_lt_length]
  simp
/-- What is left of the table when each value of the inputs was taken once; none: one was not there. p: the one ahead. -/
def lft : Option Nat → List Nat → List Nat → Option (List Nat)
  | _, [], left => some left
  | p, v :: a, left => if p = some v then lft (some v) a left else if v ∈ left then lft (some v) a (left.erase v) else none
/-- The matched ones: the value where it is met first, else the next that is left. -/
def mtc : Option Nat → List Nat → List Nat → List Nat
  | _, [], _ => []
  | p, v :: a, left => if p = some v then left.headD 0 :: mtc (some v) a left.tail else v :: mtc (some v) a left
theorem plc_erase {v : Nat} {l : List Nat} : l.eraseIdx (plc v l) = l.erase v := by
  unfold plc
  induction l with
  | nil => rfl
  | cons x l ih =>
    rw [List.findIdx_cons, List.erase_cons]
    by_cases h : x = v
    · subst h; simp
    · have hb : (x == v) = false := by simp [h]
      simp only [h, decide_false, hb, cond_false, if_false, List.eraseIdx_cons_succ, ih, Bool.false_eq_true]
/-- The values that are not the one ahead. -/
def nws : Option Nat → List Nat → List Nat
  | _, [] => []
  | p, v :: a => if p = some v then nws (some v) a else v :: nws (some v) a
theorem lft_perm : ∀ {a : List Nat} {p : Option Nat} {l0 l1 : List Nat}, lft p a l0 = some l1 → l0.Perm (nws p a ++ l1)
  | [], p, l0, l1, h => by simp only [lft, Option.some.injEq] at h; rw [h]; exact .refl _
  | v :: a, p, l0, l1, h => by
    unfold lft at h
    unfold nws
    split at h
    · rename_i hp; rw [if_pos hp]; exact lft_perm h
    · rename_i hp
      rw [if_neg hp]
      split at h
      · rename_i hm
        exact (List.perm_cons_erase hm).trans ((lft_perm h).cons v)
      · cases h
theorem mtc_len : ∀ (a : List Nat) (p : Option Nat) (l : List Nat), (mtc p a l).length = a.length
  | [], _, _ => rfl
  | v :: a, p, l => by
    unfold mtc
    split
    · simp [mtc_len a]
    · simp [mtc_len a]
end Go.Sx
