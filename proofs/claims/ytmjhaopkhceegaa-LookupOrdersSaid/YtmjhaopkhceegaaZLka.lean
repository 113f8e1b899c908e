/-
  Numbers in order: what the kit's sort answers is the rising list; inserting one by one answers it too. No conditions.
-/
import Derived.Test.YtmjhaopkhceegaaZFieldA
import Derived.Sort.AssemblyPlain
namespace Go.Sx
open Go.Sort
def ltN (x y : Nat) : Bool := decide (x < y)
theorem swo_ltN : SWO ltN where
  irrefl x := by simp [ltN]
  trans x y z h1 h2 := by simp only [ltN, decide_eq_true_eq] at *; omega
  ntrans x y z h1 h2 := by simp only [ltN, decide_eq_false_iff_not] at *; omega
def asc (l : List Nat) : List Nat := l.mergeSort (fun x y => !ltN y x)
theorem asc_perm (l : List Nat) : (asc l).Perm l := List.mergeSort_perm _ _
theorem le_ltN {x y : Nat} : (!ltN y x) = true ↔ x ≤ y := by simp only [ltN, Bool.not_eq_true', decide_eq_false_iff_not]; omega
theorem asc_pw (l : List Nat) : (asc l).Pairwise (· ≤ ·) := by
  refine (List.pairwise_mergeSort (le := fun x y => !ltN y x) ?_ ?_ l).imp fun h => le_ltN.1 h
  · intro a b c h1 h2
    rw [le_ltN] at *
    omega
  · intro a b
    rcases Nat.le_total a b with h | h
    · rw [le_ltN.2 h]; rfl
    · rw [le_ltN.2 h]; simp
theorem asc_uniq {l r : List Nat} (h : r.Perm l) (hs : r.Pairwise (· ≤ ·)) : r = asc l :=
  List.Perm.eq_of_pairwise (le := (· ≤ ·)) (fun a b _ _ h1 h2 => Nat.le_antisymm h1 h2) hs (asc_pw l) (h.trans (asc_perm l).symm)
theorem asc_len (l : List Nat) : (asc l).length = l.length := (asc_perm l).length_eq
theorem asc_mem {l : List Nat} {x : Nat} : x ∈ asc l ↔ x ∈ l := (asc_perm l).mem_iff
/-! ### One by one -/
/-- v put ahead of the first greater one. -/
def insU (v : Nat) : List Nat → List Nat
  | [] => [v]
  | x :: l => if v < x then v :: x :: l else x :: insU v l
theorem insU_perm (v : Nat) : ∀ l : List Nat, (insU v l).Perm (v :: l)
  | [] => .refl _
  | x :: l => by
    unfold insU
    split
    · exact .refl _
    · exact ((insU_perm v l).cons x).trans (.swap v x l)
theorem insU_pw (v : Nat) : ∀ {l : List Nat}, l.Pairwise (· ≤ ·) → (insU v l).Pairwise (· ≤ ·)
  | [], _ => by simp [insU]
  | x :: l, h => by
    have h1 := List.pairwise_cons.1 h
    unfold insU
    split
    · rename_i hv
      refine List.pairwise_cons.2 ⟨fun y hy => ?_, h⟩
      rcases List.mem_cons.1 hy with rfl | hy
      · omega
      · have := h1.1 y hy; omega
    · rename_i hv
      refine List.pairwise_cons.2 ⟨fun y hy => ?_, insU_pw v h1.2⟩
      rcases List.mem_cons.1 ((insU_perm v l).mem_iff.1 hy) with rfl | hy
      · omega
      · exact h1.1 y hy
def insA (l : List Nat) : List Nat := l.foldl (fun out v => insU v out) []
theorem insA_go : ∀ (l out : List Nat), out.Pairwise (· ≤ ·) → (l.foldl (fun out v => insU v out) out).Perm (l ++ out) ∧ (l.foldl (fun out v => insU v out) out).Pairwise (· ≤ ·)
  | [], out, h => ⟨.refl _, h⟩
  | v :: l, out, h => by
    obtain ⟨h1, h2⟩ := insA_go l (insU v out) (insU_pw v h)
    refine ⟨h1.trans ?_, h2⟩
    exact ((insU_perm v out).append_left l).trans List.perm_middle
theorem insA_asc (l : List Nat) : insA l = asc l := by
  obtain ⟨h1, h2⟩ := insA_go l [] .nil
  exact asc_uniq (by simpa [insA] using h1) h2
/-! ### A table beside its inputs -/
/-- The place of the first one. -/
def plc (v : Nat) (l : List Nat) : Nat := l.findIdx (fun x => decide (x = v))
theorem plc_lt {v : Nat} {l : List Nat} : plc v l < l.length ↔ v ∈ l := by
  unfold plc
  rw [List.findIdx_lt_length]
  simp
/-- What is left of the table when each value of the inputs was taken once; none: one was not there. p: the one ahead. -/
def lft : Option Nat → List Nat → List Nat → Option (List Nat)
  | _, [], left => some left
  | p, v :: a, left => if p = some v then lft (some v) a left else if v ∈ left then lft (some v) a (left.erase v) else none
/-- The matched ones: the value where it is met first, else the next that is left. -/
def mtc : Option Nat → List Nat → List Nat → List Nat
  | _, [], _ => []
  | p, v :: a, left => if p = some v then left.headD 0 :: mtc (some v) a left.tail else v :: mtc (some v) a left
theorem plc_erase {v : Nat} {l : List Nat} : l.eraseIdx (plc v l) = l.erase v := by
  unfold plc
  induction l with
  | nil => rfl
  | cons x l ih =>
    rw [List.findIdx_cons, List.erase_cons]
    by_cases h : x = v
    · subst h; simp
    · have hb : (x == v) = false := by simp [h]
      simp only [h, decide_false, hb, cond_false, if_false, List.eraseIdx_cons_succ, ih, Bool.false_eq_true]
/-- The values that are not the one ahead. -/
def nws : Option Nat → List Nat → List Nat
  | _, [] => []
  | p, v :: a => if p = some v then nws (some v) a else v :: nws (some v) a
theorem lft_perm : ∀ {a : List Nat} {p : Option Nat} {l0 l1 : List Nat}, lft p a l0 = some l1 → l0.Perm (nws p a ++ l1)
  | [], p, l0, l1, h => by simp only [lft, Option.some.injEq] at h; rw [h]; exact .refl _
  | v :: a, p, l0, l1, h => by
    unfold lft at h
    unfold nws
    split at h
    · rename_i hp; rw [if_pos hp]; exact lft_perm h
    · rename_i hp
      rw [if_neg hp]
      split at h
      · rename_i hm
        exact (List.perm_cons_erase hm).trans ((lft_perm h).cons v)
      · cases h
theorem nws_le : ∀ (a : List Nat) (p : Option Nat), (nws p a).length ≤ a.length
  | [], p => by simp [nws]
  | v :: a, p => by
    unfold nws
    split
    · have := nws_le a (some v); simp only [List.length_cons]; omega
    · have := nws_le a (some v); simp only [List.length_cons]; omega
theorem mtc_perm : ∀ {a : List Nat} {p : Option Nat} {l : List Nat}, (nws p a).length + l.length = a.length → (mtc p a l).Perm (nws p a ++ l)
  | [], p, l, h => by
    have : l = [] := List.length_eq_zero_iff.1 (by simpa [nws] using h)
    subst this; exact .refl _
  | v :: a, p, l, h => by
    unfold mtc
    unfold nws at h ⊢
    split at h
    · rename_i hp
      rw [if_pos hp, if_pos hp]
      match l, h with
      | [], h =>
        have := nws_le a (some v)
        simp only [List.length_cons, List.length_nil] at h
        omega
      | x :: l, h =>
        exact ((mtc_perm (p := some v) (a := a) (l := l) (by simp only [List.length_cons] at h; omega)).cons x).trans List.perm_middle.symm
    · rename_i hp
      rw [if_neg hp, if_neg hp]
      exact (mtc_perm (p := some v) (a := a) (l := l) (by simp only [List.length_cons] at h; omega)).cons v
theorem mtc_len : ∀ (a : List Nat) (p : Option Nat) (l : List Nat), (mtc p a l).length = a.length
  | [], _, _ => rfl
  | v :: a, p, l => by
    unfold mtc
    split
    · simp [mtc_len a]
    · simp [mtc_len a]
/-- Beside each stands it itself, or it is the one ahead. -/
theorem mtc_at : ∀ {a : List Nat} {p : Option Nat} {l : List Nat} {i : Nat}, i < a.length → (mtc p a l).getD i 0 = a.getD i 0 ∨ (if i = 0 then p = some (a.getD 0 0) else a.getD (i - 1) 0 = a.getD i 0)
  | v :: a, p, l, 0, _ => by
    unfold mtc
    split
    · right; simpa using ‹p = some v›
    · left; rfl
  | v :: a, p, l, i + 1, h => by
    have h' : i < a.length := by simpa using h
    have key : ∀ l', (mtc (some v) a l').getD i 0 = a.getD i 0 ∨ (v :: a).getD i 0 = a.getD i 0 := fun l' => by
      rcases mtc_at (p := some v) (l := l') h' with h1 | h1
      · exact .inl h1
      · right
        split at h1
        · rename_i hi; subst hi; simpa using h1
        · rename_i hi
          obtain ⟨j, rfl⟩ : ∃ j, i = j + 1 := ⟨i - 1, by omega⟩
          simpa using h1
    rw [if_neg (by omega), Nat.add_sub_cancel, List.getD_cons_succ]
    unfold mtc
    split
    · rw [List.getD_cons_succ]; exact key _
    · rw [List.getD_cons_succ]; exact key _
/-- None: one was not there. -/
theorem lft_none : ∀ {a : List Nat} {p : Option Nat} {l : List Nat}, a.Pairwise (· ≤ ·) → (∀ v, p = some v → ∀ x ∈ a, v ≤ x) → lft p a l = none → ∃ w ∈ a, p ≠ some w ∧ w ∉ l
  | v :: a, p, l, hs, hp, h => by
    have hs' := List.pairwise_cons.1 hs
    unfold lft at h
    split at h
    · rename_i e
      obtain ⟨w, h1, h2, h3⟩ := lft_none hs'.2 (fun x hx y hy => by cases hx; exact hs'.1 y hy) h
      exact ⟨w, List.mem_cons_of_mem _ h1, by rw [e]; exact h2, h3⟩
    · rename_i e
      split at h
      · rename_i hm
        obtain ⟨w, h1, h2, h3⟩ := lft_none hs'.2 (fun x hx y hy => by cases hx; exact hs'.1 y hy) h
        have hne : w ≠ v := fun he => h2 (by rw [he])
        refine ⟨w, List.mem_cons_of_mem _ h1, fun he => ?_, fun hm' => h3 ((List.mem_erase_of_ne hne).2 hm')⟩
        have q1 := hp w he v (by simp)
        have q2 := hs'.1 w h1
        exact hne (Nat.le_antisymm q1 q2)
      · rename_i hm
        exact ⟨v, by simp, e, hm⟩
end Go.Sx
