/-
  The matching's loops, as functions of what is left to do. No conditions.
-/
import Derived.Test.YtmjhaopkhceegaaZLka
namespace Go.Sx
/-- The places of those that are the one ahead. -/
def rps : Option Nat → List Nat → Nat → List Nat
  | _, [], _ => []
  | p, v :: a, k => if p = some v then k :: rps (some v) a (k + 1) else rps (some v) a (k + 1)
theorem rps_len : ∀ (a : List Nat) (p : Option Nat) (k : Nat), (rps p a k).length + (nws p a).length = a.length
  | [], _, _ => rfl
  | v :: a, p, k => by
    have := rps_len a (some v) (k + 1)
    unfold rps nws
    split
    · simp only [List.length_cons]; omega
    · simp only [List.length_cons]; omega
theorem rps_lt : ∀ (a : List Nat) (p : Option Nat) (k : Nat), ∀ x ∈ rps p a k, k ≤ x ∧ x < k + a.length
  | [], _, _, x, h => by simp [rps] at h
  | v :: a, p, k, x, h => by
    unfold rps at h
    split at h
    · rcases List.mem_cons.1 h with rfl | h
      · simp
      · have := rps_lt a (some v) (k + 1) x h
        simp only [List.length_cons]; omega
    · have := rps_lt a (some v) (k + 1) x h
      simp only [List.length_cons]; omega
def putA : List Nat → List Nat → List Nat → List Nat
  | b, [], _ => b
  | b, k :: ks, l => putA (b.set k (l.headD 0)) ks l.tail
theorem putA_mtc : ∀ (a pre : List Nat) (p : Option Nat) (l : List Nat), putA (pre ++ a) (rps p a pre.length) l = pre ++ mtc p a l
  | [], pre, p, l => by simp [rps, putA, mtc]
  | v :: a, pre, p, l => by
    unfold rps mtc
    split
    · unfold putA
      have h := putA_mtc a (pre ++ [l.headD 0]) (some v) l.tail
      rw [List.length_append, List.length_singleton] at h
      rw [List.set_append_right _ _ (Nat.le_refl _), Nat.sub_self, List.set_cons_zero]
      simpa using h
    · have h := putA_mtc a (pre ++ [v]) (some v) l
      rw [List.length_append, List.length_singleton] at h
      simpa using h
theorem putA_snoc : ∀ (ks b l : List Nat) (k : Nat), putA b (ks ++ [k]) l = (putA b ks l).set k (l.getD ks.length 0)
  | [], b, l, k => by simp [putA, List.headD_eq_head?_getD, List.getD_eq_getElem?_getD, List.head?_eq_getElem?]
  | q :: ks, b, l, k => by
    show putA (b.set q (l.headD 0)) (ks ++ [k]) l.tail = _
    rw [putA_snoc ks]
    cases l <;> simp [putA]
theorem putA_len : ∀ (ks b l : List Nat), (putA b ks l).length = b.length
  | [], b, l => rfl
  | k :: ks, b, l => by rw [putA, putA_len ks, List.length_set]
/-- The one ahead of place i. -/
def ahd (a : List Nat) (i : Nat) : Option Nat := if i = 0 then none else some (a.getD (i - 1) 0)
theorem ahd_succ {a : List Nat} {i : Nat} : ahd a (i + 1) = some (a.getD i 0) := by simp [ahd]
theorem drop_at {a : List Nat} {i : Nat} (h : i < a.length) : a.drop i = a.getD i 0 :: a.drop (i + 1) := by
  rw [List.drop_eq_getElem_cons h]; congr 1; simp [List.getD, List.getElem?_eq_getElem h]
/-- The first place whose value is not less. -/
def lbd (v : Nat) (l : List Nat) : Nat := l.findIdx (fun x => decide (v ≤ x))
theorem lbd_uniq {v i : Nat} {l : List Nat} (h1 : ∀ j, j < i → l.getD j 0 < v) (h2 : i ≤ l.length) (h3 : i < l.length → v ≤ l.getD i 0) : i = lbd v l := by
  unfold lbd
  by_cases hi : i < l.length
  · refine ((List.findIdx_eq hi).2 ⟨?_, fun j hj => ?_⟩).symm
    · have := h3 hi
      simpa [List.getD, List.getElem?_eq_getElem hi] using this
    · have hj' : j < l.length := by omega
      have := h1 j hj
      simpa [List.getD, List.getElem?_eq_getElem hj'] using this
  · have : i = l.length := by omega
    subst this
    refine (List.findIdx_eq_length.2 fun x hx => ?_).symm
    obtain ⟨j, hj, rfl⟩ := List.getElem_of_mem hx
    have := h1 j hj
    simpa [List.getD, List.getElem?_eq_getElem hj] using this
theorem pw_getD {l : List Nat} (hs : l.Pairwise (· ≤ ·)) {i j : Nat} (h : i < j) (hj : j < l.length) : l.getD i 0 ≤ l.getD j 0 := by
  have := (List.pairwise_iff_getElem.1 hs) i j (by omega) hj h
  simpa [List.getD, List.getElem?_eq_getElem hj, List.getElem?_eq_getElem (show i < l.length by omega)] using this
theorem plc_get {v : Nat} {l : List Nat} (hk : plc v l < l.length) : l.getD (plc v l) 0 = v := by
  unfold plc at hk ⊢
  have := List.findIdx_getElem (w := hk)
  rw [List.getD_eq_getElem?_getD, List.getElem?_eq_getElem hk]
  exact of_decide_eq_true this
theorem lbd_plc {v : Nat} {l : List Nat} (hs : l.Pairwise (· ≤ ·)) (hm : v ∈ l) : lbd v l = plc v l := by
  have hk := plc_lt.2 hm
  have e := plc_get hk
  refine (lbd_uniq (fun j hj => ?_) (by omega) (fun _ => by omega)).symm
  have h1 := pw_getD hs hj hk
  have h2 : l.getD j 0 ≠ v := by
    have hj' : j < l.length := by omega
    have := List.not_of_lt_findIdx (p := fun x => decide (x = v)) (show j < l.findIdx (fun x => decide (x = v)) from hj)
    simpa [List.getD, List.getElem?_eq_getElem hj'] using this
  omega
theorem lbd_ok {v : Nat} {l : List Nat} (hs : l.Pairwise (· ≤ ·)) : (lbd v l < l.length ∧ l.getD (lbd v l) 0 = v) ↔ v ∈ l := by
  constructor
  · rintro ⟨h1, h2⟩
    rw [← h2]
    have : l.getD (lbd v l) 0 = l[lbd v l] := by simp [List.getD, List.getElem?_eq_getElem h1]
    rw [this]; exact List.getElem_mem h1
  · intro hm
    have hk := plc_lt.2 hm
    rw [lbd_plc hs hm]
    exact ⟨hk, plc_get hk⟩
theorem erase_pw {v : Nat} {l : List Nat} (h : l.Pairwise (· ≤ ·)) : (l.erase v).Pairwise (· ≤ ·) := h.sublist List.erase_sublist
end Go.Sx
