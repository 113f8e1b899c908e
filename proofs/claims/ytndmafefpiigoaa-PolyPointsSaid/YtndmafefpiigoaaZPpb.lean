/-
  Division, as a law. No conditions.
-/
import Derived.Test.YtndmafefpiigoaaZPpa
import Derived.Test.YtndmafefpiigoaaZPox
namespace Go.Sx
open Go.Proofs Go.Num
set_option maxRecDepth 100000
set_option linter.unusedSimpArgs false
theorem κ_sb {m : Nat} [NeZero m] (x y : Nat) : κ m (sb m x y) = κ m x - κ m y := by
  unfold sb
  rw [κ_mod, κ_add, κ_sub]; grind
section
variable {s : Int} {B : List Nat} {lead la : Nat} {f0 : Nat → Nat}
theorem dR_co (t k : Nat) : κ (md s) (dR (md s) B lead la f0 (t + 1) k) = κ (md s) (dR (md s) B lead la f0 t k) - ml B (one (la - B.length - t) (κ (md s) (dq (md s) B lead la f0 t))) k := by
  rw [ml_one]
  show κ (md s) (if la - B.length - t ≤ k ∧ k < la - B.length - t + B.length then _ else _) = _
  by_cases h1 : la - B.length - t ≤ k
  · rw [if_pos h1]
    by_cases h2 : k < la - B.length - t + B.length
    · rw [if_pos ⟨h1, h2⟩, κ_sb, κ_mod, κ_mul]
      unfold dq co
      grind
    · rw [if_neg (by omega), co_out (by omega)]; grind
  · rw [if_neg (by omega), if_neg h1]; grind
theorem dQ2_co {t : Nat} (ht : t ≤ la - B.length) (i : Nat) : κ (md s) (dQ2 (md s) B lead la f0 (t + 1) i) = κ (md s) (dQ2 (md s) B lead la f0 t i) + one (la - B.length - t) (κ (md s) (dq (md s) B lead la f0 t)) i := by
  unfold one
  by_cases h : i = la - B.length - t
  · rw [if_pos h, h, dQ2_at ht]
    unfold dQ2 dQ
    rw [if_pos (by omega), if_neg (by omega), κ_zero]; grind
  · rw [if_neg h]
    unfold dQ2 dQ
    by_cases h1 : i ≤ la - B.length
    · rw [if_pos h1, if_pos h1]
      by_cases h2 : la - B.length < i + t
      · rw [if_pos h2, if_pos (by omega)]; grind
      · rw [if_neg h2, if_neg (by omega)]; grind
    · rw [if_neg h1, if_neg h1]; grind
theorem dInv : ∀ t, t ≤ la + 1 - B.length → ∀ k, κ (md s) (f0 k) = ml B (fun i => κ (md s) (dQ2 (md s) B lead la f0 t i)) k + κ (md s) (dR (md s) B lead la f0 t k)
  | 0, _, k => by
    have : (fun i => κ (md s) (dQ2 (md s) B lead la f0 0 i)) = fun _ => (0 : Fin (md s)) := by
      funext i
      unfold dQ2 dQ
      split
      · rw [if_neg (by omega), κ_zero]
      · exact κ_zero
    rw [this, ml_zero]
    show _ = 0 + κ (md s) (f0 k)
    grind
  | t + 1, ht, k => by
    by_cases hB : B.length = 0
    · have h0 : ∀ (g : Nat → Fin (md s)) (k : Nat), ml B g k = 0 := by
        rw [List.eq_nil_of_length_eq_zero hB]; exact fun _ _ => rfl
      have := dInv t (by omega) k
      rw [this, dR_co, h0, h0, h0]; grind
    have h1 : t ≤ la - B.length := by omega
    rw [dInv t (by omega) k, dR_co, ml_congr (dQ2_co h1), ml_add]
    grind
theorem dTop (hB : B.length ≠ 0) (hlead : κ (md s) lead * co (md s) B (B.length - 1) = 1) (hf : ∀ k, la ≤ k → f0 k = 0) : ∀ t, t ≤ la + 1 - B.length → ∀ k, la - t ≤ k → κ (md s) (dR (md s) B lead la f0 t k) = 0
  | 0, _, k, hk => by
    show κ (md s) (f0 k) = 0
    rw [hf k (by omega), κ_zero]
  | t + 1, ht, k, hk => by
    rw [dR_co, ml_one]
    have h1 : la - B.length - t ≤ k := by omega
    rw [if_pos h1]
    by_cases h2 : k = la - 1 - t
    · have e : k - (la - B.length - t) = B.length - 1 := by omega
      rw [e]
      unfold dq
      rw [κ_mod, κ_mul, ← h2]
      grind
    · rw [dTop hB hlead hf t (by omega) k (by omega), co_out (by omega)]; grind
end
theorem ldD_inv {s : Int} (P : PR (md s)) {b : List Nat} (h : (tp (md s) b).length ≠ 0) : κ (md s) (ldD s b) * co (md s) (tp (md s) b) ((tp (md s) b).length - 1) = 1 := by
  have hB := nrm_tp (md_pos s) b
  have hne := hB.last.resolve_left (by intro e; rw [e] at h; exact h rfl)
  have hlt : (tp (md s) b).getD ((tp (md s) b).length - 1) 0 < md s := getD_lt hB.lt (by omega)
  have e : κ (md s) ((tp (md s) b).getD ((tp (md s) b).length - 1) 0) ≠ 0 := by
    rw [Ne, κ_eq0, Nat.mod_eq_of_lt hlt]; exact hne
  have := ι_mul P e
  unfold ldD co
  rw [κ_inv]; grind
theorem top_ne {s : Int} {b : List Nat} (h : (tp (md s) b).length ≠ 0) : co (md s) (tp (md s) b) ((tp (md s) b).length - 1) ≠ 0 := by
  have hB := nrm_tp (md_pos s) b
  have hne := hB.last.resolve_left (by intro e; rw [e] at h; exact h rfl)
  have hlt : (tp (md s) b).getD ((tp (md s) b).length - 1) 0 < md s := getD_lt hB.lt (by omega)
  unfold co
  rw [Ne, κ_eq0, Nat.mod_eq_of_lt hlt]; exact hne
/-- A division's law. -/
theorem dv_spec {s : Int} {a b : List Nat} (hok : okD s a b = true) : (∀ k, co (md s) a k = ml (tp (md s) b) (co (md s) (dvQ s a b)) k + co (md s) (dvR s a b) k) ∧ (dvR s a b).length < (tp (md s) b).length := by
  have hk : kn s = true ∧ (tp (md s) b).length ≠ 0 := by
    unfold okD at hok; simp only [Bool.and_eq_true, decide_eq_true_eq] at hok; exact hok.1
  have P := pr_of hk.1
  have hf : ∀ k, (tp (md s) a).length ≤ k → (tp (md s) a).getD k 0 = 0 := fun k hk => getD_out hk
  have h1 := dInv (s := s) (B := tp (md s) b) (lead := ldD s b) (la := (tp (md s) a).length) (f0 := fun k => (tp (md s) a).getD k 0) (nD s a b) (Nat.le_refl _)
  have h2 := dTop (s := s) (B := tp (md s) b) (lead := ldD s b) (la := (tp (md s) a).length) (f0 := fun k => (tp (md s) a).getD k 0) hk.2 (ldD_inv P hk.2) hf (nD s a b) (Nat.le_refl _)
  have eQ : dvQ s a b = tab (nD s a b) (dQs s a b (nD s a b)) := by simp [dvQ, hok]
  have eR : dvR s a b = tp (md s) (tab (tp (md s) a).length (dRs s a b (nD s a b))) := by simp [dvR, hok]
  have hR : ∀ k, co (md s) (tab (tp (md s) a).length (dRs s a b (nD s a b))) k = κ (md s) (dRs s a b (nD s a b) k) := by
    intro k
    unfold co
    by_cases h : k < (tp (md s) a).length
    · rw [tab_at h]
    · rw [tab_out (by omega), κ_zero]
      exact (h2 k (by omega)).symm
  constructor
  · intro k
    rw [eQ, eR, co_tp, hR, ← co_tp a k]
    have hQ : ∀ i, co (md s) (tab (nD s a b) (dQs s a b (nD s a b))) i = κ (md s) (dQ2 (md s) (tp (md s) b) (ldD s b) (tp (md s) a).length (fun k => (tp (md s) a).getD k 0) (nD s a b) i) := by
      intro i
      unfold co dQ2
      by_cases h : i < nD s a b
      · rw [tab_at h, if_pos (by unfold nD at h; omega)]; rfl
      · rw [tab_out (by omega)]
        by_cases h3 : i ≤ (tp (md s) a).length - (tp (md s) b).length
        · have h4 : nD s a b = 0 := by unfold nD at h ⊢; omega
          rw [if_pos h3]
          unfold dQ
          rw [if_neg (by rw [h4]; unfold nD at h4; omega)]
        · rw [if_neg h3]
    rw [ml_congr hQ]
    exact h1 k
  · have : (tp (md s) (tab (tp (md s) a).length (dRs s a b (nD s a b)))).length ≤ (tp (md s) b).length - 1 := by
      refine tp_len_le fun i hi => ?_
      rw [← κ_eq0]
      have := hR i
      unfold co at this
      rw [this]
      refine h2 i ?_
      unfold nD
      omega
    rw [eR]
    have := hk.2
    omega
/-- A division without a rest. -/
theorem dv_exact {s : Int} {a b q : List Nat} (hok : okD s a b = true) (h : ∀ k, co (md s) a k = ml (tp (md s) b) (co (md s) q) k) : (∀ i, co (md s) (dvQ s a b) i = co (md s) q i) ∧ ∀ i, co (md s) (dvR s a b) i = 0 := by
  have hk : kn s = true ∧ (tp (md s) b).length ≠ 0 := by
    unfold okD at hok; simp only [Bool.and_eq_true, decide_eq_true_eq] at hok; exact hok.1
  have P := pr_of hk.1
  obtain ⟨h1, h2⟩ := dv_spec hok
  have h3 : ∀ k, ml (tp (md s) b) (fun i => co (md s) q i - co (md s) (dvQ s a b) i) k = co (md s) (dvR s a b) k := by
    intro k
    rw [ml_sub, ← h k, h1 k]; grind
  have h4 : ∀ i, co (md s) q i - co (md s) (dvQ s a b) i = 0 := by
    refine ml_inj P (l := tp (md s) b) (n := (tp (md s) b).length - 1) (by have := hk.2; omega) (top_ne hk.2) (max q.length (dvQ s a b).length) (fun i hi => ?_) (fun k hk => ?_)
    · rw [co_out (l := q) (by omega), co_out (l := dvQ s a b) (by omega)]; grind
    · rw [h3 k, co_out (by omega)]
  constructor
  · intro i
    have := h4 i
    grind
  · intro i
    rw [← h3 i, show (fun i => co (md s) q i - co (md s) (dvQ s a b) i) = fun _ => (0 : Fin (md s)) from funext h4, ml_zero]
theorem pM_co {s : Int} {a b : List Nat} (hok : okM s a b = true) (k : Nat) : co (md s) (pM s a b) k = ml (tp (md s) a) (co (md s) (tp (md s) b)) k := by
  unfold pM
  rw [if_pos hok, co_tp, co_pMul]
theorem nil_of {m : Nat} [NeZero m] {l : List Nat} (hl : Nrm m l) (h : ∀ i, co m l i = 0) : l = [] := by
  have : tp m l = tp m [] := tp_co.2 fun i => by rw [h, co_nil]
  rw [hl.tp] at this
  rw [this]
  exact List.eq_nil_of_length_eq_zero (Nat.le_zero.1 (tp_len m []))
end Go.Sx
