/-
  Products along the columns: what they are; all that must be 0 is 0 but for the end. No conditions.
-/
import Derived.Test.YtgeliidjmefkgaaZPtz
namespace Go.Sx
open Go.Proofs Go.Num
/-- A table by its columns. -/
def tbl (n : Nat) (f : Nat → List Nat) : List (List Nat) := (List.range n).map f
theorem tbl_len {n : Nat} {f : Nat → List Nat} : (tbl n f).length = n := by simp [tbl]
theorem tbl_at {n : Nat} {f : Nat → List Nat} {j : Nat} (h : j < n) : (tbl n f).getD j [] = f j := by
  unfold tbl; rw [List.getD_eq_getElem?_getD]; simp [h]
theorem tbl_snoc {n : Nat} {f : Nat → List Nat} : tbl n f ++ [f n] = tbl (n + 1) f := by simp [tbl, List.range_succ]
/-- Row r of columns. -/
def rwT (C : List (List Nat)) (r : Nat) : List Nat := C.map fun l => l.getD r 0
theorem rwT_len {C : List (List Nat)} {r : Nat} : (rwT C r).length = C.length := by simp [rwT]
theorem rwT_at {C : List (List Nat)} {r i : Nat} : (rwT C r).getD i 0 = (C.getD i []).getD r 0 := by
  unfold rwT
  rw [List.getD_eq_getElem?_getD, List.getElem?_map, List.getD_eq_getElem?_getD (l := C)]
  cases C[i]? <;> simp
/-- The tables' elements. -/
def tbW (C : List (List Nat)) : Prop := ∀ l ∈ C, ∀ x ∈ l, x < W256
theorem rwT_w {C : List (List Nat)} (h : tbW C) (r : Nat) : ∀ x ∈ rwT C r, x < W256 := by
  intro x hx
  obtain ⟨l, hl, rfl⟩ := List.mem_map.1 hx
  rw [List.getD_eq_getElem?_getD]
  cases h1 : l[r]? with
  | none => exact (by decide : (0 : Nat) < W256)
  | some y => exact h l hl y (List.mem_of_getElem? h1)
section
variable (s : Int) (q β γ : Nat) (C S : List (List Nat))
/-- A row's numerators times z. -/
def upN (j r z : Nat) : Nat := rpN s (rwT C r) (pt s q r) β γ (2 * j) z (rdN C.length j)
/-- A row's divisors. -/
def dnN (j r : Nat) : Nat := lpN s (rwT C r) (rwT S r) β γ (2 * j) 1 (rdN C.length j)
/-- A chunk's product, row by row. -/
def zvN (j st : Nat) : Nat → Nat
  | 0 => st
  | r + 1 => upN s q β γ C j r (zvN j st r) * inv s (dnN s β γ C S j r) % md s
/-- Where a chunk starts. -/
def stN : Nat → Nat
  | 0 => 1
  | j + 1 => zvN s q β γ C S j (stN j) (2 ^ q - 4)
/-- A chunk's column. -/
def zlN (cs : List Nat) (j : Nat) : List Nat := tab (2 ^ q - 3) (zvN s q β γ C S j (stN s q β γ C S j)) ++ ((cs.drop (3 * j)).take 3).map (· % md s)
end
section
variable {s : Int} {q β γ : Nat} {C S : List (List Nat)}
theorem zvN_w {j st : Nat} (h : st < W256) : ∀ r, zvN s q β γ C S j st r < W256
  | 0 => h
  | _ + 1 => md_w s _
theorem stN_w : ∀ j, stN s q β γ C S j < W256
  | 0 => by show 1 < W256; decide
  | j + 1 => zvN_w (stN_w j) _
theorem zvN_md {j st : Nat} (h : st < md s) : ∀ r, zvN s q β γ C S j st r < md s
  | 0 => h
  | _ + 1 => md_mod s _
theorem stN_md (P : PR (md s)) : ∀ j, stN s q β γ C S j < md s
  | 0 => P.1
  | j + 1 => zvN_md (stN_md P j) _
theorem lpN_mul {cols sig : List Nat} {i z : Nat} : ∀ t, κ (md s) (lpN s cols sig β γ i z t) = κ (md s) z * κ (md s) (lpN s cols sig β γ i 1 t)
  | 0 => by simp only [lpN, κ_one]; grind
  | t + 1 => by
    simp only [lpN]
    rw [κ_mod, κ_mul, κ_mod, κ_mul, lpN_mul t]; grind
theorem zlN_len {cs : List Nat} {j : Nat} (h8 : 8 ≤ 2 ^ q) (h : 3 * j + 3 ≤ cs.length) : (zlN s q β γ C S cs j).length = 2 ^ q := by
  unfold zlN
  rw [List.length_append, tab_len, List.length_map, List.length_take, List.length_drop]
  omega
theorem zlN_at {cs : List Nat} {j r : Nat} (h8 : 8 ≤ 2 ^ q) (h : r ≤ 2 ^ q - 4) : (zlN s q β γ C S cs j).getD r 0 = zvN s q β γ C S j (stN s q β γ C S j) r := by
  unfold zlN
  rw [List.getD_eq_getElem?_getD, List.getElem?_append_left (by rw [tab_len]; omega), ← List.getD_eq_getElem?_getD, tab_at (by omega)]
theorem zlN_w {cs : List Nat} {j : Nat} : ∀ x ∈ zlN s q β γ C S cs j, x < W256 := by
  intro x hx
  unfold zlN at hx
  rcases List.mem_append.1 hx with hx | hx
  · exact tab_w (fun i => zvN_w (stN_w _) i) x hx
  · obtain ⟨y, _, rfl⟩ := List.mem_map.1 hx; exact md_w s _
/-- The chunks at a row. -/
def zcT (q : Nat) (Z : List (List Nat)) (r : Nat) : List (Nat × Nat × Nat) := Z.map fun l => (l.getD r 0, l.getD ((r + 1) % 2 ^ q) 0, l.getD ((r + (2 ^ q - 4)) % 2 ^ q) 0)
theorem zcT_len {Z : List (List Nat)} {r : Nat} : (zcT q Z r).length = Z.length := by simp [zcT]
theorem zcT_at {Z : List (List Nat)} {r j : Nat} : zAt (zcT q Z r) j = (Z.getD j []).getD r 0 ∧ zNx (zcT q Z r) j = (Z.getD j []).getD ((r + 1) % 2 ^ q) 0 ∧ zLs (zcT q Z r) j = (Z.getD j []).getD ((r + (2 ^ q - 4)) % 2 ^ q) 0 := by
  unfold zAt zNx zLs zcT
  rw [List.getD_eq_getElem?_getD, List.getElem?_map, List.getD_eq_getElem?_getD (l := Z)]
  cases Z[j]? <;> simp
/-- What is looked at in a row. -/
def ckT (s : Int) (q β γ : Nat) (C S Z : List (List Nat)) (r : Nat) : List Nat :=
  ckL s (pt s q r) (if r = 0 then 1 else 0) (if r = 2 ^ q - 4 then 1 else 0) (if r < 2 ^ q - 4 then 1 else 0) (rwT C r) (rwT S r) (zcT q Z r) β γ
theorem fsN_0 {F a b : Nat} (h : F ≠ 0 → F = 1 ∧ κ (md s) a = κ (md s) b) : fsN s F a b = 0 := by
  unfold fsN
  by_cases hF : F = 0
  · rw [hF, Nat.zero_mul, Nat.zero_mod]
  · obtain ⟨h1, h2⟩ := h hF
    rw [h1, Nat.one_mul]
    apply md0
    rw [κ_sb, h2]; grind
/-- All that must be 0, but for the end. -/
theorem ck_rows {cs : List Nat} {J r : Nat} (hk : kn s = true) (h8 : 8 ≤ 2 ^ q) (hJ : J = (C.length + 1) / 2) (hm : C.length ≠ 0) (hCS : C.length = S.length) (hr : r < 2 ^ q)
    (hd : ∀ j, j < J → ∀ r, r < 2 ^ q - 4 → dnN s β γ C S j r ≠ 0) :
    ∃ A B : List Nat, A.length = J ∧ (∀ x ∈ A, x = 0) ∧ (∀ x ∈ B, x = 0) ∧ ∃ e, ckT s q β γ C S (tbl J (zlN s q β γ C S cs)) r = A ++ [e] ++ B ∧ (r ≠ 2 ^ q - 4 → e = 0) ∧ (r = 2 ^ q - 4 → (e = 0 ↔ stN s q β γ C S J = 0 ∨ stN s q β γ C S J = 1)) := by
  have P := pr_of hk
  obtain ⟨u, hu⟩ : ∃ u, 2 ^ q - 4 = u := ⟨_, rfl⟩
  have hu4 : 2 ^ q = u + 4 := by omega
  have hZ : ∀ j, j < J → (tbl J (zlN s q β γ C S cs)).getD j [] = zlN s q β γ C S cs j := fun j hj => by
    rw [tbl_at hj]
  have hat : ∀ j, j < J → ∀ i, i ≤ u → (zlN s q β γ C S cs j).getD i 0 = zvN s q β γ C S j (stN s q β γ C S j) i := fun j _ i hi => zlN_at h8 (by omega)
  have hst : ∀ j, stN s q β γ C S (j + 1) = zvN s q β γ C S j (stN s q β γ C S j) u := fun j => by rw [← hu]; rfl
  have hlen : (tbl J (zlN s q β γ C S cs)).length = J := tbl_len
  have hJ1 : 0 < J := by omega
  obtain ⟨Z, hZe⟩ : ∃ Z, tbl J (zlN s q β γ C S cs) = Z := ⟨_, rfl⟩
  rw [hZe] at hZ hlen
  rw [hZe]
  have ho : ckO s (rwT C r) (rwT S r) (zcT q Z r) = true := by
    unfold ckO
    rw [hk, rwT_len, rwT_len, zcT_len, hlen, ← hCS, ← hJ]
    simp [hm]
  unfold ckT ckL
  rw [if_pos ho, zcT_len, hlen]
  refine ⟨_, _, tab_len, ?_, ?_, _, rfl, ?_, ?_⟩
  · intro x hx
    obtain ⟨j, hj, rfl⟩ := List.mem_map.1 hx
    have hj : j < J := List.mem_range.1 hj
    cases j with
    | zero =>
      refine fsN_0 fun hF => ?_
      have h0 : r = 0 := by
        refine Classical.byContradiction fun h => hF ?_
        rw [if_neg h]
      subst h0
      refine ⟨rfl, ?_⟩
      rw [zcT_at.1, hZ 0 hJ1, hat 0 hJ1 0 (by omega)]
      rfl
    | succ j =>
      refine fsN_0 fun hF => ?_
      have h0 : r = 0 := by
        refine Classical.byContradiction fun h => hF ?_
        rw [if_neg h]
      subst h0
      refine ⟨rfl, ?_⟩
      rw [zcT_at.1, zcT_at.2.2, hZ _ hj, hZ j (by omega), hat _ hj 0 (by omega), Nat.zero_add, Nat.mod_eq_of_lt (by omega), hu, hat j (by omega) u (Nat.le_refl _), ← hst]
      rfl
  · intro x hx
    obtain ⟨j, hj, rfl⟩ := List.mem_map.1 hx
    have hj : j < J := List.mem_range.1 hj
    unfold ckC
    refine fsN_0 fun hF => ?_
    have h0 : r < u := by
      refine Classical.byContradiction fun h => hF ?_
      rw [hu, if_neg h]
    rw [hu, if_pos h0]
    refine ⟨rfl, ?_⟩
    have hD := hd j hj r (by omega)
    rw [rwT_len, lpN_mul, zcT_at.1, zcT_at.2.1, hZ j hj, hat j hj r (by omega), hu4, Nat.mod_eq_of_lt (by omega), hat j hj (r + 1) (by omega)]
    show κ (md s) (upN s q β γ C j r (zvN s q β γ C S j (stN s q β γ C S j) r) * inv s (dnN s β γ C S j r) % md s) * κ (md s) (dnN s β γ C S j r) = κ (md s) (upN s q β γ C j r (zvN s q β γ C S j (stN s q β γ C S j) r))
    have hDm : dnN s β γ C S j r < md s := by
      unfold dnN
      cases rdN C.length j with
      | zero => exact P.1
      | succ t => exact md_mod s _
    have hn : κ (md s) (dnN s β γ C S j r) ≠ 0 := by
      intro h0
      rw [κ_eq0, Nat.mod_eq_of_lt hDm] at h0
      exact hD h0
    have hi := ι_mul P hn
    rw [κ_mod, κ_mul, κ_inv]
    grind
  · intro h
    unfold ckB
    exact fsN_0 fun hF => absurd (if_neg h) hF
  · intro h
    unfold ckB fsN
    rw [if_pos h, zcT_at.1, hZ _ (by omega), h, hu, hat _ (by omega) u (Nat.le_refl _)]
    obtain ⟨J', hJ'⟩ : ∃ J', J = J' + 1 := ⟨J - 1, by omega⟩
    subst hJ'
    rw [Nat.add_sub_cancel, ← hst]
    have hm := stN_md (q := q) (β := β) (γ := γ) (C := C) (S := S) P (J' + 1)
    obtain ⟨a, ha⟩ : ∃ a, stN s q β γ C S (J' + 1) = a := ⟨_, rfl⟩
    rw [ha] at hm ⊢
    rw [Nat.one_mul, ← κ_eq0 (m := md s), κ_sb, κ_mod, κ_mul]
    have e0 : a = 0 ↔ κ (md s) a = 0 := by rw [κ_eq0, Nat.mod_eq_of_lt hm]
    have e1 : a = 1 ↔ κ (md s) a = 1 := by rw [κ_eq1 P.1, Nat.mod_eq_of_lt hm]
    rw [e0, e1]
    constructor
    · intro h1
      have : κ (md s) a * (κ (md s) a - 1) = 0 := by grind
      rcases f_nzd P this with h2 | h2
      · exact .inl h2
      · right; grind
    · rintro (h1 | h1) <;> rw [h1] <;> grind
end
end Go.Sx
