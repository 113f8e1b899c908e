/-
  Through of the reference, as a law. No conditions.
-/
import Derived.Test.YtndmafefpiigoaaZPpg
namespace Go.Sx
open Go.Proofs Go.Num
-- SY
-- TY: TYX, UX
set_option maxRecDepth 100000
set_option linter.unusedSimpArgs false
set_option pp.deepTerms true
set_option pp.maxSteps 100000
def rN (s : Int) (xs : List Nat) (i : Nat) : Nat → List Nat
  | 0 => [1]
  | j + 1 => if j = i then rN s xs i j else tp (md s) (pMul (rN s xs i j) (fac s (xs.getD j 0)))
def rD (s : Int) (xs : List Nat) (i : Nat) : Nat → Nat
  | 0 => 1
  | j + 1 => if j = i then rD s xs i j else rD s xs i j * sb (md s) (xs.getD i 0) (xs.getD j 0) % md s
def rF (s : Int) (xs ys : List Nat) : Nat → List Nat
  | 0 => []
  | i + 1 => tp (md s) (pAdd (rF s xs ys i) (tp (md s) (pScale (rN s xs i xs.length) (ys.getD i 0 * inv s (rD s xs i xs.length) % md s))))
theorem rN_nrm {s : Int} (P : PR (md s)) (xs : List Nat) (i : Nat) : ∀ j, Nrm (md s) (rN s xs i j)
  | 0 => ⟨fun x hx => by simp only [rN, List.mem_singleton] at hx; rw [hx]; exact P.1, .inr (by simp [rN])⟩
  | j + 1 => by
    unfold rN
    split
    · exact rN_nrm P xs i j
    · exact tp_nrm s _
theorem rN_len {s : Int} (P : PR (md s)) (xs : List Nat) (i : Nat) : ∀ j, (rN s xs i j).length = j + 1 - (if i < j then 1 else 0)
  | 0 => by simp [rN]
  | j + 1 => by
    have h1 := rN_len P xs i j
    unfold rN
    by_cases hj : j = i
    · rw [if_pos hj, h1, if_neg (by omega), if_pos (by omega)]; rfl
    · rw [if_neg hj, ← mulR_tp P (rN_nrm P xs i j) (fac_nrm P _)]
      unfold mulR
      have h2 : (rN s xs i j).length ≠ 0 := by rw [h1]; split <;> omega
      rw [if_neg (by rw [fac_len]; omega), tab_len, h1, fac_len]
      by_cases h3 : i < j
      · rw [if_pos h3, if_pos (by omega)]; omega
      · rw [if_neg h3, if_neg (by omega)]; omega
theorem rD_lt {s : Int} (P : PR (md s)) (xs : List Nat) (i : Nat) : ∀ j, rD s xs i j < md s
  | 0 => P.1
  | j + 1 => by
    unfold rD
    split
    · exact rD_lt P xs i j
    · exact Nat.mod_lt _ (md_pos s)
theorem rF_nrm {s : Int} (xs ys : List Nat) : ∀ i, Nrm (md s) (rF s xs ys i)
  | 0 => ⟨by simp [rF], .inl rfl⟩
  | i + 1 => tp_nrm s _
theorem pAdd_len (a b : List Nat) : (pAdd a b).length = max a.length b.length := by unfold pAdd; exact tab_len
theorem pScale_len (a : List Nat) (k : Nat) : (pScale a k).length = a.length := by simp [pScale]
theorem rF_len {s : Int} (P : PR (md s)) (xs ys : List Nat) : ∀ i, i ≤ xs.length → (rF s xs ys i).length ≤ xs.length
  | 0, _ => by simp [rF]
  | i + 1, hi => by
    have h1 := rF_len P xs ys i (by omega)
    have h2 := tp_len (md s) (pAdd (rF s xs ys i) (tp (md s) (pScale (rN s xs i xs.length) (ys.getD i 0 * inv s (rD s xs i xs.length) % md s))))
    have h3 := tp_len (md s) (pScale (rN s xs i xs.length) (ys.getD i 0 * inv s (rD s xs i xs.length) % md s))
    rw [pAdd_len] at h2
    rw [pScale_len, rN_len P, if_pos (by omega)] at h3
    unfold rF
    omega
def rOK (s : Int) (xs : List Nat) : Bool := (List.range xs.length).all fun i => (List.range xs.length).all fun j => j == i || sb (md s) (xs.getD i 0) (xs.getD j 0) != 0
theorem rOK_iff {s : Int} {xs : List Nat} : rOK s xs = true ↔ ∀ i, i < xs.length → ∀ j, j < xs.length → j ≠ i → sb (md s) (xs.getD i 0) (xs.getD j 0) ≠ 0 := by
  simp only [rOK, List.all_eq_true, List.mem_range, Bool.or_eq_true, beq_iff_eq, bne_iff_ne, ne_eq]
  constructor
  · intro h i hi j hj hne
    exact (h i hi j hj).resolve_left hne
  · intro h i hi j hj
    by_cases hne : j = i
    · exact .inl hne
    · exact .inr (h i hi j hj hne)
theorem sb_ne {s : Int} {x y : Nat} : sb (md s) x y ≠ 0 ↔ κ (md s) x ≠ κ (md s) y := by
  have hlt : sb (md s) x y < md s := Nat.mod_lt _ (md_pos s)
  have e : sb (md s) x y = 0 ↔ κ (md s) (sb (md s) x y) = 0 := by rw [κ_eq0, Nat.mod_eq_of_lt hlt]
  rw [Ne, e, κ_sb]
  constructor
  · intro h h1; exact h (by rw [h1]; grind)
  · intro h h1; exact h (by grind)
theorem zer_ne {s : Int} (P : PR (md s)) (xs : List Nat) (x : Fin (md s)) : ∀ k, (∀ j, j < k → x ≠ κ (md s) (xs.getD j 0)) → evk x (zer s xs k) ≠ 0
  | 0, _ => by
    show κ (md s) 1 + x * 0 ≠ 0
    rw [κ_one]
    have e : (1 : Fin (md s)) + x * 0 = 1 := by grind
    rw [e]
    exact f_one_ne P
  | k + 1, h => by
    rw [zer_ev]
    intro h0
    rcases f_nzd P h0 with h1 | h1
    · exact zer_ne P xs x k (fun j hj => h j (by omega)) h1
    · refine h k (by omega) ?_
      simp only [fac, evk] at h1
      rw [κ_mod, κ_neg, κ_one] at h1
      grind
theorem ok_eq {s : Int} (P : PR (md s)) (xs : List Nat) : rOK s xs = thOK s xs := by
  rw [Bool.eq_iff_iff, rOK_iff, thOK_iff]
  constructor
  · intro h i hi h0
    have h1 : κ (md s) (thB s xs i) = 0 := by rw [h0, κ_zero]
    rw [thB_k] at h1
    exact zer_ne P xs _ i (fun j hj => sb_ne.1 (h i hi j (by omega) (by omega))) h1
  · intro h i hi j hj hne
    have hn := thOK_nodup (thOK_iff.2 h)
    rw [sb_ne]
    rw [List.Nodup, List.pairwise_map, List.pairwise_iff_getElem] at hn
    have e1 : xs.getD i 0 = xs[i] := by simp [List.getD, hi]
    have e2 : xs.getD j 0 = xs[j] := by simp [List.getD, hj]
    rw [e1, e2]
    by_cases hij : i < j
    · exact hn i j hi hj hij
    · exact (hn j i hj hi (by omega)).symm
theorem rN_at {s : Int} (xs : List Nat) (i : Nat) : ∀ j, evk (κ (md s) (xs.getD i 0)) (rN s xs i j) = κ (md s) (rD s xs i j)
  | 0 => by
    show κ (md s) 1 + _ * 0 = κ (md s) 1
    grind
  | j + 1 => by
    unfold rN rD
    by_cases h : j = i
    · rw [if_pos h, if_pos h]; exact rN_at xs i j
    · rw [if_neg h, if_neg h, evk_tp, evk_pMul, rN_at xs i j, κ_mod, κ_mul, κ_sb]
      congr 1
      simp only [fac, evk]
      rw [κ_mod, κ_neg, κ_one]; grind
theorem rN_off {s : Int} (xs : List Nat) (i k : Nat) (hk : k ≠ i) : ∀ j, k < j → evk (κ (md s) (xs.getD k 0)) (rN s xs i j) = 0
  | 0, h => absurd h (by omega)
  | j + 1, h => by
    unfold rN
    by_cases hj : j = i
    · rw [if_pos hj]; exact rN_off xs i k hk j (by omega)
    · rw [if_neg hj, evk_tp, evk_pMul]
      by_cases h1 : k = j
      · subst h1; rw [evk_fac]; grind
      · rw [rN_off xs i k hk j (by omega)]; grind
theorem rD_ne {s : Int} (P : PR (md s)) (xs : List Nat) (i : Nat) (h : ∀ j, j < xs.length → j ≠ i → sb (md s) (xs.getD i 0) (xs.getD j 0) ≠ 0) : ∀ j, j ≤ xs.length → κ (md s) (rD s xs i j) ≠ 0
  | 0, _ => by
    show κ (md s) 1 ≠ 0
    rw [κ_one]; exact f_one_ne P
  | j + 1, hj => by
    unfold rD
    by_cases h1 : j = i
    · rw [if_pos h1]; exact rD_ne P xs i h j (by omega)
    · rw [if_neg h1, κ_mod, κ_mul]
      intro h0
      rcases f_nzd P h0 with h2 | h2
      · exact rD_ne P xs i h j (by omega) h2
      · have hlt : sb (md s) (xs.getD i 0) (xs.getD j 0) < md s := Nat.mod_lt _ (md_pos s)
        rw [κ_eq0, Nat.mod_eq_of_lt hlt] at h2
        exact h j (by omega) h1 h2
theorem rF_at {s : Int} (P : PR (md s)) {xs ys : List Nat} (hok : rOK s xs = true) : ∀ i, i ≤ xs.length → ∀ k, k < xs.length → evk (κ (md s) (xs.getD k 0)) (rF s xs ys i) = if k < i then κ (md s) (ys.getD k 0) else 0
  | 0, _, k, _ => by rw [if_neg (by omega)]; rfl
  | i + 1, hi, k, hk => by
    show evk _ (tp (md s) (pAdd (rF s xs ys i) (tp (md s) (pScale (rN s xs i xs.length) (ys.getD i 0 * inv s (rD s xs i xs.length) % md s))))) = _
    rw [evk_tp, evk_pAdd, rF_at P hok i (by omega) k hk, evk_tp, evk_pScale, κ_mod, κ_mul, κ_inv]
    by_cases h : k = i
    · subst h
      rw [if_neg (by omega), if_pos (by omega), rN_at]
      have := ι_mul P (rD_ne P xs k (fun j hj hne => rOK_iff.1 hok k hk j hj hne) xs.length (Nat.le_refl _))
      grind
    · rw [rN_off xs i k h xs.length hk]
      by_cases h1 : k < i
      · rw [if_pos h1, if_pos (by omega)]; grind
      · rw [if_neg h1, if_neg (by omega)]; grind
/-- Both go through the points, and are one. -/
theorem rF_eq {s : Int} (P : PR (md s)) {xs ys : List Nat} (hok : rOK s xs = true) : rF s xs ys xs.length = thF s xs ys xs.length := by
  have h := thF_uniq P (xs := xs) (ys := ys) (f := rF s xs ys xs.length) (by rw [← ok_eq P]; exact hok) (rF_len P xs ys _ (Nat.le_refl _)) fun j hj => by
    rw [rF_at P hok xs.length (Nat.le_refl _) j hj, if_pos hj]
  rw [h, (rF_nrm xs ys xs.length).tp]
theorem v_By (s : Int) (a b : Nat) (ha : a < W256) (hb : b < W256) : Contract Try.prog 85 [.val (.int .i64 s), .val (EN a), .val (EN b)] [.val (EN (a * inv s b % md s))] := by
  refine contract_of (N := _) (vars := _) (c := bodyOf Try.f85) Try.func85 (body_eq rfl) rfl rfl (by rfl) mixed _ _ trivial 1000 ?_
  simp only [bodyOf, Try.f85, Option.getD_some, argA, argE, List.length_cons, List.length_nil, Nat.reduceAdd, Nat.reduceSub, List.replicate, List.cons_append, List.nil_append]
  simp only [↓PX, SX, SYX, EY, simprocAttr, TYX, UX]
  refine CallVC.intro (v_Inv s b hb) ⟨rfl, rfl, trivial⟩ rfl rfl ?_
  simp only [↓PX, SX, SYX, EY, simprocAttr, TYX, UX]
  refine CallVC.intro (v_Mul s a (inv s b) ha (md_w2 (inv_lt _ _))) ⟨rfl, rfl, rfl, trivial⟩ rfl rfl ?_
  simp only [↓PX, SX, SYX, EY, simprocAttr, TYX, UX]
end Go.Sx
