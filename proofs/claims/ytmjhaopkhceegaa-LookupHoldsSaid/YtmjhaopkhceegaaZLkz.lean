/-
  LookupHolds: what the law meets row by row. No conditions.
-/
import Derived.Test.YtmjhaopkhceegaaZLkq
namespace Go.Sx
open Go.Proofs Go.Num
-- SY
-- TY: TYX, UX, guard_un
set_option maxRecDepth 100000
set_option linter.unusedSimpArgs false
set_option pp.deepTerms true
set_option pp.maxSteps 100000
/-- An element of a list, or one made up. -/
def atN (s : Int) (l : List Nat) (r : Nat) : Nat := if r < l.length then l.getD r 0 else iN s (7 * (r : Int) + 3)
theorem iN_w2 (s n : Int) : iN s n < W256 := by unfold iN; split <;> exact md_w s _
theorem atN_w {s : Int} {l : List Nat} (hl : ∀ x ∈ l, x < W256) (r : Nat) : atN s l r < W256 := by
  unfold atN
  split
  · rename_i h
    rw [List.getD_eq_getElem?_getD, List.getElem?_eq_getElem h]
    exact hl _ (List.getElem_mem _)
  · exact iN_w2 s _
theorem c_at (s : Int) (l : List Nat) (r : Nat) (hl : ∀ x ∈ l, x < W256) (hb : l.length ≤ 1000) (hr : r ≤ 1000) : Contract Try.prog 29 [.val (.int .i64 s), .sl l.length 4 (LC eC l), .val (.int .i64 (r : Int))] [.val (EN (atN s l r))] := by
  by_cases h : r < l.length
  · have b0 : decide ((r : Int) < (l.length : Int)) = true := decide_eq_true (by omega)
    have ld := eL_ld (l := l) (j := r) (by omega)
    have hix : r * 4 + 4 ≤ l.length * 4 := by omega
    have hiy : (r : Int) < (l.length : Int) := by omega
    have hiz : (0 : Int) ≤ (r : Int) := by omega
    have e1 : atN s l r = l.getD r 0 := by unfold atN; rw [if_pos h]
    rw [e1]
    refine contract_of (N := _) (vars := _) (c := bodyOf Try.f29) Try.func29 (body_eq rfl) rfl rfl (by rfl) mixed _ _ trivial 1000 ?_
    simp only [bodyOf, Try.f29, Option.getD_some, argA, argE, List.length_cons, List.length_nil, Nat.reduceAdd, Nat.reduceSub, List.replicate, List.cons_append, List.nil_append]
    simp only [↓PX, SX, SYX, EY, simprocAttr, TYX, UX, guard_un]
    repeat (first | refine DrawVC.intro (by kernel_rfl) ?_ | refine And.intro (by omega) ?_ | exact trivial | simp only [↓PX, SX, SYX, EY, simprocAttr, TYX, UX, guard_un, b0, ld, hix, hiy, hiz])
  · have b0 : decide ((r : Int) < (l.length : Int)) = false := decide_eq_false (by omega)
    have e1 : atN s l r = iN s (7 * (r : Int) + 3) := by unfold atN; rw [if_neg h]
    have w1 : IntKind.i64.wrap (7 * (r : Int)) = 7 * (r : Int) := wI (by omega) (by omega)
    have w2 : IntKind.i64.wrap (7 * (r : Int) + 3) = 7 * (r : Int) + 3 := wI (by omega) (by omega)
    rw [e1]
    refine contract_of (N := _) (vars := _) (c := bodyOf Try.f29) Try.func29 (body_eq rfl) rfl rfl (by rfl) mixed _ _ trivial 1000 ?_
    simp only [bodyOf, Try.f29, Option.getD_some, argA, argE, List.length_cons, List.length_nil, Nat.reduceAdd, Nat.reduceSub, List.replicate, List.cons_append, List.nil_append]
    simp only [↓PX, SX, SYX, EY, simprocAttr, TYX, UX, guard_un]
    repeat (first | refine DrawVC.intro (by kernel_rfl) ?_ | refine And.intro (by omega) ?_ | exact trivial | simp only [↓PX, SX, SYX, EY, simprocAttr, TYX, UX, guard_un, b0, w1, w2])
    refine CallVC.intro (u_Int s (7 * (r : Int) + 3) (by omega) (by omega)) ⟨rfl, rfl, trivial⟩ rfl rfl ?_
    simp only [↓PX, SX, SYX, EY, simprocAttr, TYX, UX, guard_un, w1, w2]
section
variable {s : Int} {n : Nat}
theorem us_pt (h : ptO s n = true) {r : Nat} (hr : r < 2 ^ n) : ∀ u, u ≤ 2 ^ n → usN s n (pt s n r) u = if r < u then 1 else 0
  | 0, _ => rfl
  | u + 1, hu => by
    have P := pr_of (ptO_iff.1 h).1
    show (usN s n (pt s n r) u + lgU s n (u : Nat) (pt s n r)) % md s = _
    rw [us_pt h hr u (by omega), lg_pt h (i := u) (j := r) (by omega) hr]
    have h1 : 1 % md s = 1 := Nat.mod_eq_of_lt P.1
    by_cases h2 : r < u
    · rw [if_pos h2, if_neg (by omega), if_pos (by omega)]; exact h1
    · by_cases h3 : u = r
      · rw [if_neg h2, if_pos h3, if_pos (by omega)]; exact h1
      · rw [if_neg h2, if_neg h3, if_neg (by omega)]; exact Nat.zero_mod _
/-- The selectors at a point. -/
theorem pl_pt (h : ptO s n = true) (h3 : 3 ≤ n) (h5 : n ≤ 5) {r : Nat} (hr : r < 2 ^ n) : plS s n (pt s n r) = SN (pt s n r) (if r = 0 then 1 else 0) (if r = 2 ^ n - 4 then 1 else 0) (if r < 2 ^ n - 4 then 1 else 0) := by
  have hk := (ptO_iff.1 h).1
  have e0 : plE s n = 0 := plE_0.2 ⟨hk, by omega, by omega⟩
  unfold plS
  have h8 : 4 ≤ 2 ^ n := by
    have : 2 ^ 3 ≤ 2 ^ n := Nat.pow_le_pow_right (by decide) (by omega)
    omega
  have l0 := lg_pt h (i := 0) (j := r) (by omega) hr
  rw [if_pos e0, Int.toNat_natCast, us_pt h hr _ (by omega), lg_pt h (i := 2 ^ n - 4) (j := r) (by omega) hr]
  rw [show ((0 : Nat) : Int) = 0 from rfl] at l0
  rw [l0]
  have e1 : pt s n r % md s = pt s n r := by
    unfold pt
    cases r with
    | zero => exact Nat.mod_eq_of_lt (pr_of hk).1
    | succ r => exact Nat.mod_mod _ _
  rw [e1]
  simp only [eq_comm]
end
section
variable {s : Int}
theorem md0 {a : Nat} (h : κ (md s) a = 0) : a % md s = 0 := κ_eq0.1 h
/-- All that must be 0 in a row is 0. -/
theorem lc_zero {u β γ : Nat} {i t L : List Nat} {A N I T S B M r : Nat} (hk : kn s = true) (hl : i.length = t.length) (hf : lft none (asc (rsd s i)) (asc (rsd s t)) = some L) (hu : i.length = u)
    (hd : ∀ j, j < u → pdD s β γ (asc (rsd s i)) (mtc none (asc (rsd s i)) L) j ≠ 0)
    (h0 : r = 0 → A = 1 ∧ S = (asc (rsd s i)).getD 0 0 ∧ M = (mtc none (asc (rsd s i)) L).getD 0 0) (h1 : r = u → A = 1)
    (h2 : r < u → A = pdZ s β γ i t (asc (rsd s i)) (mtc none (asc (rsd s i)) L) r ∧ N = pdZ s β γ i t (asc (rsd s i)) (mtc none (asc (rsd s i)) L) (r + 1) ∧ I = i.getD r 0 ∧ T = t.getD r 0 ∧ S = (asc (rsd s i)).getD r 0 ∧ M = (mtc none (asc (rsd s i)) L).getD r 0)
    (h3 : r < u → 0 < r → B = (asc (rsd s i)).getD (r - 1) 0) (hu0 : 0 < u) :
    lcL s (if r = 0 then 1 else 0) (if r = u then 1 else 0) (if r < u then 1 else 0) I T S B M A N β γ = [0, 0, 0, 0, 0] := by
  have P := pr_of hk
  have hA : (asc (rsd s i)).length = u := by rw [asc_len, rsd_len, hu]
  unfold lcL
  rw [if_pos hk]
  have z0 : ∀ x, (0 * x) % md s = 0 := fun x => by rw [Nat.zero_mul, Nat.zero_mod]
  have z1 : ∀ x, κ (md s) x = 0 → (1 * x) % md s = 0 := fun x hx => by rw [Nat.one_mul]; exact md0 hx
  have q1 : (if r = 0 then 1 else 0) * sb (md s) 1 A % md s = 0 := by
    split
    · rename_i h; rw [(h0 h).1]
      apply z1; rw [κ_sb]; grind
    · exact z0 _
  have q2 : (if r = u then 1 else 0) * sb (md s) (A * A % md s) A % md s = 0 := by
    split
    · rename_i h; rw [h1 h]
      apply z1; rw [κ_sb, κ_mod, Nat.mul_one]; grind
    · exact z0 _
  have q4 : (if r = 0 then 1 else 0) * sb (md s) S M % md s = 0 := by
    split
    · rename_i h
      obtain ⟨_, hS, hM⟩ := h0 h
      have h5 := mtc_at (a := asc (rsd s i)) (p := none) (l := L) (i := 0) (by omega)
      rw [if_pos rfl] at h5
      have h6 := h5.resolve_right (by intro h; cases h)
      rw [hS, hM, h6]
      apply z1; rw [κ_sb]; grind
    · exact z0 _
  have q5 : (if r < u then 1 else 0) * (sb (md s) S M * sb (md s) S B % md s) % md s = 0 := by
    split
    · rename_i h
      obtain ⟨_, _, _, _, hS, hM⟩ := h2 h
      have h5 := mtc_at (a := asc (rsd s i)) (p := none) (l := L) (i := r) (by omega)
      apply z1; rw [κ_mod, κ_mul, κ_sb, κ_sb]
      rcases h5 with h6 | h6
      · rw [hS, hM, h6]; grind
      · by_cases hr : r = 0
        · rw [if_pos hr] at h6; cases h6
        · rw [if_neg hr] at h6
          rw [hS, h3 h (by omega), h6]; grind
    · exact z0 _
  have q3 : (if r < u then 1 else 0) * sb (md s) (N * prN s β γ S M % md s) (A * prN s β γ I T % md s) % md s = 0 := by
    split
    · rename_i h
      obtain ⟨hA1, hN1, hI, hT, hS, hM⟩ := h2 h
      have hn : κ (md s) (pdD s β γ (asc (rsd s i)) (mtc none (asc (rsd s i)) L) r) ≠ 0 := by
        intro h0
        rw [κ_eq0, Nat.mod_eq_of_lt (show pdD s β γ (asc (rsd s i)) (mtc none (asc (rsd s i)) L) r < md s from md_mod s _)] at h0
        exact hd r h h0
      have hi := ι_mul P hn
      have eD : prN s β γ S M = pdD s β γ (asc (rsd s i)) (mtc none (asc (rsd s i)) L) r := by rw [hS, hM]; rfl
      rw [hN1, hA1, hI, hT, eD]
      simp only [pdZ]
      apply z1
      rw [κ_sb, κ_mod, κ_mul, κ_mod, κ_mul, κ_mod, κ_mul, κ_inv', κ_mod, κ_mul]
      grind
    · exact z0 _
  rw [q1, q2, q3, q4, q5]
end
end Go.Sx
