/-
  slices.BinarySearchFunc with lookup.compare: the first place whose value is not less. No conditions.
-/
import Derived.Test.YtmjhaopkhceegaaZLke
namespace Go.Sx
open Go.Proofs Go.Num
-- SY
-- TY: TYX
set_option maxRecDepth 100000
set_option linter.unusedSimpArgs false
set_option pp.deepTerms true
set_option pp.maxSteps 100000
theorem cmpZ_neg {a b : Nat} : decide (cmpZ a b < 0) = decide (a < b) := by
  unfold cmpZ
  by_cases h : a < b
  · simp [h]
  · by_cases h2 : b < a <;> simp [h, h2]
theorem cmpZ_eq {a b : Nat} : (cmpZ a b == 0) = decide (a = b) := by
  unfold cmpZ
  by_cases h : a < b
  · have : ¬ a = b := by omega
    simp [h, this]
  · by_cases h2 : b < a
    · have : ¬ a = b := by omega
      simp [h, h2, this]
    · have : a = b := by omega
      simp [this]
theorem u_Search (v : Nat) (l : List Nat) (hv : v < W256) (hl : ∀ x ∈ l, x < W256) (hs : l.Pairwise (· ≤ ·)) (hn : l.length < 4611686018427387904) :
    Contract Try.prog 33 [.sl l.length 4 (LC eC l), .val (EN v), .fv 34] [.val (.int .i64 (lbd v l : Nat)), .val (.bool (decide (v ∈ l)))] := by
  refine contract_of (N := _) (vars := _) (c := bodyOf Try.f33) Try.func33 (body_eq rfl) rfl rfl (by rfl) mixed _ _ trivial 1000 ?_
  simp only [bodyOf, Try.f33, Option.getD_some, argA, argE, List.length_cons, List.length_nil, Nat.reduceAdd, Nat.reduceSub, List.replicate, List.cons_append, List.nil_append]
  simp only [↓PX, SX, SYX, EY, simprocAttr, TYX]
  refine loop_hav ?_
  simp only [↓PX, SX, SYX, EY, simprocAttr, TYX]
  refine loop_go mixed (by trivial) (γ := Nat × Nat) (fun p => p.1 ≤ p.2 ∧ p.2 ≤ l.length ∧ (∀ j, j < p.1 → l.getD j 0 < v) ∧ ∀ j, p.2 ≤ j → j < l.length → v ≤ l.getD j 0) (fun p => p.2 - p.1) (fun p => [(9, iv p.1), (10, iv p.2)]) (fun p => []) (0, l.length) ⟨Nat.zero_le _, Nat.le_refl _, fun j hj => absurd hj (Nat.not_lt_zero _), fun j h1 h2 => absurd h2 (by simp only at h1; omega)⟩ (St.le_of id (by simp [-List.getD_eq_getElem?_getD, SYX, iv, Tle, AVle, A0le, Mem.get]) (by simp [-List.getD_eq_getElem?_getD, SYX, Mle, Ele, Hle, Tle, AVle, A0le, Mem.get]) (by simp [SYX]) (by simp [SYX])) ?_
  intro p hp
  obtain ⟨i, j⟩ := p
  simp only at hp
  obtain ⟨hij, hjl, hlo, hhi⟩ := hp
  simp only
  simp only [↓PX, SX, SYX, EY, simprocAttr, TYX]
  refine cond_split (fun h0 => ?_) (fun h0 => ?_)
  · have h0 : i < j := by simpa using h0
    have w1 : IntKind.i64.wrap ((i : Int) + (j : Int)) = ((i + j : Nat) : Int) := by rw [wI (by omega) (by omega)]; rfl
    have w2 : (((i + j : Nat) : Int) % 18446744073709551616).toNat = i + j := by omega
    have w3 : ushr (i + j) 1 = (i + j) / 2 := by rw [ushr_eq]; rfl
    have w4 : ((((i + j) / 2 : Nat) : Int) + 9223372036854775808) % 18446744073709551616 - 9223372036854775808 = (((i + j) / 2 : Nat) : Int) := by omega
    have hh1 : i ≤ (i + j) / 2 := by omega
    have hh2 : (i + j) / 2 < j := by omega
    generalize (i + j) / 2 = h at w3 w4 hh1 hh2
    have ld := eL_ld (l := l) (j := h) (by omega)
    have hw : l.getD h 0 < W256 := by
      rw [List.getD_eq_getElem?_getD, List.getElem?_eq_getElem (show h < l.length by omega)]
      exact hl _ (List.getElem_mem _)
    simp only [↓PX, SX, SYX, EY, simprocAttr, TYX, w1, w2, w3, w4, ld]
    repeat (first | refine DrawVC.intro (by kernel_rfl) ?_ | refine And.intro (by omega) ?_ | exact trivial)
    refine CloVC.intro (c_compare (l.getD h 0) v hw hv) ⟨rfl, rfl, trivial⟩ rfl rfl ?_
    simp only [↓PX, SX, SYX, EY, simprocAttr, TYX, cmpZ_neg]
    refine cond_split (fun h1 => ?_) (fun h1 => ?_)
    · have h1 : l.getD h 0 < v := by simpa using h1
      have w5 : IntKind.i64.wrap ((h : Int) + 1) = ((h + 1 : Nat) : Int) := wS (by omega)
      simp only [↓PX, SX, SYX, EY, simprocAttr, TYX, w5]
      refine ⟨(h + 1, j), ⟨hh2, hjl, fun t ht => ?_, hhi⟩, ?_, (St.le_of id (by simp [-List.getD_eq_getElem?_getD, SYX, iv, Tle, AVle, A0le, Mem.get]) (by simp [-List.getD_eq_getElem?_getD, SYX, Mle, Ele, Hle, Tle, AVle, A0le, Mem.get]) (by simp [SYX]) (by simp [SYX]))⟩
      · rcases Nat.lt_or_ge t h with h2 | h2
        · have := pw_getD hs h2 (by omega); omega
        · have : t = h := by omega
          rw [this]; exact h1
      · show j - (h + 1) < j - i
        omega
    · have h1 : v ≤ l.getD h 0 := by simpa using h1
      simp only [↓PX, SX, SYX, EY, simprocAttr, TYX]
      refine ⟨(i, h), ⟨hh1, by omega, hlo, fun t ht htl => ?_⟩, ?_, (St.le_of id (by simp [-List.getD_eq_getElem?_getD, SYX, iv, Tle, AVle, A0le, Mem.get]) (by simp [-List.getD_eq_getElem?_getD, SYX, Mle, Ele, Hle, Tle, AVle, A0le, Mem.get]) (by simp [SYX]) (by simp [SYX]))⟩
      · rcases Nat.lt_or_ge h t with h2 | h2
        · have := pw_getD hs h2 htl; omega
        · have : t = h := by omega
          rw [this]; exact h1
      · show h - i < j - i
        omega
  · have h0 : i = j := by
      have : j ≤ i := by simpa using h0
      omega
    subst h0
    have e : i = lbd v l := lbd_uniq hlo hjl (fun h => hhi i (Nat.le_refl _) h)
    subst e
    have ok := lbd_ok (v := v) hs
    cases d1 : decide (((lbd v l : Nat) : Int) < (l.length : Int)) with
    | true =>
      have h1 : lbd v l < l.length := by have := of_decide_eq_true d1; omega
      have ld := eL_ld (l := l) (j := lbd v l) h1
      have hw : l.getD (lbd v l) 0 < W256 := by
        rw [List.getD_eq_getElem?_getD, List.getElem?_eq_getElem h1]
        exact hl _ (List.getElem_mem _)
      have e2 : decide (v ∈ l) = decide (l.getD (lbd v l) 0 = v) := decide_eq_decide.2 (ok.symm.trans ⟨fun h => h.2, fun h => ⟨h1, h⟩⟩)
      simp only [↓PX, SX, SYX, EY, simprocAttr, TYX, d1, ld, e2]
      repeat (first | refine DrawVC.intro (by kernel_rfl) ?_ | refine And.intro (by omega) ?_ | exact trivial)
      refine CloVC.intro (c_compare (l.getD (lbd v l) 0) v hw hv) ⟨rfl, rfl, trivial⟩ rfl rfl ?_
      simp only [↓PX, SX, SYX, EY, simprocAttr, TYX, cmpZ_eq, e2]
    | false =>
      have h1 : ¬ lbd v l < l.length := by have := of_decide_eq_false d1; omega
      have e2 : decide (v ∈ l) = false := decide_eq_false fun h => h1 (ok.2 h).1
      simp only [↓PX, SX, SYX, EY, simprocAttr, TYX, d1, e2]
      repeat (first | refine DrawVC.intro (by kernel_rfl) ?_ | refine And.intro (by omega) ?_ | exact trivial)
end Go.Sx
