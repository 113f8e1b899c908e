/-
  Through of the reference, as a law. No conditions.
-/
import Derived.Test.YtndmafefpiigoaaZPpe
namespace Go.Sx
open Go.Proofs Go.Num
-- SY
-- TY: TYX, UX
set_option maxRecDepth 100000
set_option linter.unusedSimpArgs false
set_option pp.deepTerms true
set_option pp.maxSteps 100000
def rN (s : Int) (xs : List Nat) (i : Nat) : Nat → List Nat
  | 0 => [1]
  | j + 1 => if j = i then rN s xs i j else tp (md s) (pMul (rN s xs i j) (fac s (xs.getD j 0)))
theorem rN_nrm {s : Int} (P : PR (md s)) (xs : List Nat) (i : Nat) : ∀ j, Nrm (md s) (rN s xs i j)
  | 0 => ⟨fun x hx => by simp only [rN, List.mem_singleton] at hx; rw [hx]; exact P.1, .inr (by simp [rN])⟩
  | j + 1 => by
    unfold rN
    split
    · exact rN_nrm P xs i j
    · exact tp_nrm s _
theorem rN_len {s : Int} (P : PR (md s)) (xs : List Nat) (i : Nat) : ∀ j, (rN s xs i j).length = j + 1 - (if i < j then 1 else 0)
  | 0 => by simp [rN]
  | j + 1 => by
    have h1 := rN_len P xs i j
    unfold rN
    by_cases hj : j = i
    · rw [if_pos hj, h1, if_neg (by omega), if_pos (by omega)]; rfl
    · rw [if_neg hj, ← mulR_tp P (rN_nrm P xs i j) (fac_nrm P _)]
      unfold mulR
      have h2 : (rN s xs i j).length ≠ 0 := by rw [h1]; split <;> omega
      rw [if_neg (by rw [fac_len]; omega), tab_len, h1, fac_len]
      by_cases h3 : i < j
      · rw [if_pos h3, if_pos (by omega)]; omega
      · rw [if_neg h3, if_neg (by omega)]; omega
theorem rN_off {s : Int} (xs : List Nat) (i k : Nat) (hk : k ≠ i) : ∀ j, k < j → evk (κ (md s) (xs.getD k 0)) (rN s xs i j) = 0
  | 0, h => absurd h (by omega)
  | j + 1, h => by
    unfold rN
    by_cases hj : j = i
    · rw [if_pos hj]; exact rN_off xs i k hk j (by omega)
    · rw [if_neg hj, evk_tp, evk_pMul]
      by_cases h1 : k = j
      · subst h1; rw [evk_fac]; grind
      · rw [rN_off xs i k hk j (by omega)]; grind
theorem v_By (s : Int) (a b : Nat) (ha : a < W256) (hb : b < W256) : Contract Try.prog 85 [.val (.int .i64 s), .val (EN a), .val (EN b)] [.val (EN (a * inv s b % md s))] := by
  refine contract_of (N := _) (vars := _) (c := bodyOf Try.f85) Try.func85 (body_eq rfl) rfl rfl (by rfl) mixed _ _ trivial 1000 ?_
  simp only [bodyOf, Try.f85, Option.getD_some, argA, argE, List.length_cons, List.length_nil, Nat.reduceAdd, Nat.reduceSub, List.replicate, List.cons_append, List.nil_append]
  simp only [↓PX, SX, SYX, EY, simprocAttr, TYX, UX]
  refine CallVC.intro (v_Inv s b hb) ⟨rfl, rfl, trivial⟩ rfl rfl ?_
  simp only [↓PX, SX, SYX, EY, simprocAttr, TYX, UX]
  refine CallVC.intro (v_Mul s a (inv s b) ha (md_w2 (inv_lt _ _))) ⟨rfl, rfl, rfl, trivial⟩ rfl rfl ?_
  simp only [↓PX, SX, SYX, EY, simprocAttr, TYX, UX]
end Go.Sx
