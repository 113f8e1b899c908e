/-
  Values of the reference; what is asked before a transform. No conditions.
-/
import Derived.Test.YtndmafefpiigoaaZDog
namespace Go.Sx
open Go.Proofs Go.Num
-- SY
-- TY: TYX, UX
set_option maxRecDepth 100000
set_option linter.unusedSimpArgs false
set_option pp.deepTerms true
set_option pp.maxSteps 100000
def rdE (s k : Int) (sh : Nat) : Int := if ptO s k then (if sh % md s = 0 then 10 else 0) else eK s k
theorem u_ready (s k : Int) (sh : Nat) (hs : sh < W256) : Contract Try.prog 94 [.val (.int .i64 s), .val (.int .i64 k), .val (EN sh)] [.val (.int .i64 (rdE s k sh))] := by
  cases h : ptO s k with
  | false =>
    have e2 : rdE s k sh = eK s k := by simp [rdE, h]
    have e3 : eK s k ≠ 0 := fun e => by rw [eK_0.1 e] at h; cases h
    have e4 : (eK s k != 0) = true := by simp [e3]
    rw [e2]
    refine contract_of (N := _) (vars := _) (c := bodyOf Try.f94) Try.func94 (body_eq rfl) rfl rfl (by rfl) mixed _ _ trivial 1000 ?_
    simp only [bodyOf, Try.f94, Option.getD_some, argA, argE, List.length_cons, List.length_nil, Nat.reduceAdd, Nat.reduceSub, List.replicate, List.cons_append, List.nil_append]
    simp only [↓PX, SX, SYX, EY, simprocAttr, TYX, UX]
    refine CallVC.intro (u_check s k) ⟨rfl, rfl, trivial⟩ rfl rfl ?_
    simp only [↓PX, SX, SYX, EY, simprocAttr, TYX, UX, e4]
  | true =>
    have e2 : eK s k = 0 := eK_0.2 h
    have c1 := u_Add s sh 0 hs (by decide)
    rw [Nat.add_zero] at c1
    have e5 : eqN (sh % md s) 0 = (sh % md s == 0) := eqN_eq (md_w s _) (by decide)
    by_cases hz : sh % md s = 0
    · have e6 : (sh % md s == 0) = true := beq_iff_eq.2 hz
      have e7 : rdE s k sh = 10 := by simp [rdE, h, hz]
      rw [e7]
      refine contract_of (N := _) (vars := _) (c := bodyOf Try.f94) Try.func94 (body_eq rfl) rfl rfl (by rfl) mixed _ _ trivial 1000 ?_
      simp only [bodyOf, Try.f94, Option.getD_some, argA, argE, List.length_cons, List.length_nil, Nat.reduceAdd, Nat.reduceSub, List.replicate, List.cons_append, List.nil_append]
      simp only [↓PX, SX, SYX, EY, simprocAttr, TYX, UX]
      refine CallVC.intro (u_check s k) ⟨rfl, rfl, trivial⟩ rfl rfl ?_
      simp only [↓PX, SX, SYX, EY, simprocAttr, TYX, UX, e2]
      refine CallVC.intro (c1) ⟨rfl, rfl, rfl, trivial⟩ rfl rfl ?_
      simp only [↓PX, SX, SYX, EY, simprocAttr, TYX, UX, e5, e6]
    · have e6 : (sh % md s == 0) = false := beq_eq_false_iff_ne.2 hz
      have e7 : rdE s k sh = 0 := by simp [rdE, h, hz]
      rw [e7]
      refine contract_of (N := _) (vars := _) (c := bodyOf Try.f94) Try.func94 (body_eq rfl) rfl rfl (by rfl) mixed _ _ trivial 1000 ?_
      simp only [bodyOf, Try.f94, Option.getD_some, argA, argE, List.length_cons, List.length_nil, Nat.reduceAdd, Nat.reduceSub, List.replicate, List.cons_append, List.nil_append]
      simp only [↓PX, SX, SYX, EY, simprocAttr, TYX, UX]
      refine CallVC.intro (u_check s k) ⟨rfl, rfl, trivial⟩ rfl rfl ?_
      simp only [↓PX, SX, SYX, EY, simprocAttr, TYX, UX, e2]
      refine CallVC.intro (c1) ⟨rfl, rfl, rfl, trivial⟩ rfl rfl ?_
      simp only [↓PX, SX, SYX, EY, simprocAttr, TYX, UX, e5, e6]
/-- The values of a polynomial over a shift. -/
def vaO (s k : Int) (sh : Nat) (l : List Nat) : Bool := ptO s k && decide (sh % md s ≠ 0) && decide (l.length ≤ 2 ^ k.toNat)
def vaF (s k : Int) (sh : Nat) (l : List Nat) (i : Nat) : Nat := evp (md s) (sh * pt s k i % md s) l
def vaL (s k : Int) (sh : Nat) (l : List Nat) : List Nat := if vaO s k sh l then tab (2 ^ k.toNat) (vaF s k sh l) else []
def vaE (s k : Int) (sh : Nat) (l : List Nat) : Int := if ptO s k then (if sh % md s = 0 then 10 else if l.length ≤ 2 ^ k.toNat then 0 else 50) else eK s k
def coB (s k : Int) (sh : Nat) : Nat → Nat := pw s (inv s (iN s ((2 ^ k.toNat : Nat) : Int))) (inv s sh)
def coF (s k : Int) (sh : Nat) (l : List Nat) (j : Nat) : Nat := evp (md s) (pt s k ((2 ^ k.toNat - j) % 2 ^ k.toNat)) l * coB s k sh j % md s
end Go.Sx
