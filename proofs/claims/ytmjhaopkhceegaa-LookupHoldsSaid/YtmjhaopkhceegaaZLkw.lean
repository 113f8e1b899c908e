/-
  Checks, of lookup and of the reference. No conditions.
-/
import Derived.Test.YtmjhaopkhceegaaZLkP
namespace Go.Sx
open Go.Proofs Go.Num
-- SY
-- TY: TYX, UX, guard_un, IOX
set_option maxRecDepth 100000
set_option linter.unusedSimpArgs false
set_option pp.deepTerms true
set_option pp.maxSteps 100000
/-- (a + beta)(b + gamma). -/
def prN (s : Int) (β γ a b : Nat) : Nat := (a + β) % md s * ((b + γ) % md s) % md s
theorem prN_w (s : Int) (β γ a b : Nat) : prN s β γ a b < W256 := md_w s _
theorem u_pof (s : Int) (β γ a b : Nat) (hβ : β < W256) (hγ : γ < W256) (ha : a < W256) (hb : b < W256) : Contract Try.prog 45 [.val (TN s β γ), .val (EN a), .val (EN b)] [.val (EN (prN s β γ a b))] := by
  unfold TN
  refine contract_of (N := _) (vars := _) (c := bodyOf Try.f45) Try.func45 (body_eq rfl) rfl rfl (by rfl) mixed _ _ trivial 1000 ?_
  simp only [bodyOf, Try.f45, Option.getD_some, argA, argE, List.length_cons, List.length_nil, Nat.reduceAdd, Nat.reduceSub, List.replicate, List.cons_append, List.nil_append]
  simp only [↓PX, SX, SYX, EY, simprocAttr, TYX, UX, guard_un, IOX]
  repeat (first | refine DrawVC.intro (by kernel_rfl) ?_ | refine And.intro (by omega) ?_ | exact trivial)
  refine CallVC.intro (u_Add s a β ha hβ) ⟨rfl, rfl, rfl, trivial⟩ rfl rfl ?_
  simp only [↓PX, SX, SYX, EY, simprocAttr, TYX, UX, guard_un, IOX]
  refine CallVC.intro (u_Add s b γ hb hγ) ⟨rfl, rfl, rfl, trivial⟩ rfl rfl ?_
  simp only [↓PX, SX, SYX, EY, simprocAttr, TYX, UX, guard_un, IOX]
  refine CallVC.intro (u_Mul s _ _ (md_w s _) (md_w s _)) ⟨rfl, rfl, rfl, trivial⟩ rfl rfl ?_
  simp only [↓PX, SX, SYX, EY, simprocAttr, TYX, UX, guard_un, IOX]
  rfl
theorem u_lmul (s : Int) (a b : Nat) (ha : a < W256) (hb : b < W256) : Contract Try.prog 43 [.val (EN a), .val (EN b), .bx [.int .i64 s]] [.val (EN (a * b % md s))] := by
  refine contract_of (N := _) (vars := _) (c := bodyOf Try.f43) Try.func43 (body_eq rfl) rfl rfl (by rfl) mixed _ _ trivial 1000 ?_
  simp only [bodyOf, Try.f43, Option.getD_some, argA, argE, List.length_cons, List.length_nil, Nat.reduceAdd, Nat.reduceSub, List.replicate, List.cons_append, List.nil_append]
  simp only [↓PX, SX, SYX, EY, simprocAttr, TYX, UX, guard_un, IOX]
  refine CallVC.intro (u_Mul s a b ha hb) ⟨rfl, rfl, rfl, trivial⟩ rfl rfl ?_
  simp only [↓PX, SX, SYX, EY, simprocAttr, TYX, UX, guard_un, IOX]
theorem u_lsub (s : Int) (a b : Nat) (ha : a < W256) (hb : b < W256) : Contract Try.prog 44 [.val (EN a), .val (EN b), .bx [.int .i64 s]] [.val (EN (sb (md s) a b))] := by
  refine contract_of (N := _) (vars := _) (c := bodyOf Try.f44) Try.func44 (body_eq rfl) rfl rfl (by rfl) mixed _ _ trivial 1000 ?_
  simp only [bodyOf, Try.f44, Option.getD_some, argA, argE, List.length_cons, List.length_nil, Nat.reduceAdd, Nat.reduceSub, List.replicate, List.cons_append, List.nil_append]
  simp only [↓PX, SX, SYX, EY, simprocAttr, TYX, UX, guard_un, IOX]
  refine CallVC.intro (u_Sub' s a b ha hb) ⟨rfl, rfl, rfl, trivial⟩ rfl rfl ?_
  simp only [↓PX, SX, SYX, EY, simprocAttr, TYX, UX, guard_un, IOX]
/-- The values of a lookup at a point. -/
def KN (I T S B M A N : Nat) : Value := Value.agg [u64 (L0 I), u64 (L1 I), u64 (L2 I), u64 (L3 I), u64 (L0 T), u64 (L1 T), u64 (L2 T), u64 (L3 T), u64 (L0 S), u64 (L1 S), u64 (L2 S), u64 (L3 S), u64 (L0 B), u64 (L1 B), u64 (L2 B), u64 (L3 B), u64 (L0 M), u64 (L1 M), u64 (L2 M), u64 (L3 M), u64 (L0 A), u64 (L1 A), u64 (L2 A), u64 (L3 A), u64 (L0 N), u64 (L1 N), u64 (L2 N), u64 (L3 N)].toArray
/-- What must be 0. -/
def lcL (s : Int) (F L U I T S B M A N β γ : Nat) : List Nat :=
  if kn s then [F * sb (md s) 1 A % md s, L * sb (md s) (A * A % md s) A % md s,
    U * sb (md s) (N * prN s β γ S M % md s) (A * prN s β γ I T % md s) % md s, F * sb (md s) S M % md s,
    U * (sb (md s) S M * sb (md s) S B % md s) % md s] else []
theorem u_LChecks (s : Int) (X F L U I T S B M A N β γ : Nat) (hF : F < W256) (hL : L < W256) (hU : U < W256) (hI : I < W256) (hT : T < W256) (hS : S < W256) (hB : B < W256) (hM : M < W256) (hA : A < W256) (hN : N < W256) (hβ : β < W256) (hγ : γ < W256) :
    Contract Try.prog 20 [.val (.int .i64 s), .val (SN X F L U), .val (KN I T S B M A N), .val (EN β), .val (EN γ)] [.row 24 4 (lcL s F L U I T S B M A N β γ).length (LC eC (lcL s F L U I T S B M A N β γ))] := by
  unfold SN KN
  cases hk : kn s with
  | false =>
    have he : (eS s != 0) = true := by simp [eS, hk]
    have e1 : lcL s F L U I T S B M A N β γ = [] := by unfold lcL; rw [hk]; rfl
    rw [e1]
    refine contract_of (N := _) (vars := _) (c := bodyOf Try.f20) Try.func20 (body_eq rfl) rfl rfl (by rfl) mixed _ _ trivial 1000 ?_
    simp only [bodyOf, Try.f20, Option.getD_some, argA, argE, List.length_cons, List.length_nil, Nat.reduceAdd, Nat.reduceSub, List.replicate, List.cons_append, List.nil_append]
    simp only [↓PX, SX, SYX, EY, simprocAttr, TYX, UX, guard_un, IOX]
    refine CallVC.intro (u_Modulus s) ⟨rfl, trivial⟩ rfl rfl ?_
    simp only [↓PX, SX, SYX, EY, simprocAttr, TYX, UX, guard_un, IOX, he]
  | true =>
    have he : eS s = 0 := by simp [eS, hk]
    have e1 : lcL s F L U I T S B M A N β γ = [F * sb (md s) 1 A % md s, L * sb (md s) (A * A % md s) A % md s,
    U * sb (md s) (N * prN s β γ S M % md s) (A * prN s β γ I T % md s) % md s, F * sb (md s) S M % md s,
    U * (sb (md s) S M * sb (md s) S B % md s) % md s] := by unfold lcL; rw [hk]; rfl
    rw [e1]
    refine contract_of (N := _) (vars := _) (c := bodyOf Try.f20) Try.func20 (body_eq rfl) rfl rfl (by rfl) mixed _ _ trivial 1000 ?_
    simp only [bodyOf, Try.f20, Option.getD_some, argA, argE, List.length_cons, List.length_nil, Nat.reduceAdd, Nat.reduceSub, List.replicate, List.cons_append, List.nil_append]
    simp only [↓PX, SX, SYX, EY, simprocAttr, TYX, UX, guard_un, IOX]
    refine CallVC.intro (u_Modulus s) ⟨rfl, trivial⟩ rfl rfl ?_
    simp only [↓PX, SX, SYX, EY, simprocAttr, TYX, UX, guard_un, IOX, he]
    have one : (1 : Nat) < W256 := by decide
    have pS := prN_w s β γ S M
    have pI := prN_w s β γ I T
    have sw := sb_w s
    have mw : ∀ x, x % md s < W256 := fun x => md_w s x
    have c6 := u_pof s β γ S M hβ hγ hS hM
    have c8 := u_pof s β γ I T hβ hγ hI hT
    unfold TN at c6 c8
    refine CloVC.intro (u_lsub s S M hS hM) ⟨rfl, rfl, (by simp only [argMatch, boxCells, List.drop_zero, SX, SYX, EY, simprocAttr, and_self, List.length_append, List.length_map, List.length_set, TYX, UX, guard_un, IOX]), trivial⟩ rfl rfl ?_
    simp only [↓PX, SX, SYX, EY, simprocAttr, TYX, UX, guard_un, IOX]
    simp only [↓PX, SX, SYX, EY, simprocAttr, TYX, UX, guard_un, IOX, List.append_eq, List.cons_append, List.nil_append]
    repeat (first | refine DrawVC.intro (by kernel_rfl) ?_ | refine And.intro (by omega) ?_ | exact trivial)
    refine CloVC.intro (u_lsub s 1 A one hA) ⟨rfl, rfl, (by simp only [argMatch, boxCells, List.drop_zero, SX, SYX, EY, simprocAttr, and_self, List.length_append, List.length_map, List.length_set, TYX, UX, guard_un, IOX]), trivial⟩ rfl rfl ?_
    simp only [↓PX, SX, SYX, EY, simprocAttr, TYX, UX, guard_un, IOX]
    refine CloVC.intro (u_lmul s F _ hF (sw _ _)) ⟨rfl, rfl, (by simp only [argMatch, boxCells, List.drop_zero, SX, SYX, EY, simprocAttr, and_self, List.length_append, List.length_map, List.length_set, TYX, UX, guard_un, IOX]), trivial⟩ rfl rfl ?_
    simp only [↓PX, SX, SYX, EY, simprocAttr, TYX, UX, guard_un, IOX]
    refine CloVC.intro (u_lmul s A A hA hA) ⟨rfl, rfl, (by simp only [argMatch, boxCells, List.drop_zero, SX, SYX, EY, simprocAttr, and_self, List.length_append, List.length_map, List.length_set, TYX, UX, guard_un, IOX]), trivial⟩ rfl rfl ?_
    simp only [↓PX, SX, SYX, EY, simprocAttr, TYX, UX, guard_un, IOX]
    refine CloVC.intro (u_lsub s _ A (mw _) hA) ⟨rfl, rfl, (by simp only [argMatch, boxCells, List.drop_zero, SX, SYX, EY, simprocAttr, and_self, List.length_append, List.length_map, List.length_set, TYX, UX, guard_un, IOX]), trivial⟩ rfl rfl ?_
    simp only [↓PX, SX, SYX, EY, simprocAttr, TYX, UX, guard_un, IOX]
    refine CloVC.intro (u_lmul s L _ hL (sw _ _)) ⟨rfl, rfl, (by simp only [argMatch, boxCells, List.drop_zero, SX, SYX, EY, simprocAttr, and_self, List.length_append, List.length_map, List.length_set, TYX, UX, guard_un, IOX]), trivial⟩ rfl rfl ?_
    simp only [↓PX, SX, SYX, EY, simprocAttr, TYX, UX, guard_un, IOX]
    refine CallVC.intro (c6) ⟨rfl, rfl, rfl, trivial⟩ rfl rfl ?_
    simp only [↓PX, SX, SYX, EY, simprocAttr, TYX, UX, guard_un, IOX, b_agg]
    refine CloVC.intro (u_lmul s N _ hN pS) ⟨rfl, rfl, (by simp only [argMatch, boxCells, List.drop_zero, SX, SYX, EY, simprocAttr, and_self, List.length_append, List.length_map, List.length_set, TYX, UX, guard_un, IOX]), trivial⟩ rfl rfl ?_
    simp only [↓PX, SX, SYX, EY, simprocAttr, TYX, UX, guard_un, IOX]
    refine CallVC.intro (c8) ⟨rfl, rfl, rfl, trivial⟩ rfl rfl ?_
    simp only [↓PX, SX, SYX, EY, simprocAttr, TYX, UX, guard_un, IOX, b_agg]
    refine CloVC.intro (u_lmul s A _ hA pI) ⟨rfl, rfl, (by simp only [argMatch, boxCells, List.drop_zero, SX, SYX, EY, simprocAttr, and_self, List.length_append, List.length_map, List.length_set, TYX, UX, guard_un, IOX]), trivial⟩ rfl rfl ?_
    simp only [↓PX, SX, SYX, EY, simprocAttr, TYX, UX, guard_un, IOX]
    refine CloVC.intro (u_lsub s _ _ (mw _) (mw _)) ⟨rfl, rfl, (by simp only [argMatch, boxCells, List.drop_zero, SX, SYX, EY, simprocAttr, and_self, List.length_append, List.length_map, List.length_set, TYX, UX, guard_un, IOX]), trivial⟩ rfl rfl ?_
    simp only [↓PX, SX, SYX, EY, simprocAttr, TYX, UX, guard_un, IOX]
    refine CloVC.intro (u_lmul s U _ hU (sw _ _)) ⟨rfl, rfl, (by simp only [argMatch, boxCells, List.drop_zero, SX, SYX, EY, simprocAttr, and_self, List.length_append, List.length_map, List.length_set, TYX, UX, guard_un, IOX]), trivial⟩ rfl rfl ?_
    simp only [↓PX, SX, SYX, EY, simprocAttr, TYX, UX, guard_un, IOX]
    refine CloVC.intro (u_lmul s F _ hF (sw _ _)) ⟨rfl, rfl, (by simp only [argMatch, boxCells, List.drop_zero, SX, SYX, EY, simprocAttr, and_self, List.length_append, List.length_map, List.length_set, TYX, UX, guard_un, IOX]), trivial⟩ rfl rfl ?_
    simp only [↓PX, SX, SYX, EY, simprocAttr, TYX, UX, guard_un, IOX]
    refine CloVC.intro (u_lsub s S B hS hB) ⟨rfl, rfl, (by simp only [argMatch, boxCells, List.drop_zero, SX, SYX, EY, simprocAttr, and_self, List.length_append, List.length_map, List.length_set, TYX, UX, guard_un, IOX]), trivial⟩ rfl rfl ?_
    simp only [↓PX, SX, SYX, EY, simprocAttr, TYX, UX, guard_un, IOX]
    refine CloVC.intro (u_lmul s _ _ (sw _ _) (sw _ _)) ⟨rfl, rfl, (by simp only [argMatch, boxCells, List.drop_zero, SX, SYX, EY, simprocAttr, and_self, List.length_append, List.length_map, List.length_set, TYX, UX, guard_un, IOX]), trivial⟩ rfl rfl ?_
    simp only [↓PX, SX, SYX, EY, simprocAttr, TYX, UX, guard_un, IOX]
    refine CloVC.intro (u_lmul s U _ hU (mw _)) ⟨rfl, rfl, (by simp only [argMatch, boxCells, List.drop_zero, SX, SYX, EY, simprocAttr, and_self, List.length_append, List.length_map, List.length_set, TYX, UX, guard_un, IOX]), trivial⟩ rfl rfl ?_
    simp only [↓PX, SX, SYX, EY, simprocAttr, TYX, UX, guard_un, IOX]
    rfl
end Go.Sx
