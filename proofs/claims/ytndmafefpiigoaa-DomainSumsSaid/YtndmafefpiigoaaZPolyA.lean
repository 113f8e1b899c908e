/-
  slices.Backward over elements: its closure's contract, for every loop body. The machine: a range over slices.Backward of elements. Lists of numbers as polynomials: the noughts at the end struck out. Trim, of poly and of the reference. Clone; Add and Scale of poly; Trim, Add and Scale of the reference. Eval, of poly and of the reference. No conditions.
-/
import Derived.RangeFuncNested
import Derived.RangeFuncBound
import Derived.RangeFuncCalls
import Derived.RangeFuncLeaves
import Derived.Shelf.Abstract
import Derived.Shelf.RegionOpen
import Derived.WalkKit
import Derived.OwnWalkIn
import Derived.TacticsInMore
import Derived.LoopNIn
import Derived.LoopIn
import Derived.Test.YtndmafefpiigoaaZFieldA
import Derived.Test.YtndmafefpiigoaaZMachC
import Derived.Test.YtndmafefpiigoaaZInv
namespace Go.Sx
open Go.Proofs Go.RowKit Go.Shelf
attribute [local go_sem] Oper.semAt_some
set_option maxRecDepth 100000
end Go.Sx
namespace Go.Sx
open Go.Proofs
set_option maxRecDepth 100000
end Go.Sx
namespace Go.Sx
theorem getD_out {l : List Nat} {i : Nat} (h : l.length ≤ i) : l.getD i 0 = 0 := by simp [List.getD, List.getElem?_eq_none h]
theorem tab_out {n i : Nat} {f : Nat → Nat} (h : n ≤ i) : (tab n f).getD i 0 = 0 := getD_out (by rw [tab_len]; exact h)
theorem tab_snoc {n : Nat} {f : Nat → Nat} : tab n f ++ [f n] = tab (n + 1) f := by simp [tab, List.range_succ]
theorem tab_0 {f : Nat → Nat} : tab 0 f = [] := rfl
end Go.Sx
namespace Go.Sx
open Go.Proofs
-- SY
-- TY: TYX, UX
set_option maxRecDepth 100000
set_option linter.unusedSimpArgs false
set_option pp.deepTerms true
set_option pp.maxSteps 100000
end Go.Sx
namespace Go.Sx
open Go.Proofs
-- SY
-- TY: TYX, UX
set_option maxRecDepth 100000
set_option linter.unusedSimpArgs false
set_option pp.deepTerms true
set_option pp.maxSteps 100000
/-! ### the reference -/
end Go.Sx
namespace Go.Sx
open Go.Proofs
-- SY
-- TY: TYX, UX
set_option maxRecDepth 100000
set_option linter.unusedSimpArgs false
set_option pp.deepTerms true
set_option pp.maxSteps 100000
/-- The value at x. -/
def evp (m x : Nat) : List Nat → Nat
  | [] => 0
  | c :: l => (evp m x l * x % m + c) % m
theorem evp_lt (s : Int) (x : Nat) (l : List Nat) : evp (md s) x l < W256 := by
  cases l with
  | nil => unfold evp; decide
  | cons c l => exact md_w s _
theorem v_Eval6 (s : Int) (l : List Nat) (x : Nat) (hl : ∀ y ∈ l, y < W256) (hx : x < W256) (hb : l.length * 32 ≤ 140737488355328) :
    Contract Try.prog 54 [.val (.int .i64 s), .sl l.length 4 (LC eC l), .val (EN x)] [.val (EN (evp (md s) x l))] := by
  refine contract_of (N := _) (vars := _) (c := bodyOf Try.f54) Try.func54 (body_eq rfl) rfl rfl (by rfl) mixed _ _ trivial 1000 ?_
  simp only [bodyOf, Try.f54, Option.getD_some, argA, argE, List.length_cons, List.length_nil, Nat.reduceAdd, Nat.reduceSub, List.replicate, List.cons_append, List.nil_append]
  simp only [↓PX, SX, SYX, EY, simprocAttr, TYX, UX]
  refine loop_hav ?_
  simp only [↓PX, SX, SYX, EY, simprocAttr, TYX, UX]
  refine loop_go mixed (by trivial) (γ := Nat) (fun q => q ≤ l.length) (fun q => l.length - q) (fun q => [(8, .o (.v (.int .i64 ((l.length : Int) - 1 - q))))]) (fun q => [(15, .box (eC (evp (md s) x (l.drop (l.length - q)))))]) 0 (by omega)
    (St.le_of id (by simp [-List.getD_eq_getElem?_getD, SYX, iv, Tle, AVle, A0le, Mem.get, evp, eC, wI (n := (l.length : Int) - 1) (by omega) (by omega)]) (by simp [-List.getD_eq_getElem?_getD, SYX, Mle, Ele, Hle, Tle, AVle, A0le, Mem.get, evp, eC, wI (n := (l.length : Int) - 1) (by omega) (by omega)]) (by simp [SYX]) (by simp [SYX])) ?_
  intro q hq
  have hz : evp (md s) x (List.drop (l.length - q) l) < W256 := evp_lt _ _ _
  simp only [↓PX, SX, SYX, EY, simprocAttr, TYX, UX]
  refine cond_split (fun h0 => ?_) (fun h0 => ?_)
  · have h0 : q < l.length := by
      have := of_decide_eq_true h0
      omega
    have hy : l.getD (l.length - 1 - q) 0 < W256 := getD_lt hl (by omega)
    have e2 : ((l.length : Int) - 1 - q) = ((l.length - 1 - q : Nat) : Int) := by omega
    have e1 : (evp (md s) x (List.drop (l.length - q) l) * x % md s + l.getD (l.length - 1 - q) 0) % md s = evp (md s) x (List.drop (l.length - (q + 1)) l) := by
      have h1 : l.length - (q + 1) = l.length - 1 - q := by omega
      have h2 : l.length - q = l.length - 1 - q + 1 := by omega
      have h3 : List.drop (l.length - 1 - q) l = l.getD (l.length - 1 - q) 0 :: List.drop (l.length - 1 - q + 1) l := by
        rw [List.drop_eq_getElem_cons (show l.length - 1 - q < l.length by omega)]
        congr 1
        rw [List.getD_eq_getElem?_getD, List.getElem?_eq_getElem (by omega)]; rfl
      rw [h1, h2, h3]
      rfl
    have e3 : IntKind.i64.wrap (((l.length - 1 - q : Nat) : Int) - 1) = (l.length : Int) - 1 - ((q + 1 : Nat) : Int) := by
      rw [wI (by omega) (by omega)]; omega
    rw [e2]
    simp only [↓PX, SX, SYX, EY, simprocAttr, TYX, UX, eL_ld (l := l) (j := l.length - 1 - q) (by omega)]
    repeat (first | refine DrawVC.intro (by kernel_rfl) ?_ | refine And.intro (by omega) ?_ | exact trivial)
    refine CallVC.intro (v_Mul s _ _ hz hx) ⟨rfl, rfl, rfl, trivial⟩ rfl rfl ?_
    simp only [↓PX, SX, SYX, EY, simprocAttr, TYX, UX, eL_ld (l := l) (j := l.length - 1 - q) (by omega)]
    repeat (first | refine DrawVC.intro (by kernel_rfl) ?_ | refine And.intro (by omega) ?_ | exact trivial)
    refine CallVC.intro (v_Add s _ _ (md_w s _) hy) ⟨rfl, rfl, rfl, trivial⟩ rfl rfl ?_
    simp only [↓PX, SX, SYX, EY, simprocAttr, TYX, UX, e1, e3]
    exact ⟨q + 1, by omega, by omega, (St.le_of id (by simp [-List.getD_eq_getElem?_getD, SYX, iv, Tle, AVle, A0le, Mem.get, eC]) (by simp [-List.getD_eq_getElem?_getD, SYX, Mle, Ele, Hle, Tle, AVle, A0le, Mem.get, eC]) (by simp [SYX]) (by simp [SYX]))⟩
  · have h0 : q = l.length := by
      have := of_decide_eq_false h0
      omega
    subst h0
    simp only [↓PX, SX, SYX, EY, simprocAttr, TYX, UX, Nat.sub_self, List.drop_zero]
end Go.Sx
