/-
  Divide, of poly and of the reference. No conditions.
-/
import Derived.Test.YtgeliidjmefkgaaZPop
namespace Go.Sx
open Go.Proofs Go.Num
-- SY
-- TY: TYX, UX
set_option maxRecDepth 100000
set_option linter.unusedSimpArgs false
set_option pp.deepTerms true
set_option pp.maxSteps 100000
theorem tab_some {n : Nat} {f : Nat → Nat} {i : Nat} (h : i < n) : (tab n f)[i]? = some (f i) := by simp [tab, h]
/-! ### the steps of a division -/
/-- A difference. -/
def sb (m x y : Nat) : Nat := (x + (m - y % m) % m) % m
theorem sb_w (s : Int) (x y : Nat) : sb (md s) x y < W256 := md_w s _
theorem u_Sub' (s : Int) (a b : Nat) (ha : a < W256) (hb : b < W256) : Contract Try.prog 77 [.val (.int .i64 s), .val (EN a), .val (EN b)] [.val (EN (sb (md s) a b))] := u_Sub s a b ha hb
/-! ### what is answered -/
def ldD (s : Int) (b : List Nat) : Nat := inv s ((tp (md s) b).getD ((tp (md s) b).length - 1) 0)
end Go.Sx
