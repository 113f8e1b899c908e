/-
  PolyLimits. No conditions.
-/
import Derived.Test.YtndmafefpiigoaaZPop
import Derived.Test.YtndmafefpiigoaaZPow
namespace Go.Sx
open Go.Proofs Go.Num
-- SY
-- TY: TYX, UX
set_option maxRecDepth 100000
set_option linter.unusedSimpArgs false
set_option pp.deepTerms true
set_option pp.maxSteps 100000
theorem X_bne {P : Program} {T : Nat → AV} {x y : Operand} {ty ty' : TypeId} {a b : Bool} (hty : P.underlying ty = some .bool) (hx : ev T x = .o (.v (.bool a))) (hy : ev T y = .o (.v (.bool b))) :
    pureOp P T (.binOp .neq ty x y ty') (.bool (a != b)) := by
  intro o f w ho hf _
  have e1 := hf x (by simp [Op.operands]) _ hx
  have e2 := hf y (by simp [Op.operands]) _ hy
  have h3 := run_equal_bool (P := P) w ty a b hty
  simp [execOp, ho, e1, e2, resolve, eqGuard, binOp, h3]
  cases a <;> cases b <;> rfl
end Go.Sx
