/-
  Points of the reference; the powers of a root of unity. No conditions.
-/
import Derived.Test.YtndmafefpiigoaaZDoa
namespace Go.Sx
open Go.Proofs Go.Num
-- SY
-- TY: TYX, UX
set_option maxRecDepth 100000
set_option linter.unusedSimpArgs false
set_option pp.deepTerms true
set_option pp.maxSteps 100000
theorem b_shl_iu {P : Program} {T : Nat → AV} {ty ty' : TypeId} {x y : Operand} {p : Int} {b : Nat} : binOn P T .shl ty x y ty' (.o (.v (.int .i64 p))) (.o (.v (u64 b))) = .ok (0 ≤ (b : Int)) (val (.int .i64 (IntKind.i64.wrap (p * 2 ^ (min b IntKind.i64.bits))))) := rfl
end Go.Sx
