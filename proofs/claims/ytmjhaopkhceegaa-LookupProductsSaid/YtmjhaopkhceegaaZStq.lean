/-
  Structs of elements compared. No conditions.
-/
import Derived.Test.YtmjhaopkhceegaaZFieldA
import Derived.Laws.StructEq
namespace Go.Sx
open Go.Proofs
theorem b_agg {P : Program} {T : Nat → AV} {bop : BinOp} {x y : Operand} {ty ty' : TypeId} {xs ys : Array Value} : binOn P T bop ty x y ty' (.o (.v (.agg xs))) (.o (.v (.agg ys))) = .ex (pureOp P T (.binOp bop ty x y ty')) := rfl
end Go.Sx
