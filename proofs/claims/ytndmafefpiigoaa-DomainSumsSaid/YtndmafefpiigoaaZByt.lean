/-
  Bytes of a number; bundles for lists of bytes. No conditions.
-/
import Derived.Test.YtndmafefpiigoaaZSqx
namespace Go.Sx
open Go.Proofs Go.Num
/-- The number of bytes, the least first. -/
def nb (l : List Nat) : Nat → Nat
  | 0 => 0
  | i + 1 => nb l i + l.getD i 0 * 256 ^ i
end Go.Sx
