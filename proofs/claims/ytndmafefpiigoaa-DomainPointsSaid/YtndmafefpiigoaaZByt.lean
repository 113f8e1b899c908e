/-
  Bytes of a number; bundles for lists of bytes. No conditions.
-/
import Derived.Test.YtndmafefpiigoaaZSqx
namespace Go.Sx
open Go.Proofs Go.Num
end Go.Sx
