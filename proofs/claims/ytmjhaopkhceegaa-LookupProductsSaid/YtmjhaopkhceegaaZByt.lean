/-
  Bytes of a number; bundles for lists of bytes. No conditions.
-/
import Derived.Test.YtmjhaopkhceegaaZSqrA
namespace Go.Sx
open Go.Proofs Go.Num
theorem bL_full {l : List Nat} : (LC bC l).take l.length = LC bC l := by rw [bL_take, List.take_length]
theorem bL_nil : LC bC [] = [] := rfl
theorem bL_pre {l r : List Nat} : (LC bC (l ++ r)).take l.length = LC bC l := by rw [bL_take, List.take_left]
theorem BY : type_of% (And.intro (And.intro (And.intro @bL_len @bL_one) (And.intro @bL_mk @bL_full)) (And.intro (And.intro @bL_app1 @bL_app) (And.intro @bL_nil @bL_pre))) :=
  And.intro (And.intro (And.intro @bL_len @bL_one) (And.intro @bL_mk @bL_full)) (And.intro (And.intro @bL_app1 @bL_app) (And.intro @bL_nil @bL_pre))
end Go.Sx
