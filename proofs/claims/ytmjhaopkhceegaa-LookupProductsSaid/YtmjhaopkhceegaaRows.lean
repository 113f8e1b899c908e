/-
  No cell of these rows narrows 'for every input' (looked for: loops, veiled, ifaces, maps, wideKeys, modest, calm, conditions, laid).
  DERIVED. THE GIVEN ROWS OF THIS SEAT. 6 by the template 'for every input the law returns true; each argument reads behind the call as it read before'; 0 by the template 'total and deterministic' (their statements: YtmjhaopkhceegaaTotals.lean).
  GIVEN WITH THE SEED: the statements are not yours to turn. If you find one false, say at which input.
  Laid BY PROGRAM, IN A SANDBOX (cutbox-rows.mjs): the forced cells as the released guide's own fill.sh prints them over the translation 9b40ce8848a32e9a… (all of the seat's roots in one cut). By AI agents, Wed Nov 11 2026. No macro, syntax, notation, axiom, sorry.
-/
import Derived.Test.YtmjhaopkhceegaaChecked
import GoSem.Claim
import GoSem.ClaimJoined
import GoSem.ClaimMapViews
import Derived.JoinedTies
import Derived.KernelRfl
namespace Go.Proofs.Ytmjhaopkhceegaa
/- THE CELL 'sum', in the pinned program and in every row, IS THE sha256 OF THE DUMP (.gsa) THAT YtmjhaopkhceegaaProg.lean LOADS. Nothing in Lean hashes anything: it is a label: what it is worth is what the hold of that sum in a sandbox is worth. -/
noncomputable def Try.pinned : Pinned := { name := "ytmjhaopkhceegaa", sum := "9b40ce8848a32e9a7564cda3efe2a83cdab564f53bfdcd459ec9d7da154f04a4", checked := Try.checked }
namespace Rows
def none {H : Type} : Left H := { results := [], args := [] }

/-- 'sigillaw17.LookupPermutes': WHATEVER THE INPUT: true; the input reads as it did. -/
def lookupPermutesSpec : ChangeSpec := { name := "lookupPermutes", fn := fun _ => fun
  | [d1, d2, d3, d4] => { results := [.lit (.bool true)], args := [d1, d2, d3, d4] }
  | _ => none }
def lookupPermutesRow : OpenClaim := { program := "ytmjhaopkhceegaa", sum := "9b40ce8848a32e9a7564cda3efe2a83cdab564f53bfdcd459ec9d7da154f04a4", func := "sigil/sigillaw17.LookupPermutes", spec := "lookupPermutes", inPlace := ["math/bits.Sub64", "math/bits.Add64"], unfollowed := true, recurses := true, named := ["math/bits.divideError", "math/bits.overflowError"], apart := false }
def LookupPermutesSaid : Prop := lookupPermutesRow.holds Try.pinned (OpenSpec.ofChange lookupPermutesSpec)

/-- ITS FALSE NEIGHBOUR: 'it returns false'. Refute it at one input. -/
def lookupPermutesWrong : ChangeSpec := { name := "lookupPermutes", fn := fun _ => fun
  | [d1, d2, d3, d4] => { results := [.lit (.bool false)], args := [d1, d2, d3, d4] }
  | _ => none }
def LookupPermutesWrongFalsely : Prop := lookupPermutesRow.holds Try.pinned (OpenSpec.ofChange lookupPermutesWrong)

/-- 'sigillaw17.LookupOrders': WHATEVER THE INPUT: true; the input reads as it did. -/
def lookupOrdersSpec : ChangeSpec := { name := "lookupOrders", fn := fun _ => fun
  | [d1, d2, d3] => { results := [.lit (.bool true)], args := [d1, d2, d3] }
  | _ => none }
def lookupOrdersRow : OpenClaim := { program := "ytmjhaopkhceegaa", sum := "9b40ce8848a32e9a7564cda3efe2a83cdab564f53bfdcd459ec9d7da154f04a4", func := "sigil/sigillaw17.LookupOrders", spec := "lookupOrders", inPlace := ["math/bits.Sub64", "math/bits.Add64"], unfollowed := true, recurses := true, named := ["math/bits.divideError", "math/bits.overflowError"], apart := false }
def LookupOrdersSaid : Prop := lookupOrdersRow.holds Try.pinned (OpenSpec.ofChange lookupOrdersSpec)

/-- ITS FALSE NEIGHBOUR: 'it returns false'. Refute it at one input. -/
def lookupOrdersWrong : ChangeSpec := { name := "lookupOrders", fn := fun _ => fun
  | [d1, d2, d3] => { results := [.lit (.bool false)], args := [d1, d2, d3] }
  | _ => none }
def LookupOrdersWrongFalsely : Prop := lookupOrdersRow.holds Try.pinned (OpenSpec.ofChange lookupOrdersWrong)

/-- 'sigillaw17.LookupCompress': WHATEVER THE INPUT: true; the input reads as it did. -/
def lookupCompressSpec : ChangeSpec := { name := "lookupCompress", fn := fun _ => fun
  | [d1, d2, d3, d4, d5] => { results := [.lit (.bool true)], args := [d1, d2, d3, d4, d5] }
  | _ => none }
def lookupCompressRow : OpenClaim := { program := "ytmjhaopkhceegaa", sum := "9b40ce8848a32e9a7564cda3efe2a83cdab564f53bfdcd459ec9d7da154f04a4", func := "sigil/sigillaw17.LookupCompress", spec := "lookupCompress", inPlace := ["math/bits.Sub64", "math/bits.Add64"], unfollowed := true, recurses := true, named := ["math/bits.divideError", "math/bits.overflowError"], apart := false }
def LookupCompressSaid : Prop := lookupCompressRow.holds Try.pinned (OpenSpec.ofChange lookupCompressSpec)

/-- ITS FALSE NEIGHBOUR: 'it returns false'. Refute it at one input. -/
def lookupCompressWrong : ChangeSpec := { name := "lookupCompress", fn := fun _ => fun
  | [d1, d2, d3, d4, d5] => { results := [.lit (.bool false)], args := [d1, d2, d3, d4, d5] }
  | _ => none }
def LookupCompressWrongFalsely : Prop := lookupCompressRow.holds Try.pinned (OpenSpec.ofChange lookupCompressWrong)

/-- 'sigillaw17.LookupChecks': WHATEVER THE INPUT: true; the input reads as it did. -/
def lookupChecksSpec : ChangeSpec := { name := "lookupChecks", fn := fun _ => fun
  | [d1, d2, d3, d4, d5] => { results := [.lit (.bool true)], args := [d1, d2, d3, d4, d5] }
  | _ => none }
def lookupChecksRow : OpenClaim := { program := "ytmjhaopkhceegaa", sum := "9b40ce8848a32e9a7564cda3efe2a83cdab564f53bfdcd459ec9d7da154f04a4", func := "sigil/sigillaw17.LookupChecks", spec := "lookupChecks", inPlace := ["math/bits.Sub64", "math/bits.Add64"], unfollowed := true, recurses := true, named := ["math/bits.divideError", "math/bits.overflowError"], apart := false }
def LookupChecksSaid : Prop := lookupChecksRow.holds Try.pinned (OpenSpec.ofChange lookupChecksSpec)

/-- ITS FALSE NEIGHBOUR: 'it returns false'. Refute it at one input. -/
def lookupChecksWrong : ChangeSpec := { name := "lookupChecks", fn := fun _ => fun
  | [d1, d2, d3, d4, d5] => { results := [.lit (.bool false)], args := [d1, d2, d3, d4, d5] }
  | _ => none }
def LookupChecksWrongFalsely : Prop := lookupChecksRow.holds Try.pinned (OpenSpec.ofChange lookupChecksWrong)

/-- 'sigillaw17.LookupProducts': WHATEVER THE INPUT: true; the input reads as it did. -/
def lookupProductsSpec : ChangeSpec := { name := "lookupProducts", fn := fun _ => fun
  | [d1, d2, d3] => { results := [.lit (.bool true)], args := [d1, d2, d3] }
  | _ => none }
def lookupProductsRow : OpenClaim := { program := "ytmjhaopkhceegaa", sum := "9b40ce8848a32e9a7564cda3efe2a83cdab564f53bfdcd459ec9d7da154f04a4", func := "sigil/sigillaw17.LookupProducts", spec := "lookupProducts", inPlace := ["math/bits.Sub64", "math/bits.Add64"], unfollowed := true, recurses := true, named := ["math/bits.divideError", "math/bits.overflowError"], apart := false }
def LookupProductsSaid : Prop := lookupProductsRow.holds Try.pinned (OpenSpec.ofChange lookupProductsSpec)

/-- ITS FALSE NEIGHBOUR: 'it returns false'. Refute it at one input. -/
def lookupProductsWrong : ChangeSpec := { name := "lookupProducts", fn := fun _ => fun
  | [d1, d2, d3] => { results := [.lit (.bool false)], args := [d1, d2, d3] }
  | _ => none }
def LookupProductsWrongFalsely : Prop := lookupProductsRow.holds Try.pinned (OpenSpec.ofChange lookupProductsWrong)

/-- 'sigillaw17.LookupHolds': WHATEVER THE INPUT: true; the input reads as it did. -/
def lookupHoldsSpec : ChangeSpec := { name := "lookupHolds", fn := fun _ => fun
  | [d1, d2, d3, d4, d5, d6, d7] => { results := [.lit (.bool true)], args := [d1, d2, d3, d4, d5, d6, d7] }
  | _ => none }
def lookupHoldsRow : OpenClaim := { program := "ytmjhaopkhceegaa", sum := "9b40ce8848a32e9a7564cda3efe2a83cdab564f53bfdcd459ec9d7da154f04a4", func := "sigil/sigillaw17.LookupHolds", spec := "lookupHolds", inPlace := ["math/bits.Sub64", "math/bits.Add64"], unfollowed := true, recurses := true, named := ["math/bits.divideError", "math/bits.overflowError"], apart := false }
def LookupHoldsSaid : Prop := lookupHoldsRow.holds Try.pinned (OpenSpec.ofChange lookupHoldsSpec)

/-- ITS FALSE NEIGHBOUR: 'it returns false'. Refute it at one input. -/
def lookupHoldsWrong : ChangeSpec := { name := "lookupHolds", fn := fun _ => fun
  | [d1, d2, d3, d4, d5, d6, d7] => { results := [.lit (.bool false)], args := [d1, d2, d3, d4, d5, d6, d7] }
  | _ => none }
def LookupHoldsWrongFalsely : Prop := lookupHoldsRow.holds Try.pinned (OpenSpec.ofChange lookupHoldsWrong)

/- THE SECOND FORM. 'bulk': how many values and letters a reading holds, each counted each time it is reached (what is shared counts as often as it is met; a slice's spare places count too). A statement '..UptoSaid' is the law's where the arguments, and the package variables that the reading takes, are together of bulk at most 1048576: NARROWER than '..Said'. Prove '..Said' where nothing that the law and all that it calls make is longer than what came in: it says more and counts as full. Else prove '..UptoSaid'. A law counts once. -/
mutual
def uptoBulk {H : Type} : DataW H → Nat
  | .lit (.string bytes) => bytes.length + 1
  | .lit _ => 1
  | .nil => 1
  | .ptr d => uptoBulk d + 1
  | .slice elems spare => uptoBulkAll elems + uptoBulkAll spare + 1
  | .agg parts => uptoBulkAll parts + 1
  | .iface _ d => uptoBulk d + 1
  | .map entries => uptoBulkEntries entries + 1
  | .held _ => 1
def uptoBulkAll {H : Type} : List (DataW H) → Nat
  | [] => 0
  | d :: r => uptoBulk d + uptoBulkAll r
def uptoBulkEntries {H : Type} : List (Lit × DataW H) → Nat
  | [] => 0
  | x :: r => uptoBulkEntry x + uptoBulkEntries r
def uptoBulkEntry {H : Type} : Lit × DataW H → Nat
  | (.string bytes, d) => bytes.length + uptoBulk d + 1
  | (_, d) => uptoBulk d + 1
 end
def uptoSmall : (H : Type) → List (DataW H) → Bool := fun _ ds => decide (uptoBulkAll ds ≤ 1048576)
def OpenSpec.upto (s : _root_.Go.ChangeSpec) : _root_.Go.OpenSpec := { _root_.Go.OpenSpec.ofChange s with cond := some uptoSmall }

/-- 'sigillaw17.LookupPermutes', WHERE WHAT IT READS IS OF BULK AT MOST 1048576: true; the input reads as it did. -/
def lookupPermutesUptoRow : OpenClaim := { program := "ytmjhaopkhceegaa", sum := "9b40ce8848a32e9a7564cda3efe2a83cdab564f53bfdcd459ec9d7da154f04a4", func := "sigil/sigillaw17.LookupPermutes", spec := "lookupPermutes", inPlace := ["math/bits.Sub64", "math/bits.Add64"], unfollowed := true, recurses := true, named := ["math/bits.divideError", "math/bits.overflowError"], apart := false, narrowed := true }
def LookupPermutesUptoSaid : Prop := lookupPermutesUptoRow.holds Try.pinned (OpenSpec.upto lookupPermutesSpec)

/-- 'sigillaw17.LookupOrders', WHERE WHAT IT READS IS OF BULK AT MOST 1048576: true; the input reads as it did. -/
def lookupOrdersUptoRow : OpenClaim := { program := "ytmjhaopkhceegaa", sum := "9b40ce8848a32e9a7564cda3efe2a83cdab564f53bfdcd459ec9d7da154f04a4", func := "sigil/sigillaw17.LookupOrders", spec := "lookupOrders", inPlace := ["math/bits.Sub64", "math/bits.Add64"], unfollowed := true, recurses := true, named := ["math/bits.divideError", "math/bits.overflowError"], apart := false, narrowed := true }
def LookupOrdersUptoSaid : Prop := lookupOrdersUptoRow.holds Try.pinned (OpenSpec.upto lookupOrdersSpec)

/-- 'sigillaw17.LookupCompress', WHERE WHAT IT READS IS OF BULK AT MOST 1048576: true; the input reads as it did. -/
def lookupCompressUptoRow : OpenClaim := { program := "ytmjhaopkhceegaa", sum := "9b40ce8848a32e9a7564cda3efe2a83cdab564f53bfdcd459ec9d7da154f04a4", func := "sigil/sigillaw17.LookupCompress", spec := "lookupCompress", inPlace := ["math/bits.Sub64", "math/bits.Add64"], unfollowed := true, recurses := true, named := ["math/bits.divideError", "math/bits.overflowError"], apart := false, narrowed := true }
def LookupCompressUptoSaid : Prop := lookupCompressUptoRow.holds Try.pinned (OpenSpec.upto lookupCompressSpec)

/-- 'sigillaw17.LookupChecks', WHERE WHAT IT READS IS OF BULK AT MOST 1048576: true; the input reads as it did. -/
def lookupChecksUptoRow : OpenClaim := { program := "ytmjhaopkhceegaa", sum := "9b40ce8848a32e9a7564cda3efe2a83cdab564f53bfdcd459ec9d7da154f04a4", func := "sigil/sigillaw17.LookupChecks", spec := "lookupChecks", inPlace := ["math/bits.Sub64", "math/bits.Add64"], unfollowed := true, recurses := true, named := ["math/bits.divideError", "math/bits.overflowError"], apart := false, narrowed := true }
def LookupChecksUptoSaid : Prop := lookupChecksUptoRow.holds Try.pinned (OpenSpec.upto lookupChecksSpec)

/-- 'sigillaw17.LookupProducts', WHERE WHAT IT READS IS OF BULK AT MOST 1048576: true; the input reads as it did. -/
def lookupProductsUptoRow : OpenClaim := { program := "ytmjhaopkhceegaa", sum := "9b40ce8848a32e9a7564cda3efe2a83cdab564f53bfdcd459ec9d7da154f04a4", func := "sigil/sigillaw17.LookupProducts", spec := "lookupProducts", inPlace := ["math/bits.Sub64", "math/bits.Add64"], unfollowed := true, recurses := true, named := ["math/bits.divideError", "math/bits.overflowError"], apart := false, narrowed := true }
def LookupProductsUptoSaid : Prop := lookupProductsUptoRow.holds Try.pinned (OpenSpec.upto lookupProductsSpec)

/-- 'sigillaw17.LookupHolds', WHERE WHAT IT READS IS OF BULK AT MOST 1048576: true; the input reads as it did. -/
def lookupHoldsUptoRow : OpenClaim := { program := "ytmjhaopkhceegaa", sum := "9b40ce8848a32e9a7564cda3efe2a83cdab564f53bfdcd459ec9d7da154f04a4", func := "sigil/sigillaw17.LookupHolds", spec := "lookupHolds", inPlace := ["math/bits.Sub64", "math/bits.Add64"], unfollowed := true, recurses := true, named := ["math/bits.divideError", "math/bits.overflowError"], apart := false, narrowed := true }
def LookupHoldsUptoSaid : Prop := lookupHoldsUptoRow.holds Try.pinned (OpenSpec.upto lookupHoldsSpec)

end Rows
end Go.Proofs.Ytmjhaopkhceegaa
