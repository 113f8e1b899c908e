/-
  No cell of these rows narrows 'for every input' (looked for: loops, veiled, ifaces, maps, wideKeys, modest, calm, conditions, laid).
  DERIVED. THE GIVEN ROWS OF THIS SEAT. 9 by the template 'for every input the law returns true; each argument reads behind the call as it read before'; 0 by the template 'total and deterministic' (their statements: YtmgheellmllfpaaTotals.lean).
  GIVEN WITH THE SEED: the statements are not yours to turn. If you find one false, say at which input.
  Laid BY PROGRAM, IN A SANDBOX (cutbox-rows.mjs): the forced cells as the released guide's own fill.sh prints them over the translation 213c5bf1e12ded12… (all of the seat's roots in one cut). By AI agents, Wed Nov 11 2026. No macro, syntax, notation, axiom, sorry.
-/
import Derived.Test.YtmgheellmllfpaaChecked
import GoSem.Claim
import GoSem.ClaimJoined
import GoSem.ClaimMapViews
import Derived.JoinedTies
import Derived.KernelRfl
namespace Go.Proofs.Ytmgheellmllfpaa
/- THE CELL 'sum', in the pinned program and in every row, IS THE sha256 OF THE DUMP (.gsa) THAT YtmgheellmllfpaaProg.lean LOADS. Nothing in Lean hashes anything: it is a label: what it is worth is what the hold of that sum in a sandbox is worth. -/
noncomputable def Try.pinned : Pinned := { name := "ytmgheellmllfpaa", sum := "213c5bf1e12ded12289523dbbda5adfce561db7a59d37c041d958e630ab312ca", checked := Try.checked }
namespace Rows
def none {H : Type} : Left H := { results := [], args := [] }

/-- 'sigillaw02.FieldProducts': WHATEVER THE INPUT: true; the input reads as it did. -/
def fieldProductsSpec : ChangeSpec := { name := "fieldProducts", fn := fun _ => fun
  | [d1, d2, d3] => { results := [.lit (.bool true)], args := [d1, d2, d3] }
  | _ => none }
def fieldProductsRow : OpenClaim := { program := "ytmgheellmllfpaa", sum := "213c5bf1e12ded12289523dbbda5adfce561db7a59d37c041d958e630ab312ca", func := "sigil/sigillaw02.FieldProducts", spec := "fieldProducts", inPlace := ["math/bits.Sub64", "math/bits.Add64"], named := ["math/bits.divideError", "math/bits.overflowError"], apart := false }
def FieldProductsSaid : Prop := fieldProductsRow.holds Try.pinned (OpenSpec.ofChange fieldProductsSpec)

/-- ITS FALSE NEIGHBOUR: 'it returns false'. Refute it at one input. -/
def fieldProductsWrong : ChangeSpec := { name := "fieldProducts", fn := fun _ => fun
  | [d1, d2, d3] => { results := [.lit (.bool false)], args := [d1, d2, d3] }
  | _ => none }
def FieldProductsWrongFalsely : Prop := fieldProductsRow.holds Try.pinned (OpenSpec.ofChange fieldProductsWrong)

/-- 'sigillaw02.FieldLaws': WHATEVER THE INPUT: true; the input reads as it did. -/
def fieldLawsSpec : ChangeSpec := { name := "fieldLaws", fn := fun _ => fun
  | [d1, d2, d3, d4] => { results := [.lit (.bool true)], args := [d1, d2, d3, d4] }
  | _ => none }
def fieldLawsRow : OpenClaim := { program := "ytmgheellmllfpaa", sum := "213c5bf1e12ded12289523dbbda5adfce561db7a59d37c041d958e630ab312ca", func := "sigil/sigillaw02.FieldLaws", spec := "fieldLaws", inPlace := ["math/bits.Sub64", "math/bits.Add64"], named := ["math/bits.divideError", "math/bits.overflowError"], apart := false }
def FieldLawsSaid : Prop := fieldLawsRow.holds Try.pinned (OpenSpec.ofChange fieldLawsSpec)

/-- ITS FALSE NEIGHBOUR: 'it returns false'. Refute it at one input. -/
def fieldLawsWrong : ChangeSpec := { name := "fieldLaws", fn := fun _ => fun
  | [d1, d2, d3, d4] => { results := [.lit (.bool false)], args := [d1, d2, d3, d4] }
  | _ => none }
def FieldLawsWrongFalsely : Prop := fieldLawsRow.holds Try.pinned (OpenSpec.ofChange fieldLawsWrong)

/-- 'sigillaw02.FieldInverses': WHATEVER THE INPUT: true; the input reads as it did. -/
def fieldInversesSpec : ChangeSpec := { name := "fieldInverses", fn := fun _ => fun
  | [d1, d2] => { results := [.lit (.bool true)], args := [d1, d2] }
  | _ => none }
def fieldInversesRow : OpenClaim := { program := "ytmgheellmllfpaa", sum := "213c5bf1e12ded12289523dbbda5adfce561db7a59d37c041d958e630ab312ca", func := "sigil/sigillaw02.FieldInverses", spec := "fieldInverses", inPlace := ["math/bits.Sub64", "math/bits.Add64"], named := ["math/bits.divideError", "math/bits.overflowError"], apart := false }
def FieldInversesSaid : Prop := fieldInversesRow.holds Try.pinned (OpenSpec.ofChange fieldInversesSpec)

/-- ITS FALSE NEIGHBOUR: 'it returns false'. Refute it at one input. -/
def fieldInversesWrong : ChangeSpec := { name := "fieldInverses", fn := fun _ => fun
  | [d1, d2] => { results := [.lit (.bool false)], args := [d1, d2] }
  | _ => none }
def FieldInversesWrongFalsely : Prop := fieldInversesRow.holds Try.pinned (OpenSpec.ofChange fieldInversesWrong)

/-- 'sigillaw02.FieldSums': WHATEVER THE INPUT: true; the input reads as it did. -/
def fieldSumsSpec : ChangeSpec := { name := "fieldSums", fn := fun _ => fun
  | [d1, d2, d3, d4] => { results := [.lit (.bool true)], args := [d1, d2, d3, d4] }
  | _ => none }
def fieldSumsRow : OpenClaim := { program := "ytmgheellmllfpaa", sum := "213c5bf1e12ded12289523dbbda5adfce561db7a59d37c041d958e630ab312ca", func := "sigil/sigillaw02.FieldSums", spec := "fieldSums", inPlace := ["math/bits.Sub64", "math/bits.Add64"], named := ["math/bits.divideError", "math/bits.overflowError"], apart := false }
def FieldSumsSaid : Prop := fieldSumsRow.holds Try.pinned (OpenSpec.ofChange fieldSumsSpec)

/-- ITS FALSE NEIGHBOUR: 'it returns false'. Refute it at one input. -/
def fieldSumsWrong : ChangeSpec := { name := "fieldSums", fn := fun _ => fun
  | [d1, d2, d3, d4] => { results := [.lit (.bool false)], args := [d1, d2, d3, d4] }
  | _ => none }
def FieldSumsWrongFalsely : Prop := fieldSumsRow.holds Try.pinned (OpenSpec.ofChange fieldSumsWrong)

/-- 'sigillaw02.FieldMemory': WHATEVER THE INPUT: true; the input reads as it did. -/
def fieldMemorySpec : ChangeSpec := { name := "fieldMemory", fn := fun _ => fun
  | [d1, d2, d3] => { results := [.lit (.bool true)], args := [d1, d2, d3] }
  | _ => none }
def fieldMemoryRow : OpenClaim := { program := "ytmgheellmllfpaa", sum := "213c5bf1e12ded12289523dbbda5adfce561db7a59d37c041d958e630ab312ca", func := "sigil/sigillaw02.FieldMemory", spec := "fieldMemory", inPlace := ["math/bits.Sub64", "math/bits.Add64"], named := ["math/bits.divideError", "math/bits.overflowError"], apart := false }
def FieldMemorySaid : Prop := fieldMemoryRow.holds Try.pinned (OpenSpec.ofChange fieldMemorySpec)

/-- ITS FALSE NEIGHBOUR: 'it returns false'. Refute it at one input. -/
def fieldMemoryWrong : ChangeSpec := { name := "fieldMemory", fn := fun _ => fun
  | [d1, d2, d3] => { results := [.lit (.bool false)], args := [d1, d2, d3] }
  | _ => none }
def FieldMemoryWrongFalsely : Prop := fieldMemoryRow.holds Try.pinned (OpenSpec.ofChange fieldMemoryWrong)

/-- 'sigillaw02.FieldSquares': WHATEVER THE INPUT: true; the input reads as it did. -/
def fieldSquaresSpec : ChangeSpec := { name := "fieldSquares", fn := fun _ => fun
  | [d1, d2] => { results := [.lit (.bool true)], args := [d1, d2] }
  | _ => none }
def fieldSquaresRow : OpenClaim := { program := "ytmgheellmllfpaa", sum := "213c5bf1e12ded12289523dbbda5adfce561db7a59d37c041d958e630ab312ca", func := "sigil/sigillaw02.FieldSquares", spec := "fieldSquares", inPlace := ["math/bits.Sub64", "math/bits.Add64"], named := ["math/bits.divideError", "math/bits.overflowError"], apart := false }
def FieldSquaresSaid : Prop := fieldSquaresRow.holds Try.pinned (OpenSpec.ofChange fieldSquaresSpec)

/-- ITS FALSE NEIGHBOUR: 'it returns false'. Refute it at one input. -/
def fieldSquaresWrong : ChangeSpec := { name := "fieldSquares", fn := fun _ => fun
  | [d1, d2] => { results := [.lit (.bool false)], args := [d1, d2] }
  | _ => none }
def FieldSquaresWrongFalsely : Prop := fieldSquaresRow.holds Try.pinned (OpenSpec.ofChange fieldSquaresWrong)

/-- 'sigillaw02.FieldRound': WHATEVER THE INPUT: true; the input reads as it did. -/
def fieldRoundSpec : ChangeSpec := { name := "fieldRound", fn := fun _ => fun
  | [d1, d2, d3, d4] => { results := [.lit (.bool true)], args := [d1, d2, d3, d4] }
  | _ => none }
def fieldRoundRow : OpenClaim := { program := "ytmgheellmllfpaa", sum := "213c5bf1e12ded12289523dbbda5adfce561db7a59d37c041d958e630ab312ca", func := "sigil/sigillaw02.FieldRound", spec := "fieldRound", inPlace := ["math/bits.Sub64", "math/bits.Add64"], named := ["math/bits.divideError", "math/bits.overflowError"], apart := false }
def FieldRoundSaid : Prop := fieldRoundRow.holds Try.pinned (OpenSpec.ofChange fieldRoundSpec)

/-- ITS FALSE NEIGHBOUR: 'it returns false'. Refute it at one input. -/
def fieldRoundWrong : ChangeSpec := { name := "fieldRound", fn := fun _ => fun
  | [d1, d2, d3, d4] => { results := [.lit (.bool false)], args := [d1, d2, d3, d4] }
  | _ => none }
def FieldRoundWrongFalsely : Prop := fieldRoundRow.holds Try.pinned (OpenSpec.ofChange fieldRoundWrong)

/-- 'sigillaw02.FieldRoots': WHATEVER THE INPUT: true; the input reads as it did. -/
def fieldRootsSpec : ChangeSpec := { name := "fieldRoots", fn := fun _ => fun
  | [d1, d2, d3] => { results := [.lit (.bool true)], args := [d1, d2, d3] }
  | _ => none }
def fieldRootsRow : OpenClaim := { program := "ytmgheellmllfpaa", sum := "213c5bf1e12ded12289523dbbda5adfce561db7a59d37c041d958e630ab312ca", func := "sigil/sigillaw02.FieldRoots", spec := "fieldRoots", inPlace := ["math/bits.Sub64", "math/bits.Add64"], named := ["math/bits.divideError", "math/bits.overflowError"], apart := false }
def FieldRootsSaid : Prop := fieldRootsRow.holds Try.pinned (OpenSpec.ofChange fieldRootsSpec)

/-- ITS FALSE NEIGHBOUR: 'it returns false'. Refute it at one input. -/
def fieldRootsWrong : ChangeSpec := { name := "fieldRoots", fn := fun _ => fun
  | [d1, d2, d3] => { results := [.lit (.bool false)], args := [d1, d2, d3] }
  | _ => none }
def FieldRootsWrongFalsely : Prop := fieldRootsRow.holds Try.pinned (OpenSpec.ofChange fieldRootsWrong)

/-- 'sigillaw02.FieldCodecs': WHATEVER THE INPUT: true; the input reads as it did. -/
def fieldCodecsSpec : ChangeSpec := { name := "fieldCodecs", fn := fun _ => fun
  | [d1, d2, d3] => { results := [.lit (.bool true)], args := [d1, d2, d3] }
  | _ => none }
def fieldCodecsRow : OpenClaim := { program := "ytmgheellmllfpaa", sum := "213c5bf1e12ded12289523dbbda5adfce561db7a59d37c041d958e630ab312ca", func := "sigil/sigillaw02.FieldCodecs", spec := "fieldCodecs", inPlace := ["math/bits.Sub64", "math/bits.Add64"], named := ["math/bits.divideError", "math/bits.overflowError"], apart := false }
def FieldCodecsSaid : Prop := fieldCodecsRow.holds Try.pinned (OpenSpec.ofChange fieldCodecsSpec)

/-- ITS FALSE NEIGHBOUR: 'it returns false'. Refute it at one input. -/
def fieldCodecsWrong : ChangeSpec := { name := "fieldCodecs", fn := fun _ => fun
  | [d1, d2, d3] => { results := [.lit (.bool false)], args := [d1, d2, d3] }
  | _ => none }
def FieldCodecsWrongFalsely : Prop := fieldCodecsRow.holds Try.pinned (OpenSpec.ofChange fieldCodecsWrong)

/- THE SECOND FORM. 'bulk': how many values and letters a reading holds, each counted each time it is reached (what is shared counts as often as it is met; a slice's spare places count too). A statement '..UptoSaid' is the law's where the arguments, and the package variables that the reading takes, are together of bulk at most 1048576: NARROWER than '..Said'. Prove '..Said' where nothing that the law and all that it calls make is longer than what came in: it says more and counts as full. Else prove '..UptoSaid'. A law counts once. -/
mutual
def uptoBulk {H : Type} : DataW H → Nat
  | .lit (.string bytes) => bytes.length + 1
  | .lit _ => 1
  | .nil => 1
  | .ptr d => uptoBulk d + 1
  | .slice elems spare => uptoBulkAll elems + uptoBulkAll spare + 1
  | .agg parts => uptoBulkAll parts + 1
  | .iface _ d => uptoBulk d + 1
  | .map entries => uptoBulkEntries entries + 1
  | .held _ => 1
def uptoBulkAll {H : Type} : List (DataW H) → Nat
  | [] => 0
  | d :: r => uptoBulk d + uptoBulkAll r
def uptoBulkEntries {H : Type} : List (Lit × DataW H) → Nat
  | [] => 0
  | x :: r => uptoBulkEntry x + uptoBulkEntries r
def uptoBulkEntry {H : Type} : Lit × DataW H → Nat
  | (.string bytes, d) => bytes.length + uptoBulk d + 1
  | (_, d) => uptoBulk d + 1
 end
def uptoSmall : (H : Type) → List (DataW H) → Bool := fun _ ds => decide (uptoBulkAll ds ≤ 1048576)
def OpenSpec.upto (s : _root_.Go.ChangeSpec) : _root_.Go.OpenSpec := { _root_.Go.OpenSpec.ofChange s with cond := some uptoSmall }

/-- 'sigillaw02.FieldProducts', WHERE WHAT IT READS IS OF BULK AT MOST 1048576: true; the input reads as it did. -/
def fieldProductsUptoRow : OpenClaim := { program := "ytmgheellmllfpaa", sum := "213c5bf1e12ded12289523dbbda5adfce561db7a59d37c041d958e630ab312ca", func := "sigil/sigillaw02.FieldProducts", spec := "fieldProducts", inPlace := ["math/bits.Sub64", "math/bits.Add64"], named := ["math/bits.divideError", "math/bits.overflowError"], apart := false, narrowed := true }
def FieldProductsUptoSaid : Prop := fieldProductsUptoRow.holds Try.pinned (OpenSpec.upto fieldProductsSpec)

/-- 'sigillaw02.FieldLaws', WHERE WHAT IT READS IS OF BULK AT MOST 1048576: true; the input reads as it did. -/
def fieldLawsUptoRow : OpenClaim := { program := "ytmgheellmllfpaa", sum := "213c5bf1e12ded12289523dbbda5adfce561db7a59d37c041d958e630ab312ca", func := "sigil/sigillaw02.FieldLaws", spec := "fieldLaws", inPlace := ["math/bits.Sub64", "math/bits.Add64"], named := ["math/bits.divideError", "math/bits.overflowError"], apart := false, narrowed := true }
def FieldLawsUptoSaid : Prop := fieldLawsUptoRow.holds Try.pinned (OpenSpec.upto fieldLawsSpec)

/-- 'sigillaw02.FieldInverses', WHERE WHAT IT READS IS OF BULK AT MOST 1048576: true; the input reads as it did. -/
def fieldInversesUptoRow : OpenClaim := { program := "ytmgheellmllfpaa", sum := "213c5bf1e12ded12289523dbbda5adfce561db7a59d37c041d958e630ab312ca", func := "sigil/sigillaw02.FieldInverses", spec := "fieldInverses", inPlace := ["math/bits.Sub64", "math/bits.Add64"], named := ["math/bits.divideError", "math/bits.overflowError"], apart := false, narrowed := true }
def FieldInversesUptoSaid : Prop := fieldInversesUptoRow.holds Try.pinned (OpenSpec.upto fieldInversesSpec)

/-- 'sigillaw02.FieldSums', WHERE WHAT IT READS IS OF BULK AT MOST 1048576: true; the input reads as it did. -/
def fieldSumsUptoRow : OpenClaim := { program := "ytmgheellmllfpaa", sum := "213c5bf1e12ded12289523dbbda5adfce561db7a59d37c041d958e630ab312ca", func := "sigil/sigillaw02.FieldSums", spec := "fieldSums", inPlace := ["math/bits.Sub64", "math/bits.Add64"], named := ["math/bits.divideError", "math/bits.overflowError"], apart := false, narrowed := true }
def FieldSumsUptoSaid : Prop := fieldSumsUptoRow.holds Try.pinned (OpenSpec.upto fieldSumsSpec)

/-- 'sigillaw02.FieldMemory', WHERE WHAT IT READS IS OF BULK AT MOST 1048576: true; the input reads as it did. -/
def fieldMemoryUptoRow : OpenClaim := { program := "ytmgheellmllfpaa", sum := "213c5bf1e12ded12289523dbbda5adfce561db7a59d37c041d958e630ab312ca", func := "sigil/sigillaw02.FieldMemory", spec := "fieldMemory", inPlace := ["math/bits.Sub64", "math/bits.Add64"], named := ["math/bits.divideError", "math/bits.overflowError"], apart := false, narrowed := true }
def FieldMemoryUptoSaid : Prop := fieldMemoryUptoRow.holds Try.pinned (OpenSpec.upto fieldMemorySpec)

/-- 'sigillaw02.FieldSquares', WHERE WHAT IT READS IS OF BULK AT MOST 1048576: true; the input reads as it did. -/
def fieldSquaresUptoRow : OpenClaim := { program := "ytmgheellmllfpaa", sum := "213c5bf1e12ded12289523dbbda5adfce561db7a59d37c041d958e630ab312ca", func := "sigil/sigillaw02.FieldSquares", spec := "fieldSquares", inPlace := ["math/bits.Sub64", "math/bits.Add64"], named := ["math/bits.divideError", "math/bits.overflowError"], apart := false, narrowed := true }
def FieldSquaresUptoSaid : Prop := fieldSquaresUptoRow.holds Try.pinned (OpenSpec.upto fieldSquaresSpec)

/-- 'sigillaw02.FieldRound', WHERE WHAT IT READS IS OF BULK AT MOST 1048576: true; the input reads as it did. -/
def fieldRoundUptoRow : OpenClaim := { program := "ytmgheellmllfpaa", sum := "213c5bf1e12ded12289523dbbda5adfce561db7a59d37c041d958e630ab312ca", func := "sigil/sigillaw02.FieldRound", spec := "fieldRound", inPlace := ["math/bits.Sub64", "math/bits.Add64"], named := ["math/bits.divideError", "math/bits.overflowError"], apart := false, narrowed := true }
def FieldRoundUptoSaid : Prop := fieldRoundUptoRow.holds Try.pinned (OpenSpec.upto fieldRoundSpec)

/-- 'sigillaw02.FieldRoots', WHERE WHAT IT READS IS OF BULK AT MOST 1048576: true; the input reads as it did. -/
def fieldRootsUptoRow : OpenClaim := { program := "ytmgheellmllfpaa", sum := "213c5bf1e12ded12289523dbbda5adfce561db7a59d37c041d958e630ab312ca", func := "sigil/sigillaw02.FieldRoots", spec := "fieldRoots", inPlace := ["math/bits.Sub64", "math/bits.Add64"], named := ["math/bits.divideError", "math/bits.overflowError"], apart := false, narrowed := true }
def FieldRootsUptoSaid : Prop := fieldRootsUptoRow.holds Try.pinned (OpenSpec.upto fieldRootsSpec)

/-- 'sigillaw02.FieldCodecs', WHERE WHAT IT READS IS OF BULK AT MOST 1048576: true; the input reads as it did. -/
def fieldCodecsUptoRow : OpenClaim := { program := "ytmgheellmllfpaa", sum := "213c5bf1e12ded12289523dbbda5adfce561db7a59d37c041d958e630ab312ca", func := "sigil/sigillaw02.FieldCodecs", spec := "fieldCodecs", inPlace := ["math/bits.Sub64", "math/bits.Add64"], named := ["math/bits.divideError", "math/bits.overflowError"], apart := false, narrowed := true }
def FieldCodecsUptoSaid : Prop := fieldCodecsUptoRow.holds Try.pinned (OpenSpec.upto fieldCodecsSpec)

end Rows
end Go.Proofs.Ytmgheellmllfpaa
