/-
  No cell of these rows narrows 'for every input' (looked for: loops, veiled, ifaces, maps, wideKeys, modest, calm, conditions, laid).
  DERIVED. THE GIVEN ROWS OF THIS SEAT. 16 by the template 'for every input the law returns true; each argument reads behind the call as it read before'; 0 by the template 'total and deterministic' (their statements: YtgeliidjmefkgaaTotals.lean).
  GIVEN WITH THE SEED: the statements are not yours to turn. If you find one false, say at which input.
  Laid BY PROGRAM, IN A SANDBOX (cutbox-rows.mjs): the forced cells as the released guide's own fill.sh prints them over the translation 98adc7127410a483… (all of the seat's roots in one cut). By AI agents, Wed Nov 11 2026. No macro, syntax, notation, axiom, sorry.
-/
import Derived.Test.YtgeliidjmefkgaaChecked
import GoSem.Claim
import GoSem.ClaimJoined
import GoSem.ClaimMapViews
import Derived.JoinedTies
import Derived.KernelRfl
namespace Go.Proofs.Ytgeliidjmefkgaa
/- THE CELL 'sum', in the pinned program and in every row, IS THE sha256 OF THE DUMP (.gsa) THAT YtgeliidjmefkgaaProg.lean LOADS. Nothing in Lean hashes anything: it is a label: what it is worth is what the hold of that sum in a sandbox is worth. -/
noncomputable def Try.pinned : Pinned := { name := "ytgeliidjmefkgaa", sum := "98adc7127410a4833926d6f9a0d02520da500c2d85ec5ad3e57a2efd2d24f323", checked := Try.checked }
namespace Rows
def none {H : Type} : Left H := { results := [], args := [] }

/-- 'sigillaw07.PolySums': WHATEVER THE INPUT: true; the input reads as it did. -/
def polySumsSpec : ChangeSpec := { name := "polySums", fn := fun _ => fun
  | [d1, d2, d3, d4] => { results := [.lit (.bool true)], args := [d1, d2, d3, d4] }
  | _ => none }
def polySumsRow : OpenClaim := { program := "ytgeliidjmefkgaa", sum := "98adc7127410a4833926d6f9a0d02520da500c2d85ec5ad3e57a2efd2d24f323", func := "sigil/sigillaw07.PolySums", spec := "polySums", inPlace := ["math/bits.Sub64", "math/bits.Add64"], unfollowed := true, recurses := true, named := ["math/bits.divideError", "math/bits.overflowError"], apart := false }
def PolySumsSaid : Prop := polySumsRow.holds Try.pinned (OpenSpec.ofChange polySumsSpec)

/-- ITS FALSE NEIGHBOUR: 'it returns false'. Refute it at one input. -/
def polySumsWrong : ChangeSpec := { name := "polySums", fn := fun _ => fun
  | [d1, d2, d3, d4] => { results := [.lit (.bool false)], args := [d1, d2, d3, d4] }
  | _ => none }
def PolySumsWrongFalsely : Prop := polySumsRow.holds Try.pinned (OpenSpec.ofChange polySumsWrong)

/-- 'sigillaw07.PolyProducts': WHATEVER THE INPUT: true; the input reads as it did. -/
def polyProductsSpec : ChangeSpec := { name := "polyProducts", fn := fun _ => fun
  | [d1, d2, d3] => { results := [.lit (.bool true)], args := [d1, d2, d3] }
  | _ => none }
def polyProductsRow : OpenClaim := { program := "ytgeliidjmefkgaa", sum := "98adc7127410a4833926d6f9a0d02520da500c2d85ec5ad3e57a2efd2d24f323", func := "sigil/sigillaw07.PolyProducts", spec := "polyProducts", inPlace := ["math/bits.Sub64", "math/bits.Add64"], unfollowed := true, recurses := true, named := ["math/bits.divideError", "math/bits.overflowError"], apart := false }
def PolyProductsSaid : Prop := polyProductsRow.holds Try.pinned (OpenSpec.ofChange polyProductsSpec)

/-- ITS FALSE NEIGHBOUR: 'it returns false'. Refute it at one input. -/
def polyProductsWrong : ChangeSpec := { name := "polyProducts", fn := fun _ => fun
  | [d1, d2, d3] => { results := [.lit (.bool false)], args := [d1, d2, d3] }
  | _ => none }
def PolyProductsWrongFalsely : Prop := polyProductsRow.holds Try.pinned (OpenSpec.ofChange polyProductsWrong)

/-- 'sigillaw07.PolyLimits': WHATEVER THE INPUT: true; the input reads as it did. -/
def polyLimitsSpec : ChangeSpec := { name := "polyLimits", fn := fun _ => fun
  | [d1, d2, d3] => { results := [.lit (.bool true)], args := [d1, d2, d3] }
  | _ => none }
def polyLimitsRow : OpenClaim := { program := "ytgeliidjmefkgaa", sum := "98adc7127410a4833926d6f9a0d02520da500c2d85ec5ad3e57a2efd2d24f323", func := "sigil/sigillaw07.PolyLimits", spec := "polyLimits", inPlace := ["math/bits.Sub64", "math/bits.Add64"], unfollowed := true, recurses := true, named := ["math/bits.divideError", "math/bits.overflowError"], apart := false }
def PolyLimitsSaid : Prop := polyLimitsRow.holds Try.pinned (OpenSpec.ofChange polyLimitsSpec)

/-- ITS FALSE NEIGHBOUR: 'it returns false'. Refute it at one input. -/
def polyLimitsWrong : ChangeSpec := { name := "polyLimits", fn := fun _ => fun
  | [d1, d2, d3] => { results := [.lit (.bool false)], args := [d1, d2, d3] }
  | _ => none }
def PolyLimitsWrongFalsely : Prop := polyLimitsRow.holds Try.pinned (OpenSpec.ofChange polyLimitsWrong)

/-- 'sigillaw07.PolyLaws': WHATEVER THE INPUT: true; the input reads as it did. -/
def polyLawsSpec : ChangeSpec := { name := "polyLaws", fn := fun _ => fun
  | [d1, d2, d3, d4, d5] => { results := [.lit (.bool true)], args := [d1, d2, d3, d4, d5] }
  | _ => none }
def polyLawsRow : OpenClaim := { program := "ytgeliidjmefkgaa", sum := "98adc7127410a4833926d6f9a0d02520da500c2d85ec5ad3e57a2efd2d24f323", func := "sigil/sigillaw07.PolyLaws", spec := "polyLaws", inPlace := ["math/bits.Sub64", "math/bits.Add64"], unfollowed := true, recurses := true, named := ["math/bits.divideError", "math/bits.overflowError"], apart := false }
def PolyLawsSaid : Prop := polyLawsRow.holds Try.pinned (OpenSpec.ofChange polyLawsSpec)

/-- ITS FALSE NEIGHBOUR: 'it returns false'. Refute it at one input. -/
def polyLawsWrong : ChangeSpec := { name := "polyLaws", fn := fun _ => fun
  | [d1, d2, d3, d4, d5] => { results := [.lit (.bool false)], args := [d1, d2, d3, d4, d5] }
  | _ => none }
def PolyLawsWrongFalsely : Prop := polyLawsRow.holds Try.pinned (OpenSpec.ofChange polyLawsWrong)

/-- 'sigillaw07.PolyMeets': WHATEVER THE INPUT: true; the input reads as it did. -/
def polyMeetsSpec : ChangeSpec := { name := "polyMeets", fn := fun _ => fun
  | [d1, d2, d3] => { results := [.lit (.bool true)], args := [d1, d2, d3] }
  | _ => none }
def polyMeetsRow : OpenClaim := { program := "ytgeliidjmefkgaa", sum := "98adc7127410a4833926d6f9a0d02520da500c2d85ec5ad3e57a2efd2d24f323", func := "sigil/sigillaw07.PolyMeets", spec := "polyMeets", inPlace := ["math/bits.Sub64", "math/bits.Add64"], unfollowed := true, recurses := true, named := ["math/bits.divideError", "math/bits.overflowError"], apart := false }
def PolyMeetsSaid : Prop := polyMeetsRow.holds Try.pinned (OpenSpec.ofChange polyMeetsSpec)

/-- ITS FALSE NEIGHBOUR: 'it returns false'. Refute it at one input. -/
def polyMeetsWrong : ChangeSpec := { name := "polyMeets", fn := fun _ => fun
  | [d1, d2, d3] => { results := [.lit (.bool false)], args := [d1, d2, d3] }
  | _ => none }
def PolyMeetsWrongFalsely : Prop := polyMeetsRow.holds Try.pinned (OpenSpec.ofChange polyMeetsWrong)

/-- 'sigillaw07.PolyRests': WHATEVER THE INPUT: true; the input reads as it did. -/
def polyRestsSpec : ChangeSpec := { name := "polyRests", fn := fun _ => fun
  | [d1, d2, d3, d4] => { results := [.lit (.bool true)], args := [d1, d2, d3, d4] }
  | _ => none }
def polyRestsRow : OpenClaim := { program := "ytgeliidjmefkgaa", sum := "98adc7127410a4833926d6f9a0d02520da500c2d85ec5ad3e57a2efd2d24f323", func := "sigil/sigillaw07.PolyRests", spec := "polyRests", inPlace := ["math/bits.Sub64", "math/bits.Add64"], unfollowed := true, recurses := true, named := ["math/bits.divideError", "math/bits.overflowError"], apart := false }
def PolyRestsSaid : Prop := polyRestsRow.holds Try.pinned (OpenSpec.ofChange polyRestsSpec)

/-- ITS FALSE NEIGHBOUR: 'it returns false'. Refute it at one input. -/
def polyRestsWrong : ChangeSpec := { name := "polyRests", fn := fun _ => fun
  | [d1, d2, d3, d4] => { results := [.lit (.bool false)], args := [d1, d2, d3, d4] }
  | _ => none }
def PolyRestsWrongFalsely : Prop := polyRestsRow.holds Try.pinned (OpenSpec.ofChange polyRestsWrong)

/-- 'sigillaw07.PolyPoints': WHATEVER THE INPUT: true; the input reads as it did. -/
def polyPointsSpec : ChangeSpec := { name := "polyPoints", fn := fun _ => fun
  | [d1, d2, d3] => { results := [.lit (.bool true)], args := [d1, d2, d3] }
  | _ => none }
def polyPointsRow : OpenClaim := { program := "ytgeliidjmefkgaa", sum := "98adc7127410a4833926d6f9a0d02520da500c2d85ec5ad3e57a2efd2d24f323", func := "sigil/sigillaw07.PolyPoints", spec := "polyPoints", inPlace := ["math/bits.Sub64", "math/bits.Add64"], unfollowed := true, recurses := true, named := ["math/bits.divideError", "math/bits.overflowError"], apart := false }
def PolyPointsSaid : Prop := polyPointsRow.holds Try.pinned (OpenSpec.ofChange polyPointsSpec)

/-- ITS FALSE NEIGHBOUR: 'it returns false'. Refute it at one input. -/
def polyPointsWrong : ChangeSpec := { name := "polyPoints", fn := fun _ => fun
  | [d1, d2, d3] => { results := [.lit (.bool false)], args := [d1, d2, d3] }
  | _ => none }
def PolyPointsWrongFalsely : Prop := polyPointsRow.holds Try.pinned (OpenSpec.ofChange polyPointsWrong)

/-- 'sigillaw06.DomainPoints': WHATEVER THE INPUT: true; the input reads as it did. -/
def domainPointsSpec : ChangeSpec := { name := "domainPoints", fn := fun _ => fun
  | [d1, d2, d3, d4] => { results := [.lit (.bool true)], args := [d1, d2, d3, d4] }
  | _ => none }
def domainPointsRow : OpenClaim := { program := "ytgeliidjmefkgaa", sum := "98adc7127410a4833926d6f9a0d02520da500c2d85ec5ad3e57a2efd2d24f323", func := "sigil/sigillaw06.DomainPoints", spec := "domainPoints", inPlace := ["math/bits.Sub64", "math/bits.Add64"], named := ["math/bits.divideError", "math/bits.overflowError"], apart := false }
def DomainPointsSaid : Prop := domainPointsRow.holds Try.pinned (OpenSpec.ofChange domainPointsSpec)

/-- ITS FALSE NEIGHBOUR: 'it returns false'. Refute it at one input. -/
def domainPointsWrong : ChangeSpec := { name := "domainPoints", fn := fun _ => fun
  | [d1, d2, d3, d4] => { results := [.lit (.bool false)], args := [d1, d2, d3, d4] }
  | _ => none }
def DomainPointsWrongFalsely : Prop := domainPointsRow.holds Try.pinned (OpenSpec.ofChange domainPointsWrong)

/-- 'sigillaw06.DomainSums': WHATEVER THE INPUT: true; the input reads as it did. -/
def domainSumsSpec : ChangeSpec := { name := "domainSums", fn := fun _ => fun
  | [d1, d2, d3, d4, d5] => { results := [.lit (.bool true)], args := [d1, d2, d3, d4, d5] }
  | _ => none }
def domainSumsRow : OpenClaim := { program := "ytgeliidjmefkgaa", sum := "98adc7127410a4833926d6f9a0d02520da500c2d85ec5ad3e57a2efd2d24f323", func := "sigil/sigillaw06.DomainSums", spec := "domainSums", inPlace := ["math/bits.Sub64", "math/bits.Add64"], named := ["math/bits.divideError", "math/bits.overflowError"], apart := false }
def DomainSumsSaid : Prop := domainSumsRow.holds Try.pinned (OpenSpec.ofChange domainSumsSpec)

/-- ITS FALSE NEIGHBOUR: 'it returns false'. Refute it at one input. -/
def domainSumsWrong : ChangeSpec := { name := "domainSums", fn := fun _ => fun
  | [d1, d2, d3, d4, d5] => { results := [.lit (.bool false)], args := [d1, d2, d3, d4, d5] }
  | _ => none }
def DomainSumsWrongFalsely : Prop := domainSumsRow.holds Try.pinned (OpenSpec.ofChange domainSumsWrong)

/-- 'sigillaw06.DomainZeros': WHATEVER THE INPUT: true; the input reads as it did. -/
def domainZerosSpec : ChangeSpec := { name := "domainZeros", fn := fun _ => fun
  | [d1, d2, d3, d4, d5] => { results := [.lit (.bool true)], args := [d1, d2, d3, d4, d5] }
  | _ => none }
def domainZerosRow : OpenClaim := { program := "ytgeliidjmefkgaa", sum := "98adc7127410a4833926d6f9a0d02520da500c2d85ec5ad3e57a2efd2d24f323", func := "sigil/sigillaw06.DomainZeros", spec := "domainZeros", inPlace := ["math/bits.Sub64", "math/bits.Add64"], named := ["math/bits.divideError", "math/bits.overflowError"], apart := false }
def DomainZerosSaid : Prop := domainZerosRow.holds Try.pinned (OpenSpec.ofChange domainZerosSpec)

/-- ITS FALSE NEIGHBOUR: 'it returns false'. Refute it at one input. -/
def domainZerosWrong : ChangeSpec := { name := "domainZeros", fn := fun _ => fun
  | [d1, d2, d3, d4, d5] => { results := [.lit (.bool false)], args := [d1, d2, d3, d4, d5] }
  | _ => none }
def DomainZerosWrongFalsely : Prop := domainZerosRow.holds Try.pinned (OpenSpec.ofChange domainZerosWrong)

/-- 'sigillaw06.DomainValues': WHATEVER THE INPUT: true; the input reads as it did. -/
def domainValuesSpec : ChangeSpec := { name := "domainValues", fn := fun _ => fun
  | [d1, d2, d3, d4] => { results := [.lit (.bool true)], args := [d1, d2, d3, d4] }
  | _ => none }
def domainValuesRow : OpenClaim := { program := "ytgeliidjmefkgaa", sum := "98adc7127410a4833926d6f9a0d02520da500c2d85ec5ad3e57a2efd2d24f323", func := "sigil/sigillaw06.DomainValues", spec := "domainValues", inPlace := ["math/bits.Sub64", "math/bits.Add64"], named := ["math/bits.divideError", "math/bits.overflowError"], apart := false }
def DomainValuesSaid : Prop := domainValuesRow.holds Try.pinned (OpenSpec.ofChange domainValuesSpec)

/-- ITS FALSE NEIGHBOUR: 'it returns false'. Refute it at one input. -/
def domainValuesWrong : ChangeSpec := { name := "domainValues", fn := fun _ => fun
  | [d1, d2, d3, d4] => { results := [.lit (.bool false)], args := [d1, d2, d3, d4] }
  | _ => none }
def DomainValuesWrongFalsely : Prop := domainValuesRow.holds Try.pinned (OpenSpec.ofChange domainValuesWrong)

/-- 'sigillaw06.DomainRound': WHATEVER THE INPUT: true; the input reads as it did. -/
def domainRoundSpec : ChangeSpec := { name := "domainRound", fn := fun _ => fun
  | [d1, d2, d3, d4] => { results := [.lit (.bool true)], args := [d1, d2, d3, d4] }
  | _ => none }
def domainRoundRow : OpenClaim := { program := "ytgeliidjmefkgaa", sum := "98adc7127410a4833926d6f9a0d02520da500c2d85ec5ad3e57a2efd2d24f323", func := "sigil/sigillaw06.DomainRound", spec := "domainRound", inPlace := ["math/bits.Sub64", "math/bits.Add64"], named := ["math/bits.divideError", "math/bits.overflowError"], apart := false }
def DomainRoundSaid : Prop := domainRoundRow.holds Try.pinned (OpenSpec.ofChange domainRoundSpec)

/-- ITS FALSE NEIGHBOUR: 'it returns false'. Refute it at one input. -/
def domainRoundWrong : ChangeSpec := { name := "domainRound", fn := fun _ => fun
  | [d1, d2, d3, d4] => { results := [.lit (.bool false)], args := [d1, d2, d3, d4] }
  | _ => none }
def DomainRoundWrongFalsely : Prop := domainRoundRow.holds Try.pinned (OpenSpec.ofChange domainRoundWrong)

/-- 'sigillaw06.DomainMemory': WHATEVER THE INPUT: true; the input reads as it did. -/
def domainMemorySpec : ChangeSpec := { name := "domainMemory", fn := fun _ => fun
  | [d1, d2, d3] => { results := [.lit (.bool true)], args := [d1, d2, d3] }
  | _ => none }
def domainMemoryRow : OpenClaim := { program := "ytgeliidjmefkgaa", sum := "98adc7127410a4833926d6f9a0d02520da500c2d85ec5ad3e57a2efd2d24f323", func := "sigil/sigillaw06.DomainMemory", spec := "domainMemory", inPlace := ["math/bits.Sub64", "math/bits.Add64"], named := ["math/bits.divideError", "math/bits.overflowError"], apart := false }
def DomainMemorySaid : Prop := domainMemoryRow.holds Try.pinned (OpenSpec.ofChange domainMemorySpec)

/-- ITS FALSE NEIGHBOUR: 'it returns false'. Refute it at one input. -/
def domainMemoryWrong : ChangeSpec := { name := "domainMemory", fn := fun _ => fun
  | [d1, d2, d3] => { results := [.lit (.bool false)], args := [d1, d2, d3] }
  | _ => none }
def DomainMemoryWrongFalsely : Prop := domainMemoryRow.holds Try.pinned (OpenSpec.ofChange domainMemoryWrong)

/-- 'sigillaw16.PermutePlaces': WHATEVER THE INPUT: true; the input reads as it did. -/
def permutePlacesSpec : ChangeSpec := { name := "permutePlaces", fn := fun _ => fun
  | [d1, d2, d3] => { results := [.lit (.bool true)], args := [d1, d2, d3] }
  | _ => none }
def permutePlacesRow : OpenClaim := { program := "ytgeliidjmefkgaa", sum := "98adc7127410a4833926d6f9a0d02520da500c2d85ec5ad3e57a2efd2d24f323", func := "sigil/sigillaw16.PermutePlaces", spec := "permutePlaces", inPlace := ["math/bits.Sub64", "math/bits.Add64"], named := ["math/bits.divideError", "math/bits.overflowError"], apart := false }
def PermutePlacesSaid : Prop := permutePlacesRow.holds Try.pinned (OpenSpec.ofChange permutePlacesSpec)

/-- ITS FALSE NEIGHBOUR: 'it returns false'. Refute it at one input. -/
def permutePlacesWrong : ChangeSpec := { name := "permutePlaces", fn := fun _ => fun
  | [d1, d2, d3] => { results := [.lit (.bool false)], args := [d1, d2, d3] }
  | _ => none }
def PermutePlacesWrongFalsely : Prop := permutePlacesRow.holds Try.pinned (OpenSpec.ofChange permutePlacesWrong)

/-- 'sigillaw16.PermuteChecks': WHATEVER THE INPUT: true; the input reads as it did. -/
def permuteChecksSpec : ChangeSpec := { name := "permuteChecks", fn := fun _ => fun
  | [d1, d2, d3, d4, d5, d6, d7] => { results := [.lit (.bool true)], args := [d1, d2, d3, d4, d5, d6, d7] }
  | _ => none }
def permuteChecksRow : OpenClaim := { program := "ytgeliidjmefkgaa", sum := "98adc7127410a4833926d6f9a0d02520da500c2d85ec5ad3e57a2efd2d24f323", func := "sigil/sigillaw16.PermuteChecks", spec := "permuteChecks", inPlace := ["math/bits.Sub64", "math/bits.Add64"], unfollowed := true, recurses := true, named := ["math/bits.divideError", "math/bits.overflowError"], apart := false }
def PermuteChecksSaid : Prop := permuteChecksRow.holds Try.pinned (OpenSpec.ofChange permuteChecksSpec)

/-- ITS FALSE NEIGHBOUR: 'it returns false'. Refute it at one input. -/
def permuteChecksWrong : ChangeSpec := { name := "permuteChecks", fn := fun _ => fun
  | [d1, d2, d3, d4, d5, d6, d7] => { results := [.lit (.bool false)], args := [d1, d2, d3, d4, d5, d6, d7] }
  | _ => none }
def PermuteChecksWrongFalsely : Prop := permuteChecksRow.holds Try.pinned (OpenSpec.ofChange permuteChecksWrong)

/-- 'sigillaw16.PermuteTells': WHATEVER THE INPUT: true; the input reads as it did. -/
def permuteTellsSpec : ChangeSpec := { name := "permuteTells", fn := fun _ => fun
  | [d1, d2, d3, d4, d5, d6, d7] => { results := [.lit (.bool true)], args := [d1, d2, d3, d4, d5, d6, d7] }
  | _ => none }
def permuteTellsRow : OpenClaim := { program := "ytgeliidjmefkgaa", sum := "98adc7127410a4833926d6f9a0d02520da500c2d85ec5ad3e57a2efd2d24f323", func := "sigil/sigillaw16.PermuteTells", spec := "permuteTells", inPlace := ["math/bits.Sub64", "math/bits.Add64"], unfollowed := true, recurses := true, named := ["math/bits.divideError", "math/bits.overflowError"], apart := false }
def PermuteTellsSaid : Prop := permuteTellsRow.holds Try.pinned (OpenSpec.ofChange permuteTellsSpec)

/-- ITS FALSE NEIGHBOUR: 'it returns false'. Refute it at one input. -/
def permuteTellsWrong : ChangeSpec := { name := "permuteTells", fn := fun _ => fun
  | [d1, d2, d3, d4, d5, d6, d7] => { results := [.lit (.bool false)], args := [d1, d2, d3, d4, d5, d6, d7] }
  | _ => none }
def PermuteTellsWrongFalsely : Prop := permuteTellsRow.holds Try.pinned (OpenSpec.ofChange permuteTellsWrong)

/- THE SECOND FORM. 'bulk': how many values and letters a reading holds, each counted each time it is reached (what is shared counts as often as it is met; a slice's spare places count too). A statement '..UptoSaid' is the law's where the arguments, and the package variables that the reading takes, are together of bulk at most 1048576: NARROWER than '..Said'. Prove '..Said' where nothing that the law and all that it calls make is longer than what came in: it says more and counts as full. Else prove '..UptoSaid'. A law counts once. -/
mutual
def uptoBulk {H : Type} : DataW H → Nat
  | .lit (.string bytes) => bytes.length + 1
  | .lit _ => 1
  | .nil => 1
  | .ptr d => uptoBulk d + 1
  | .slice elems spare => uptoBulkAll elems + uptoBulkAll spare + 1
  | .agg parts => uptoBulkAll parts + 1
  | .iface _ d => uptoBulk d + 1
  | .map entries => uptoBulkEntries entries + 1
  | .held _ => 1
def uptoBulkAll {H : Type} : List (DataW H) → Nat
  | [] => 0
  | d :: r => uptoBulk d + uptoBulkAll r
def uptoBulkEntries {H : Type} : List (Lit × DataW H) → Nat
  | [] => 0
  | x :: r => uptoBulkEntry x + uptoBulkEntries r
def uptoBulkEntry {H : Type} : Lit × DataW H → Nat
  | (.string bytes, d) => bytes.length + uptoBulk d + 1
  | (_, d) => uptoBulk d + 1
 end
def uptoSmall : (H : Type) → List (DataW H) → Bool := fun _ ds => decide (uptoBulkAll ds ≤ 1048576)
def OpenSpec.upto (s : _root_.Go.ChangeSpec) : _root_.Go.OpenSpec := { _root_.Go.OpenSpec.ofChange s with cond := some uptoSmall }

/-- 'sigillaw07.PolySums', WHERE WHAT IT READS IS OF BULK AT MOST 1048576: true; the input reads as it did. -/
def polySumsUptoRow : OpenClaim := { program := "ytgeliidjmefkgaa", sum := "98adc7127410a4833926d6f9a0d02520da500c2d85ec5ad3e57a2efd2d24f323", func := "sigil/sigillaw07.PolySums", spec := "polySums", inPlace := ["math/bits.Sub64", "math/bits.Add64"], unfollowed := true, recurses := true, named := ["math/bits.divideError", "math/bits.overflowError"], apart := false, narrowed := true }
def PolySumsUptoSaid : Prop := polySumsUptoRow.holds Try.pinned (OpenSpec.upto polySumsSpec)

/-- 'sigillaw07.PolyProducts', WHERE WHAT IT READS IS OF BULK AT MOST 1048576: true; the input reads as it did. -/
def polyProductsUptoRow : OpenClaim := { program := "ytgeliidjmefkgaa", sum := "98adc7127410a4833926d6f9a0d02520da500c2d85ec5ad3e57a2efd2d24f323", func := "sigil/sigillaw07.PolyProducts", spec := "polyProducts", inPlace := ["math/bits.Sub64", "math/bits.Add64"], unfollowed := true, recurses := true, named := ["math/bits.divideError", "math/bits.overflowError"], apart := false, narrowed := true }
def PolyProductsUptoSaid : Prop := polyProductsUptoRow.holds Try.pinned (OpenSpec.upto polyProductsSpec)

/-- 'sigillaw07.PolyLimits', WHERE WHAT IT READS IS OF BULK AT MOST 1048576: true; the input reads as it did. -/
def polyLimitsUptoRow : OpenClaim := { program := "ytgeliidjmefkgaa", sum := "98adc7127410a4833926d6f9a0d02520da500c2d85ec5ad3e57a2efd2d24f323", func := "sigil/sigillaw07.PolyLimits", spec := "polyLimits", inPlace := ["math/bits.Sub64", "math/bits.Add64"], unfollowed := true, recurses := true, named := ["math/bits.divideError", "math/bits.overflowError"], apart := false, narrowed := true }
def PolyLimitsUptoSaid : Prop := polyLimitsUptoRow.holds Try.pinned (OpenSpec.upto polyLimitsSpec)

/-- 'sigillaw07.PolyLaws', WHERE WHAT IT READS IS OF BULK AT MOST 1048576: true; the input reads as it did. -/
def polyLawsUptoRow : OpenClaim := { program := "ytgeliidjmefkgaa", sum := "98adc7127410a4833926d6f9a0d02520da500c2d85ec5ad3e57a2efd2d24f323", func := "sigil/sigillaw07.PolyLaws", spec := "polyLaws", inPlace := ["math/bits.Sub64", "math/bits.Add64"], unfollowed := true, recurses := true, named := ["math/bits.divideError", "math/bits.overflowError"], apart := false, narrowed := true }
def PolyLawsUptoSaid : Prop := polyLawsUptoRow.holds Try.pinned (OpenSpec.upto polyLawsSpec)

/-- 'sigillaw07.PolyMeets', WHERE WHAT IT READS IS OF BULK AT MOST 1048576: true; the input reads as it did. -/
def polyMeetsUptoRow : OpenClaim := { program := "ytgeliidjmefkgaa", sum := "98adc7127410a4833926d6f9a0d02520da500c2d85ec5ad3e57a2efd2d24f323", func := "sigil/sigillaw07.PolyMeets", spec := "polyMeets", inPlace := ["math/bits.Sub64", "math/bits.Add64"], unfollowed := true, recurses := true, named := ["math/bits.divideError", "math/bits.overflowError"], apart := false, narrowed := true }
def PolyMeetsUptoSaid : Prop := polyMeetsUptoRow.holds Try.pinned (OpenSpec.upto polyMeetsSpec)

/-- 'sigillaw07.PolyRests', WHERE WHAT IT READS IS OF BULK AT MOST 1048576: true; the input reads as it did. -/
def polyRestsUptoRow : OpenClaim := { program := "ytgeliidjmefkgaa", sum := "98adc7127410a4833926d6f9a0d02520da500c2d85ec5ad3e57a2efd2d24f323", func := "sigil/sigillaw07.PolyRests", spec := "polyRests", inPlace := ["math/bits.Sub64", "math/bits.Add64"], unfollowed := true, recurses := true, named := ["math/bits.divideError", "math/bits.overflowError"], apart := false, narrowed := true }
def PolyRestsUptoSaid : Prop := polyRestsUptoRow.holds Try.pinned (OpenSpec.upto polyRestsSpec)

/-- 'sigillaw07.PolyPoints', WHERE WHAT IT READS IS OF BULK AT MOST 1048576: true; the input reads as it did. -/
def polyPointsUptoRow : OpenClaim := { program := "ytgeliidjmefkgaa", sum := "98adc7127410a4833926d6f9a0d02520da500c2d85ec5ad3e57a2efd2d24f323", func := "sigil/sigillaw07.PolyPoints", spec := "polyPoints", inPlace := ["math/bits.Sub64", "math/bits.Add64"], unfollowed := true, recurses := true, named := ["math/bits.divideError", "math/bits.overflowError"], apart := false, narrowed := true }
def PolyPointsUptoSaid : Prop := polyPointsUptoRow.holds Try.pinned (OpenSpec.upto polyPointsSpec)

/-- 'sigillaw06.DomainPoints', WHERE WHAT IT READS IS OF BULK AT MOST 1048576: true; the input reads as it did. -/
def domainPointsUptoRow : OpenClaim := { program := "ytgeliidjmefkgaa", sum := "98adc7127410a4833926d6f9a0d02520da500c2d85ec5ad3e57a2efd2d24f323", func := "sigil/sigillaw06.DomainPoints", spec := "domainPoints", inPlace := ["math/bits.Sub64", "math/bits.Add64"], named := ["math/bits.divideError", "math/bits.overflowError"], apart := false, narrowed := true }
def DomainPointsUptoSaid : Prop := domainPointsUptoRow.holds Try.pinned (OpenSpec.upto domainPointsSpec)

/-- 'sigillaw06.DomainSums', WHERE WHAT IT READS IS OF BULK AT MOST 1048576: true; the input reads as it did. -/
def domainSumsUptoRow : OpenClaim := { program := "ytgeliidjmefkgaa", sum := "98adc7127410a4833926d6f9a0d02520da500c2d85ec5ad3e57a2efd2d24f323", func := "sigil/sigillaw06.DomainSums", spec := "domainSums", inPlace := ["math/bits.Sub64", "math/bits.Add64"], named := ["math/bits.divideError", "math/bits.overflowError"], apart := false, narrowed := true }
def DomainSumsUptoSaid : Prop := domainSumsUptoRow.holds Try.pinned (OpenSpec.upto domainSumsSpec)

/-- 'sigillaw06.DomainZeros', WHERE WHAT IT READS IS OF BULK AT MOST 1048576: true; the input reads as it did. -/
def domainZerosUptoRow : OpenClaim := { program := "ytgeliidjmefkgaa", sum := "98adc7127410a4833926d6f9a0d02520da500c2d85ec5ad3e57a2efd2d24f323", func := "sigil/sigillaw06.DomainZeros", spec := "domainZeros", inPlace := ["math/bits.Sub64", "math/bits.Add64"], named := ["math/bits.divideError", "math/bits.overflowError"], apart := false, narrowed := true }
def DomainZerosUptoSaid : Prop := domainZerosUptoRow.holds Try.pinned (OpenSpec.upto domainZerosSpec)

/-- 'sigillaw06.DomainValues', WHERE WHAT IT READS IS OF BULK AT MOST 1048576: true; the input reads as it did. -/
def domainValuesUptoRow : OpenClaim := { program := "ytgeliidjmefkgaa", sum := "98adc7127410a4833926d6f9a0d02520da500c2d85ec5ad3e57a2efd2d24f323", func := "sigil/sigillaw06.DomainValues", spec := "domainValues", inPlace := ["math/bits.Sub64", "math/bits.Add64"], named := ["math/bits.divideError", "math/bits.overflowError"], apart := false, narrowed := true }
def DomainValuesUptoSaid : Prop := domainValuesUptoRow.holds Try.pinned (OpenSpec.upto domainValuesSpec)

/-- 'sigillaw06.DomainRound', WHERE WHAT IT READS IS OF BULK AT MOST 1048576: true; the input reads as it did. -/
def domainRoundUptoRow : OpenClaim := { program := "ytgeliidjmefkgaa", sum := "98adc7127410a4833926d6f9a0d02520da500c2d85ec5ad3e57a2efd2d24f323", func := "sigil/sigillaw06.DomainRound", spec := "domainRound", inPlace := ["math/bits.Sub64", "math/bits.Add64"], named := ["math/bits.divideError", "math/bits.overflowError"], apart := false, narrowed := true }
def DomainRoundUptoSaid : Prop := domainRoundUptoRow.holds Try.pinned (OpenSpec.upto domainRoundSpec)

/-- 'sigillaw06.DomainMemory', WHERE WHAT IT READS IS OF BULK AT MOST 1048576: true; the input reads as it did. -/
def domainMemoryUptoRow : OpenClaim := { program := "ytgeliidjmefkgaa", sum := "98adc7127410a4833926d6f9a0d02520da500c2d85ec5ad3e57a2efd2d24f323", func := "sigil/sigillaw06.DomainMemory", spec := "domainMemory", inPlace := ["math/bits.Sub64", "math/bits.Add64"], named := ["math/bits.divideError", "math/bits.overflowError"], apart := false, narrowed := true }
def DomainMemoryUptoSaid : Prop := domainMemoryUptoRow.holds Try.pinned (OpenSpec.upto domainMemorySpec)

/-- 'sigillaw16.PermutePlaces', WHERE WHAT IT READS IS OF BULK AT MOST 1048576: true; the input reads as it did. -/
def permutePlacesUptoRow : OpenClaim := { program := "ytgeliidjmefkgaa", sum := "98adc7127410a4833926d6f9a0d02520da500c2d85ec5ad3e57a2efd2d24f323", func := "sigil/sigillaw16.PermutePlaces", spec := "permutePlaces", inPlace := ["math/bits.Sub64", "math/bits.Add64"], named := ["math/bits.divideError", "math/bits.overflowError"], apart := false, narrowed := true }
def PermutePlacesUptoSaid : Prop := permutePlacesUptoRow.holds Try.pinned (OpenSpec.upto permutePlacesSpec)

/-- 'sigillaw16.PermuteChecks', WHERE WHAT IT READS IS OF BULK AT MOST 1048576: true; the input reads as it did. -/
def permuteChecksUptoRow : OpenClaim := { program := "ytgeliidjmefkgaa", sum := "98adc7127410a4833926d6f9a0d02520da500c2d85ec5ad3e57a2efd2d24f323", func := "sigil/sigillaw16.PermuteChecks", spec := "permuteChecks", inPlace := ["math/bits.Sub64", "math/bits.Add64"], unfollowed := true, recurses := true, named := ["math/bits.divideError", "math/bits.overflowError"], apart := false, narrowed := true }
def PermuteChecksUptoSaid : Prop := permuteChecksUptoRow.holds Try.pinned (OpenSpec.upto permuteChecksSpec)

/-- 'sigillaw16.PermuteTells', WHERE WHAT IT READS IS OF BULK AT MOST 1048576: true; the input reads as it did. -/
def permuteTellsUptoRow : OpenClaim := { program := "ytgeliidjmefkgaa", sum := "98adc7127410a4833926d6f9a0d02520da500c2d85ec5ad3e57a2efd2d24f323", func := "sigil/sigillaw16.PermuteTells", spec := "permuteTells", inPlace := ["math/bits.Sub64", "math/bits.Add64"], unfollowed := true, recurses := true, named := ["math/bits.divideError", "math/bits.overflowError"], apart := false, narrowed := true }
def PermuteTellsUptoSaid : Prop := permuteTellsUptoRow.holds Try.pinned (OpenSpec.upto permuteTellsSpec)

end Rows
end Go.Proofs.Ytgeliidjmefkgaa
