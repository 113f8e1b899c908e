/-
  The types of the program, as the machine asks of them. Walks: types and numbers; bits.Add64, Sub64; word.Sub, word.Add by limbs. Elements in the machine: as numbers, built, compared. Lists of elements, bytes and numbers in cells; whole numbers that do not wrap. Two elements compared, as the machine goes on by itself. Walks: field.of, by the sort; bits.Mul64; field.half. Walks: bits.Len64, LeadingZeros64, Div64 at the little moduli; numbers.reduce. Walks: numbers.reduce. Walks: add, neg0; accumulate, redc, mul. Walks: accumulate, redc. No conditions.
-/
import Derived.Test.YtgeliidjmefkgaaZMachC
import Derived.Test.YtgeliidjmefkgaaProg
import Derived.ChangeKeysEq
namespace Go.Sx
open Go.Proofs
theorem mixed : Try.prog.follows .mixedOrders = true := by kernel_rfl
-- int64
theorem tsz_2 : tsz Try.prog 2 = some 1 := by kernel_rfl
theorem agg_2 : aggT Try.prog 2 = some false := by kernel_rfl
theorem int_2 : intT Try.prog 2 = some .i64 := by kernel_rfl
theorem und_2 : Try.prog.underlying 2 = some (.int .i64) := by kernel_rfl
theorem zce_2 : zcells Try.prog 2 = some [.int .i64 0] := by kernel_rfl
-- int
theorem tsz_3 : tsz Try.prog 3 = some 1 := by kernel_rfl
theorem agg_3 : aggT Try.prog 3 = some false := by kernel_rfl
theorem int_3 : intT Try.prog 3 = some .i64 := by kernel_rfl
theorem und_3 : Try.prog.underlying 3 = some (.int .i64) := by kernel_rfl
theorem zce_3 : zcells Try.prog 3 = some [.int .i64 0] := by kernel_rfl
-- bool
theorem tsz_4 : tsz Try.prog 4 = some 1 := by kernel_rfl
theorem agg_4 : aggT Try.prog 4 = some false := by kernel_rfl
theorem und_4 : Try.prog.underlying 4 = some .bool := by kernel_rfl
theorem zce_4 : zcells Try.prog 4 = some [.bool false] := by kernel_rfl
-- uint8
theorem tsz_5 : tsz Try.prog 5 = some 1 := by kernel_rfl
theorem agg_5 : aggT Try.prog 5 = some false := by kernel_rfl
theorem int_5 : intT Try.prog 5 = some .u8 := by kernel_rfl
theorem und_5 : Try.prog.underlying 5 = some (.int .u8) := by kernel_rfl
theorem zce_5 : zcells Try.prog 5 = some [.int .u8 0] := by kernel_rfl
-- string
theorem tsz_9 : tsz Try.prog 9 = some 1 := by kernel_rfl
theorem agg_9 : aggT Try.prog 9 = some false := by kernel_rfl
theorem und_9 : Try.prog.underlying 9 = some .string := by kernel_rfl
theorem zce_9 : zcells Try.prog 9 = some [.string ⟨#[]⟩] := by kernel_rfl
-- uintptr
theorem tsz_12 : tsz Try.prog 12 = some 1 := by kernel_rfl
theorem agg_12 : aggT Try.prog 12 = some false := by kernel_rfl
theorem int_12 : intT Try.prog 12 = some .u64 := by kernel_rfl
theorem und_12 : Try.prog.underlying 12 = some (.int .u64) := by kernel_rfl
theorem zce_12 : zcells Try.prog 12 = some [u64 0] := by kernel_rfl
-- struct { msg string; addr uintptr }
theorem tsz_13 : tsz Try.prog 13 = some 2 := by kernel_rfl
theorem agg_13 : aggT Try.prog 13 = some true := by kernel_rfl
theorem zce_13 : zcells Try.prog 13 = some [.string ⟨#[]⟩, u64 0] := by kernel_rfl
theorem fld_13_0 : fldI Try.prog 13 0 = some (0, 1) := by kernel_rfl
theorem fld_13_1 : fldI Try.prog 13 1 = some (1, 1) := by kernel_rfl
theorem bld_13 : bldI Try.prog 13 = some ([.string ⟨#[]⟩, u64 0], [(0, 1), (1, 1)]) := by kernel_rfl
-- int32
theorem tsz_21 : tsz Try.prog 21 = some 1 := by kernel_rfl
theorem agg_21 : aggT Try.prog 21 = some false := by kernel_rfl
theorem int_21 : intT Try.prog 21 = some .i32 := by kernel_rfl
theorem und_21 : Try.prog.underlying 21 = some (.int .i32) := by kernel_rfl
theorem zce_21 : zcells Try.prog 21 = some [.int .i32 0] := by kernel_rfl
-- []api.Elem
theorem tsz_22 : tsz Try.prog 22 = some 1 := by kernel_rfl
theorem agg_22 : aggT Try.prog 22 = some false := by kernel_rfl
theorem sli_22 : slI Try.prog 22 = some 4 := by kernel_rfl
theorem mki_22 : mkI Try.prog 22 = some ⟨25, 4, 32, [u64 0, u64 0, u64 0, u64 0]⟩ := by kernel_rfl
theorem zce_22 : zcells Try.prog 22 = some [.slice none 0 0] := by kernel_rfl
-- uint64
theorem tsz_23 : tsz Try.prog 23 = some 1 := by kernel_rfl
theorem agg_23 : aggT Try.prog 23 = some false := by kernel_rfl
theorem int_23 : intT Try.prog 23 = some .u64 := by kernel_rfl
theorem und_23 : Try.prog.underlying 23 = some (.int .u64) := by kernel_rfl
theorem zce_23 : zcells Try.prog 23 = some [u64 0] := by kernel_rfl
-- [4]uint64
theorem tsz_24 : tsz Try.prog 24 = some 4 := by kernel_rfl
theorem agg_24 : aggT Try.prog 24 = some true := by kernel_rfl
theorem arr_24 : arrI Try.prog 24 = some (4, 1) := by kernel_rfl
theorem zce_24 : zcells Try.prog 24 = some [u64 0, u64 0, u64 0, u64 0] := by kernel_rfl
theorem bld_24 : bldI Try.prog 24 = some ([u64 0, u64 0, u64 0, u64 0], [(0, 1), (1, 1), (2, 1), (3, 1)]) := by kernel_rfl
-- api.Elem
theorem tsz_25 : tsz Try.prog 25 = some 4 := by kernel_rfl
theorem agg_25 : aggT Try.prog 25 = some true := by kernel_rfl
theorem arr_25 : arrI Try.prog 25 = some (4, 1) := by kernel_rfl
theorem zce_25 : zcells Try.prog 25 = some [u64 0, u64 0, u64 0, u64 0] := by kernel_rfl
theorem bld_25 : bldI Try.prog 25 = some ([u64 0, u64 0, u64 0, u64 0], [(0, 1), (1, 1), (2, 1), (3, 1)]) := by kernel_rfl
-- api.Errno
theorem tsz_34 : tsz Try.prog 34 = some 1 := by kernel_rfl
theorem agg_34 : aggT Try.prog 34 = some false := by kernel_rfl
theorem int_34 : intT Try.prog 34 = some .i64 := by kernel_rfl
theorem und_34 : Try.prog.underlying 34 = some (.int .i64) := by kernel_rfl
theorem zce_34 : zcells Try.prog 34 = some [.int .i64 0] := by kernel_rfl
-- uint
theorem tsz_52 : tsz Try.prog 52 = some 1 := by kernel_rfl
theorem agg_52 : aggT Try.prog 52 = some false := by kernel_rfl
theorem int_52 : intT Try.prog 52 = some .u64 := by kernel_rfl
theorem und_52 : Try.prog.underlying 52 = some (.int .u64) := by kernel_rfl
theorem zce_52 : zcells Try.prog 52 = some [u64 0] := by kernel_rfl
-- struct { X api.Elem; First api.Elem; Last api.Elem; Usable api.Elem }
theorem tsz_57 : tsz Try.prog 57 = some 16 := by kernel_rfl
theorem agg_57 : aggT Try.prog 57 = some true := by kernel_rfl
theorem zce_57 : zcells Try.prog 57 = some [u64 0, u64 0, u64 0, u64 0, u64 0, u64 0, u64 0, u64 0, u64 0, u64 0, u64 0, u64 0, u64 0, u64 0, u64 0, u64 0] := by kernel_rfl
theorem fld_57_0 : fldI Try.prog 57 0 = some (0, 4) := by kernel_rfl
theorem fld_57_1 : fldI Try.prog 57 1 = some (4, 4) := by kernel_rfl
theorem fld_57_2 : fldI Try.prog 57 2 = some (8, 4) := by kernel_rfl
theorem fld_57_3 : fldI Try.prog 57 3 = some (12, 4) := by kernel_rfl
theorem bld_57 : bldI Try.prog 57 = some ([u64 0, u64 0, u64 0, u64 0, u64 0, u64 0, u64 0, u64 0, u64 0, u64 0, u64 0, u64 0, u64 0, u64 0, u64 0, u64 0], [(0, 4), (4, 4), (8, 4), (12, 4)]) := by kernel_rfl
-- api.Spot
theorem tsz_58 : tsz Try.prog 58 = some 16 := by kernel_rfl
theorem agg_58 : aggT Try.prog 58 = some true := by kernel_rfl
theorem zce_58 : zcells Try.prog 58 = some [u64 0, u64 0, u64 0, u64 0, u64 0, u64 0, u64 0, u64 0, u64 0, u64 0, u64 0, u64 0, u64 0, u64 0, u64 0, u64 0] := by kernel_rfl
theorem fld_58_0 : fldI Try.prog 58 0 = some (0, 4) := by kernel_rfl
theorem fld_58_1 : fldI Try.prog 58 1 = some (4, 4) := by kernel_rfl
theorem fld_58_2 : fldI Try.prog 58 2 = some (8, 4) := by kernel_rfl
theorem fld_58_3 : fldI Try.prog 58 3 = some (12, 4) := by kernel_rfl
theorem bld_58 : bldI Try.prog 58 = some ([u64 0, u64 0, u64 0, u64 0, u64 0, u64 0, u64 0, u64 0, u64 0, u64 0, u64 0, u64 0, u64 0, u64 0, u64 0, u64 0], [(0, 4), (4, 4), (8, 4), (12, 4)]) := by kernel_rfl
-- []api.Chunk
theorem tsz_62 : tsz Try.prog 62 = some 1 := by kernel_rfl
theorem agg_62 : aggT Try.prog 62 = some false := by kernel_rfl
theorem sli_62 : slI Try.prog 62 = some 12 := by kernel_rfl
theorem mki_62 : mkI Try.prog 62 = some ⟨99, 12, 96, [u64 0, u64 0, u64 0, u64 0, u64 0, u64 0, u64 0, u64 0, u64 0, u64 0, u64 0, u64 0]⟩ := by kernel_rfl
theorem zce_62 : zcells Try.prog 62 = some [.slice none 0 0] := by kernel_rfl
-- [][]api.Elem
theorem tsz_65 : tsz Try.prog 65 = some 1 := by kernel_rfl
theorem agg_65 : aggT Try.prog 65 = some false := by kernel_rfl
theorem sli_65 : slI Try.prog 65 = some 1 := by kernel_rfl
theorem mki_65 : mkI Try.prog 65 = some ⟨22, 1, 24, [.slice none 0 0]⟩ := by kernel_rfl
theorem zce_65 : zcells Try.prog 65 = some [.slice none 0 0] := by kernel_rfl
-- *tape.Coins
theorem tsz_70 : tsz Try.prog 70 = some 1 := by kernel_rfl
theorem agg_70 : aggT Try.prog 70 = some false := by kernel_rfl
theorem zce_70 : zcells Try.prog 70 = some [.pointer none] := by kernel_rfl
-- struct { mod api.Elem; adicity int; small uint64; neg uint64; square api.Elem }
theorem tsz_83 : tsz Try.prog 83 = some 11 := by kernel_rfl
theorem agg_83 : aggT Try.prog 83 = some true := by kernel_rfl
theorem zce_83 : zcells Try.prog 83 = some [u64 0, u64 0, u64 0, u64 0, .int .i64 0, u64 0, u64 0, u64 0, u64 0, u64 0, u64 0] := by kernel_rfl
theorem fld_83_0 : fldI Try.prog 83 0 = some (0, 4) := by kernel_rfl
theorem fld_83_1 : fldI Try.prog 83 1 = some (4, 1) := by kernel_rfl
theorem fld_83_2 : fldI Try.prog 83 2 = some (5, 1) := by kernel_rfl
theorem fld_83_3 : fldI Try.prog 83 3 = some (6, 1) := by kernel_rfl
theorem fld_83_4 : fldI Try.prog 83 4 = some (7, 4) := by kernel_rfl
theorem bld_83 : bldI Try.prog 83 = some ([u64 0, u64 0, u64 0, u64 0, .int .i64 0, u64 0, u64 0, u64 0, u64 0, u64 0, u64 0], [(0, 4), (4, 1), (5, 1), (6, 1), (7, 4)]) := by kernel_rfl
-- field.numbers
theorem tsz_84 : tsz Try.prog 84 = some 11 := by kernel_rfl
theorem agg_84 : aggT Try.prog 84 = some true := by kernel_rfl
theorem zce_84 : zcells Try.prog 84 = some [u64 0, u64 0, u64 0, u64 0, .int .i64 0, u64 0, u64 0, u64 0, u64 0, u64 0, u64 0] := by kernel_rfl
theorem fld_84_0 : fldI Try.prog 84 0 = some (0, 4) := by kernel_rfl
theorem fld_84_1 : fldI Try.prog 84 1 = some (4, 1) := by kernel_rfl
theorem fld_84_2 : fldI Try.prog 84 2 = some (5, 1) := by kernel_rfl
theorem fld_84_3 : fldI Try.prog 84 3 = some (6, 1) := by kernel_rfl
theorem fld_84_4 : fldI Try.prog 84 4 = some (7, 4) := by kernel_rfl
theorem bld_84 : bldI Try.prog 84 = some ([u64 0, u64 0, u64 0, u64 0, .int .i64 0, u64 0, u64 0, u64 0, u64 0, u64 0, u64 0], [(0, 4), (4, 1), (5, 1), (6, 1), (7, 4)]) := by kernel_rfl
-- struct { sort int; beta api.Elem; gamma api.Elem }
theorem tsz_95 : tsz Try.prog 95 = some 9 := by kernel_rfl
theorem agg_95 : aggT Try.prog 95 = some true := by kernel_rfl
theorem zce_95 : zcells Try.prog 95 = some [.int .i64 0, u64 0, u64 0, u64 0, u64 0, u64 0, u64 0, u64 0, u64 0] := by kernel_rfl
theorem fld_95_0 : fldI Try.prog 95 0 = some (0, 1) := by kernel_rfl
theorem fld_95_1 : fldI Try.prog 95 1 = some (1, 4) := by kernel_rfl
theorem fld_95_2 : fldI Try.prog 95 2 = some (5, 4) := by kernel_rfl
theorem bld_95 : bldI Try.prog 95 = some ([.int .i64 0, u64 0, u64 0, u64 0, u64 0, u64 0, u64 0, u64 0, u64 0], [(0, 1), (1, 4), (5, 4)]) := by kernel_rfl
-- permute.terms
theorem tsz_96 : tsz Try.prog 96 = some 9 := by kernel_rfl
theorem agg_96 : aggT Try.prog 96 = some true := by kernel_rfl
theorem zce_96 : zcells Try.prog 96 = some [.int .i64 0, u64 0, u64 0, u64 0, u64 0, u64 0, u64 0, u64 0, u64 0] := by kernel_rfl
theorem fld_96_0 : fldI Try.prog 96 0 = some (0, 1) := by kernel_rfl
theorem fld_96_1 : fldI Try.prog 96 1 = some (1, 4) := by kernel_rfl
theorem fld_96_2 : fldI Try.prog 96 2 = some (5, 4) := by kernel_rfl
theorem bld_96 : bldI Try.prog 96 = some ([.int .i64 0, u64 0, u64 0, u64 0, u64 0, u64 0, u64 0, u64 0, u64 0], [(0, 1), (1, 4), (5, 4)]) := by kernel_rfl
-- struct { At api.Elem; Next api.Elem; Last api.Elem }
theorem tsz_98 : tsz Try.prog 98 = some 12 := by kernel_rfl
theorem agg_98 : aggT Try.prog 98 = some true := by kernel_rfl
theorem zce_98 : zcells Try.prog 98 = some [u64 0, u64 0, u64 0, u64 0, u64 0, u64 0, u64 0, u64 0, u64 0, u64 0, u64 0, u64 0] := by kernel_rfl
theorem fld_98_0 : fldI Try.prog 98 0 = some (0, 4) := by kernel_rfl
theorem fld_98_1 : fldI Try.prog 98 1 = some (4, 4) := by kernel_rfl
theorem fld_98_2 : fldI Try.prog 98 2 = some (8, 4) := by kernel_rfl
theorem bld_98 : bldI Try.prog 98 = some ([u64 0, u64 0, u64 0, u64 0, u64 0, u64 0, u64 0, u64 0, u64 0, u64 0, u64 0, u64 0], [(0, 4), (4, 4), (8, 4)]) := by kernel_rfl
-- api.Chunk
theorem tsz_99 : tsz Try.prog 99 = some 12 := by kernel_rfl
theorem agg_99 : aggT Try.prog 99 = some true := by kernel_rfl
theorem zce_99 : zcells Try.prog 99 = some [u64 0, u64 0, u64 0, u64 0, u64 0, u64 0, u64 0, u64 0, u64 0, u64 0, u64 0, u64 0] := by kernel_rfl
theorem fld_99_0 : fldI Try.prog 99 0 = some (0, 4) := by kernel_rfl
theorem fld_99_1 : fldI Try.prog 99 1 = some (4, 4) := by kernel_rfl
theorem fld_99_2 : fldI Try.prog 99 2 = some (8, 4) := by kernel_rfl
theorem bld_99 : bldI Try.prog 99 = some ([u64 0, u64 0, u64 0, u64 0, u64 0, u64 0, u64 0, u64 0, u64 0, u64 0, u64 0, u64 0], [(0, 4), (4, 4), (8, 4)]) := by kernel_rfl
-- struct { list []api.Elem }
theorem tsz_105 : tsz Try.prog 105 = some 1 := by kernel_rfl
theorem agg_105 : aggT Try.prog 105 = some true := by kernel_rfl
theorem zce_105 : zcells Try.prog 105 = some [.slice none 0 0] := by kernel_rfl
theorem fld_105_0 : fldI Try.prog 105 0 = some (0, 1) := by kernel_rfl
theorem bld_105 : bldI Try.prog 105 = some ([.slice none 0 0], [(0, 1)]) := by kernel_rfl
-- tape.Coins
theorem tsz_106 : tsz Try.prog 106 = some 1 := by kernel_rfl
theorem agg_106 : aggT Try.prog 106 = some true := by kernel_rfl
theorem zce_106 : zcells Try.prog 106 = some [.slice none 0 0] := by kernel_rfl
theorem fld_106_0 : fldI Try.prog 106 0 = some (0, 1) := by kernel_rfl
theorem bld_106 : bldI Try.prog 106 = some ([.slice none 0 0], [(0, 1)]) := by kernel_rfl
-- [6]uint64
theorem tsz_119 : tsz Try.prog 119 = some 6 := by kernel_rfl
theorem agg_119 : aggT Try.prog 119 = some true := by kernel_rfl
theorem arr_119 : arrI Try.prog 119 = some (6, 1) := by kernel_rfl
theorem zce_119 : zcells Try.prog 119 = some [u64 0, u64 0, u64 0, u64 0, u64 0, u64 0] := by kernel_rfl
theorem bld_119 : bldI Try.prog 119 = some ([u64 0, u64 0, u64 0, u64 0, u64 0, u64 0], [(0, 1), (1, 1), (2, 1), (3, 1), (4, 1), (5, 1)]) := by kernel_rfl
-- []uint64
theorem tsz_121 : tsz Try.prog 121 = some 1 := by kernel_rfl
theorem agg_121 : aggT Try.prog 121 = some false := by kernel_rfl
theorem sli_121 : slI Try.prog 121 = some 1 := by kernel_rfl
theorem mki_121 : mkI Try.prog 121 = some ⟨23, 1, 8, [u64 0]⟩ := by kernel_rfl
theorem zce_121 : zcells Try.prog 121 = some [.slice none 0 0] := by kernel_rfl
-- [4]int
theorem tsz_122 : tsz Try.prog 122 = some 4 := by kernel_rfl
theorem agg_122 : aggT Try.prog 122 = some true := by kernel_rfl
theorem arr_122 : arrI Try.prog 122 = some (4, 1) := by kernel_rfl
theorem zce_122 : zcells Try.prog 122 = some [.int .i64 0, .int .i64 0, .int .i64 0, .int .i64 0] := by kernel_rfl
theorem bld_122 : bldI Try.prog 122 = some ([.int .i64 0, .int .i64 0, .int .i64 0, .int .i64 0], [(0, 1), (1, 1), (2, 1), (3, 1)]) := by kernel_rfl
-- uint32
theorem tsz_135 : tsz Try.prog 135 = some 1 := by kernel_rfl
theorem agg_135 : aggT Try.prog 135 = some false := by kernel_rfl
theorem int_135 : intT Try.prog 135 = some .u32 := by kernel_rfl
theorem und_135 : Try.prog.underlying 135 = some (.int .u32) := by kernel_rfl
theorem zce_135 : zcells Try.prog 135 = some [.int .u32 0] := by kernel_rfl
-- *uint8
theorem tsz_139 : tsz Try.prog 139 = some 1 := by kernel_rfl
theorem agg_139 : aggT Try.prog 139 = some false := by kernel_rfl
theorem zce_139 : zcells Try.prog 139 = some [.pointer none] := by kernel_rfl
-- struct { s string }
theorem tsz_144 : tsz Try.prog 144 = some 1 := by kernel_rfl
theorem agg_144 : aggT Try.prog 144 = some true := by kernel_rfl
theorem zce_144 : zcells Try.prog 144 = some [.string ⟨#[]⟩] := by kernel_rfl
theorem fld_144_0 : fldI Try.prog 144 0 = some (0, 1) := by kernel_rfl
theorem bld_144 : bldI Try.prog 144 = some ([.string ⟨#[]⟩], [(0, 1)]) := by kernel_rfl
theorem TYX : type_of% (And.intro (And.intro (And.intro (And.intro (And.intro (And.intro (And.intro tsz_2 agg_2) (And.intro int_2 (And.intro und_2 zce_2))) (And.intro (And.intro tsz_3 (And.intro agg_3 int_3)) (And.intro und_3 (And.intro zce_3 tsz_4)))) (And.intro (And.intro (And.intro agg_4 und_4) (And.intro zce_4 (And.intro tsz_5 agg_5))) (And.intro (And.intro int_5 (And.intro und_5 zce_5)) (And.intro tsz_9 (And.intro agg_9 und_9))))) (And.intro (And.intro (And.intro (And.intro zce_9 tsz_12) (And.intro agg_12 (And.intro int_12 und_12))) (And.intro (And.intro zce_12 (And.intro tsz_13 agg_13)) (And.intro zce_13 (And.intro fld_13_0 fld_13_1)))) (And.intro (And.intro (And.intro bld_13 (And.intro tsz_21 agg_21)) (And.intro int_21 (And.intro und_21 zce_21))) (And.intro (And.intro tsz_22 (And.intro agg_22 sli_22)) (And.intro mki_22 (And.intro zce_22 tsz_23)))))) (And.intro (And.intro (And.intro (And.intro (And.intro agg_23 int_23) (And.intro und_23 (And.intro zce_23 tsz_24))) (And.intro (And.intro agg_24 (And.intro arr_24 zce_24)) (And.intro bld_24 (And.intro tsz_25 agg_25)))) (And.intro (And.intro (And.intro arr_25 (And.intro zce_25 bld_25)) (And.intro tsz_34 (And.intro agg_34 int_34))) (And.intro (And.intro und_34 (And.intro zce_34 tsz_52)) (And.intro agg_52 (And.intro int_52 und_52))))) (And.intro (And.intro (And.intro (And.intro zce_52 tsz_57) (And.intro agg_57 (And.intro zce_57 fld_57_0))) (And.intro (And.intro fld_57_1 (And.intro fld_57_2 fld_57_3)) (And.intro bld_57 (And.intro tsz_58 agg_58)))) (And.intro (And.intro (And.intro zce_58 (And.intro fld_58_0 fld_58_1)) (And.intro fld_58_2 (And.intro fld_58_3 bld_58))) (And.intro (And.intro tsz_62 (And.intro agg_62 sli_62)) (And.intro mki_62 (And.intro zce_62 tsz_65))))))) (And.intro (And.intro (And.intro (And.intro (And.intro (And.intro agg_65 sli_65) (And.intro mki_65 (And.intro zce_65 tsz_70))) (And.intro (And.intro agg_70 (And.intro zce_70 tsz_83)) (And.intro agg_83 (And.intro zce_83 fld_83_0)))) (And.intro (And.intro (And.intro fld_83_1 fld_83_2) (And.intro fld_83_3 (And.intro fld_83_4 bld_83))) (And.intro (And.intro tsz_84 (And.intro agg_84 zce_84)) (And.intro fld_84_0 (And.intro fld_84_1 fld_84_2))))) (And.intro (And.intro (And.intro (And.intro fld_84_3 fld_84_4) (And.intro bld_84 (And.intro tsz_95 agg_95))) (And.intro (And.intro zce_95 (And.intro fld_95_0 fld_95_1)) (And.intro fld_95_2 (And.intro bld_95 tsz_96)))) (And.intro (And.intro (And.intro agg_96 (And.intro zce_96 fld_96_0)) (And.intro fld_96_1 (And.intro fld_96_2 bld_96))) (And.intro (And.intro tsz_98 (And.intro agg_98 zce_98)) (And.intro fld_98_0 (And.intro fld_98_1 fld_98_2)))))) (And.intro (And.intro (And.intro (And.intro (And.intro bld_98 tsz_99) (And.intro agg_99 (And.intro zce_99 fld_99_0))) (And.intro (And.intro fld_99_1 (And.intro fld_99_2 bld_99)) (And.intro tsz_105 (And.intro agg_105 zce_105)))) (And.intro (And.intro (And.intro fld_105_0 (And.intro bld_105 tsz_106)) (And.intro agg_106 (And.intro zce_106 fld_106_0))) (And.intro (And.intro bld_106 (And.intro tsz_119 agg_119)) (And.intro arr_119 (And.intro zce_119 bld_119))))) (And.intro (And.intro (And.intro (And.intro tsz_121 agg_121) (And.intro sli_121 (And.intro mki_121 zce_121))) (And.intro (And.intro tsz_122 (And.intro agg_122 arr_122)) (And.intro zce_122 (And.intro bld_122 tsz_135)))) (And.intro (And.intro (And.intro agg_135 (And.intro int_135 und_135)) (And.intro zce_135 (And.intro tsz_139 agg_139))) (And.intro (And.intro zce_139 (And.intro tsz_144 agg_144)) (And.intro zce_144 (And.intro fld_144_0 bld_144)))))))) :=
  (And.intro (And.intro (And.intro (And.intro (And.intro (And.intro (And.intro tsz_2 agg_2) (And.intro int_2 (And.intro und_2 zce_2))) (And.intro (And.intro tsz_3 (And.intro agg_3 int_3)) (And.intro und_3 (And.intro zce_3 tsz_4)))) (And.intro (And.intro (And.intro agg_4 und_4) (And.intro zce_4 (And.intro tsz_5 agg_5))) (And.intro (And.intro int_5 (And.intro und_5 zce_5)) (And.intro tsz_9 (And.intro agg_9 und_9))))) (And.intro (And.intro (And.intro (And.intro zce_9 tsz_12) (And.intro agg_12 (And.intro int_12 und_12))) (And.intro (And.intro zce_12 (And.intro tsz_13 agg_13)) (And.intro zce_13 (And.intro fld_13_0 fld_13_1)))) (And.intro (And.intro (And.intro bld_13 (And.intro tsz_21 agg_21)) (And.intro int_21 (And.intro und_21 zce_21))) (And.intro (And.intro tsz_22 (And.intro agg_22 sli_22)) (And.intro mki_22 (And.intro zce_22 tsz_23)))))) (And.intro (And.intro (And.intro (And.intro (And.intro agg_23 int_23) (And.intro und_23 (And.intro zce_23 tsz_24))) (And.intro (And.intro agg_24 (And.intro arr_24 zce_24)) (And.intro bld_24 (And.intro tsz_25 agg_25)))) (And.intro (And.intro (And.intro arr_25 (And.intro zce_25 bld_25)) (And.intro tsz_34 (And.intro agg_34 int_34))) (And.intro (And.intro und_34 (And.intro zce_34 tsz_52)) (And.intro agg_52 (And.intro int_52 und_52))))) (And.intro (And.intro (And.intro (And.intro zce_52 tsz_57) (And.intro agg_57 (And.intro zce_57 fld_57_0))) (And.intro (And.intro fld_57_1 (And.intro fld_57_2 fld_57_3)) (And.intro bld_57 (And.intro tsz_58 agg_58)))) (And.intro (And.intro (And.intro zce_58 (And.intro fld_58_0 fld_58_1)) (And.intro fld_58_2 (And.intro fld_58_3 bld_58))) (And.intro (And.intro tsz_62 (And.intro agg_62 sli_62)) (And.intro mki_62 (And.intro zce_62 tsz_65))))))) (And.intro (And.intro (And.intro (And.intro (And.intro (And.intro agg_65 sli_65) (And.intro mki_65 (And.intro zce_65 tsz_70))) (And.intro (And.intro agg_70 (And.intro zce_70 tsz_83)) (And.intro agg_83 (And.intro zce_83 fld_83_0)))) (And.intro (And.intro (And.intro fld_83_1 fld_83_2) (And.intro fld_83_3 (And.intro fld_83_4 bld_83))) (And.intro (And.intro tsz_84 (And.intro agg_84 zce_84)) (And.intro fld_84_0 (And.intro fld_84_1 fld_84_2))))) (And.intro (And.intro (And.intro (And.intro fld_84_3 fld_84_4) (And.intro bld_84 (And.intro tsz_95 agg_95))) (And.intro (And.intro zce_95 (And.intro fld_95_0 fld_95_1)) (And.intro fld_95_2 (And.intro bld_95 tsz_96)))) (And.intro (And.intro (And.intro agg_96 (And.intro zce_96 fld_96_0)) (And.intro fld_96_1 (And.intro fld_96_2 bld_96))) (And.intro (And.intro tsz_98 (And.intro agg_98 zce_98)) (And.intro fld_98_0 (And.intro fld_98_1 fld_98_2)))))) (And.intro (And.intro (And.intro (And.intro (And.intro bld_98 tsz_99) (And.intro agg_99 (And.intro zce_99 fld_99_0))) (And.intro (And.intro fld_99_1 (And.intro fld_99_2 bld_99)) (And.intro tsz_105 (And.intro agg_105 zce_105)))) (And.intro (And.intro (And.intro fld_105_0 (And.intro bld_105 tsz_106)) (And.intro agg_106 (And.intro zce_106 fld_106_0))) (And.intro (And.intro bld_106 (And.intro tsz_119 agg_119)) (And.intro arr_119 (And.intro zce_119 bld_119))))) (And.intro (And.intro (And.intro (And.intro tsz_121 agg_121) (And.intro sli_121 (And.intro mki_121 zce_121))) (And.intro (And.intro tsz_122 (And.intro agg_122 arr_122)) (And.intro zce_122 (And.intro bld_122 tsz_135)))) (And.intro (And.intro (And.intro agg_135 (And.intro int_135 und_135)) (And.intro zce_135 (And.intro tsz_139 agg_139))) (And.intro (And.intro zce_139 (And.intro tsz_144 agg_144)) (And.intro zce_144 (And.intro fld_144_0 bld_144))))))))
end Go.Sx
namespace Go.Sx
open Go.Proofs
-- TY: TYX, cellsE, foldE

noncomputable def bodyOf (f : Func) : Code := f.body.getD .skip
theorem body_eq {f : Func} (h : f.body.isSome = true) : f.body = some (bodyOf f) := by
  cases hb : f.body with
  | none => rw [hb] at h; cases h
  | some c => simp [bodyOf, hb]

/-- An element of four words. -/
def E4 (a b c d : Nat) : Value := .agg #[u64 a, u64 b, u64 c, u64 d]
theorem cellsE (a b c d : Nat) : (E4 a b c d).cells.toList = [u64 a, u64 b, u64 c, u64 d] := rfl
theorem foldE (a b c d : Nat) : Value.agg [u64 a, u64 b, u64 c, u64 d].toArray = E4 a b c d := rfl

set_option maxRecDepth 100000
set_option linter.unusedSimpArgs false
set_option pp.deepTerms false
set_option pp.deepTerms.threshold 3

theorem call_ext {P : Program} {f : Nat} {fn : Func} {e : Array Value → Sem Value} {args : Array Value} {z : Value} (hf : P.funcs[f]? = some fn) (hn : (fn.name == "runtime.NumGoroutine") = false) (hb : fn.body.isNone = true)
    (hx : Extern.findNext fn = none) (hy : Extern.find fn = some e) (w : World) (hz : (e args).run P w = .ok z w) : (callFunc f args).run P w = .ok (.value z) w := by
  unfold callFunc
  simp only [Sem.run_bind, run_program, Result.andThen_ok, hf, hn, hb, hx, hy, Bool.false_eq_true, if_false, if_true, run_mark, hz, Sem.run_pure]
theorem three_run {P : Program} (name : String) (x y b : Nat) (hb : b ≤ 1) (w : World) : (Extern.MathBitsCarry.three name #[u64 x, u64 y, u64 b]).run P w = .ok (x, y, b) w := by
  have : Extern.MathBitsCarry.three name #[u64 x, u64 y, u64 b] = (do
    let c := (← asInt (u64 b)).toNat
    if c > 1 then unsupported (.noEntry ("extern/math/bits." ++ name ++ ": a carry that is neither 0 nor 1"))
    pure ((← asInt (u64 x)).toNat, (← asInt (u64 y)).toNat, c)) := rfl
  rw [this]
  simp [asInt, asIntOf, u64]
  omega
def subL (x y b : Nat) : Nat := (x + 18446744073709551616 - y - b) % 18446744073709551616
def subB (x y b : Nat) : Nat := if x < y + b then 1 else 0
theorem subB_le (x y b : Nat) : subB x y b ≤ 1 := by unfold subB; split <;> omega
def addL (x y b : Nat) : Nat := (x + y + b) % 18446744073709551616
def addB (x y b : Nat) : Nat := (x + y + b) / 18446744073709551616
/-- bits.Sub64 -/
theorem c_sub64 (x y b : Nat) (hb : b ≤ 1) : Contract Try.prog 128 [.val (u64 x), .val (u64 y), .val (u64 b)] [.val (u64 (subL x y b)), .val (u64 (subB x y b))] := by
  refine .inr ⟨[u64 x, u64 y, u64 b], [u64 (subL x y b), u64 (subB x y b)], rfl, rfl, fun w => ?_⟩
  refine call_ext (e := fun args => do
    let (x, y, b) ← Extern.MathBitsCarry.three "Sub64" args
    pure (Extern.MathBitsCarry.pair ((x + Extern.MathBitsCarry.m64 - y - b) % Extern.MathBitsCarry.m64) (if x < y + b then 1 else 0))) Try.func128 (by kernel_rfl) (by kernel_rfl) (by kernel_rfl) (by kernel_rfl) w ?_
  simp only [Sem.run_bind, three_run _ x y b hb, Result.andThen_ok, Sem.run_pure]
  rfl
/-- bits.Add64 -/
theorem c_add64 (x y b : Nat) (hb : b ≤ 1) : Contract Try.prog 132 [.val (u64 x), .val (u64 y), .val (u64 b)] [.val (u64 (addL x y b)), .val (u64 (addB x y b))] := by
  refine .inr ⟨[u64 x, u64 y, u64 b], [u64 (addL x y b), u64 (addB x y b)], rfl, rfl, fun w => ?_⟩
  refine call_ext (e := fun args => do
    let (x, y, c) ← Extern.MathBitsCarry.three "Add64" args
    pure (Extern.MathBitsCarry.pair ((x + y + c) % Extern.MathBitsCarry.m64) ((x + y + c) / Extern.MathBitsCarry.m64))) Try.func132 (by kernel_rfl) (by kernel_rfl) (by kernel_rfl) (by kernel_rfl) w ?_
  simp only [Sem.run_bind, three_run _ x y b hb, Result.andThen_ok, Sem.run_pure]
  rfl
/-- word.Sub -/
theorem c_word_sub4 (a0 a1 a2 a3 b0 b1 b2 b3 c1 c2 c3 c4 : Nat) (h1 : c1 = subB a0 b0 0) (h2 : c2 = subB a1 b1 c1) (h3 : c3 = subB a2 b2 c2) (h4 : c4 = subB a3 b3 c3) :
    Contract Try.prog 117 [.val (E4 a0 a1 a2 a3), .val (E4 b0 b1 b2 b3)] [.val (E4 (subL a0 b0 0) (subL a1 b1 c1) (subL a2 b2 c2) (subL a3 b3 c3)), .val (.bool (c4 != 0))] := by
  subst h4 h3 h2 h1
  refine contract_of (N := _) (vars := _) (c := bodyOf Try.f117) Try.func117 (body_eq rfl) rfl rfl (by rfl) mixed _ _ trivial 1000 ?_
  simp only [bodyOf, Try.f117, Option.getD_some, argA, argE, List.length_cons, List.length_nil, Nat.reduceAdd, Nat.reduceSub, List.replicate, List.cons_append, List.nil_append]
  simp only [SX, simprocAttr, TYX, cellsE, foldE]
  refine loop_rounds 5 ?_
  refine RoundsVC.step mixed trivial 1000 ?_
  simp only [SX, simprocAttr, TYX, cellsE, foldE]
  refine DrawVC.intro (by kernel_rfl) ?_
  refine CallVC.intro (c_sub64 _ _ _ (by omega)) ⟨rfl, rfl, rfl, trivial⟩ rfl rfl ?_
  simp only [SX, simprocAttr, TYX, cellsE, foldE]
  refine RoundsVC.step mixed trivial 1000 ?_
  simp only [SX, simprocAttr, TYX, cellsE, foldE]
  refine DrawVC.intro (by kernel_rfl) ?_
  refine CallVC.intro (c_sub64 _ _ _ (subB_le _ _ _)) ⟨rfl, rfl, rfl, trivial⟩ rfl rfl ?_
  simp only [SX, simprocAttr, TYX, cellsE, foldE]
  refine RoundsVC.step mixed trivial 1000 ?_
  simp only [SX, simprocAttr, TYX, cellsE, foldE]
  refine DrawVC.intro (by kernel_rfl) ?_
  refine CallVC.intro (c_sub64 _ _ _ (subB_le _ _ _)) ⟨rfl, rfl, rfl, trivial⟩ rfl rfl ?_
  simp only [SX, simprocAttr, TYX, cellsE, foldE]
  refine RoundsVC.step mixed trivial 1000 ?_
  simp only [SX, simprocAttr, TYX, cellsE, foldE]
  refine DrawVC.intro (by kernel_rfl) ?_
  refine CallVC.intro (c_sub64 _ _ _ (subB_le _ _ _)) ⟨rfl, rfl, rfl, trivial⟩ rfl rfl ?_
  simp only [SX, simprocAttr, TYX, cellsE, foldE]
  refine RoundsVC.step mixed trivial 1000 ?_
  simp only [SX, simprocAttr, TYX, cellsE, foldE]
/-- word.Add -/
theorem c_word_add4 (a0 a1 a2 a3 b0 b1 b2 b3 c1 c2 c3 c4 : Nat) (h1 : c1 = addB a0 b0 0) (h2 : c2 = addB a1 b1 c1) (h3 : c3 = addB a2 b2 c2) (h4 : c4 = addB a3 b3 c3) (l1 : c1 ≤ 1) (l2 : c2 ≤ 1) (l3 : c3 ≤ 1) :
    Contract Try.prog 125 [.val (E4 a0 a1 a2 a3), .val (E4 b0 b1 b2 b3)] [.val (E4 (addL a0 b0 0) (addL a1 b1 c1) (addL a2 b2 c2) (addL a3 b3 c3)), .val (.bool (c4 != 0))] := by
  subst h4 h3 h2 h1
  refine contract_of (N := _) (vars := _) (c := bodyOf Try.f125) Try.func125 (body_eq rfl) rfl rfl (by rfl) mixed _ _ trivial 1000 ?_
  simp only [bodyOf, Try.f125, Option.getD_some, argA, argE, List.length_cons, List.length_nil, Nat.reduceAdd, Nat.reduceSub, List.replicate, List.cons_append, List.nil_append]
  simp only [SX, simprocAttr, TYX, cellsE, foldE]
  refine loop_rounds 5 ?_
  refine RoundsVC.step mixed trivial 1000 ?_
  simp only [SX, simprocAttr, TYX, cellsE, foldE]
  refine DrawVC.intro (by kernel_rfl) ?_
  refine CallVC.intro (c_add64 _ _ _ (by omega)) ⟨rfl, rfl, rfl, trivial⟩ rfl rfl ?_
  simp only [SX, simprocAttr, TYX, cellsE, foldE]
  refine RoundsVC.step mixed trivial 1000 ?_
  simp only [SX, simprocAttr, TYX, cellsE, foldE]
  refine DrawVC.intro (by kernel_rfl) ?_
  refine CallVC.intro (c_add64 _ _ _ l1) ⟨rfl, rfl, rfl, trivial⟩ rfl rfl ?_
  simp only [SX, simprocAttr, TYX, cellsE, foldE]
  refine RoundsVC.step mixed trivial 1000 ?_
  simp only [SX, simprocAttr, TYX, cellsE, foldE]
  refine DrawVC.intro (by kernel_rfl) ?_
  refine CallVC.intro (c_add64 _ _ _ l2) ⟨rfl, rfl, rfl, trivial⟩ rfl rfl ?_
  simp only [SX, simprocAttr, TYX, cellsE, foldE]
  refine RoundsVC.step mixed trivial 1000 ?_
  simp only [SX, simprocAttr, TYX, cellsE, foldE]
  refine DrawVC.intro (by kernel_rfl) ?_
  refine CallVC.intro (c_add64 _ _ _ l3) ⟨rfl, rfl, rfl, trivial⟩ rfl rfl ?_
  simp only [SX, simprocAttr, TYX, cellsE, foldE]
  refine RoundsVC.step mixed trivial 1000 ?_
  simp only [SX, simprocAttr, TYX, cellsE, foldE]

/-! ### elements as numbers -/
def EN (n : Nat) : Value := E4 (n % 18446744073709551616) (n / 18446744073709551616 % 18446744073709551616) (n / 340282366920938463463374607431768211456 % 18446744073709551616) (n / 6277101735386680763835789423207666416102355444464034512896 % 18446744073709551616)
def W256 : Nat := 115792089237316195423570985008687907853269984665640564039457584007913129639936
theorem EN_of {n a b c d : Nat} (ha : a < 18446744073709551616) (hb : b < 18446744073709551616) (hc : c < 18446744073709551616) (hd : d < 18446744073709551616)
    (h : n = a + 18446744073709551616 * b + 340282366920938463463374607431768211456 * c + 6277101735386680763835789423207666416102355444464034512896 * d) : EN n = E4 a b c d := by
  subst h
  unfold EN
  congr 1 <;> omega
theorem EN_ex {n : Nat} (h : n < W256) : ∃ a b c d, a < 18446744073709551616 ∧ b < 18446744073709551616 ∧ c < 18446744073709551616 ∧ d < 18446744073709551616 ∧
    n = a + 18446744073709551616 * b + 340282366920938463463374607431768211456 * c + 6277101735386680763835789423207666416102355444464034512896 * d := by
  unfold W256 at h
  exact ⟨n % 18446744073709551616, n / 18446744073709551616 % 18446744073709551616, n / 340282366920938463463374607431768211456 % 18446744073709551616, n / 6277101735386680763835789423207666416102355444464034512896, by omega, by omega, by omega, by omega, by omega⟩

theorem sub_chain {x y b : Nat} (hx : x < 18446744073709551616) (hy : y < 18446744073709551616) (hb : b ≤ 1) : subL x y b + y + b = x + 18446744073709551616 * subB x y b ∧ subL x y b < 18446744073709551616 := by
  unfold subL subB
  split <;> omega
theorem add_chain {x y b : Nat} : addL x y b + 18446744073709551616 * addB x y b = x + y + b ∧ addL x y b < 18446744073709551616 := by
  unfold addL addB
  omega
theorem c_word_sub (a b : Nat) (ha : a < W256) (hb : b < W256) : Contract Try.prog 117 [.val (EN a), .val (EN b)] [.val (EN ((a + W256 - b) % W256)), .val (.bool (decide (a < b)))] := by
  obtain ⟨a0, a1, a2, a3, ha0, ha1, ha2, ha3, rfl⟩ := EN_ex ha
  obtain ⟨b0, b1, b2, b3, hb0, hb1, hb2, hb3, rfl⟩ := EN_ex hb
  rw [EN_of ha0 ha1 ha2 ha3 rfl, EN_of hb0 hb1 hb2 hb3 rfl]
  have s0 := sub_chain ha0 hb0 (Nat.zero_le 1)
  have s1 := sub_chain ha1 hb1 (subB_le a0 b0 0)
  have s2 := sub_chain ha2 hb2 (subB_le a1 b1 (subB a0 b0 0))
  have s3 := sub_chain ha3 hb3 (subB_le a2 b2 (subB a1 b1 (subB a0 b0 0)))
  have l3 := subB_le a3 b3 (subB a2 b2 (subB a1 b1 (subB a0 b0 0)))
  have h := c_word_sub4 a0 a1 a2 a3 b0 b1 b2 b3 _ _ _ _ rfl rfl rfl rfl
  generalize subB a3 b3 (subB a2 b2 (subB a1 b1 (subB a0 b0 0))) = c4 at *
  generalize subL a3 b3 (subB a2 b2 (subB a1 b1 (subB a0 b0 0))) = r3 at *
  generalize subB a2 b2 (subB a1 b1 (subB a0 b0 0)) = c3 at *
  generalize subL a2 b2 (subB a1 b1 (subB a0 b0 0)) = r2 at *
  generalize subB a1 b1 (subB a0 b0 0) = c2 at *
  generalize subL a1 b1 (subB a0 b0 0) = r1 at *
  generalize subB a0 b0 0 = c1 at *
  generalize subL a0 b0 0 = r0 at *
  unfold W256
  rw [EN_of (a := r0) (b := r1) (c := r2) (d := r3) s0.2 s1.2 s2.2 s3.2 (by omega)]
  have : (c4 != 0) = decide (a0 + 18446744073709551616 * a1 + 340282366920938463463374607431768211456 * a2 + 6277101735386680763835789423207666416102355444464034512896 * a3 < b0 + 18446744073709551616 * b1 + 340282366920938463463374607431768211456 * b2 + 6277101735386680763835789423207666416102355444464034512896 * b3) := by
    rw [Bool.eq_iff_iff]
    simp only [bne_iff_ne, ne_eq, decide_eq_true_eq]
    omega
  rw [← this]
  exact h
theorem c_word_add (a b : Nat) (ha : a < W256) (hb : b < W256) : Contract Try.prog 125 [.val (EN a), .val (EN b)] [.val (EN ((a + b) % W256)), .val (.bool (decide (W256 ≤ a + b)))] := by
  obtain ⟨a0, a1, a2, a3, ha0, ha1, ha2, ha3, rfl⟩ := EN_ex ha
  obtain ⟨b0, b1, b2, b3, hb0, hb1, hb2, hb3, rfl⟩ := EN_ex hb
  rw [EN_of ha0 ha1 ha2 ha3 rfl, EN_of hb0 hb1 hb2 hb3 rfl]
  have s0 := @add_chain a0 b0 0
  have s1 := @add_chain a1 b1 (addB a0 b0 0)
  have s2 := @add_chain a2 b2 (addB a1 b1 (addB a0 b0 0))
  have s3 := @add_chain a3 b3 (addB a2 b2 (addB a1 b1 (addB a0 b0 0)))
  have h := c_word_add4 a0 a1 a2 a3 b0 b1 b2 b3 _ _ _ _ rfl rfl rfl rfl
  generalize addB a3 b3 (addB a2 b2 (addB a1 b1 (addB a0 b0 0))) = c4 at *
  generalize addL a3 b3 (addB a2 b2 (addB a1 b1 (addB a0 b0 0))) = r3 at *
  generalize addB a2 b2 (addB a1 b1 (addB a0 b0 0)) = c3 at *
  generalize addL a2 b2 (addB a1 b1 (addB a0 b0 0)) = r2 at *
  generalize addB a1 b1 (addB a0 b0 0) = c2 at *
  generalize addL a1 b1 (addB a0 b0 0) = r1 at *
  generalize addB a0 b0 0 = c1 at *
  generalize addL a0 b0 0 = r0 at *
  unfold W256
  rw [EN_of (a := r0) (b := r1) (c := r2) (d := r3) s0.2 s1.2 s2.2 s3.2 (by omega)]
  have : (c4 != 0) = decide (115792089237316195423570985008687907853269984665640564039457584007913129639936 ≤ a0 + 18446744073709551616 * a1 + 340282366920938463463374607431768211456 * a2 + 6277101735386680763835789423207666416102355444464034512896 * a3 + (b0 + 18446744073709551616 * b1 + 340282366920938463463374607431768211456 * b2 + 6277101735386680763835789423207666416102355444464034512896 * b3)) := by
    rw [Bool.eq_iff_iff]
    simp only [bne_iff_ne, ne_eq, decide_eq_true_eq]
    omega
  rw [← this]
  exact h (by omega) (by omega) (by omega)
end Go.Sx
namespace Go.Sx
open Go.Proofs
def L0 (n : Nat) : Nat := n % 18446744073709551616
def L1 (n : Nat) : Nat := n / 18446744073709551616 % 18446744073709551616
def L2 (n : Nat) : Nat := n / 340282366920938463463374607431768211456 % 18446744073709551616
def L3 (n : Nat) : Nat := n / 6277101735386680763835789423207666416102355444464034512896 % 18446744073709551616
theorem EN_E4 (n : Nat) : EN n = E4 (L0 n) (L1 n) (L2 n) (L3 n) := rfl
theorem cellsN (n : Nat) : (EN n).cells.toList = [u64 (L0 n), u64 (L1 n), u64 (L2 n), u64 (L3 n)] := rfl
theorem b_EN {T : Nat → AV} {x y : Operand} {ty ty' : TypeId} {a b : Nat} {bop : BinOp} : binOn Try.prog T bop ty x y ty' (.o (.v (EN a))) (.o (.v (EN b))) = .ex (pureOp Try.prog T (.binOp bop ty x y ty')) := rfl
theorem foldN (n : Nat) : E4 (L0 n) (L1 n) (L2 n) (L3 n) = EN n := rfl
theorem L0_lt (n : Nat) : L0 n < 18446744073709551616 := Nat.mod_lt _ (by decide)
theorem L1_lt (n : Nat) : L1 n < 18446744073709551616 := Nat.mod_lt _ (by decide)
theorem L2_lt (n : Nat) : L2 n < 18446744073709551616 := Nat.mod_lt _ (by decide)
theorem L3_lt (n : Nat) : L3 n < 18446744073709551616 := Nat.mod_lt _ (by decide)
theorem L_sum {n : Nat} (h : n < W256) : n = L0 n + 18446744073709551616 * L1 n + 340282366920938463463374607431768211456 * L2 n + 6277101735386680763835789423207666416102355444464034512896 * L3 n := by
  unfold W256 at h
  unfold L0 L1 L2 L3
  omega
theorem E4_EN {a b c d : Nat} (ha : a < 18446744073709551616) (hb : b < 18446744073709551616) (hc : c < 18446744073709551616) (hd : d < 18446744073709551616) :
    E4 a b c d = EN (a + 18446744073709551616 * b + 340282366920938463463374607431768211456 * c + 6277101735386680763835789423207666416102355444464034512896 * d) := (EN_of ha hb hc hd rfl).symm
theorem EN_small {a : Nat} (ha : a < 18446744073709551616) : E4 a 0 0 0 = EN a := by
  rw [EN_of (n := a) (a := a) (b := 0) (c := 0) (d := 0) ha (by decide) (by decide) (by decide) (by omega)]
theorem EN_inj {a b : Nat} (ha : a < W256) (hb : b < W256) : (L0 a = L0 b ∧ L1 a = L1 b ∧ L2 a = L2 b ∧ L3 a = L3 b) ↔ a = b := by
  constructor
  · rintro ⟨h0, h1, h2, h3⟩
    rw [L_sum ha, L_sum hb, h0, h1, h2, h3]
  · rintro rfl; exact ⟨rfl, rfl, rfl, rfl⟩

theorem zElem : Try.prog.built 25 [] = some #[u64 0, u64 0, u64 0, u64 0] := by kernel_rfl
theorem zElem1 (a : Nat) : Try.prog.built 25 [(0, u64 a)] = some #[u64 a, u64 0, u64 0, u64 0] := by kernel_rfl
theorem zElem4 (a b c d : Nat) : Try.prog.built 25 [(0, u64 a), (1, u64 b), (2, u64 c), (3, u64 d)] = some #[u64 a, u64 b, u64 c, u64 d] := by kernel_rfl

section
variable {Q : St → Prop} {n : Nat} {dr : Md} {all rest : List Oper} {k : List Frm} {st : St} {d : Option Nat}
theorem X0 (h : vcx Try.prog Q n (.ops dr all rest :: k) (st.put d (val (EN 0)))) : ExVC Try.prog Q n dr all rest k st d (pureOp Try.prog st.T (.build 25 #[])) :=
  ExVC.build [] (EN 0) _ rfl zElem rfl h
theorem X1 {x : Operand} (a : Nat) (hx : ev st.T x = .o (.v (u64 a))) (h : vcx Try.prog Q n (.ops dr all rest :: k) (st.put d (val (E4 a 0 0 0)))) :
    ExVC Try.prog Q n dr all rest k st d (pureOp Try.prog st.T (.build 25 #[(0, x)])) :=
  ExVC.build [(0, u64 a)] (E4 a 0 0 0) _ (by simp [plains, hx, plain]) (zElem1 a) rfl h
theorem X4 {x y z t : Operand} (a b c e : Nat) (hx : ev st.T x = .o (.v (u64 a))) (hy : ev st.T y = .o (.v (u64 b))) (hz : ev st.T z = .o (.v (u64 c))) (ht : ev st.T t = .o (.v (u64 e)))
    (h : vcx Try.prog Q n (.ops dr all rest :: k) (st.put d (val (E4 a b c e)))) :
    ExVC Try.prog Q n dr all rest k st d (pureOp Try.prog st.T (.build 25 #[(0, x), (1, y), (2, z), (3, t)])) :=
  ExVC.build [(0, u64 a), (1, u64 b), (2, u64 c), (3, u64 e)] (E4 a b c e) _ (by simp [plains, hx, hy, hz, ht, plain]) (zElem4 a b c e) rfl h
end

/-! ### two elements compared -/
theorem pk22 : Try.prog.plainKey 23 = true := by kernel_rfl
theorem un22 : Try.prog.underlying 23 = some (.int .u64) := by kernel_rfl
theorem un24 : Try.prog.underlying 25 = some (.array 4 23) := by kernel_rfl
theorem co22 : Try.prog.cellsOf 23 = 1 := by kernel_rfl
theorem gd24 : Try.prog.eqGuardType Try.prog.depth 25 = false := by kernel_rfl
theorem run_eqElem (w : World) (d a b c e a' b' c' e' : Nat) : (Op.equalIn (d + 2) 25 (E4 a b c e) (E4 a' b' c' e')).run Try.prog w = .ok (a == a' && b == b' && c == c' && e == e') w := by
  obtain ⟨i, hi⟩ := info_of_underlying un22
  unfold E4
  rw [run_equalIn_array w (d + 1) _ _ un24 hi, co22]
  have p : ∀ (x y z t : Nat) (j : Nat) (v : Value), #[u64 x, u64 y, u64 z, u64 t][j]? = some v → (part 23 #[u64 x, u64 y, u64 z, u64 t] j).run Try.prog w = .ok v w := fun x y z t j v hv => run_part_plain w pk22 hv
  have q : ∀ x y : Nat, (Op.equalIn (d + 1) 23 (u64 x) (u64 y)).run Try.prog w = .ok (x == y) w := by
    intro x y
    unfold u64
    rw [run_equalIn_int w d _ .u64 .u64 _ _ un22]
    have hb : ((x : Int) == (y : Int)) = (x == y) := by rw [Bool.eq_iff_iff]; simp; omega
    rw [hb]
  rw [show List.range 4 = [0, 1, 2, 3] from rfl]
  have q0 := q a a'
  have q1 := q b b'
  have q2 := q c c'
  have q3 := q e e'
  generalize (a == a') = A at q0 ⊢
  generalize (b == b') = B at q1 ⊢
  generalize (c == c') = C at q2 ⊢
  generalize (e == e') = E at q3 ⊢
  have r : ∀ b : Bool, (pure b : Sem Bool).run Try.prog w = .ok b w := fun b => Sem.run_pure _ _ _
  cases A <;> cases B <;> cases C <;> cases E <;> simp only [Op.eqItems, Sem.run_bind, p a b c e 0 (u64 a) rfl, p a b c e 1 (u64 b) rfl, p a b c e 2 (u64 c) rfl, p a b c e 3 (u64 e) rfl, p a' b' c' e' 0 (u64 a') rfl, p a' b' c' e' 1 (u64 b') rfl, p a' b' c' e' 2 (u64 c') rfl, p a' b' c' e' 3 (u64 e') rfl, q0, q1, q2, q3, Result.andThen_ok, Nat.zero_mul, Nat.one_mul, Nat.mul_one, Nat.reduceMul, Bool.not_true, Bool.not_false, if_true, if_false, r, Bool.false_eq_true, Bool.and_true, Bool.and_false, Bool.true_and, Bool.false_and]
theorem eqE4 {T : Nat → AV} {x y : Operand} {ty' : TypeId} {a b c e a' b' c' e' : Nat} (hx : ev T x = .o (.v (E4 a b c e))) (hy : ev T y = .o (.v (E4 a' b' c' e'))) :
    pureOp Try.prog T (.binOp .eql 25 x y ty') (.bool (a == a' && b == b' && c == c' && e == e')) := by
  intro o f w ho hf _
  have e1 := hf x (by simp [Op.operands]) _ hx
  have e2 := hf y (by simp [Op.operands]) _ hy
  have g : (eqGuard .eql 25 x y (E4 a b c e) (E4 a' b' c' e')).run Try.prog w = .ok () w := run_eqGuard_agg w .eql _ x y _ _ gd24
  have h : (binOp .eql 25 (E4 a b c e) (E4 a' b' c' e')).run Try.prog w = _ := run_eql_struct w _ _ _
  have h9 := run_eqElem w 9998 a b c e a' b' c' e'
  unfold E4 at h9 h
  rw [h9] at h
  simp only [execOp, ho, e1, e2, Sem.run_bind, g, Result.andThen_ok]
  unfold E4
  rw [h]
  rfl
theorem neE4 {T : Nat → AV} {x y : Operand} {ty' : TypeId} {a b c e a' b' c' e' : Nat} (hx : ev T x = .o (.v (E4 a b c e))) (hy : ev T y = .o (.v (E4 a' b' c' e'))) :
    pureOp Try.prog T (.binOp .neq 25 x y ty') (.bool (!(a == a' && b == b' && c == c' && e == e'))) := by
  intro o f w ho hf _
  have e1 := hf x (by simp [Op.operands]) _ hx
  have e2 := hf y (by simp [Op.operands]) _ hy
  have g : (eqGuard .neq 25 x y (E4 a b c e) (E4 a' b' c' e')).run Try.prog w = .ok () w := run_eqGuard_agg w .neq _ x y _ _ gd24
  have h : (binOp .neq 25 (E4 a b c e) (E4 a' b' c' e')).run Try.prog w = _ := run_neq_struct w _ _ _
  have h9 := run_eqElem w 9998 a b c e a' b' c' e'
  unfold E4 at h9 h
  rw [h9] at h
  simp only [execOp, ho, e1, e2, Sem.run_bind, g, Result.andThen_ok]
  unfold E4
  rw [h]
  rfl
theorem limbs_eq {a b : Nat} (ha : a < W256) (hb : b < W256) : (L0 a == L0 b && L1 a == L1 b && L2 a == L2 b && L3 a == L3 b) = (a == b) := by
  rw [Bool.eq_iff_iff]
  simp only [Bool.and_eq_true, beq_iff_eq]
  rw [← EN_inj ha hb]
  constructor
  · rintro ⟨⟨⟨h0, h1⟩, h2⟩, h3⟩; exact ⟨h0, h1, h2, h3⟩
  · rintro ⟨h0, h1, h2, h3⟩; exact ⟨⟨⟨h0, h1⟩, h2⟩, h3⟩
section
variable {Q : St → Prop} {n : Nat} {dr : Md} {all rest : List Oper} {k : List Frm} {st : St} {d : Option Nat}
theorem XEq {x y : Operand} {ty' : TypeId} (a b : Nat) (ha : a < W256) (hb : b < W256) (hx : ev st.T x = .o (.v (EN a))) (hy : ev st.T y = .o (.v (EN b)))
    (h : vcx Try.prog Q n (.ops dr all rest :: k) (st.put d (val (.bool (a == b))))) : ExVC Try.prog Q n dr all rest k st d (pureOp Try.prog st.T (.binOp .eql 25 x y ty')) :=
  ExVC.intro _ (eqE4 hx hy) (by rw [← limbs_eq ha hb] at h; exact h)
theorem XNe {x y : Operand} {ty' : TypeId} (a b : Nat) (ha : a < W256) (hb : b < W256) (hx : ev st.T x = .o (.v (EN a))) (hy : ev st.T y = .o (.v (EN b)))
    (h : vcx Try.prog Q n (.ops dr all rest :: k) (st.put d (val (.bool (a != b))))) : ExVC Try.prog Q n dr all rest k st d (pureOp Try.prog st.T (.binOp .neq 25 x y ty')) :=
  ExVC.intro _ (neE4 hx hy) (by rw [bne, ← limbs_eq ha hb] at h; exact h)
end
end Go.Sx
namespace Go.Sx
open Go.Proofs

/-! ### numbers -/
theorem wI {n : Int} (h0 : -9223372036854775808 ≤ n) (h1 : n < 9223372036854775808) : IntKind.i64.wrap n = n := by
  rw [IntKind.wrap_i64]; omega
theorem wS {j : Nat} (h : j < 9223372036854775807) : IntKind.i64.wrap ((j : Int) + 1) = ((j + 1 : Nat) : Int) := by rw [wI (by omega) (by omega)]; rfl
theorem wP {j : Nat} (h0 : 0 < j) (h : j < 9223372036854775808) : IntKind.i64.wrap ((j : Int) - 1) = ((j - 1 : Nat) : Int) := by rw [wI (by omega) (by omega)]; omega

/-! ### lists of elements -/
def eC (n : Nat) : List Value := [u64 (L0 n), u64 (L1 n), u64 (L2 n), u64 (L3 n)]
theorem eC_len (x : Nat) : (eC x).length = 4 := rfl
theorem eL_nil : LC eC [] = [] := rfl
theorem eL_len {l : List Nat} : (LC eC l).length = l.length * 4 := LC_len eC_len l
theorem eL_one {l : List Nat} : (LC eC l).all Value.oneCell' = true := LC_all (fun _ => rfl) l
theorem eL_ld {l : List Nat} {j : Nat} (h : j < l.length) : Value.agg (((LC eC l).drop (j * 4)).take 4).toArray = EN (l.getD j 0) := by
  rw [LC_at eC_len (x := l.getD j 0) (by simp [List.getD, List.getElem?_eq_getElem h])]; rfl
theorem eL_st {l : List Nat} {j : Nat} {v : Nat} (h : j < l.length) : (LC eC l).take (j * 4) ++ [u64 (L0 v), u64 (L1 v), u64 (L2 v), u64 (L3 v)] ++ (LC eC l).drop (j * 4 + 4) = LC eC (l.set j v) := LC_set eC_len v h
theorem eL_mk {n : Nat} : (madeCells [u64 0, u64 0, u64 0, u64 0].toArray (n * 4)).toList = LC eC (List.replicate n 0) := made_LC eC_len (by decide) 0 n
theorem eL_full {l : List Nat} : (LC eC l).take (l.length * 4) = LC eC l := by rw [LC_take eC_len, List.take_length]
theorem eL_take {l : List Nat} {k : Nat} : (LC eC l).take (k * 4) = LC eC (l.take k) := LC_take eC_len l k
theorem eL_pre {l r : List Nat} : (LC eC (l ++ r)).take (l.length * 4) = LC eC l := by rw [eL_take, List.take_left]
theorem eL_app1 {l : List Nat} {v : Nat} : LC eC l ++ [u64 (L0 v), u64 (L1 v), u64 (L2 v), u64 (L3 v)] = LC eC (l ++ [v]) := LC_app l [v]
theorem eL_app {l l' : List Nat} : LC eC l ++ LC eC l' = LC eC (l ++ l') := LC_app l l'

/-! ### lists of bytes and of numbers -/
/-- Bundles for the walks. -/
theorem EX : type_of% (And.intro (And.intro (And.intro cellsE foldE) (And.intro foldN cellsN)) (And.intro (And.intro @b_EN @eL_nil) (And.intro (And.intro @eL_len @eL_one) (And.intro (And.intro @eL_mk @eL_app1) (And.intro @eL_app (And.intro @eL_full @eL_pre)))))) :=
  And.intro (And.intro (And.intro cellsE foldE) (And.intro foldN cellsN)) (And.intro (And.intro @b_EN @eL_nil) (And.intro (And.intro @eL_len @eL_one) (And.intro (And.intro @eL_mk @eL_app1) (And.intro @eL_app (And.intro @eL_full @eL_pre)))))
end Go.Sx
namespace Go.Sx
open Go.Proofs
noncomputable def eqN (a b : Nat) : Bool := hid (fun a b : Nat => L0 a == L0 b && L1 a == L1 b && L2 a == L2 b && L3 a == L3 b) a b
theorem eqN_def {a b : Nat} : eqN a b = (L0 a == L0 b && L1 a == L1 b && L2 a == L2 b && L3 a == L3 b) := by unfold eqN; rw [hid_eq]
theorem eqN_eq {a b : Nat} (ha : a < W256) (hb : b < W256) : eqN a b = (a == b) := by rw [eqN_def, limbs_eq ha hb]
theorem eqN_self {a : Nat} : eqN a a = true := by rw [eqN_def]; simp
theorem EN_limbs {a b : Nat} (h : EN a = EN b) : L0 a = L0 b ∧ L1 a = L1 b ∧ L2 a = L2 b ∧ L3 a = L3 b := by
  have h1 : [u64 (L0 a), u64 (L1 a), u64 (L2 a), u64 (L3 a)] = [u64 (L0 b), u64 (L1 b), u64 (L2 b), u64 (L3 b)] := by
    have := congrArg (fun v => v.cells.toList) h
    simpa only [cellsN] using this
  simp only [u64, List.cons.injEq, Value.int.injEq, true_and, and_true] at h1
  omega
section
variable {Q : St → Prop} {n : Nat} {dr : Md} {all rest : List Oper} {k : List Frm} {st : St} {d : Option Nat} {T : Nat → AV} {M : MemF} {id : Nat} {x y : Operand} {ty' : TypeId}
open Classical in
noncomputable def elGo (Q : St → Prop) (n : Nat) (dr : Md) (all rest : List Oper) (k : List Frm) (st : St) (d : Option Nat) (T : Nat → AV) (ng : Bool) (x y : Operand) (ty' : TypeId) (u v : AV) : Prop :=
  if ∃ a b, u = .o (.v (EN a)) ∧ v = .o (.v (EN b)) then ∀ a b, u = .o (.v (EN a)) → v = .o (.v (EN b)) → vcx Try.prog Q n (.ops dr all rest :: k) (st.put d (val (.bool (ng ^^ eqN a b))))
  else goOn Try.prog Q n dr all rest k st d (.binOp (if ng then .neq else .eql) 25 x y ty') (binOn Try.prog T (if ng then .neq else .eql) 25 x y ty' u v)
theorem el_go {ng : Bool} {a b : Nat} : elGo Q n dr all rest k st d T ng x y ty' (.o (.v (EN a))) (.o (.v (EN b))) = vcx Try.prog Q n (.ops dr all rest :: k) (st.put d (val (.bool (ng ^^ eqN a b)))) := by
  unfold elGo
  rw [if_pos ⟨a, b, rfl, rfl⟩]
  refine propext ⟨fun h => h a b rfl rfl, fun h a' b' ha hb => ?_⟩
  simp only [AV.o.injEq, A0.v.injEq] at ha hb
  obtain ⟨p0, p1, p2, p3⟩ := EN_limbs ha
  obtain ⟨q0, q1, q2, q3⟩ := EN_limbs hb
  have e : eqN a' b' = eqN a b := by rw [eqN_def, eqN_def, p0, p1, p2, p3, q0, q1, q2, q3]
  rw [e]
  exact h
theorem op_eqE : goOn Try.prog Q n dr all rest k st d (.binOp .eql 25 x y ty') (opEff Try.prog T M id (.binOp .eql 25 x y ty')) = elGo Q n dr all rest k st d T false x y ty' (ev T x) (ev T y) := by
  rw [show opEff Try.prog T M id (.binOp .eql 25 x y ty') = binOn Try.prog T .eql 25 x y ty' (ev T x) (ev T y) from rfl]
  by_cases h : ∃ a b, ev T x = .o (.v (EN a)) ∧ ev T y = .o (.v (EN b))
  · obtain ⟨a, b, hx, hy⟩ := h
    have hp := eqE4 (ty' := ty') hx hy
    rw [hx, hy, el_go, b_EN, g_ex, ex_one hp, eqN_def, Bool.false_xor]; rfl
  · unfold elGo; rw [if_neg h]; rfl
theorem op_neE : goOn Try.prog Q n dr all rest k st d (.binOp .neq 25 x y ty') (opEff Try.prog T M id (.binOp .neq 25 x y ty')) = elGo Q n dr all rest k st d T true x y ty' (ev T x) (ev T y) := by
  rw [show opEff Try.prog T M id (.binOp .neq 25 x y ty') = binOn Try.prog T .neq 25 x y ty' (ev T x) (ev T y) from rfl]
  by_cases h : ∃ a b, ev T x = .o (.v (EN a)) ∧ ev T y = .o (.v (EN b))
  · obtain ⟨a, b, hx, hy⟩ := h
    have hp := neE4 (ty' := ty') hx hy
    rw [hx, hy, el_go, b_EN, g_ex, ex_one hp, eqN_def, Bool.true_xor]; rfl
  · unfold elGo; rw [if_neg h]; rfl
@[congr] theorem elGo_congr {ng : Bool} {st' : St} {u u' v v' : AV} (h : st = st') (h2 : u = u') (h3 : v = v') : elGo Q n dr all rest k st d T ng x y ty' u v = elGo Q n dr all rest k st' d T ng x y ty' u' v' := by rw [h, h2, h3]
end
theorem beq_int {n : Int} : (n == n) = true := by simp
theorem bne_int {n : Int} : (n != n) = false := by simp
theorem beq_list {l : List Nat} : (l == l) = true := by simp
theorem PX : type_of% (And.intro @op_eqE @op_neE) := And.intro @op_eqE @op_neE
/-- Bundles for the walks. -/
theorem EY : type_of% (And.intro (And.intro EX @el_go) (And.intro (And.intro Bool.false_xor Bool.true_xor) (And.intro @EN_small (And.intro (And.intro @eqN_self @wI) (And.intro (And.intro @beq_int @bne_int) (And.intro eC.eq_1 @beq_list)))))) :=
  And.intro (And.intro EX @el_go) (And.intro (And.intro Bool.false_xor Bool.true_xor) (And.intro @EN_small (And.intro (And.intro @eqN_self @wI) (And.intro (And.intro @beq_int @bne_int) (And.intro eC.eq_1 @beq_list)))))
end Go.Sx
namespace Go.Sx
open Go.Proofs
-- TY: TYX, cellsE, foldE, foldN, cellsN, b_EN, cellsNV, foldNV, k32
set_option maxRecDepth 100000
set_option linter.unusedSimpArgs false
set_option pp.deepTerms false
set_option pp.deepTerms.threshold 3
/-- A field's numbers. -/
def NV (m : Nat) (ad : Int) (sm ng sq : Nat) : Value := .agg #[u64 (L0 m), u64 (L1 m), u64 (L2 m), u64 (L3 m), .int .i64 ad, u64 sm, u64 ng, u64 (L0 sq), u64 (L1 sq), u64 (L2 sq), u64 (L3 sq)]
theorem cellsNV (m : Nat) (ad : Int) (sm ng sq : Nat) : (NV m ad sm ng sq).cells.toList = [u64 (L0 m), u64 (L1 m), u64 (L2 m), u64 (L3 m), .int .i64 ad, u64 sm, u64 ng, u64 (L0 sq), u64 (L1 sq), u64 (L2 sq), u64 (L3 sq)] := rfl
theorem foldNV (m : Nat) (ad : Int) (sm ng sq : Nat) : Value.agg [u64 (L0 m), u64 (L1 m), u64 (L2 m), u64 (L3 m), .int .i64 ad, u64 sm, u64 ng, u64 (L0 sq), u64 (L1 sq), u64 (L2 sq), u64 (L3 sq)].toArray = NV m ad sm ng sq := rfl
theorem k32 : Value.int .u64 4294967295 = u64 4294967295 := rfl
def PA : Nat := 16513537
def PB : Nat := 16521217
def PC : Nat := 0x40000000000000000000000000000000224698fc094cf91b992d30ed00000001
def PD : Nat := 0x40000000000000000000000000000000224698fc0994a8dd8c46eb2100000001
def SC : Nat := 0x096d41af7b9cb7147797a99bc3c95d18d7d30dbd8b0de0e78c78ecb30000000f
def SD : Nat := 0x096d41af7ccfdaa97fae231004ccf59067bb433d891a16e3fc9678ff0000000f
def NA : Value := NV PA 9 PA 0 0
def NB : Value := NV PB 11 PB 0 0
def NC : Value := NV PC 32 0 0x992d30ecffffffff SC
def ND : Value := NV PD 32 0 0x8c46eb20ffffffff SD
def N0 : Value := NV 0 0 0 0 0
theorem c_of0 : Contract Try.prog 79 [.val (.int .i64 0)] [.val NA, .val (.int .i64 0)] := by
  refine contract_of (N := _) (vars := _) (c := bodyOf Try.f79) Try.func79 (body_eq rfl) rfl rfl (by rfl) mixed _ _ trivial 1000 ?_
  simp only [bodyOf, Try.f79, Option.getD_some, argA, argE, List.length_cons, List.length_nil, Nat.reduceAdd, Nat.reduceSub, List.replicate, List.cons_append, List.nil_append]
  simp only [SX, simprocAttr, TYX, cellsE, foldE, foldN, cellsN, b_EN, cellsNV, foldNV, k32]
  refine X1 16513537 (by rfl) ?_
  simp only [SX, simprocAttr, TYX, cellsE, foldE, foldN, cellsN, b_EN, cellsNV, foldNV, k32]
  refine ExVC.build [(0, E4 16513537 0 0 0), (1, .int .i64 9), (2, u64 16513537)] NA _ (by rfl) (by kernel_rfl) rfl ?_
  unfold NA
  simp only [SX, simprocAttr, TYX, cellsE, foldE, foldN, cellsN, b_EN, cellsNV, foldNV, k32]
theorem c_of1 : Contract Try.prog 79 [.val (.int .i64 1)] [.val NB, .val (.int .i64 0)] := by
  refine contract_of (N := _) (vars := _) (c := bodyOf Try.f79) Try.func79 (body_eq rfl) rfl rfl (by rfl) mixed _ _ trivial 1000 ?_
  simp only [bodyOf, Try.f79, Option.getD_some, argA, argE, List.length_cons, List.length_nil, Nat.reduceAdd, Nat.reduceSub, List.replicate, List.cons_append, List.nil_append]
  simp only [SX, simprocAttr, TYX, cellsE, foldE, foldN, cellsN, b_EN, cellsNV, foldNV, k32]
  refine X1 16521217 (by rfl) ?_
  simp only [SX, simprocAttr, TYX, cellsE, foldE, foldN, cellsN, b_EN, cellsNV, foldNV, k32]
  refine ExVC.build [(0, E4 16521217 0 0 0), (1, .int .i64 11), (2, u64 16521217)] NB _ (by rfl) (by kernel_rfl) rfl ?_
  unfold NB
  simp only [SX, simprocAttr, TYX, cellsE, foldE, foldN, cellsN, b_EN, cellsNV, foldNV, k32]
theorem c_of2 : Contract Try.prog 79 [.val (.int .i64 2)] [.val NC, .val (.int .i64 0)] := by
  refine contract_of (N := _) (vars := _) (c := bodyOf Try.f79) Try.func79 (body_eq rfl) rfl rfl (by rfl) mixed _ _ trivial 1000 ?_
  simp only [bodyOf, Try.f79, Option.getD_some, argA, argE, List.length_cons, List.length_nil, Nat.reduceAdd, Nat.reduceSub, List.replicate, List.cons_append, List.nil_append]
  simp only [SX, simprocAttr, TYX, cellsE, foldE, foldN, cellsN, b_EN, cellsNV, foldNV, k32]
  refine X4 11037532056220336129 2469829653914515739 0 4611686018427387904 (by rfl) (by rfl) (by rfl) (by rfl) ?_
  simp only [SX, simprocAttr, TYX, cellsE, foldE, foldN, cellsN, b_EN, cellsNV, foldNV, k32]
  refine X4 10122100416058490895 15551789045973377255 8617542898466512152 679271340751763220 (by rfl) (by rfl) (by rfl) (by rfl) ?_
  simp only [SX, simprocAttr, TYX, cellsE, foldE, foldN, cellsN, b_EN, cellsNV, foldNV, k32]
  refine ExVC.build [(0, E4 11037532056220336129 2469829653914515739 0 4611686018427387904), (1, .int .i64 32), (3, u64 11037532056220336127), (4, E4 10122100416058490895 15551789045973377255 8617542898466512152 679271340751763220)] NC _ (by rfl) (by kernel_rfl) rfl ?_
  unfold NC
  simp only [SX, simprocAttr, TYX, cellsE, foldE, foldN, cellsN, b_EN, cellsNV, foldNV, k32]
theorem c_of3 : Contract Try.prog 79 [.val (.int .i64 3)] [.val ND, .val (.int .i64 0)] := by
  refine contract_of (N := _) (vars := _) (c := bodyOf Try.f79) Try.func79 (body_eq rfl) rfl rfl (by rfl) mixed _ _ trivial 1000 ?_
  simp only [bodyOf, Try.f79, Option.getD_some, argA, argE, List.length_cons, List.length_nil, Nat.reduceAdd, Nat.reduceSub, List.replicate, List.cons_append, List.nil_append]
  simp only [SX, simprocAttr, TYX, cellsE, foldE, foldN, cellsN, b_EN, cellsNV, foldNV, k32]
  refine X4 10108024940646105089 2469829653919213789 0 4611686018427387904 (by rfl) (by rfl) (by rfl) (by rfl) ?_
  simp only [SX, simprocAttr, TYX, cellsE, foldE, foldN, cellsN, b_EN, cellsNV, foldNV, k32]
  refine X4 18200867980676431887 7474641938123724515 9200329640471491984 679271340771891881 (by rfl) (by rfl) (by rfl) (by rfl) ?_
  simp only [SX, simprocAttr, TYX, cellsE, foldE, foldN, cellsN, b_EN, cellsNV, foldNV, k32]
  refine ExVC.build [(0, E4 10108024940646105089 2469829653919213789 0 4611686018427387904), (1, .int .i64 32), (3, u64 10108024940646105087), (4, E4 18200867980676431887 7474641938123724515 9200329640471491984 679271340771891881)] ND _ (by rfl) (by kernel_rfl) rfl ?_
  unfold ND
  simp only [SX, simprocAttr, TYX, cellsE, foldE, foldN, cellsN, b_EN, cellsNV, foldNV, k32]
theorem c_of9 (s : Int) (h0 : (s == 0) = false) (h1 : (s == 1) = false) (h2 : (s == 2) = false) (h3 : (s == 3) = false) : Contract Try.prog 79 [.val (.int .i64 s)] [.val N0, .val (.int .i64 20)] := by
  refine contract_of (N := _) (vars := _) (c := bodyOf Try.f79) Try.func79 (body_eq rfl) rfl rfl (by rfl) mixed _ _ trivial 1000 ?_
  simp only [bodyOf, Try.f79, Option.getD_some, argA, argE, List.length_cons, List.length_nil, Nat.reduceAdd, Nat.reduceSub, List.replicate, List.cons_append, List.nil_append]
  simp only [SX, simprocAttr, TYX, cellsE, foldE, foldN, cellsN, b_EN, cellsNV, foldNV, k32]
  simp only [SX, simprocAttr, TYX, cellsE, foldE, foldN, cellsN, b_EN, cellsNV, foldNV, k32, h0, h1, h2, h3]
  refine ExVC.build [] N0 _ (by rfl) (by kernel_rfl) rfl ?_
  unfold N0
  simp only [SX, simprocAttr, TYX, cellsE, foldE, foldN, cellsN, b_EN, cellsNV, foldNV, k32]
/-- bits.Mul64 -/
theorem c_mul64 (a b : Nat) (ha : a < 18446744073709551616) (hb : b < 18446744073709551616) : Contract Try.prog 134 [.val (u64 a), .val (u64 b)] [.val (u64 (a * b / 18446744073709551616)), .val (u64 (a * b % 18446744073709551616))] := by
  refine contract_of (N := _) (vars := _) (c := bodyOf Try.f134) Try.func134 (body_eq rfl) rfl rfl (by rfl) mixed _ _ trivial 1000 ?_
  simp only [bodyOf, Try.f134, Option.getD_some, argA, argE, List.length_cons, List.length_nil, Nat.reduceAdd, Nat.reduceSub, List.replicate, List.cons_append, List.nil_append]
  simp only [SX, simprocAttr, TYX, cellsE, foldE, foldN, cellsN, b_EN, cellsNV, foldNV, k32]
  simp only [uadd_eq, umul_eq, ushr_eq, sh_32, and_true]
  have h := mul64_arith a b (by omega) (by omega) (by omega) (by omega)
  refine congrArg u64 (Int.ofNat_inj.mp ?_)
  simp only [Int.natCast_add, Int.natCast_emod, Int.natCast_ediv, Int.natCast_mul, Int.cast_ofNat_Int]
  exact h
/-- half -/
theorem c_half4 (a b c d : Nat) : Contract Try.prog 123 [.val (E4 a b c d)] [.val (E4 (uor (ushr a 1) (ushl b 63)) (uor (ushr b 1) (ushl c 63)) (uor (ushr c 1) (ushl d 63)) (ushr d 1))] := by
  refine contract_of (N := _) (vars := _) (c := bodyOf Try.f123) Try.func123 (body_eq rfl) rfl rfl (by rfl) mixed _ _ trivial 1000 ?_
  simp only [bodyOf, Try.f123, Option.getD_some, argA, argE, List.length_cons, List.length_nil, Nat.reduceAdd, Nat.reduceSub, List.replicate, List.cons_append, List.nil_append]
  simp only [SX, simprocAttr, TYX, cellsE, foldE, foldN, cellsN, b_EN, cellsNV, foldNV, k32]
  refine X4 _ _ _ _ (by rfl) (by rfl) (by rfl) (by rfl) ?_
  simp only [SX, simprocAttr, TYX, cellsE, foldE, foldN, cellsN, b_EN, cellsNV, foldNV, k32]
theorem half_limb (a b : Nat) (ha : a < 18446744073709551616) : uor (ushr a 1) (ushl b 63) = a / 2 + b % 2 * 9223372036854775808 := by
  rw [ushr_eq, ushl_eq, sh_1, sh_63]
  have : b * 9223372036854775808 % 18446744073709551616 = b % 2 * 9223372036854775808 := by omega
  rw [this]
  exact (uor_addK (a / 2) (b % 2 * 9223372036854775808) 63 9223372036854775808 (by decide) (by omega) (Nat.dvd_mul_left _ _) (by omega)).1
theorem c_half (a : Nat) (ha : a < W256) : Contract Try.prog 123 [.val (EN a)] [.val (EN (a / 2))] := by
  have h := c_half4 (L0 a) (L1 a) (L2 a) (L3 a)
  rw [half_limb _ _ (L0_lt a), half_limb _ _ (L1_lt a), half_limb _ _ (L2_lt a), ushr_eq, sh_1] at h
  have hs := L_sum ha
  have h0 := L0_lt a
  have h1 := L1_lt a
  have h2 := L2_lt a
  have h3 := L3_lt a
  rw [EN_E4 a]
  generalize L0 a = x0 at *
  generalize L1 a = x1 at *
  generalize L2 a = x2 at *
  generalize L3 a = x3 at *
  rw [E4_EN (a := x0 / 2 + x1 % 2 * 9223372036854775808) (by omega) (by omega) (by omega) (by omega)] at h
  have e : a / 2 = x0 / 2 + x1 % 2 * 9223372036854775808 + 18446744073709551616 * (x1 / 2 + x2 % 2 * 9223372036854775808) + 340282366920938463463374607431768211456 * (x2 / 2 + x3 % 2 * 9223372036854775808) + 6277101735386680763835789423207666416102355444464034512896 * (x3 / 2) := by omega
  rw [e]
  exact h
end Go.Sx
namespace Go.Sx
open Go.Proofs
-- TY: TYX, cellsE, foldE, foldN, cellsN, b_EN, cellsNV, foldNV, k32, k33, k16, k8, kA, kB, ud22, it8, it63, it3, ud3, ud5, unu8, wr16, wr8, wr32, wr24, kz, Int.reduceAdd, Int.reduceMod, Int.reduceSub, Int.cast_ofNat_Int
set_option maxRecDepth 100000
set_option linter.unusedSimpArgs false
set_option pp.deepTerms false
set_option pp.deepTerms.threshold 3
theorem k33 : Value.int .u64 4294967296 = u64 4294967296 := rfl
theorem k16 : Value.int .u64 65536 = u64 65536 := rfl
theorem k8 : Value.int .u64 256 = u64 256 := rfl
theorem kz : Value.int .u64 64 = u64 64 := rfl
theorem kA : Value.int .u64 16513537 = u64 16513537 := rfl
theorem kB : Value.int .u64 16521217 = u64 16521217 := rfl
theorem ud22 : Try.prog.underlying 23 = some (.int .u64) := by kernel_rfl
theorem ud3 : Try.prog.underlying 3 = some (.int .i64) := by kernel_rfl
theorem ud5 : Try.prog.underlying 5 = some (.int .u8) := by kernel_rfl
theorem it8 : intT Try.prog 5 = some .u8 := by kernel_rfl
theorem it3 : intT Try.prog 3 = some .i64 := by kernel_rfl
theorem it63 : intT Try.prog 52 = some .u64 := by kernel_rfl
theorem unu8 : ∀ n : Nat, (n : Int) % 256 = ((n % 256 : Nat) : Int) := by intro n; simp
theorem wr16 : IntKind.i64.wrap 16 = 16 := by decide
theorem wr8 : IntKind.i64.wrap 8 = 8 := by decide
theorem wr32 : IntKind.i64.wrap 32 = 32 := by decide
theorem wr24 : IntKind.i64.wrap 24 = 24 := by decide
theorem wr40 : IntKind.i64.wrap 40 = 40 := by decide
theorem c_len64A : Contract Try.prog 135 [.val (u64 16513537)] [.val (.int .i64 24)] := by
  have e1 : ushr 16513537 16 = 251 := by rw [ushr_eq]; rfl
  refine contract_of (N := _) (vars := _) (c := bodyOf Try.f135) Try.func135 (body_eq rfl) rfl rfl (by rfl) mixed _ _ trivial 1000 ?_
  simp only [bodyOf, Try.f135, Option.getD_some, argA, argE, List.length_cons, List.length_nil, Nat.reduceAdd, Nat.reduceSub, List.replicate, List.cons_append, List.nil_append]
  simp only [SX, simprocAttr, TYX, cellsE, foldE, foldN, cellsN, b_EN, cellsNV, foldNV, k32, k33, k16, k8, kA, kB, ud22, it8, it63, it3, ud3, ud5, unu8, wr16, wr8, wr32, wr24, kz, Int.reduceAdd, Int.reduceMod, Int.reduceSub, Int.cast_ofNat_Int]
  simp only [SX, simprocAttr, TYX, cellsE, foldE, foldN, cellsN, b_EN, cellsNV, foldNV, k32, k33, k16, k8, kA, kB, ud22, it8, it63, it3, ud3, ud5, unu8, wr16, wr8, wr32, wr24, kz, Int.reduceAdd, Int.reduceMod, Int.reduceSub, Int.cast_ofNat_Int, e1]
  refine ExVC.intro (.int .u8 8) (indexString (b := 8) (by kernel_rfl) (by rfl) (by rfl) (by decide) (by kernel_rfl)) ?_
  simp only [SX, simprocAttr, TYX, cellsE, foldE, foldN, cellsN, b_EN, cellsNV, foldNV, k32, k33, k16, k8, kA, kB, ud22, it8, it63, it3, ud3, ud5, unu8, wr16, wr8, wr32, wr24, kz, Int.reduceAdd, Int.reduceMod, Int.reduceSub, Int.cast_ofNat_Int, wr24]
theorem c_len64B : Contract Try.prog 135 [.val (u64 16521217)] [.val (.int .i64 24)] := by
  have e1 : ushr 16521217 16 = 252 := by rw [ushr_eq]; rfl
  refine contract_of (N := _) (vars := _) (c := bodyOf Try.f135) Try.func135 (body_eq rfl) rfl rfl (by rfl) mixed _ _ trivial 1000 ?_
  simp only [bodyOf, Try.f135, Option.getD_some, argA, argE, List.length_cons, List.length_nil, Nat.reduceAdd, Nat.reduceSub, List.replicate, List.cons_append, List.nil_append]
  simp only [SX, simprocAttr, TYX, cellsE, foldE, foldN, cellsN, b_EN, cellsNV, foldNV, k32, k33, k16, k8, kA, kB, ud22, it8, it63, it3, ud3, ud5, unu8, wr16, wr8, wr32, wr24, kz, Int.reduceAdd, Int.reduceMod, Int.reduceSub, Int.cast_ofNat_Int]
  simp only [SX, simprocAttr, TYX, cellsE, foldE, foldN, cellsN, b_EN, cellsNV, foldNV, k32, k33, k16, k8, kA, kB, ud22, it8, it63, it3, ud3, ud5, unu8, wr16, wr8, wr32, wr24, kz, Int.reduceAdd, Int.reduceMod, Int.reduceSub, Int.cast_ofNat_Int, e1]
  refine ExVC.intro (.int .u8 8) (indexString (b := 8) (by kernel_rfl) (by rfl) (by rfl) (by decide) (by kernel_rfl)) ?_
  simp only [SX, simprocAttr, TYX, cellsE, foldE, foldN, cellsN, b_EN, cellsNV, foldNV, k32, k33, k16, k8, kA, kB, ud22, it8, it63, it3, ud3, ud5, unu8, wr16, wr8, wr32, wr24, kz, Int.reduceAdd, Int.reduceMod, Int.reduceSub, Int.cast_ofNat_Int, wr24]
theorem c_lz64A : Contract Try.prog 133 [.val (u64 16513537)] [.val (.int .i64 40)] := by
  refine contract_of (N := _) (vars := _) (c := bodyOf Try.f133) Try.func133 (body_eq rfl) rfl rfl (by rfl) mixed _ _ trivial 1000 ?_
  simp only [bodyOf, Try.f133, Option.getD_some, argA, argE, List.length_cons, List.length_nil, Nat.reduceAdd, Nat.reduceSub, List.replicate, List.cons_append, List.nil_append]
  simp only [SX, simprocAttr, TYX, cellsE, foldE, foldN, cellsN, b_EN, cellsNV, foldNV, k32, k33, k16, k8, kA, kB, ud22, it8, it63, it3, ud3, ud5, unu8, wr16, wr8, wr32, wr24, kz, Int.reduceAdd, Int.reduceMod, Int.reduceSub, Int.cast_ofNat_Int]
  refine CallVC.intro c_len64A ⟨rfl, trivial⟩ rfl rfl ?_
  simp only [SX, simprocAttr, TYX, cellsE, foldE, foldN, cellsN, b_EN, cellsNV, foldNV, k32, k33, k16, k8, kA, kB, ud22, it8, it63, it3, ud3, ud5, unu8, wr16, wr8, wr32, wr24, kz, Int.reduceAdd, Int.reduceMod, Int.reduceSub, Int.cast_ofNat_Int, wr40]
theorem c_lz64B : Contract Try.prog 133 [.val (u64 16521217)] [.val (.int .i64 40)] := by
  refine contract_of (N := _) (vars := _) (c := bodyOf Try.f133) Try.func133 (body_eq rfl) rfl rfl (by rfl) mixed _ _ trivial 1000 ?_
  simp only [bodyOf, Try.f133, Option.getD_some, argA, argE, List.length_cons, List.length_nil, Nat.reduceAdd, Nat.reduceSub, List.replicate, List.cons_append, List.nil_append]
  simp only [SX, simprocAttr, TYX, cellsE, foldE, foldN, cellsN, b_EN, cellsNV, foldNV, k32, k33, k16, k8, kA, kB, ud22, it8, it63, it3, ud3, ud5, unu8, wr16, wr8, wr32, wr24, kz, Int.reduceAdd, Int.reduceMod, Int.reduceSub, Int.cast_ofNat_Int]
  refine CallVC.intro c_len64B ⟨rfl, trivial⟩ rfl rfl ?_
  simp only [SX, simprocAttr, TYX, cellsE, foldE, foldN, cellsN, b_EN, cellsNV, foldNV, k32, k33, k16, k8, kA, kB, ud22, it8, it63, it3, ud3, ud5, unu8, wr16, wr8, wr32, wr24, kz, Int.reduceAdd, Int.reduceMod, Int.reduceSub, Int.cast_ofNat_Int, wr40]
theorem us24 : usub 64 40 = 24 := by rw [usub_eq]
theorem dv1 (lo u1 : Nat) (hu : u1 = lo * 1099511627776 % 18446744073709551616 / 4294967296) : u1 = lo % 16777216 * 256 ∧ lo * 1099511627776 % 18446744073709551616 % 4294967296 = 0 := by
  have a1 : lo * 1099511627776 % 18446744073709551616 = lo % 16777216 * 1099511627776 := by omega
  rw [a1] at hu ⊢
  omega
theorem dv2 (hi lo V X u1 : Nat) (hV : V = hi * 18446744073709551616 + lo) (hX : X = hi * 1099511627776 + lo / 16777216) (hu : u1 = lo % 16777216 * 256) : V = X * 16777216 + u1 / 256 := by
  have : u1 / 256 = lo % 16777216 := by omega
  rw [this, hV, hX, Nat.add_mul]
  clear this hV hX hu
  omega
theorem wsub (S U : Nat) (h : U < 18446744073709551616) : ((S + U) % 18446744073709551616 + (18446744073709551616 - S % 18446744073709551616)) % 18446744073709551616 = U := by omega
theorem dv3 (X u1 q1 r1 U : Nat)  (hq : X = 4227465472 * q1 + r1) (hr : r1 < 4227465472) (hu1 : u1 < 4294967296) (hU : U = r1 * 4294967296 + u1) :
   usub (uadd (umul X 4294967296) u1) (umul q1 18156825947209203712) = U := by 
  have h2 : U < 18446744073709551616 := by omega
  have h1 : X * 4294967296 + u1 = q1 * 18156825947209203712 + U := by
    rw [hq, hU, Nat.add_mul]; clear hq hU h2; omega
  have h3 : (X * 4294967296 % 18446744073709551616 + u1) % 18446744073709551616 = (q1 * 18156825947209203712 + U) % 18446744073709551616 := by rw [Nat.mod_add_mod, h1]
  rw [usub_eq, uadd_eq, umul_eq, umul_eq, h3, Nat.mod_mod]
  exact wsub _ _ h2
theorem dv4 (U q0 r0 : Nat)  (hq : U = 4227465472 * q0 + r0) (hr : r0 < 4227465472)  :
   usub (uadd (umul U 4294967296) 0) (umul q0 18156825947209203712) = r0 * 4294967296 := by 
  have h1 : U * 4294967296 = q0 * 18156825947209203712 + r0 * 4294967296 := by
    rw [hq, Nat.add_mul]; clear hq hr; omega
  have h2 : r0 * 4294967296 < 18446744073709551616 := by omega
  rw [usub_eq, uadd_eq, umul_eq, umul_eq, Nat.add_zero, h1, Nat.mod_mod, Nat.mod_mod]
  exact wsub _ _ h2
theorem dv6 (q1 q0 r0 : Nat): 4227465472 * q1 * 4294967296 + (4227465472 * q0 + r0) = 4227465472 * (q1*4294967296+q0) + r0 := by omega
theorem dv5 (V X u1 q1 r1 U q0 r0 : Nat) (hV : V = X * 16777216 + u1 / 256) (hu1 : u1 % 256 = 0)  (hq : X = 4227465472 * q1 + r1) (hU : U = r1 * 4294967296 + u1) (hp : U = 4227465472 * q0 + r0) (hr : r0 < 4227465472) :
    V = 16513537 * (q1 * 4294967296 + q0) + r0 * 4294967296 / 1099511627776 ∧ r0 * 4294967296 / 1099511627776 < 16513537 := by
  have e1 : V * 256 = X * 4294967296 + u1 := by omega
  have e2 : X * 4294967296 + u1 = 4227465472 * q1 * 4294967296 + U := by rw [hq, hU, Nat.add_mul, Nat.add_assoc]
  have e3 : V * 256 = 4227465472 * (q1 * 4294967296 + q0) + r0 := by rw [e1, e2, hp]; exact dv6 q1 q0 r0
  have e4 : r0 * 4294967296 / 1099511627776 = r0 / 256 := by clear e1 e2 e3 hq hU hp hV; omega
  rw [e4]
  clear e1 e2 e4 hq hU hp hV hu1
  generalize q1 * 4294967296 + q0 = S at *
  omega
theorem c_div64A (hi lo V : Nat) (hh : hi < 16513537) (hl : lo < 18446744073709551616) (hV : V = hi * 18446744073709551616 + lo) : Contract Try.prog 127 [.val (u64 hi), .val (u64 lo), .val (u64 16513537)] [.val (u64 (V / 16513537)), .val (u64 (V % 16513537))] := by
  obtain ⟨X, hX⟩ : ∃ X, X = hi * 1099511627776 + lo / 16777216 := ⟨_, rfl⟩
  obtain ⟨u1, hu⟩ : ∃ u1, u1 = lo * 1099511627776 % 18446744073709551616 / 4294967296 := ⟨_, rfl⟩
  obtain ⟨hu', hu0⟩ := dv1 lo u1 hu
  have hx : uor (ushl hi 40) (ushr lo 24) = X := by
    rw [ushl_eq, ushr_eq, sh_40, sh_24, hX, Nat.mod_eq_of_lt (by omega), Nat.add_comm (hi * 1099511627776)]
    exact (uor_addK (lo / 16777216) (hi * 1099511627776) 40 1099511627776 (by decide) (by omega) (Nat.dvd_mul_left _ _) (by omega)).2
  have hw : ushl lo 40 % 4294967296 = 0 := by rw [ushl_eq, sh_40]; exact hu0
  have hw1 : ushr (ushl lo 40) 32 = u1 := by rw [ushr_eq, ushl_eq, sh_40, sh_32, hu]
  have hX1 : X < 4227465472 * 4294967296 := by clear hu hu' hu0 hx hV; omega
  have hu1 : u1 < 4294967296 ∧ u1 % 256 = 0 := by clear hu0 hx hV hX; omega
  have hv := dv2 hi lo V X u1 hV hX hu'
  have g1 : decide (16513537 ≤ hi) = false := by simp; omega
  have hV0 : hi = 0 → V = lo := by rintro rfl; omega
  clear hV hX hh hu'
  obtain ⟨q1, r1, hq, hr1⟩ : ∃ q1 r1, X = 4227465472 * q1 + r1 ∧ r1 < 4227465472 := ⟨X / 4227465472, X % 4227465472, (Nat.div_add_mod _ _).symm, Nat.mod_lt _ (by decide)⟩
  have hqd : X / 4227465472 = q1 := by rw [hq, Nat.mul_add_div (by decide), Nat.div_eq_of_lt hr1, Nat.add_zero]
  have hq2 : q1 < 4294967296 := by rw [← hqd]; exact Nat.div_lt_of_lt_mul hX1
  have hqe : uquo X 4227465472 = q1 := by rw [uquo_eq, hqd, Nat.mod_eq_of_lt (by omega)]
  have hq1 : decide (4294967296 ≤ q1) = false := by simp; omega
  obtain ⟨U, hU⟩ : ∃ U, U = r1 * 4294967296 + u1 := ⟨_, rfl⟩
  have hUe := dv3 X u1 q1 r1 U hq hr1 hu1.1 hU
  have hU1 : U < 4227465472 * 4294967296 := by clear hq hqe hUe hqd hv hu hu0 hx; omega
  obtain ⟨q0, r0, hp, hr0⟩ : ∃ q0 r0, U = 4227465472 * q0 + r0 ∧ r0 < 4227465472 := ⟨U / 4227465472, U % 4227465472, (Nat.div_add_mod _ _).symm, Nat.mod_lt _ (by decide)⟩
  have hpd : U / 4227465472 = q0 := by rw [hp, Nat.mul_add_div (by decide), Nat.div_eq_of_lt hr0, Nat.add_zero]
  have hp2 : q0 < 4294967296 := by rw [← hpd]; exact Nat.div_lt_of_lt_mul hU1
  have hpe : uquo U 4227465472 = q0 := by rw [uquo_eq, hpd, Nat.mod_eq_of_lt (by omega)]
  have hp1 : decide (4294967296 ≤ q0) = false := by simp; omega
  have h4 := dv4 U q0 r0 hp hr0
  obtain ⟨h5, h6⟩ := dv5 V X u1 q1 r1 U q0 r0 hv hu1.2 hq hU hp hr0
  have f1 : uadd (umul q1 4294967296) q0 = V / 16513537 := by
    rw [uadd_eq, umul_eq, h5, Nat.mul_add_div (by decide), Nat.div_eq_of_lt h6, Nat.add_zero]; clear h5 h6 h4 hp hpe hUe hU hq hqe hqd hpd hv hx hu0 hu; omega
  have f2 : ushr (r0 * 4294967296) 40 = V % 16513537 := by
    rw [ushr_eq, sh_40, h5, Nat.mul_add_mod, Nat.mod_eq_of_lt h6]
  have e1 : ushl 16513537 40 = 18156825947209203712 := by rw [ushl_eq]; rfl
  have e2 : ushr 18156825947209203712 32 = 4227465472 := by rw [ushr_eq]; rfl
  have f3 : hi = 0 → uquo lo 16513537 = V / 16513537 ∧ urem lo 16513537 = V % 16513537 := by
    intro h; rw [hV0 h, uquo_eq, urem_eq, Nat.mod_eq_of_lt]
    · exact ⟨rfl, rfl⟩
    · exact Nat.lt_of_le_of_lt (Nat.div_le_self _ _) hl
  clear h5 h6 hp hU hq hqd hpd hv hr0 hr1 hX1 hu1 hU1 hq2 hp2 hV0 hu hu0
  refine contract_of (N := _) (vars := _) (c := bodyOf Try.f127) Try.func127 (body_eq rfl) rfl rfl (by rfl) mixed _ _ trivial 1000 ?_
  simp only [bodyOf, Try.f127, Option.getD_some, argA, argE, List.length_cons, List.length_nil, Nat.reduceAdd, Nat.reduceSub, List.replicate, List.cons_append, List.nil_append]
  simp only [SX, simprocAttr, TYX, cellsE, foldE, foldN, cellsN, b_EN, cellsNV, foldNV, k32, k33, k16, k8, kA, kB, ud22, it8, it63, it3, ud3, ud5, unu8, wr16, wr8, wr32, wr24, kz, Int.reduceAdd, Int.reduceMod, Int.reduceSub, Int.cast_ofNat_Int]
  simp only [SX, simprocAttr, TYX, cellsE, foldE, foldN, cellsN, b_EN, cellsNV, foldNV, k32, k33, k16, k8, kA, kB, ud22, it8, it63, it3, ud3, ud5, unu8, wr16, wr8, wr32, wr24, kz, Int.reduceAdd, Int.reduceMod, Int.reduceSub, Int.cast_ofNat_Int, g1]
  refine cond_split (fun h0 => ?_) (fun h0 => ?_)
  · have h0 : hi = 0 := by simpa using h0
    obtain ⟨f4, f5⟩ := f3 h0
    simp only [SX, simprocAttr, TYX, cellsE, foldE, foldN, cellsN, b_EN, cellsNV, foldNV, k32, k33, k16, k8, kA, kB, ud22, it8, it63, it3, ud3, ud5, unu8, wr16, wr8, wr32, wr24, kz, Int.reduceAdd, Int.reduceMod, Int.reduceSub, Int.cast_ofNat_Int, f4, f5]
    exact DrawVC.intro (by kernel_rfl) trivial
  · simp only [SX, simprocAttr, TYX, cellsE, foldE, foldN, cellsN, b_EN, cellsNV, foldNV, k32, k33, k16, k8, kA, kB, ud22, it8, it63, it3, ud3, ud5, unu8, wr16, wr8, wr32, wr24, kz, Int.reduceAdd, Int.reduceMod, Int.reduceSub, Int.cast_ofNat_Int]
    refine CallVC.intro c_lz64A ⟨rfl, trivial⟩ rfl rfl ?_
    simp only [SX, simprocAttr, TYX, cellsE, foldE, foldN, cellsN, b_EN, cellsNV, foldNV, k32, k33, k16, k8, kA, kB, ud22, it8, it63, it3, ud3, ud5, unu8, wr16, wr8, wr32, wr24, kz, Int.reduceAdd, Int.reduceMod, Int.reduceSub, Int.cast_ofNat_Int, us24, e1, e2, hx, hw, hw1, hqe, hUe, hpe]
    refine loop_rounds 1 ?_
    refine RoundsVC.step mixed trivial 1000 ?_
    simp only [SX, simprocAttr, TYX, cellsE, foldE, foldN, cellsN, b_EN, cellsNV, foldNV, k32, k33, k16, k8, kA, kB, ud22, it8, it63, it3, ud3, ud5, unu8, wr16, wr8, wr32, wr24, kz, Int.reduceAdd, Int.reduceMod, Int.reduceSub, Int.cast_ofNat_Int, hq1, hUe, hpe]
    refine loop_rounds 1 ?_
    refine RoundsVC.step mixed trivial 1000 ?_
    simp only [SX, simprocAttr, TYX, cellsE, foldE, foldN, cellsN, b_EN, cellsNV, foldNV, k32, k33, k16, k8, kA, kB, ud22, it8, it63, it3, ud3, ud5, unu8, wr16, wr8, wr32, wr24, kz, Int.reduceAdd, Int.reduceMod, Int.reduceSub, Int.cast_ofNat_Int, hp1, f1, h4, f2]
theorem dv3b (X u1 q1 r1 U : Nat)  (hq : X = 4229431552 * q1 + r1) (hr : r1 < 4229431552) (hu1 : u1 < 4294967296) (hU : U = r1 * 4294967296 + u1) :
   usub (uadd (umul X 4294967296) u1) (umul q1 18165270196510523392) = U := by 
  have h2 : U < 18446744073709551616 := by omega
  have h1 : X * 4294967296 + u1 = q1 * 18165270196510523392 + U := by
    rw [hq, hU, Nat.add_mul]; clear hq hU h2; omega
  have h3 : (X * 4294967296 % 18446744073709551616 + u1) % 18446744073709551616 = (q1 * 18165270196510523392 + U) % 18446744073709551616 := by rw [Nat.mod_add_mod, h1]
  rw [usub_eq, uadd_eq, umul_eq, umul_eq, h3, Nat.mod_mod]
  exact wsub _ _ h2
theorem dv4b (U q0 r0 : Nat)  (hq : U = 4229431552 * q0 + r0) (hr : r0 < 4229431552)  :
   usub (uadd (umul U 4294967296) 0) (umul q0 18165270196510523392) = r0 * 4294967296 := by 
  have h1 : U * 4294967296 = q0 * 18165270196510523392 + r0 * 4294967296 := by
    rw [hq, Nat.add_mul]; clear hq hr; omega
  have h2 : r0 * 4294967296 < 18446744073709551616 := by omega
  rw [usub_eq, uadd_eq, umul_eq, umul_eq, Nat.add_zero, h1, Nat.mod_mod, Nat.mod_mod]
  exact wsub _ _ h2
theorem dv6b (q1 q0 r0 : Nat): 4229431552 * q1 * 4294967296 + (4229431552 * q0 + r0) = 4229431552 * (q1*4294967296+q0) + r0 := by omega
theorem dv5b (V X u1 q1 r1 U q0 r0 : Nat) (hV : V = X * 16777216 + u1 / 256) (hu1 : u1 % 256 = 0)  (hq : X = 4229431552 * q1 + r1) (hU : U = r1 * 4294967296 + u1) (hp : U = 4229431552 * q0 + r0) (hr : r0 < 4229431552) :
    V = 16521217 * (q1 * 4294967296 + q0) + r0 * 4294967296 / 1099511627776 ∧ r0 * 4294967296 / 1099511627776 < 16521217 := by
  have e1 : V * 256 = X * 4294967296 + u1 := by omega
  have e2 : X * 4294967296 + u1 = 4229431552 * q1 * 4294967296 + U := by rw [hq, hU, Nat.add_mul, Nat.add_assoc]
  have e3 : V * 256 = 4229431552 * (q1 * 4294967296 + q0) + r0 := by rw [e1, e2, hp]; exact dv6b q1 q0 r0
  have e4 : r0 * 4294967296 / 1099511627776 = r0 / 256 := by clear e1 e2 e3 hq hU hp hV; omega
  rw [e4]
  clear e1 e2 e4 hq hU hp hV hu1
  generalize q1 * 4294967296 + q0 = S at *
  omega
theorem c_div64B (hi lo V : Nat) (hh : hi < 16521217) (hl : lo < 18446744073709551616) (hV : V = hi * 18446744073709551616 + lo) : Contract Try.prog 127 [.val (u64 hi), .val (u64 lo), .val (u64 16521217)] [.val (u64 (V / 16521217)), .val (u64 (V % 16521217))] := by
  obtain ⟨X, hX⟩ : ∃ X, X = hi * 1099511627776 + lo / 16777216 := ⟨_, rfl⟩
  obtain ⟨u1, hu⟩ : ∃ u1, u1 = lo * 1099511627776 % 18446744073709551616 / 4294967296 := ⟨_, rfl⟩
  obtain ⟨hu', hu0⟩ := dv1 lo u1 hu
  have hx : uor (ushl hi 40) (ushr lo 24) = X := by
    rw [ushl_eq, ushr_eq, sh_40, sh_24, hX, Nat.mod_eq_of_lt (by omega), Nat.add_comm (hi * 1099511627776)]
    exact (uor_addK (lo / 16777216) (hi * 1099511627776) 40 1099511627776 (by decide) (by omega) (Nat.dvd_mul_left _ _) (by omega)).2
  have hw : ushl lo 40 % 4294967296 = 0 := by rw [ushl_eq, sh_40]; exact hu0
  have hw1 : ushr (ushl lo 40) 32 = u1 := by rw [ushr_eq, ushl_eq, sh_40, sh_32, hu]
  have hX1 : X < 4229431552 * 4294967296 := by clear hu hu' hu0 hx hV; omega
  have hu1 : u1 < 4294967296 ∧ u1 % 256 = 0 := by clear hu0 hx hV hX; omega
  have hv := dv2 hi lo V X u1 hV hX hu'
  have g1 : decide (16521217 ≤ hi) = false := by simp; omega
  have hV0 : hi = 0 → V = lo := by rintro rfl; omega
  clear hV hX hh hu'
  obtain ⟨q1, r1, hq, hr1⟩ : ∃ q1 r1, X = 4229431552 * q1 + r1 ∧ r1 < 4229431552 := ⟨X / 4229431552, X % 4229431552, (Nat.div_add_mod _ _).symm, Nat.mod_lt _ (by decide)⟩
  have hqd : X / 4229431552 = q1 := by rw [hq, Nat.mul_add_div (by decide), Nat.div_eq_of_lt hr1, Nat.add_zero]
  have hq2 : q1 < 4294967296 := by rw [← hqd]; exact Nat.div_lt_of_lt_mul hX1
  have hqe : uquo X 4229431552 = q1 := by rw [uquo_eq, hqd, Nat.mod_eq_of_lt (by omega)]
  have hq1 : decide (4294967296 ≤ q1) = false := by simp; omega
  obtain ⟨U, hU⟩ : ∃ U, U = r1 * 4294967296 + u1 := ⟨_, rfl⟩
  have hUe := dv3b X u1 q1 r1 U hq hr1 hu1.1 hU
  have hU1 : U < 4229431552 * 4294967296 := by clear hq hqe hUe hqd hv hu hu0 hx; omega
  obtain ⟨q0, r0, hp, hr0⟩ : ∃ q0 r0, U = 4229431552 * q0 + r0 ∧ r0 < 4229431552 := ⟨U / 4229431552, U % 4229431552, (Nat.div_add_mod _ _).symm, Nat.mod_lt _ (by decide)⟩
  have hpd : U / 4229431552 = q0 := by rw [hp, Nat.mul_add_div (by decide), Nat.div_eq_of_lt hr0, Nat.add_zero]
  have hp2 : q0 < 4294967296 := by rw [← hpd]; exact Nat.div_lt_of_lt_mul hU1
  have hpe : uquo U 4229431552 = q0 := by rw [uquo_eq, hpd, Nat.mod_eq_of_lt (by omega)]
  have hp1 : decide (4294967296 ≤ q0) = false := by simp; omega
  have h4 := dv4b U q0 r0 hp hr0
  obtain ⟨h5, h6⟩ := dv5b V X u1 q1 r1 U q0 r0 hv hu1.2 hq hU hp hr0
  have f1 : uadd (umul q1 4294967296) q0 = V / 16521217 := by
    rw [uadd_eq, umul_eq, h5, Nat.mul_add_div (by decide), Nat.div_eq_of_lt h6, Nat.add_zero]; clear h5 h6 h4 hp hpe hUe hU hq hqe hqd hpd hv hx hu0 hu; omega
  have f2 : ushr (r0 * 4294967296) 40 = V % 16521217 := by
    rw [ushr_eq, sh_40, h5, Nat.mul_add_mod, Nat.mod_eq_of_lt h6]
  have e1 : ushl 16521217 40 = 18165270196510523392 := by rw [ushl_eq]; rfl
  have e2 : ushr 18165270196510523392 32 = 4229431552 := by rw [ushr_eq]; rfl
  have f3 : hi = 0 → uquo lo 16521217 = V / 16521217 ∧ urem lo 16521217 = V % 16521217 := by
    intro h; rw [hV0 h, uquo_eq, urem_eq, Nat.mod_eq_of_lt]
    · exact ⟨rfl, rfl⟩
    · exact Nat.lt_of_le_of_lt (Nat.div_le_self _ _) hl
  clear h5 h6 hp hU hq hqd hpd hv hr0 hr1 hX1 hu1 hU1 hq2 hp2 hV0 hu hu0
  refine contract_of (N := _) (vars := _) (c := bodyOf Try.f127) Try.func127 (body_eq rfl) rfl rfl (by rfl) mixed _ _ trivial 1000 ?_
  simp only [bodyOf, Try.f127, Option.getD_some, argA, argE, List.length_cons, List.length_nil, Nat.reduceAdd, Nat.reduceSub, List.replicate, List.cons_append, List.nil_append]
  simp only [SX, simprocAttr, TYX, cellsE, foldE, foldN, cellsN, b_EN, cellsNV, foldNV, k32, k33, k16, k8, kA, kB, ud22, it8, it63, it3, ud3, ud5, unu8, wr16, wr8, wr32, wr24, kz, Int.reduceAdd, Int.reduceMod, Int.reduceSub, Int.cast_ofNat_Int]
  simp only [SX, simprocAttr, TYX, cellsE, foldE, foldN, cellsN, b_EN, cellsNV, foldNV, k32, k33, k16, k8, kA, kB, ud22, it8, it63, it3, ud3, ud5, unu8, wr16, wr8, wr32, wr24, kz, Int.reduceAdd, Int.reduceMod, Int.reduceSub, Int.cast_ofNat_Int, g1]
  refine cond_split (fun h0 => ?_) (fun h0 => ?_)
  · have h0 : hi = 0 := by simpa using h0
    obtain ⟨f4, f5⟩ := f3 h0
    simp only [SX, simprocAttr, TYX, cellsE, foldE, foldN, cellsN, b_EN, cellsNV, foldNV, k32, k33, k16, k8, kA, kB, ud22, it8, it63, it3, ud3, ud5, unu8, wr16, wr8, wr32, wr24, kz, Int.reduceAdd, Int.reduceMod, Int.reduceSub, Int.cast_ofNat_Int, f4, f5]
    exact DrawVC.intro (by kernel_rfl) trivial
  · simp only [SX, simprocAttr, TYX, cellsE, foldE, foldN, cellsN, b_EN, cellsNV, foldNV, k32, k33, k16, k8, kA, kB, ud22, it8, it63, it3, ud3, ud5, unu8, wr16, wr8, wr32, wr24, kz, Int.reduceAdd, Int.reduceMod, Int.reduceSub, Int.cast_ofNat_Int]
    refine CallVC.intro c_lz64B ⟨rfl, trivial⟩ rfl rfl ?_
    simp only [SX, simprocAttr, TYX, cellsE, foldE, foldN, cellsN, b_EN, cellsNV, foldNV, k32, k33, k16, k8, kA, kB, ud22, it8, it63, it3, ud3, ud5, unu8, wr16, wr8, wr32, wr24, kz, Int.reduceAdd, Int.reduceMod, Int.reduceSub, Int.cast_ofNat_Int, us24, e1, e2, hx, hw, hw1, hqe, hUe, hpe]
    refine loop_rounds 1 ?_
    refine RoundsVC.step mixed trivial 1000 ?_
    simp only [SX, simprocAttr, TYX, cellsE, foldE, foldN, cellsN, b_EN, cellsNV, foldNV, k32, k33, k16, k8, kA, kB, ud22, it8, it63, it3, ud3, ud5, unu8, wr16, wr8, wr32, wr24, kz, Int.reduceAdd, Int.reduceMod, Int.reduceSub, Int.cast_ofNat_Int, hq1, hUe, hpe]
    refine loop_rounds 1 ?_
    refine RoundsVC.step mixed trivial 1000 ?_
    simp only [SX, simprocAttr, TYX, cellsE, foldE, foldN, cellsN, b_EN, cellsNV, foldNV, k32, k33, k16, k8, kA, kB, ud22, it8, it63, it3, ud3, ud5, unu8, wr16, wr8, wr32, wr24, kz, Int.reduceAdd, Int.reduceMod, Int.reduceSub, Int.cast_ofNat_Int, hp1, f1, h4, f2]
end Go.Sx
namespace Go.Sx
open Go.Proofs
-- TY: TYX, cellsE, foldE, foldN, cellsN, b_EN, cellsNV, foldNV
set_option maxRecDepth 100000
set_option linter.unusedSimpArgs false
set_option pp.deepTerms false
set_option pp.deepTerms.threshold 3


theorem mod_step (x y c m : Nat) : ((x % m) * c + y) % m = (x * c + y) % m := by
  rw [Nat.add_mod, Nat.mul_mod, Nat.mod_mod, ← Nat.mul_mod, ← Nat.add_mod]
theorem c_reduceL (m : Nat) (ad : Int) (hm : 0 < m) (hm1 : m < 4294967296)
    (hdiv : ∀ hi lo V : Nat, hi < m → lo < 18446744073709551616 → V = hi * 18446744073709551616 + lo → Contract Try.prog 127 [.val (u64 hi), .val (u64 lo), .val (u64 m)] [.val (u64 (V / m)), .val (u64 (V % m))])
    (a : Nat) (ha : a < W256) : Contract Try.prog 116 [.val (NV m ad m 0 0), .val (EN a)] [.val (EN (a % m))] := by
  have hm0 : (m != 0) = true := by simp; omega
  have hmn : m ≠ 0 := by omega
  obtain ⟨a0, h0⟩ : ∃ x, L0 a = x := ⟨_, rfl⟩
  obtain ⟨a1, h1⟩ : ∃ x, L1 a = x := ⟨_, rfl⟩
  obtain ⟨a2, h2⟩ : ∃ x, L2 a = x := ⟨_, rfl⟩
  obtain ⟨a3, h3⟩ : ∃ x, L3 a = x := ⟨_, rfl⟩
  have hs := L_sum ha
  have l0 := L0_lt a
  have l1 := L1_lt a
  have l2 := L2_lt a
  have l3 := L3_lt a
  rw [EN_E4 a]
  rw [h0, h1, h2, h3] at *
  have hlt : ∀ x, x % m < 18446744073709551616 := fun x => Nat.lt_trans (Nat.mod_lt x hm) (by omega)
  have hml : ∀ x, x % m < m := fun x => Nat.mod_lt x hm
  clear h0 h1 h2 h3
  refine contract_of (N := _) (vars := _) (c := bodyOf Try.f116) Try.func116 (body_eq rfl) rfl rfl (by rfl) mixed _ _ trivial 1000 ?_
  simp only [bodyOf, Try.f116, Option.getD_some, argA, argE, List.length_cons, List.length_nil, Nat.reduceAdd, Nat.reduceSub, List.replicate, List.cons_append, List.nil_append]
  simp only [SX, simprocAttr, TYX, cellsE, foldE, foldN, cellsN, b_EN, cellsNV, foldNV]
  simp only [SX, simprocAttr, TYX, cellsE, foldE, foldN, cellsN, b_EN, cellsNV, foldNV, hm0]
  refine cond_split (fun h0 => ?_) (fun h0 => ?_)
  · have h0 : uor (uor a1 a2) a3 = 0 := by simpa using h0
    rw [uor_zero _ _ (uor_lt _ _) l3, uor_zero _ _ l1 l2] at h0
    obtain ⟨⟨rfl, rfl⟩, rfl⟩ := h0
    simp only [SX, simprocAttr, TYX, cellsE, foldE, foldN, cellsN, b_EN, cellsNV, foldNV]
    refine ⟨hmn, ?_⟩
    refine X1 _ (by rfl) ?_
    simp only [SX, simprocAttr, TYX, cellsE, foldE, foldN, cellsN, b_EN, cellsNV, foldNV]
    rw [urem_eq, EN_small (hlt _)]
    refine congrArg (fun z => val (EN z)) (congrArg (· % m) ?_)
    omega
  · simp only [SX, simprocAttr, TYX, cellsE, foldE, foldN, cellsN, b_EN, cellsNV, foldNV]
    refine loop_rounds 5 ?_
    refine RoundsVC.step mixed trivial 1000 ?_
    simp only [SX, simprocAttr, TYX, cellsE, foldE, foldN, cellsN, b_EN, cellsNV, foldNV]
    refine DrawVC.intro (by kernel_rfl) ?_
    refine CallVC.intro (hdiv 0 a3 _ hm l3 rfl) ⟨rfl, rfl, rfl, trivial⟩ rfl rfl ?_
    simp only [SX, simprocAttr, TYX, cellsE, foldE, foldN, cellsN, b_EN, cellsNV, foldNV]
    refine RoundsVC.step mixed trivial 1000 ?_
    simp only [SX, simprocAttr, TYX, cellsE, foldE, foldN, cellsN, b_EN, cellsNV, foldNV]
    refine DrawVC.intro (by kernel_rfl) ?_
    refine CallVC.intro (hdiv _ a2 _ (hml _) l2 rfl) ⟨rfl, rfl, rfl, trivial⟩ rfl rfl ?_
    simp only [SX, simprocAttr, TYX, cellsE, foldE, foldN, cellsN, b_EN, cellsNV, foldNV]
    refine RoundsVC.step mixed trivial 1000 ?_
    simp only [SX, simprocAttr, TYX, cellsE, foldE, foldN, cellsN, b_EN, cellsNV, foldNV]
    refine DrawVC.intro (by kernel_rfl) ?_
    refine CallVC.intro (hdiv _ a1 _ (hml _) l1 rfl) ⟨rfl, rfl, rfl, trivial⟩ rfl rfl ?_
    simp only [SX, simprocAttr, TYX, cellsE, foldE, foldN, cellsN, b_EN, cellsNV, foldNV]
    refine RoundsVC.step mixed trivial 1000 ?_
    simp only [SX, simprocAttr, TYX, cellsE, foldE, foldN, cellsN, b_EN, cellsNV, foldNV]
    refine DrawVC.intro (by kernel_rfl) ?_
    refine CallVC.intro (hdiv _ a0 _ (hml _) l0 rfl) ⟨rfl, rfl, rfl, trivial⟩ rfl rfl ?_
    simp only [SX, simprocAttr, TYX, cellsE, foldE, foldN, cellsN, b_EN, cellsNV, foldNV]
    refine RoundsVC.step mixed trivial 1000 ?_
    simp only [SX, simprocAttr, TYX, cellsE, foldE, foldN, cellsN, b_EN, cellsNV, foldNV]
    refine X1 _ (by rfl) ?_
    simp only [SX, simprocAttr, TYX, cellsE, foldE, foldN, cellsN, b_EN, cellsNV, foldNV]
    rw [EN_small (hlt _)]
    refine congrArg (fun z => val (EN z)) ?_
    rw [mod_step _ a2, mod_step _ a1, mod_step _ a0]
    refine congrArg (· % m) ?_
    omega
theorem c_reduceA (a : Nat) (ha : a < W256) : Contract Try.prog 116 [.val NA, .val (EN a)] [.val (EN (a % PA))] :=
  c_reduceL PA 9 (by decide) (by decide) (fun hi lo V h1 h2 h3 => c_div64A hi lo V h1 h2 h3) a ha
theorem c_reduceB (a : Nat) (ha : a < W256) : Contract Try.prog 116 [.val NB, .val (EN a)] [.val (EN (a % PB))] :=
  c_reduceL PB 11 (by decide) (by decide) (fun hi lo V h1 h2 h3 => c_div64B hi lo V h1 h2 h3) a ha
theorem sub_of {a m : Nat} (ha : a < W256) (hm : m ≤ a) : (a + W256 - m) % W256 = a - m := by unfold W256 at *; omega
theorem c_reduceG (m : Nat) (ad : Int) (ng sq : Nat) (hm : 0 < m) (hm1 : m < W256) (hm4 : W256 ≤ m * 4)
    (a : Nat) (ha : a < W256) : Contract Try.prog 116 [.val (NV m ad 0 ng sq), .val (EN a)] [.val (EN (a % m))] := by
  refine contract_of (N := _) (vars := _) (c := bodyOf Try.f116) Try.func116 (body_eq rfl) rfl rfl (by rfl) mixed _ _ trivial 1000 ?_
  simp only [bodyOf, Try.f116, Option.getD_some, argA, argE, List.length_cons, List.length_nil, Nat.reduceAdd, Nat.reduceSub, List.replicate, List.cons_append, List.nil_append]
  simp only [SX, simprocAttr, TYX, cellsE, foldE, foldN, cellsN, b_EN, cellsNV, foldNV]
  refine loop_rounds 4 ?_
  refine RoundsVC.step mixed trivial 1000 ?_
  simp only [SX, simprocAttr, TYX, cellsE, foldE, foldN, cellsN, b_EN, cellsNV, foldNV]
  refine CallVC.intro (c_word_sub a m ha hm1) ⟨rfl, rfl, trivial⟩ rfl rfl ?_
  simp only [SX, simprocAttr, TYX, cellsE, foldE, foldN, cellsN, b_EN, cellsNV, foldNV]
  refine cond_split (fun h0 => ?_) (fun h0 => ?_)
  · have h0 : a < m := by simpa using h0
    simp only [SX, simprocAttr, TYX, cellsE, foldE, foldN, cellsN, b_EN, cellsNV, foldNV]
    rw [Nat.mod_eq_of_lt h0]
  have h0 : m ≤ a := by simpa using h0
  simp only [SX, simprocAttr, TYX, cellsE, foldE, foldN, cellsN, b_EN, cellsNV, foldNV, sub_of ha h0]
  rw [Nat.mod_eq_sub_mod h0]
  have ha1 : a - m < W256 := by omega
  refine RoundsVC.step mixed trivial 1000 ?_
  simp only [SX, simprocAttr, TYX, cellsE, foldE, foldN, cellsN, b_EN, cellsNV, foldNV]
  refine CallVC.intro (c_word_sub (a - m) m ha1 hm1) ⟨rfl, rfl, trivial⟩ rfl rfl ?_
  simp only [SX, simprocAttr, TYX, cellsE, foldE, foldN, cellsN, b_EN, cellsNV, foldNV]
  refine cond_split (fun h0 => ?_) (fun h0 => ?_)
  · have h0 : a - m < m := by simpa using h0
    simp only [SX, simprocAttr, TYX, cellsE, foldE, foldN, cellsN, b_EN, cellsNV, foldNV]
    rw [Nat.mod_eq_of_lt h0]
  have h1 : m ≤ a - m := by simpa using h0
  rw [Nat.mod_eq_sub_mod h1]
  simp only [SX, simprocAttr, TYX, cellsE, foldE, foldN, cellsN, b_EN, cellsNV, foldNV, sub_of ha1 h1]
  have ha2 : a - m - m < W256 := by omega
  refine RoundsVC.step mixed trivial 1000 ?_
  simp only [SX, simprocAttr, TYX, cellsE, foldE, foldN, cellsN, b_EN, cellsNV, foldNV]
  refine CallVC.intro (c_word_sub (a - m - m) m ha2 hm1) ⟨rfl, rfl, trivial⟩ rfl rfl ?_
  simp only [SX, simprocAttr, TYX, cellsE, foldE, foldN, cellsN, b_EN, cellsNV, foldNV]
  refine cond_split (fun h0 => ?_) (fun h0 => ?_)
  · have h0 : a - m - m < m := by simpa using h0
    simp only [SX, simprocAttr, TYX, cellsE, foldE, foldN, cellsN, b_EN, cellsNV, foldNV]
    rw [Nat.mod_eq_of_lt h0]
  have h2 : m ≤ a - m - m := by simpa using h0
  rw [Nat.mod_eq_sub_mod h2]
  simp only [SX, simprocAttr, TYX, cellsE, foldE, foldN, cellsN, b_EN, cellsNV, foldNV, sub_of ha2 h2]
  have ha3 : a - m - m - m < W256 := by omega
  refine RoundsVC.step mixed trivial 1000 ?_
  simp only [SX, simprocAttr, TYX, cellsE, foldE, foldN, cellsN, b_EN, cellsNV, foldNV]
  refine CallVC.intro (c_word_sub (a - m - m - m) m ha3 hm1) ⟨rfl, rfl, trivial⟩ rfl rfl ?_
  simp only [SX, simprocAttr, TYX, cellsE, foldE, foldN, cellsN, b_EN, cellsNV, foldNV]
  refine cond_split (fun h0 => ?_) (fun h0 => ?_)
  · have h0 : a - m - m - m < m := by simpa using h0
    simp only [SX, simprocAttr, TYX, cellsE, foldE, foldN, cellsN, b_EN, cellsNV, foldNV]
    rw [Nat.mod_eq_of_lt h0]
  have h3 : m ≤ a - m - m - m := by simpa using h0
  omega
theorem c_reduceC (a : Nat) (ha : a < W256) : Contract Try.prog 116 [.val NC, .val (EN a)] [.val (EN (a % PC))] :=
  c_reduceG PC 32 _ _ (by decide) (by decide) (by decide) a ha
theorem c_reduceD (a : Nat) (ha : a < W256) : Contract Try.prog 116 [.val ND, .val (EN a)] [.val (EN (a % PD))] :=
  c_reduceG PD 32 _ _ (by decide) (by decide) (by decide) a ha
end Go.Sx
namespace Go.Sx
open Go.Proofs
-- TY: TYX, cellsE, foldE, foldN, cellsN, b_EN, cellsNV, foldNV
set_option maxRecDepth 100000
set_option linter.unusedSimpArgs false
set_option pp.deepTerms false
set_option pp.deepTerms.threshold 3
/-- What is asked of a field's numbers. -/
structure FN (m : Nat) (ad : Int) (sm ng sq : Nat) : Prop where
  one : 1 < m
  half : m * 2 ≤ W256
  reduce : ∀ a, a < W256 → Contract Try.prog 116 [.val (NV m ad sm ng sq), .val (EN a)] [.val (EN (a % m))]
theorem FA : FN PA 9 PA 0 0 := ⟨by decide, by decide, c_reduceA⟩
theorem FB : FN PB 11 PB 0 0 := ⟨by decide, by decide, c_reduceB⟩
theorem FC : FN PC 32 0 0x992d30ecffffffff SC := ⟨by decide, by decide, c_reduceC⟩
theorem FD : FN PD 32 0 0x8c46eb20ffffffff SD := ⟨by decide, by decide, c_reduceD⟩
section
variable {m sm ng sq : Nat} {ad : Int}
theorem FN.lt (F : FN m ad sm ng sq) : m < W256 := by have := F.half; have := F.one; omega
theorem FN.mod (F : FN m ad sm ng sq) (x : Nat) : x % m < m := Nat.mod_lt _ (by have := F.one; omega)
theorem FN.mod2 (F : FN m ad sm ng sq) (x : Nat) : x % m < W256 := Nat.lt_trans (F.mod x) F.lt
theorem c_add (F : FN m ad sm ng sq) (a b : Nat) (ha : a < W256) (hb : b < W256) : Contract Try.prog 95 [.val (NV m ad sm ng sq), .val (EN a), .val (EN b)] [.val (EN ((a + b) % m))] := by
  have h1 := F.mod a
  have h2 := F.mod b
  have h3 := F.half
  have e : (a % m + b % m) % W256 = a % m + b % m := Nat.mod_eq_of_lt (by omega)
  refine contract_of (N := _) (vars := _) (c := bodyOf Try.f95) Try.func95 (body_eq rfl) rfl rfl (by rfl) mixed _ _ trivial 1000 ?_
  simp only [bodyOf, Try.f95, Option.getD_some, argA, argE, List.length_cons, List.length_nil, Nat.reduceAdd, Nat.reduceSub, List.replicate, List.cons_append, List.nil_append]
  simp only [SX, simprocAttr, TYX, cellsE, foldE, foldN, cellsN, b_EN, cellsNV, foldNV]
  refine DrawVC.intro (by kernel_rfl) ?_
  refine CallVC.intro (F.reduce a ha) ⟨rfl, rfl, trivial⟩ rfl rfl ?_
  simp only [SX, simprocAttr, TYX, cellsE, foldE, foldN, cellsN, b_EN, cellsNV, foldNV]
  refine CallVC.intro (F.reduce b hb) ⟨rfl, rfl, trivial⟩ rfl rfl ?_
  simp only [SX, simprocAttr, TYX, cellsE, foldE, foldN, cellsN, b_EN, cellsNV, foldNV]
  refine CallVC.intro (c_word_add _ _ (F.mod2 a) (F.mod2 b)) ⟨rfl, rfl, trivial⟩ rfl rfl ?_
  simp only [SX, simprocAttr, TYX, cellsE, foldE, foldN, cellsN, b_EN, cellsNV, foldNV, e]
  refine CallVC.intro (F.reduce (a % m + b % m) (by omega)) ⟨rfl, rfl, trivial⟩ rfl rfl ?_
  simp only [SX, simprocAttr, TYX, cellsE, foldE, foldN, cellsN, b_EN, cellsNV, foldNV, ← Nat.add_mod]
theorem c_neg0 (F : FN m ad sm ng sq) (a : Nat) (ha : a < W256) : Contract Try.prog 119 [.val (NV m ad sm ng sq), .val (EN a)] [.val (EN ((m - a % m) % m))] := by
  have h1 := F.mod a
  have h3 := F.lt
  have e : (m + W256 - a % m) % W256 = m - a % m := by unfold W256 at *; omega
  refine contract_of (N := _) (vars := _) (c := bodyOf Try.f119) Try.func119 (body_eq rfl) rfl rfl (by rfl) mixed _ _ trivial 1000 ?_
  simp only [bodyOf, Try.f119, Option.getD_some, argA, argE, List.length_cons, List.length_nil, Nat.reduceAdd, Nat.reduceSub, List.replicate, List.cons_append, List.nil_append]
  simp only [SX, simprocAttr, TYX, cellsE, foldE, foldN, cellsN, b_EN, cellsNV, foldNV]
  refine DrawVC.intro (by kernel_rfl) ?_
  refine CallVC.intro (F.reduce a ha) ⟨rfl, rfl, trivial⟩ rfl rfl ?_
  simp only [SX, simprocAttr, TYX, cellsE, foldE, foldN, cellsN, b_EN, cellsNV, foldNV]
  refine CallVC.intro (c_word_sub m _ F.lt (F.mod2 a)) ⟨rfl, rfl, trivial⟩ rfl rfl ?_
  simp only [SX, simprocAttr, TYX, cellsE, foldE, foldN, cellsN, b_EN, cellsNV, foldNV, e]
  refine CallVC.intro (F.reduce (m - a % m) (by omega)) ⟨rfl, rfl, trivial⟩ rfl rfl ?_
  simp only [SX, simprocAttr, TYX, cellsE, foldE, foldN, cellsN, b_EN, cellsNV, foldNV]
end
end Go.Sx
namespace Go.Sx
open Go.Proofs
-- TY: TYX, cellsE, foldE, foldN, cellsN, b_EN, cellsNV, foldNV, cells6, fold6
set_option maxRecDepth 100000
set_option linter.unusedSimpArgs false
set_option pp.deepTerms false
set_option pp.deepTerms.threshold 3
def T6 (a b c d e f : Nat) : Value := .agg #[u64 a, u64 b, u64 c, u64 d, u64 e, u64 f]
theorem cells6 (a b c d e f : Nat) : (T6 a b c d e f).cells.toList = [u64 a, u64 b, u64 c, u64 d, u64 e, u64 f] := rfl
theorem fold6 (a b c d e f : Nat) : Value.agg [u64 a, u64 b, u64 c, u64 d, u64 e, u64 f].toArray = T6 a b c d e f := rfl
theorem z79 (a b c d e f : Nat) : Try.prog.built 119 [(0, u64 a), (1, u64 b), (2, u64 c), (3, u64 d), (4, u64 e), (5, u64 f)] = some #[u64 a, u64 b, u64 c, u64 d, u64 e, u64 f] := by kernel_rfl

noncomputable def accT (a x t k : Nat) : Nat := addL t (addL (a * x % 18446744073709551616) k 0) 0
noncomputable def accK (a x t k : Nat) : Nat := uadd (uadd (a * x / 18446744073709551616) (addB (a * x % 18446744073709551616) k 0)) (addB t (addL (a * x % 18446744073709551616) k 0) 0)
theorem acc_step {a x t k : Nat} (ha : a < 18446744073709551616) (hx : x < 18446744073709551616) (ht : t < 18446744073709551616) (hk : k < 18446744073709551616) :
    accT a x t k + 18446744073709551616 * accK a x t k = t + a * x + k ∧ accT a x t k < 18446744073709551616 ∧ accK a x t k < 18446744073709551616 := by
  have hp : a * x ≤ 18446744073709551615 * 18446744073709551615 := Nat.mul_le_mul (by omega) (by omega)
  unfold accT accK
  generalize a * x = p at *
  have hd := Nat.div_add_mod p 18446744073709551616
  have hm := Nat.mod_lt p (show 18446744073709551616 > 0 by decide)
  generalize p % 18446744073709551616 = lo at *
  generalize p / 18446744073709551616 = hi at *
  obtain ⟨s1, s2⟩ := @add_chain lo k 0
  generalize addL lo k 0 = lo' at *
  generalize addB lo k 0 = c at *
  obtain ⟨s3, s4⟩ := @add_chain t lo' 0
  generalize addL t lo' 0 = t' at *
  generalize addB t lo' 0 = c' at *
  have hi1 : hi ≤ 18446744073709551614 := by omega
  rw [uadd_eq, uadd_eq]
  have e1 : (hi + c) % 18446744073709551616 = hi + c := by omega
  rw [e1]
  have e2 : (hi + c + c') % 18446744073709551616 = hi + c + c' := by omega
  rw [e2]
  omega
theorem addB_le {x y : Nat} (hx : x < 18446744073709551616) (hy : y < 18446744073709551616) : addB x y 0 ≤ 1 := by unfold addB; omega
theorem c_acc (t0 t1 t2 t3 t4 t5 a0 a1 a2 a3 x k1 k2 k3 k4 : Nat) (ha0 : a0 < 18446744073709551616) (ha1 : a1 < 18446744073709551616) (ha2 : a2 < 18446744073709551616) (ha3 : a3 < 18446744073709551616) (hx : x < 18446744073709551616)
    (h1 : k1 = accK a0 x t0 0) (h2 : k2 = accK a1 x t1 k1) (h3 : k3 = accK a2 x t2 k2) (h4 : k4 = accK a3 x t3 k3) :
    Contract Try.prog 129 [.val (T6 t0 t1 t2 t3 t4 t5), .val (E4 a0 a1 a2 a3), .val (u64 x)] [.val (T6 (accT a0 x t0 0) (accT a1 x t1 k1) (accT a2 x t2 k2) (accT a3 x t3 k3) (addL t4 k4 0) (uadd t5 (addB t4 k4 0)))] := by
  subst h4 h3 h2 h1
  refine contract_of (N := _) (vars := _) (c := bodyOf Try.f129) Try.func129 (body_eq rfl) rfl rfl (by rfl) mixed _ _ trivial 1000 ?_
  simp only [bodyOf, Try.f129, Option.getD_some, argA, argE, List.length_cons, List.length_nil, Nat.reduceAdd, Nat.reduceSub, List.replicate, List.cons_append, List.nil_append]
  simp only [SX, simprocAttr, TYX, cellsE, foldE, foldN, cellsN, b_EN, cellsNV, foldNV, cells6, fold6]
  refine loop_rounds 5 ?_
  refine RoundsVC.step mixed trivial 1000 ?_
  simp only [SX, simprocAttr, TYX, cellsE, foldE, foldN, cellsN, b_EN, cellsNV, foldNV, cells6, fold6]
  refine CallVC.intro (c_mul64 a0 x ha0 hx) ⟨rfl, rfl, trivial⟩ rfl rfl ?_
  simp only [SX, simprocAttr, TYX, cellsE, foldE, foldN, cellsN, b_EN, cellsNV, foldNV, cells6, fold6]
  refine CallVC.intro (c_add64 _ _ _ (by decide)) ⟨rfl, rfl, rfl, trivial⟩ rfl rfl ?_
  simp only [SX, simprocAttr, TYX, cellsE, foldE, foldN, cellsN, b_EN, cellsNV, foldNV, cells6, fold6]
  refine CallVC.intro (c_add64 _ _ _ (by decide)) ⟨rfl, rfl, rfl, trivial⟩ rfl rfl ?_
  simp only [SX, simprocAttr, TYX, cellsE, foldE, foldN, cellsN, b_EN, cellsNV, foldNV, cells6, fold6]
  refine RoundsVC.step mixed trivial 1000 ?_
  simp only [SX, simprocAttr, TYX, cellsE, foldE, foldN, cellsN, b_EN, cellsNV, foldNV, cells6, fold6]
  refine CallVC.intro (c_mul64 a1 x ha1 hx) ⟨rfl, rfl, trivial⟩ rfl rfl ?_
  simp only [SX, simprocAttr, TYX, cellsE, foldE, foldN, cellsN, b_EN, cellsNV, foldNV, cells6, fold6]
  refine CallVC.intro (c_add64 _ _ _ (by decide)) ⟨rfl, rfl, rfl, trivial⟩ rfl rfl ?_
  simp only [SX, simprocAttr, TYX, cellsE, foldE, foldN, cellsN, b_EN, cellsNV, foldNV, cells6, fold6]
  refine CallVC.intro (c_add64 _ _ _ (by decide)) ⟨rfl, rfl, rfl, trivial⟩ rfl rfl ?_
  simp only [SX, simprocAttr, TYX, cellsE, foldE, foldN, cellsN, b_EN, cellsNV, foldNV, cells6, fold6]
  refine RoundsVC.step mixed trivial 1000 ?_
  simp only [SX, simprocAttr, TYX, cellsE, foldE, foldN, cellsN, b_EN, cellsNV, foldNV, cells6, fold6]
  refine CallVC.intro (c_mul64 a2 x ha2 hx) ⟨rfl, rfl, trivial⟩ rfl rfl ?_
  simp only [SX, simprocAttr, TYX, cellsE, foldE, foldN, cellsN, b_EN, cellsNV, foldNV, cells6, fold6]
  refine CallVC.intro (c_add64 _ _ _ (by decide)) ⟨rfl, rfl, rfl, trivial⟩ rfl rfl ?_
  simp only [SX, simprocAttr, TYX, cellsE, foldE, foldN, cellsN, b_EN, cellsNV, foldNV, cells6, fold6]
  refine CallVC.intro (c_add64 _ _ _ (by decide)) ⟨rfl, rfl, rfl, trivial⟩ rfl rfl ?_
  simp only [SX, simprocAttr, TYX, cellsE, foldE, foldN, cellsN, b_EN, cellsNV, foldNV, cells6, fold6]
  refine RoundsVC.step mixed trivial 1000 ?_
  simp only [SX, simprocAttr, TYX, cellsE, foldE, foldN, cellsN, b_EN, cellsNV, foldNV, cells6, fold6]
  refine CallVC.intro (c_mul64 a3 x ha3 hx) ⟨rfl, rfl, trivial⟩ rfl rfl ?_
  simp only [SX, simprocAttr, TYX, cellsE, foldE, foldN, cellsN, b_EN, cellsNV, foldNV, cells6, fold6]
  refine CallVC.intro (c_add64 _ _ _ (by decide)) ⟨rfl, rfl, rfl, trivial⟩ rfl rfl ?_
  simp only [SX, simprocAttr, TYX, cellsE, foldE, foldN, cellsN, b_EN, cellsNV, foldNV, cells6, fold6]
  refine CallVC.intro (c_add64 _ _ _ (by decide)) ⟨rfl, rfl, rfl, trivial⟩ rfl rfl ?_
  simp only [SX, simprocAttr, TYX, cellsE, foldE, foldN, cellsN, b_EN, cellsNV, foldNV, cells6, fold6]
  refine RoundsVC.step mixed trivial 1000 ?_
  simp only [SX, simprocAttr, TYX, cellsE, foldE, foldN, cellsN, b_EN, cellsNV, foldNV, cells6, fold6]
  refine CallVC.intro (c_add64 _ _ _ (by decide)) ⟨rfl, rfl, rfl, trivial⟩ rfl rfl ?_
  simp only [SX, simprocAttr, TYX, cellsE, foldE, foldN, cellsN, b_EN, cellsNV, foldNV, cells6, fold6]
  simp only [accT, accK]

/-! ### six words as a number -/
def ET (n : Nat) : Value := T6 (n % 18446744073709551616) (n / 18446744073709551616 % 18446744073709551616) (n / 340282366920938463463374607431768211456 % 18446744073709551616) (n / 6277101735386680763835789423207666416102355444464034512896 % 18446744073709551616) (n / 115792089237316195423570985008687907853269984665640564039457584007913129639936 % 18446744073709551616) (n / 2135987035920910082395021706169552114602704522356652769947041607822219725780640550022962086936576 % 18446744073709551616)
theorem ET_of {n a b c d e f : Nat} (ha : a < 18446744073709551616) (hb : b < 18446744073709551616) (hc : c < 18446744073709551616) (hd : d < 18446744073709551616) (he : e < 18446744073709551616) (hf : f < 18446744073709551616) (h : n = a + 18446744073709551616 * b + 340282366920938463463374607431768211456 * c + 6277101735386680763835789423207666416102355444464034512896 * d + 115792089237316195423570985008687907853269984665640564039457584007913129639936 * e + 2135987035920910082395021706169552114602704522356652769947041607822219725780640550022962086936576 * f) : ET n = T6 a b c d e f := by
  subst h
  unfold ET
  congr 1 <;> omega
theorem ET_ex {n : Nat} (h : n < 39402006196394479212279040100143613805079739270465446667948293404245721771497210611414266254884915640806627990306816) : ∃ a b c d e f, a < 18446744073709551616 ∧ b < 18446744073709551616 ∧ c < 18446744073709551616 ∧ d < 18446744073709551616 ∧ e < 18446744073709551616 ∧ f < 18446744073709551616 ∧ n = a + 18446744073709551616 * b + 340282366920938463463374607431768211456 * c + 6277101735386680763835789423207666416102355444464034512896 * d + 115792089237316195423570985008687907853269984665640564039457584007913129639936 * e + 2135987035920910082395021706169552114602704522356652769947041607822219725780640550022962086936576 * f :=
  ⟨n % 18446744073709551616, n / 18446744073709551616 % 18446744073709551616, n / 340282366920938463463374607431768211456 % 18446744073709551616, n / 6277101735386680763835789423207666416102355444464034512896 % 18446744073709551616, n / 115792089237316195423570985008687907853269984665640564039457584007913129639936 % 18446744073709551616, n / 2135987035920910082395021706169552114602704522356652769947041607822219725780640550022962086936576, by omega, by omega, by omega, by omega, by omega, by omega, by omega⟩
theorem c_accN (n a x : Nat) (ha : a < W256) (hx : x < 18446744073709551616) (hn : n + a * x < 39402006196394479212279040100143613805079739270465446667948293404245721771497210611414266254884915640806627990306816) : Contract Try.prog 129 [.val (ET n), .val (EN a), .val (u64 x)] [.val (ET (n + a * x))] := by
  obtain ⟨t0, t1, t2, t3, t4, t5, g0, g1, g2, g3, g4, g5, rfl⟩ := ET_ex (n := n) (by omega)
  obtain ⟨a0, a1, a2, a3, ha0, ha1, ha2, ha3, rfl⟩ := EN_ex ha
  rw [EN_of ha0 ha1 ha2 ha3 rfl, ET_of g0 g1 g2 g3 g4 g5 rfl]
  have h := c_acc t0 t1 t2 t3 t4 t5 a0 a1 a2 a3 x _ _ _ _ ha0 ha1 ha2 ha3 hx rfl rfl rfl rfl
  obtain ⟨e0, f0, k0⟩ := acc_step ha0 hx g0 (show 0 < 18446744073709551616 by decide)
  obtain ⟨e1, f1, k1⟩ := acc_step ha1 hx g1 k0
  obtain ⟨e2, f2, k2⟩ := acc_step ha2 hx g2 k1
  obtain ⟨e3, f3, k3⟩ := acc_step ha3 hx g3 k2
  obtain ⟨e4, f4⟩ := @add_chain t4 (accK a3 x t3 (accK a2 x t2 (accK a1 x t1 (accK a0 x t0 0)))) 0
  have l4 := addB_le g4 k3
  generalize accT a3 x t3 (accK a2 x t2 (accK a1 x t1 (accK a0 x t0 0))) = r3 at *
  generalize accK a3 x t3 (accK a2 x t2 (accK a1 x t1 (accK a0 x t0 0))) = c3 at *
  generalize accT a2 x t2 (accK a1 x t1 (accK a0 x t0 0)) = r2 at *
  generalize accK a2 x t2 (accK a1 x t1 (accK a0 x t0 0)) = c2 at *
  generalize accT a1 x t1 (accK a0 x t0 0) = r1 at *
  generalize accK a1 x t1 (accK a0 x t0 0) = c1 at *
  generalize accT a0 x t0 0 = r0 at *
  generalize accK a0 x t0 0 = c0 at *
  generalize addL t4 c3 0 = r4 at *
  generalize addB t4 c3 0 = c4 at *
  have hmul : (a0 + 18446744073709551616 * a1 + 340282366920938463463374607431768211456 * a2 + 6277101735386680763835789423207666416102355444464034512896 * a3) * x = a0 * x + 18446744073709551616 * (a1 * x) + 340282366920938463463374607431768211456 * (a2 * x) + 6277101735386680763835789423207666416102355444464034512896 * (a3 * x) := by
    simp only [Nat.add_mul, Nat.mul_assoc]
  rw [hmul] at hn ⊢
  generalize a0 * x = p0 at *
  generalize a1 * x = p1 at *
  generalize a2 * x = p2 at *
  generalize a3 * x = p3 at *
  clear ha hmul
  have e5 : uadd t5 c4 = t5 + c4 := by rw [uadd_eq]; omega
  rw [e5] at h
  rw [ET_of (a := r0) (b := r1) (c := r2) (d := r3) (e := r4) (f := t5 + c4) f0 f1 f2 f3 f4 (by omega) (by omega)]
  exact h
end Go.Sx
