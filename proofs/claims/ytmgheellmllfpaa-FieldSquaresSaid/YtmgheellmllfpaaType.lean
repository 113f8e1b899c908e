/-
  The types of the program, as the machine asks of them. No conditions.
-/
import Derived.Test.YtmgheellmllfpaaSxt
import Derived.Test.YtmgheellmllfpaaProg
namespace Go.Sx
open Go.Proofs
theorem mixed : Try.prog.follows .mixedOrders = true := by kernel_rfl
-- int64
theorem tsz_2 : tsz Try.prog 2 = some 1 := by kernel_rfl
theorem agg_2 : aggT Try.prog 2 = some false := by kernel_rfl
theorem int_2 : intT Try.prog 2 = some .i64 := by kernel_rfl
theorem und_2 : Try.prog.underlying 2 = some (.int .i64) := by kernel_rfl
theorem zce_2 : zcells Try.prog 2 = some [.int .i64 0] := by kernel_rfl
-- int
theorem tsz_3 : tsz Try.prog 3 = some 1 := by kernel_rfl
theorem agg_3 : aggT Try.prog 3 = some false := by kernel_rfl
theorem int_3 : intT Try.prog 3 = some .i64 := by kernel_rfl
theorem und_3 : Try.prog.underlying 3 = some (.int .i64) := by kernel_rfl
theorem zce_3 : zcells Try.prog 3 = some [.int .i64 0] := by kernel_rfl
-- bool
theorem tsz_4 : tsz Try.prog 4 = some 1 := by kernel_rfl
theorem agg_4 : aggT Try.prog 4 = some false := by kernel_rfl
theorem und_4 : Try.prog.underlying 4 = some .bool := by kernel_rfl
theorem zce_4 : zcells Try.prog 4 = some [.bool false] := by kernel_rfl
-- uint8
theorem tsz_5 : tsz Try.prog 5 = some 1 := by kernel_rfl
theorem agg_5 : aggT Try.prog 5 = some false := by kernel_rfl
theorem int_5 : intT Try.prog 5 = some .u8 := by kernel_rfl
theorem und_5 : Try.prog.underlying 5 = some (.int .u8) := by kernel_rfl
theorem zce_5 : zcells Try.prog 5 = some [.int .u8 0] := by kernel_rfl
-- string
theorem tsz_9 : tsz Try.prog 9 = some 1 := by kernel_rfl
theorem agg_9 : aggT Try.prog 9 = some false := by kernel_rfl
theorem und_9 : Try.prog.underlying 9 = some .string := by kernel_rfl
theorem zce_9 : zcells Try.prog 9 = some [.string ⟨#[]⟩] := by kernel_rfl
-- uintptr
theorem tsz_12 : tsz Try.prog 12 = some 1 := by kernel_rfl
theorem agg_12 : aggT Try.prog 12 = some false := by kernel_rfl
theorem int_12 : intT Try.prog 12 = some .u64 := by kernel_rfl
theorem und_12 : Try.prog.underlying 12 = some (.int .u64) := by kernel_rfl
theorem zce_12 : zcells Try.prog 12 = some [u64 0] := by kernel_rfl
-- struct { msg string; addr uintptr }
theorem tsz_13 : tsz Try.prog 13 = some 2 := by kernel_rfl
theorem agg_13 : aggT Try.prog 13 = some true := by kernel_rfl
theorem zce_13 : zcells Try.prog 13 = some [.string ⟨#[]⟩, u64 0] := by kernel_rfl
theorem fld_13_0 : fldI Try.prog 13 0 = some (0, 1) := by kernel_rfl
theorem fld_13_1 : fldI Try.prog 13 1 = some (1, 1) := by kernel_rfl
theorem bld_13 : bldI Try.prog 13 = some ([.string ⟨#[]⟩, u64 0], [(0, 1), (1, 1)]) := by kernel_rfl
-- int32
theorem tsz_21 : tsz Try.prog 21 = some 1 := by kernel_rfl
theorem agg_21 : aggT Try.prog 21 = some false := by kernel_rfl
theorem int_21 : intT Try.prog 21 = some .i32 := by kernel_rfl
theorem und_21 : Try.prog.underlying 21 = some (.int .i32) := by kernel_rfl
theorem zce_21 : zcells Try.prog 21 = some [.int .i32 0] := by kernel_rfl
-- uint64
theorem tsz_22 : tsz Try.prog 22 = some 1 := by kernel_rfl
theorem agg_22 : aggT Try.prog 22 = some false := by kernel_rfl
theorem int_22 : intT Try.prog 22 = some .u64 := by kernel_rfl
theorem und_22 : Try.prog.underlying 22 = some (.int .u64) := by kernel_rfl
theorem zce_22 : zcells Try.prog 22 = some [u64 0] := by kernel_rfl
-- [4]uint64
theorem tsz_23 : tsz Try.prog 23 = some 4 := by kernel_rfl
theorem agg_23 : aggT Try.prog 23 = some true := by kernel_rfl
theorem arr_23 : arrI Try.prog 23 = some (4, 1) := by kernel_rfl
theorem zce_23 : zcells Try.prog 23 = some [u64 0, u64 0, u64 0, u64 0] := by kernel_rfl
theorem bld_23 : bldI Try.prog 23 = some ([u64 0, u64 0, u64 0, u64 0], [(0, 1), (1, 1), (2, 1), (3, 1)]) := by kernel_rfl
-- api.Elem
theorem tsz_24 : tsz Try.prog 24 = some 4 := by kernel_rfl
theorem agg_24 : aggT Try.prog 24 = some true := by kernel_rfl
theorem arr_24 : arrI Try.prog 24 = some (4, 1) := by kernel_rfl
theorem zce_24 : zcells Try.prog 24 = some [u64 0, u64 0, u64 0, u64 0] := by kernel_rfl
theorem bld_24 : bldI Try.prog 24 = some ([u64 0, u64 0, u64 0, u64 0], [(0, 1), (1, 1), (2, 1), (3, 1)]) := by kernel_rfl
-- api.Errno
theorem tsz_29 : tsz Try.prog 29 = some 1 := by kernel_rfl
theorem agg_29 : aggT Try.prog 29 = some false := by kernel_rfl
theorem int_29 : intT Try.prog 29 = some .i64 := by kernel_rfl
theorem und_29 : Try.prog.underlying 29 = some (.int .i64) := by kernel_rfl
theorem zce_29 : zcells Try.prog 29 = some [.int .i64 0] := by kernel_rfl
-- []api.Elem
theorem tsz_33 : tsz Try.prog 33 = some 1 := by kernel_rfl
theorem agg_33 : aggT Try.prog 33 = some false := by kernel_rfl
theorem sli_33 : slI Try.prog 33 = some 4 := by kernel_rfl
theorem mki_33 : mkI Try.prog 33 = some ⟨24, 4, 32, [u64 0, u64 0, u64 0, u64 0]⟩ := by kernel_rfl
theorem zce_33 : zcells Try.prog 33 = some [.slice none 0 0] := by kernel_rfl
-- []uint8
theorem tsz_44 : tsz Try.prog 44 = some 1 := by kernel_rfl
theorem agg_44 : aggT Try.prog 44 = some false := by kernel_rfl
theorem sli_44 : slI Try.prog 44 = some 1 := by kernel_rfl
theorem mki_44 : mkI Try.prog 44 = some ⟨5, 1, 1, [.int .u8 0]⟩ := by kernel_rfl
theorem zce_44 : zcells Try.prog 44 = some [.slice none 0 0] := by kernel_rfl
-- struct { mod api.Elem; adicity int; small uint64; neg uint64; square api.Elem }
theorem tsz_56 : tsz Try.prog 56 = some 11 := by kernel_rfl
theorem agg_56 : aggT Try.prog 56 = some true := by kernel_rfl
theorem zce_56 : zcells Try.prog 56 = some [u64 0, u64 0, u64 0, u64 0, .int .i64 0, u64 0, u64 0, u64 0, u64 0, u64 0, u64 0] := by kernel_rfl
theorem fld_56_0 : fldI Try.prog 56 0 = some (0, 4) := by kernel_rfl
theorem fld_56_1 : fldI Try.prog 56 1 = some (4, 1) := by kernel_rfl
theorem fld_56_2 : fldI Try.prog 56 2 = some (5, 1) := by kernel_rfl
theorem fld_56_3 : fldI Try.prog 56 3 = some (6, 1) := by kernel_rfl
theorem fld_56_4 : fldI Try.prog 56 4 = some (7, 4) := by kernel_rfl
theorem bld_56 : bldI Try.prog 56 = some ([u64 0, u64 0, u64 0, u64 0, .int .i64 0, u64 0, u64 0, u64 0, u64 0, u64 0, u64 0], [(0, 4), (4, 1), (5, 1), (6, 1), (7, 4)]) := by kernel_rfl
-- field.numbers
theorem tsz_57 : tsz Try.prog 57 = some 11 := by kernel_rfl
theorem agg_57 : aggT Try.prog 57 = some true := by kernel_rfl
theorem zce_57 : zcells Try.prog 57 = some [u64 0, u64 0, u64 0, u64 0, .int .i64 0, u64 0, u64 0, u64 0, u64 0, u64 0, u64 0] := by kernel_rfl
theorem fld_57_0 : fldI Try.prog 57 0 = some (0, 4) := by kernel_rfl
theorem fld_57_1 : fldI Try.prog 57 1 = some (4, 1) := by kernel_rfl
theorem fld_57_2 : fldI Try.prog 57 2 = some (5, 1) := by kernel_rfl
theorem fld_57_3 : fldI Try.prog 57 3 = some (6, 1) := by kernel_rfl
theorem fld_57_4 : fldI Try.prog 57 4 = some (7, 4) := by kernel_rfl
theorem bld_57 : bldI Try.prog 57 = some ([u64 0, u64 0, u64 0, u64 0, .int .i64 0, u64 0, u64 0, u64 0, u64 0, u64 0, u64 0], [(0, 4), (4, 1), (5, 1), (6, 1), (7, 4)]) := by kernel_rfl
-- uint
theorem tsz_63 : tsz Try.prog 63 = some 1 := by kernel_rfl
theorem agg_63 : aggT Try.prog 63 = some false := by kernel_rfl
theorem int_63 : intT Try.prog 63 = some .u64 := by kernel_rfl
theorem und_63 : Try.prog.underlying 63 = some (.int .u64) := by kernel_rfl
theorem zce_63 : zcells Try.prog 63 = some [u64 0] := by kernel_rfl
-- [4]int
theorem tsz_67 : tsz Try.prog 67 = some 4 := by kernel_rfl
theorem agg_67 : aggT Try.prog 67 = some true := by kernel_rfl
theorem arr_67 : arrI Try.prog 67 = some (4, 1) := by kernel_rfl
theorem zce_67 : zcells Try.prog 67 = some [.int .i64 0, .int .i64 0, .int .i64 0, .int .i64 0] := by kernel_rfl
theorem bld_67 : bldI Try.prog 67 = some ([.int .i64 0, .int .i64 0, .int .i64 0, .int .i64 0], [(0, 1), (1, 1), (2, 1), (3, 1)]) := by kernel_rfl
-- [2]api.Elem
theorem tsz_73 : tsz Try.prog 73 = some 8 := by kernel_rfl
theorem agg_73 : aggT Try.prog 73 = some true := by kernel_rfl
theorem arr_73 : arrI Try.prog 73 = some (2, 4) := by kernel_rfl
theorem zce_73 : zcells Try.prog 73 = some [u64 0, u64 0, u64 0, u64 0, u64 0, u64 0, u64 0, u64 0] := by kernel_rfl
theorem bld_73 : bldI Try.prog 73 = some ([u64 0, u64 0, u64 0, u64 0, u64 0, u64 0, u64 0, u64 0], [(0, 4), (4, 4)]) := by kernel_rfl
-- []int
theorem tsz_76 : tsz Try.prog 76 = some 1 := by kernel_rfl
theorem agg_76 : aggT Try.prog 76 = some false := by kernel_rfl
theorem sli_76 : slI Try.prog 76 = some 1 := by kernel_rfl
theorem mki_76 : mkI Try.prog 76 = some ⟨3, 1, 8, [.int .i64 0]⟩ := by kernel_rfl
theorem zce_76 : zcells Try.prog 76 = some [.slice none 0 0] := by kernel_rfl
-- [6]uint64
theorem tsz_79 : tsz Try.prog 79 = some 6 := by kernel_rfl
theorem agg_79 : aggT Try.prog 79 = some true := by kernel_rfl
theorem arr_79 : arrI Try.prog 79 = some (6, 1) := by kernel_rfl
theorem zce_79 : zcells Try.prog 79 = some [u64 0, u64 0, u64 0, u64 0, u64 0, u64 0] := by kernel_rfl
theorem bld_79 : bldI Try.prog 79 = some ([u64 0, u64 0, u64 0, u64 0, u64 0, u64 0], [(0, 1), (1, 1), (2, 1), (3, 1), (4, 1), (5, 1)]) := by kernel_rfl
-- []uint64
theorem tsz_81 : tsz Try.prog 81 = some 1 := by kernel_rfl
theorem agg_81 : aggT Try.prog 81 = some false := by kernel_rfl
theorem sli_81 : slI Try.prog 81 = some 1 := by kernel_rfl
theorem mki_81 : mkI Try.prog 81 = some ⟨22, 1, 8, [u64 0]⟩ := by kernel_rfl
theorem zce_81 : zcells Try.prog 81 = some [.slice none 0 0] := by kernel_rfl
-- uint32
theorem tsz_94 : tsz Try.prog 94 = some 1 := by kernel_rfl
theorem agg_94 : aggT Try.prog 94 = some false := by kernel_rfl
theorem int_94 : intT Try.prog 94 = some .u32 := by kernel_rfl
theorem und_94 : Try.prog.underlying 94 = some (.int .u32) := by kernel_rfl
theorem zce_94 : zcells Try.prog 94 = some [.int .u32 0] := by kernel_rfl
-- *uint8
theorem tsz_98 : tsz Try.prog 98 = some 1 := by kernel_rfl
theorem agg_98 : aggT Try.prog 98 = some false := by kernel_rfl
theorem zce_98 : zcells Try.prog 98 = some [.pointer none] := by kernel_rfl
-- struct { s string }
theorem tsz_103 : tsz Try.prog 103 = some 1 := by kernel_rfl
theorem agg_103 : aggT Try.prog 103 = some true := by kernel_rfl
theorem zce_103 : zcells Try.prog 103 = some [.string ⟨#[]⟩] := by kernel_rfl
theorem fld_103_0 : fldI Try.prog 103 0 = some (0, 1) := by kernel_rfl
theorem bld_103 : bldI Try.prog 103 = some ([.string ⟨#[]⟩], [(0, 1)]) := by kernel_rfl
theorem TYX : type_of% (And.intro (And.intro (And.intro (And.intro (And.intro (And.intro (And.intro tsz_2 agg_2) (And.intro int_2 und_2)) (And.intro (And.intro zce_2 tsz_3) (And.intro agg_3 int_3))) (And.intro (And.intro (And.intro und_3 zce_3) (And.intro tsz_4 agg_4)) (And.intro (And.intro und_4 zce_4) (And.intro tsz_5 agg_5)))) (And.intro (And.intro (And.intro (And.intro int_5 und_5) (And.intro zce_5 tsz_9)) (And.intro (And.intro agg_9 und_9) (And.intro zce_9 tsz_12))) (And.intro (And.intro (And.intro agg_12 int_12) (And.intro und_12 zce_12)) (And.intro (And.intro tsz_13 agg_13) (And.intro zce_13 fld_13_0))))) (And.intro (And.intro (And.intro (And.intro (And.intro fld_13_1 bld_13) (And.intro tsz_21 agg_21)) (And.intro (And.intro int_21 und_21) (And.intro zce_21 tsz_22))) (And.intro (And.intro (And.intro agg_22 int_22) (And.intro und_22 zce_22)) (And.intro (And.intro tsz_23 agg_23) (And.intro arr_23 zce_23)))) (And.intro (And.intro (And.intro (And.intro bld_23 tsz_24) (And.intro agg_24 arr_24)) (And.intro (And.intro zce_24 bld_24) (And.intro tsz_29 agg_29))) (And.intro (And.intro (And.intro int_29 und_29) (And.intro zce_29 tsz_33)) (And.intro (And.intro agg_33 sli_33) (And.intro mki_33 (And.intro zce_33 tsz_44))))))) (And.intro (And.intro (And.intro (And.intro (And.intro (And.intro agg_44 sli_44) (And.intro mki_44 zce_44)) (And.intro (And.intro tsz_56 agg_56) (And.intro zce_56 fld_56_0))) (And.intro (And.intro (And.intro fld_56_1 fld_56_2) (And.intro fld_56_3 fld_56_4)) (And.intro (And.intro bld_56 tsz_57) (And.intro agg_57 zce_57)))) (And.intro (And.intro (And.intro (And.intro fld_57_0 fld_57_1) (And.intro fld_57_2 fld_57_3)) (And.intro (And.intro fld_57_4 bld_57) (And.intro tsz_63 agg_63))) (And.intro (And.intro (And.intro int_63 und_63) (And.intro zce_63 tsz_67)) (And.intro (And.intro agg_67 arr_67) (And.intro zce_67 bld_67))))) (And.intro (And.intro (And.intro (And.intro (And.intro tsz_73 agg_73) (And.intro arr_73 zce_73)) (And.intro (And.intro bld_73 tsz_76) (And.intro agg_76 sli_76))) (And.intro (And.intro (And.intro mki_76 zce_76) (And.intro tsz_79 agg_79)) (And.intro (And.intro arr_79 zce_79) (And.intro bld_79 tsz_81)))) (And.intro (And.intro (And.intro (And.intro agg_81 sli_81) (And.intro mki_81 zce_81)) (And.intro (And.intro tsz_94 agg_94) (And.intro int_94 und_94))) (And.intro (And.intro (And.intro zce_94 tsz_98) (And.intro agg_98 zce_98)) (And.intro (And.intro tsz_103 agg_103) (And.intro zce_103 (And.intro fld_103_0 bld_103)))))))) :=
  (And.intro (And.intro (And.intro (And.intro (And.intro (And.intro (And.intro tsz_2 agg_2) (And.intro int_2 und_2)) (And.intro (And.intro zce_2 tsz_3) (And.intro agg_3 int_3))) (And.intro (And.intro (And.intro und_3 zce_3) (And.intro tsz_4 agg_4)) (And.intro (And.intro und_4 zce_4) (And.intro tsz_5 agg_5)))) (And.intro (And.intro (And.intro (And.intro int_5 und_5) (And.intro zce_5 tsz_9)) (And.intro (And.intro agg_9 und_9) (And.intro zce_9 tsz_12))) (And.intro (And.intro (And.intro agg_12 int_12) (And.intro und_12 zce_12)) (And.intro (And.intro tsz_13 agg_13) (And.intro zce_13 fld_13_0))))) (And.intro (And.intro (And.intro (And.intro (And.intro fld_13_1 bld_13) (And.intro tsz_21 agg_21)) (And.intro (And.intro int_21 und_21) (And.intro zce_21 tsz_22))) (And.intro (And.intro (And.intro agg_22 int_22) (And.intro und_22 zce_22)) (And.intro (And.intro tsz_23 agg_23) (And.intro arr_23 zce_23)))) (And.intro (And.intro (And.intro (And.intro bld_23 tsz_24) (And.intro agg_24 arr_24)) (And.intro (And.intro zce_24 bld_24) (And.intro tsz_29 agg_29))) (And.intro (And.intro (And.intro int_29 und_29) (And.intro zce_29 tsz_33)) (And.intro (And.intro agg_33 sli_33) (And.intro mki_33 (And.intro zce_33 tsz_44))))))) (And.intro (And.intro (And.intro (And.intro (And.intro (And.intro agg_44 sli_44) (And.intro mki_44 zce_44)) (And.intro (And.intro tsz_56 agg_56) (And.intro zce_56 fld_56_0))) (And.intro (And.intro (And.intro fld_56_1 fld_56_2) (And.intro fld_56_3 fld_56_4)) (And.intro (And.intro bld_56 tsz_57) (And.intro agg_57 zce_57)))) (And.intro (And.intro (And.intro (And.intro fld_57_0 fld_57_1) (And.intro fld_57_2 fld_57_3)) (And.intro (And.intro fld_57_4 bld_57) (And.intro tsz_63 agg_63))) (And.intro (And.intro (And.intro int_63 und_63) (And.intro zce_63 tsz_67)) (And.intro (And.intro agg_67 arr_67) (And.intro zce_67 bld_67))))) (And.intro (And.intro (And.intro (And.intro (And.intro tsz_73 agg_73) (And.intro arr_73 zce_73)) (And.intro (And.intro bld_73 tsz_76) (And.intro agg_76 sli_76))) (And.intro (And.intro (And.intro mki_76 zce_76) (And.intro tsz_79 agg_79)) (And.intro (And.intro arr_79 zce_79) (And.intro bld_79 tsz_81)))) (And.intro (And.intro (And.intro (And.intro agg_81 sli_81) (And.intro mki_81 zce_81)) (And.intro (And.intro tsz_94 agg_94) (And.intro int_94 und_94))) (And.intro (And.intro (And.intro zce_94 tsz_98) (And.intro agg_98 zce_98)) (And.intro (And.intro tsz_103 agg_103) (And.intro zce_103 (And.intro fld_103_0 bld_103))))))))
end Go.Sx
