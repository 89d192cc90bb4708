/-
  Part 1 of the proof: contracts of the code's functions, and what is plain.
-/
import Derived.Test.YtjphlcfplcacnaaGreatL4
import Derived.Test.YtjphlcfplcacnaaGreatProg
import Derived.Test.YtjphlcfplcacnaaGreatL5
namespace Go.Proofs.YtjphlcfplcacnaaGreat.Sl
open Go Go.RowKit Go.Proofs
set_option linter.unusedVariables false
/-- The types that the texts of this seat ask. -/
def ti2 : TI := { desc := .int .i64, size := 1, bytes := 8, zero := .int .i64 0, places := [] }
def ti3 : TI := { desc := .int .i64, size := 1, bytes := 8, zero := .int .i64 0, places := [] }
def ti4 : TI := { desc := .bool, size := 1, bytes := 1, zero := .bool false, places := [] }
def ti5 : TI := { desc := .int .u8, size := 1, bytes := 1, zero := .int .u8 0, places := [] }
def ti9 : TI := { desc := .string, size := 1, bytes := 16, zero := .string ByteArray.empty, places := [] }
def ti21 : TI := { desc := .int .i32, size := 1, bytes := 4, zero := .int .i32 0, places := [] }
def ti23 : TI := { desc := .pointer 87, size := 1, bytes := 8, zero := .pointer none, places := [] }
def ti24 : TI := { desc := .int .i64, size := 1, bytes := 8, zero := .int .i64 0, places := [] }
def ti27 : TI := { desc := .pointer 100, size := 1, bytes := 8, zero := .pointer none, places := [] }
def ti32 : TI := { desc := .int .u64, size := 1, bytes := 8, zero := .int .u64 0, places := [] }
def ti33 : TI := { desc := .int .i64, size := 1, bytes := 8, zero := .int .i64 0, places := [] }
def ti35 : TI := { desc := .struct #[{ name := "Edge", type := 4, offset := 0, embedded := false, tag := "", pkgPath := "", byteOffset := 0 }, { name := "Line", type := 4, offset := 1, embedded := false, tag := "", pkgPath := "", byteOffset := 1 }, { name := "Latch", type := 4, offset := 2, embedded := false, tag := "", pkgPath := "", byteOffset := 2 }, { name := "Active", type := 4, offset := 3, embedded := false, tag := "", pkgPath := "", byteOffset := 3 }], size := 4, bytes := 4, zero := .agg #[.bool false, .bool false, .bool false, .bool false], places := [(0, 1), (1, 1), (2, 1), (3, 1)] }
def ti37 : TI := { desc := .struct #[{ name := "Do", type := 3, offset := 0, embedded := false, tag := "", pkgPath := "", byteOffset := 0 }, { name := "Off", type := 3, offset := 1, embedded := false, tag := "", pkgPath := "", byteOffset := 8 }, { name := "K", type := 3, offset := 2, embedded := false, tag := "", pkgPath := "", byteOffset := 16 }, { name := "ID", type := 3, offset := 3, embedded := false, tag := "", pkgPath := "", byteOffset := 24 }, { name := "V", type := 32, offset := 4, embedded := false, tag := "", pkgPath := "", byteOffset := 32 }, { name := "A", type := 33, offset := 5, embedded := false, tag := "", pkgPath := "", byteOffset := 40 }, { name := "S", type := 35, offset := 6, embedded := false, tag := "", pkgPath := "", byteOffset := 48 }, { name := "High", type := 4, offset := 10, embedded := false, tag := "", pkgPath := "", byteOffset := 52 }], size := 11, bytes := 56, zero := .agg #[.int .i64 0, .int .i64 0, .int .i64 0, .int .i64 0, .int .u64 0, .int .i64 0, .bool false, .bool false, .bool false, .bool false, .bool false], places := [(0, 1), (1, 1), (2, 1), (3, 1), (4, 1), (5, 1), (6, 4), (10, 1)] }
def ti39 : TI := { desc := .slice 37, size := 1, bytes := 24, zero := .slice none 0 0, places := [] }
def ti41 : TI := { desc := .slice 3, size := 1, bytes := 24, zero := .slice none 0 0, places := [] }
def ti44 : TI := { desc := .func #[107] #[] false, size := 1, bytes := 8, zero := .nilFunc, places := [] }
def ti50 : TI := { desc := .struct #[{ name := "ID", type := 3, offset := 0, embedded := false, tag := "", pkgPath := "", byteOffset := 0 }, { name := "Priority", type := 3, offset := 1, embedded := false, tag := "", pkgPath := "", byteOffset := 8 }, { name := "Group", type := 3, offset := 2, embedded := false, tag := "", pkgPath := "", byteOffset := 16 }, { name := "Is", type := 4, offset := 3, embedded := false, tag := "", pkgPath := "", byteOffset := 24 }], size := 4, bytes := 32, zero := .agg #[.int .i64 0, .int .i64 0, .int .i64 0, .bool false], places := [(0, 1), (1, 1), (2, 1), (3, 1)] }
def ti53 : TI := { desc := .struct #[{ name := "Irq", type := 35, offset := 0, embedded := true, tag := "", pkgPath := "", byteOffset := 0 }, { name := "Enabled", type := 4, offset := 4, embedded := false, tag := "", pkgPath := "", byteOffset := 4 }, { name := "Group", type := 3, offset := 5, embedded := false, tag := "", pkgPath := "", byteOffset := 8 }, { name := "Priority", type := 3, offset := 6, embedded := false, tag := "", pkgPath := "", byteOffset := 16 }], size := 7, bytes := 24, zero := .agg #[.bool false, .bool false, .bool false, .bool false, .bool false, .int .i64 0, .int .i64 0], places := [(0, 4), (4, 1), (5, 1), (6, 1)] }
def ti63 : TI := { desc := .int .u64, size := 1, bytes := 8, zero := .int .u64 0, places := [] }
def ti65 : TI := { desc := .int .i64, size := 1, bytes := 8, zero := .int .i64 0, places := [] }
def ti67 : TI := { desc := .struct #[{ name := "Reg", type := 65, offset := 0, embedded := false, tag := "", pkgPath := "", byteOffset := 0 }, { name := "First", type := 3, offset := 1, embedded := false, tag := "", pkgPath := "", byteOffset := 8 }, { name := "Count", type := 3, offset := 2, embedded := false, tag := "", pkgPath := "", byteOffset := 16 }], size := 3, bytes := 24, zero := .agg #[.int .i64 0, .int .i64 0, .int .i64 0], places := [(0, 1), (1, 1), (2, 1)] }
def ti79 : TI := { desc := .pointer 143, size := 1, bytes := 8, zero := .pointer none, places := [] }
def ti83 : TI := { desc := .struct #[{ name := "Core", type := 3, offset := 0, embedded := false, tag := "", pkgPath := "", byteOffset := 0 }, { name := "Any", type := 4, offset := 1, embedded := false, tag := "", pkgPath := "", byteOffset := 8 }], size := 2, bytes := 16, zero := .agg #[.int .i64 0, .bool false], places := [(0, 1), (1, 1)] }
def ti84 : TI := { desc := .array 2 4, size := 2, bytes := 2, zero := .agg #[.bool false, .bool false], places := [] }
def ti85 : TI := { desc := .slice 95, size := 1, bytes := 24, zero := .slice none 0 0, places := [] }
def ti87 : TI := { desc := .struct #[{ name := "on", type := 84, offset := 0, embedded := false, tag := "", pkgPath := "crier/dist", byteOffset := 0 }, { name := "spis", type := 79, offset := 2, embedded := false, tag := "", pkgPath := "crier/dist", byteOffset := 8 }, { name := "cores", type := 85, offset := 3, embedded := false, tag := "", pkgPath := "crier/dist", byteOffset := 16 }], size := 4, bytes := 40, zero := .agg #[.bool false, .bool false, .pointer none, .slice none 0 0], places := [(0, 2), (2, 1), (3, 1)] }
def ti88 : TI := { desc := .pointer 146, size := 1, bytes := 8, zero := .pointer none, places := [] }
def ti92 : TI := { desc := .struct #[], size := 0, bytes := 0, zero := .agg #[], places := [] }
def ti95 : TI := { desc := .struct #[{ name := "own", type := 88, offset := 0, embedded := false, tag := "", pkgPath := "crier/dist", byteOffset := 0 }, { name := "asleep", type := 4, offset := 1, embedded := false, tag := "", pkgPath := "crier/dist", byteOffset := 8 }], size := 2, bytes := 16, zero := .agg #[.pointer none, .bool false], places := [(0, 1), (1, 1)] }
def ti96 : TI := { desc := .slice 4, size := 1, bytes := 24, zero := .slice none 0 0, places := [] }
def ti97 : TI := { desc := .pointer 152, size := 1, bytes := 8, zero := .pointer none, places := [] }
def ti98 : TI := { desc := .slice 97, size := 1, bytes := 24, zero := .slice none 0 0, places := [] }
def ti100 : TI := { desc := .struct #[{ name := "On", type := 84, offset := 0, embedded := false, tag := "", pkgPath := "", byteOffset := 0 }, { name := "Shared", type := 97, offset := 2, embedded := false, tag := "", pkgPath := "", byteOffset := 8 }, { name := "Core", type := 41, offset := 3, embedded := false, tag := "", pkgPath := "", byteOffset := 16 }, { name := "Any", type := 96, offset := 4, embedded := false, tag := "", pkgPath := "", byteOffset := 40 }, { name := "Own", type := 98, offset := 5, embedded := false, tag := "", pkgPath := "", byteOffset := 64 }, { name := "Sleep", type := 96, offset := 6, embedded := false, tag := "", pkgPath := "", byteOffset := 88 }], size := 7, bytes := 112, zero := .agg #[.bool false, .bool false, .pointer none, .slice none 0 0, .slice none 0 0, .slice none 0 0, .slice none 0 0], places := [(0, 2), (2, 1), (3, 1), (4, 1), (5, 1), (6, 1)] }
def ti107 : TI := { desc := .func #[3, 53] #[4] false, size := 1, bytes := 8, zero := .nilFunc, places := [] }
def ti110 : TI := { desc := .struct #[{ name := "Line", type := 53, offset := 0, embedded := true, tag := "", pkgPath := "", byteOffset := 0 }, { name := "Extra", type := 83, offset := 7, embedded := false, tag := "", pkgPath := "", byteOffset := 24 }], size := 9, bytes := 40, zero := .agg #[.bool false, .bool false, .bool false, .bool false, .bool false, .int .i64 0, .int .i64 0, .int .i64 0, .bool false], places := [(0, 7), (7, 2)] }
def ti115 : TI := { desc := .struct #[{ name := "Line", type := 53, offset := 0, embedded := true, tag := "", pkgPath := "", byteOffset := 0 }, { name := "Extra", type := 92, offset := 7, embedded := false, tag := "", pkgPath := "", byteOffset := 24 }], size := 7, bytes := 32, zero := .agg #[.bool false, .bool false, .bool false, .bool false, .bool false, .int .i64 0, .int .i64 0], places := [(0, 7), (7, 0)] }
def ti121 : TI := { desc := .struct #[{ name := "ID", type := 3, offset := 0, embedded := false, tag := "", pkgPath := "", byteOffset := 0 }, { name := "All", type := 4, offset := 1, embedded := false, tag := "", pkgPath := "", byteOffset := 8 }, { name := "Targets", type := 3, offset := 2, embedded := false, tag := "", pkgPath := "", byteOffset := 16 }, { name := "Odd", type := 4, offset := 3, embedded := false, tag := "", pkgPath := "", byteOffset := 24 }], size := 4, bytes := 32, zero := .agg #[.int .i64 0, .bool false, .int .i64 0, .bool false], places := [(0, 1), (1, 1), (2, 1), (3, 1)] }
def ti123 : TI := { desc := .func #[56] #[] false, size := 1, bytes := 8, zero := .nilFunc, places := [] }
def ti124 : TI := { desc := .func #[56] #[] false, size := 1, bytes := 8, zero := .nilFunc, places := [] }
def ti127 : TI := { desc := .func #[162] #[] false, size := 1, bytes := 8, zero := .nilFunc, places := [] }
def ti130 : TI := { desc := .func #[163] #[] false, size := 1, bytes := 8, zero := .nilFunc, places := [] }
def ti141 : TI := { desc := .slice 110, size := 1, bytes := 24, zero := .slice none 0 0, places := [] }
def ti143 : TI := { desc := .struct #[{ name := "first", type := 3, offset := 0, embedded := false, tag := "", pkgPath := "crier/bank", byteOffset := 0 }, { name := "entries", type := 141, offset := 1, embedded := false, tag := "", pkgPath := "crier/bank", byteOffset := 8 }], size := 2, bytes := 32, zero := .agg #[.int .i64 0, .slice none 0 0], places := [(0, 1), (1, 1)] }
def ti144 : TI := { desc := .slice 115, size := 1, bytes := 24, zero := .slice none 0 0, places := [] }
def ti146 : TI := { desc := .struct #[{ name := "first", type := 3, offset := 0, embedded := false, tag := "", pkgPath := "crier/bank", byteOffset := 0 }, { name := "entries", type := 144, offset := 1, embedded := false, tag := "", pkgPath := "crier/bank", byteOffset := 8 }], size := 2, bytes := 32, zero := .agg #[.int .i64 0, .slice none 0 0], places := [(0, 1), (1, 1)] }
def ti147 : TI := { desc := .pointer 115, size := 1, bytes := 8, zero := .pointer none, places := [] }
def ti149 : TI := { desc := .slice 53, size := 1, bytes := 24, zero := .slice none 0 0, places := [] }
def ti150 : TI := { desc := .slice 9, size := 1, bytes := 24, zero := .slice none 0 0, places := [] }
def ti152 : TI := { desc := .struct #[{ name := "First", type := 3, offset := 0, embedded := false, tag := "", pkgPath := "", byteOffset := 0 }, { name := "Lines", type := 149, offset := 1, embedded := false, tag := "", pkgPath := "", byteOffset := 8 }, { name := "Extras", type := 150, offset := 2, embedded := false, tag := "", pkgPath := "", byteOffset := 32 }], size := 3, bytes := 56, zero := .agg #[.int .i64 0, .slice none 0 0, .slice none 0 0], places := [(0, 1), (1, 1), (2, 1)] }
def ti157 : TI := { desc := .slice 179, size := 1, bytes := 24, zero := .slice none 0 0, places := [] }
def ti159 : TI := { desc := .pointer 110, size := 1, bytes := 8, zero := .pointer none, places := [] }
def ti162 : TI := { desc := .func #[3, 115] #[4] false, size := 1, bytes := 8, zero := .nilFunc, places := [] }
def ti163 : TI := { desc := .func #[3, 110] #[4] false, size := 1, bytes := 8, zero := .nilFunc, places := [] }
def ti171 : TI := { desc := .slice 186, size := 1, bytes := 24, zero := .slice none 0 0, places := [] }
def ti179 : TI := { desc := .struct #[{ name := "from", type := 3, offset := 0, embedded := false, tag := "", pkgPath := "crier/crierref10", byteOffset := 0 }, { name := "to", type := 3, offset := 1, embedded := false, tag := "", pkgPath := "crier/crierref10", byteOffset := 8 }, { name := "width", type := 3, offset := 2, embedded := false, tag := "", pkgPath := "crier/crierref10", byteOffset := 16 }, { name := "reg", type := 65, offset := 3, embedded := false, tag := "", pkgPath := "crier/crierref10", byteOffset := 24 }, { name := "first", type := 3, offset := 4, embedded := false, tag := "", pkgPath := "crier/crierref10", byteOffset := 32 }, { name := "of", type := 3, offset := 5, embedded := false, tag := "", pkgPath := "crier/crierref10", byteOffset := 40 }, { name := "per", type := 3, offset := 6, embedded := false, tag := "", pkgPath := "crier/crierref10", byteOffset := 48 }], size := 7, bytes := 56, zero := .agg #[.int .i64 0, .int .i64 0, .int .i64 0, .int .i64 0, .int .i64 0, .int .i64 0, .int .i64 0], places := [(0, 1), (1, 1), (2, 1), (3, 1), (4, 1), (5, 1), (6, 1)] }
def ti186 : TI := { desc := .struct #[{ name := "from", type := 3, offset := 0, embedded := false, tag := "", pkgPath := "crier/regs", byteOffset := 0 }, { name := "to", type := 3, offset := 1, embedded := false, tag := "", pkgPath := "crier/regs", byteOffset := 8 }, { name := "width", type := 3, offset := 2, embedded := false, tag := "", pkgPath := "crier/regs", byteOffset := 16 }, { name := "reg", type := 65, offset := 3, embedded := false, tag := "", pkgPath := "crier/regs", byteOffset := 24 }, { name := "first", type := 3, offset := 4, embedded := false, tag := "", pkgPath := "crier/regs", byteOffset := 32 }, { name := "num", type := 3, offset := 5, embedded := false, tag := "", pkgPath := "crier/regs", byteOffset := 40 }, { name := "den", type := 3, offset := 6, embedded := false, tag := "", pkgPath := "crier/regs", byteOffset := 48 }], size := 7, bytes := 56, zero := .agg #[.int .i64 0, .int .i64 0, .int .i64 0, .int .i64 0, .int .i64 0, .int .i64 0, .int .i64 0], places := [(0, 1), (1, 1), (2, 1), (3, 1), (4, 1), (5, 1), (6, 1)] }
def ti188 : TI := { desc := .slice 65, size := 1, bytes := 24, zero := .slice none 0 0, places := [] }
def tt : TT := [(2, ti2), (3, ti3), (4, ti4), (5, ti5), (9, ti9), (21, ti21), (23, ti23), (24, ti24), (27, ti27), (32, ti32), (33, ti33), (35, ti35), (37, ti37), (39, ti39), (41, ti41), (44, ti44), (50, ti50), (53, ti53), (63, ti63), (65, ti65), (67, ti67), (79, ti79), (83, ti83), (84, ti84), (85, ti85), (87, ti87), (88, ti88), (92, ti92), (95, ti95), (96, ti96), (97, ti97), (98, ti98), (100, ti100), (107, ti107), (110, ti110), (115, ti115), (121, ti121), (123, ti123), (124, ti124), (127, ti127), (130, ti130), (141, ti141), (143, ti143), (144, ti144), (146, ti146), (147, ti147), (149, ti149), (150, ti150), (152, ti152), (157, ti157), (159, ti159), (162, ti162), (163, ti163), (171, ti171), (179, ti179), (186, ti186), (188, ti188)]
theorem ti2_ok : TIok Tryz.prog 2 ti2 := ⟨⟨by kernel_rfl, by kernel_rfl⟩, by kernel_rfl⟩
theorem ti3_ok : TIok Tryz.prog 3 ti3 := ⟨⟨by kernel_rfl, by kernel_rfl⟩, by kernel_rfl⟩
theorem ti4_ok : TIok Tryz.prog 4 ti4 := ⟨⟨by kernel_rfl, by kernel_rfl⟩, by kernel_rfl⟩
theorem ti5_ok : TIok Tryz.prog 5 ti5 := ⟨⟨by kernel_rfl, by kernel_rfl⟩, by kernel_rfl⟩
theorem ti9_ok : TIok Tryz.prog 9 ti9 := ⟨⟨by kernel_rfl, by kernel_rfl⟩, by kernel_rfl⟩
theorem ti21_ok : TIok Tryz.prog 21 ti21 := ⟨⟨by kernel_rfl, by kernel_rfl⟩, by kernel_rfl⟩
theorem ti23_ok : TIok Tryz.prog 23 ti23 := ⟨⟨by kernel_rfl, by kernel_rfl⟩, by kernel_rfl⟩
theorem ti24_ok : TIok Tryz.prog 24 ti24 := ⟨⟨by kernel_rfl, by kernel_rfl⟩, by kernel_rfl⟩
theorem ti27_ok : TIok Tryz.prog 27 ti27 := ⟨⟨by kernel_rfl, by kernel_rfl⟩, by kernel_rfl⟩
theorem ti32_ok : TIok Tryz.prog 32 ti32 := ⟨⟨by kernel_rfl, by kernel_rfl⟩, by kernel_rfl⟩
theorem ti33_ok : TIok Tryz.prog 33 ti33 := ⟨⟨by kernel_rfl, by kernel_rfl⟩, by kernel_rfl⟩
theorem ti35_ok : TIok Tryz.prog 35 ti35 := ⟨⟨by kernel_rfl, by kernel_rfl⟩, by kernel_rfl⟩
theorem ti37_ok : TIok Tryz.prog 37 ti37 := ⟨⟨by kernel_rfl, by kernel_rfl⟩, by kernel_rfl⟩
theorem ti39_ok : TIok Tryz.prog 39 ti39 := ⟨⟨by kernel_rfl, by kernel_rfl⟩, by kernel_rfl⟩
theorem ti41_ok : TIok Tryz.prog 41 ti41 := ⟨⟨by kernel_rfl, by kernel_rfl⟩, by kernel_rfl⟩
theorem ti44_ok : TIok Tryz.prog 44 ti44 := ⟨⟨by kernel_rfl, by kernel_rfl⟩, by kernel_rfl⟩
theorem ti50_ok : TIok Tryz.prog 50 ti50 := ⟨⟨by kernel_rfl, by kernel_rfl⟩, by kernel_rfl⟩
theorem ti53_ok : TIok Tryz.prog 53 ti53 := ⟨⟨by kernel_rfl, by kernel_rfl⟩, by kernel_rfl⟩
theorem ti63_ok : TIok Tryz.prog 63 ti63 := ⟨⟨by kernel_rfl, by kernel_rfl⟩, by kernel_rfl⟩
theorem ti65_ok : TIok Tryz.prog 65 ti65 := ⟨⟨by kernel_rfl, by kernel_rfl⟩, by kernel_rfl⟩
theorem ti67_ok : TIok Tryz.prog 67 ti67 := ⟨⟨by kernel_rfl, by kernel_rfl⟩, by kernel_rfl⟩
theorem ti79_ok : TIok Tryz.prog 79 ti79 := ⟨⟨by kernel_rfl, by kernel_rfl⟩, by kernel_rfl⟩
theorem ti83_ok : TIok Tryz.prog 83 ti83 := ⟨⟨by kernel_rfl, by kernel_rfl⟩, by kernel_rfl⟩
theorem ti84_ok : TIok Tryz.prog 84 ti84 := ⟨⟨by kernel_rfl, by kernel_rfl⟩, by kernel_rfl⟩
theorem ti85_ok : TIok Tryz.prog 85 ti85 := ⟨⟨by kernel_rfl, by kernel_rfl⟩, by kernel_rfl⟩
theorem ti87_ok : TIok Tryz.prog 87 ti87 := ⟨⟨by kernel_rfl, by kernel_rfl⟩, by kernel_rfl⟩
theorem ti88_ok : TIok Tryz.prog 88 ti88 := ⟨⟨by kernel_rfl, by kernel_rfl⟩, by kernel_rfl⟩
theorem ti92_ok : TIok Tryz.prog 92 ti92 := ⟨⟨by kernel_rfl, by kernel_rfl⟩, by kernel_rfl⟩
theorem ti95_ok : TIok Tryz.prog 95 ti95 := ⟨⟨by kernel_rfl, by kernel_rfl⟩, by kernel_rfl⟩
theorem ti96_ok : TIok Tryz.prog 96 ti96 := ⟨⟨by kernel_rfl, by kernel_rfl⟩, by kernel_rfl⟩
theorem ti97_ok : TIok Tryz.prog 97 ti97 := ⟨⟨by kernel_rfl, by kernel_rfl⟩, by kernel_rfl⟩
theorem ti98_ok : TIok Tryz.prog 98 ti98 := ⟨⟨by kernel_rfl, by kernel_rfl⟩, by kernel_rfl⟩
theorem ti100_ok : TIok Tryz.prog 100 ti100 := ⟨⟨by kernel_rfl, by kernel_rfl⟩, by kernel_rfl⟩
theorem ti107_ok : TIok Tryz.prog 107 ti107 := ⟨⟨by kernel_rfl, by kernel_rfl⟩, by kernel_rfl⟩
theorem ti110_ok : TIok Tryz.prog 110 ti110 := ⟨⟨by kernel_rfl, by kernel_rfl⟩, by kernel_rfl⟩
theorem ti115_ok : TIok Tryz.prog 115 ti115 := ⟨⟨by kernel_rfl, by kernel_rfl⟩, by kernel_rfl⟩
theorem ti121_ok : TIok Tryz.prog 121 ti121 := ⟨⟨by kernel_rfl, by kernel_rfl⟩, by kernel_rfl⟩
theorem ti123_ok : TIok Tryz.prog 123 ti123 := ⟨⟨by kernel_rfl, by kernel_rfl⟩, by kernel_rfl⟩
theorem ti124_ok : TIok Tryz.prog 124 ti124 := ⟨⟨by kernel_rfl, by kernel_rfl⟩, by kernel_rfl⟩
theorem ti127_ok : TIok Tryz.prog 127 ti127 := ⟨⟨by kernel_rfl, by kernel_rfl⟩, by kernel_rfl⟩
theorem ti130_ok : TIok Tryz.prog 130 ti130 := ⟨⟨by kernel_rfl, by kernel_rfl⟩, by kernel_rfl⟩
theorem ti141_ok : TIok Tryz.prog 141 ti141 := ⟨⟨by kernel_rfl, by kernel_rfl⟩, by kernel_rfl⟩
theorem ti143_ok : TIok Tryz.prog 143 ti143 := ⟨⟨by kernel_rfl, by kernel_rfl⟩, by kernel_rfl⟩
theorem ti144_ok : TIok Tryz.prog 144 ti144 := ⟨⟨by kernel_rfl, by kernel_rfl⟩, by kernel_rfl⟩
theorem ti146_ok : TIok Tryz.prog 146 ti146 := ⟨⟨by kernel_rfl, by kernel_rfl⟩, by kernel_rfl⟩
theorem ti147_ok : TIok Tryz.prog 147 ti147 := ⟨⟨by kernel_rfl, by kernel_rfl⟩, by kernel_rfl⟩
theorem ti149_ok : TIok Tryz.prog 149 ti149 := ⟨⟨by kernel_rfl, by kernel_rfl⟩, by kernel_rfl⟩
theorem ti150_ok : TIok Tryz.prog 150 ti150 := ⟨⟨by kernel_rfl, by kernel_rfl⟩, by kernel_rfl⟩
theorem ti152_ok : TIok Tryz.prog 152 ti152 := ⟨⟨by kernel_rfl, by kernel_rfl⟩, by kernel_rfl⟩
theorem ti157_ok : TIok Tryz.prog 157 ti157 := ⟨⟨by kernel_rfl, by kernel_rfl⟩, by kernel_rfl⟩
theorem ti159_ok : TIok Tryz.prog 159 ti159 := ⟨⟨by kernel_rfl, by kernel_rfl⟩, by kernel_rfl⟩
theorem ti162_ok : TIok Tryz.prog 162 ti162 := ⟨⟨by kernel_rfl, by kernel_rfl⟩, by kernel_rfl⟩
theorem ti163_ok : TIok Tryz.prog 163 ti163 := ⟨⟨by kernel_rfl, by kernel_rfl⟩, by kernel_rfl⟩
theorem ti171_ok : TIok Tryz.prog 171 ti171 := ⟨⟨by kernel_rfl, by kernel_rfl⟩, by kernel_rfl⟩
theorem ti179_ok : TIok Tryz.prog 179 ti179 := ⟨⟨by kernel_rfl, by kernel_rfl⟩, by kernel_rfl⟩
theorem ti186_ok : TIok Tryz.prog 186 ti186 := ⟨⟨by kernel_rfl, by kernel_rfl⟩, by kernel_rfl⟩
theorem ti188_ok : TIok Tryz.prog 188 ti188 := ⟨⟨by kernel_rfl, by kernel_rfl⟩, by kernel_rfl⟩
theorem tt_ok : TTok Tryz.prog tt := ⟨ti2_ok, ti3_ok, ti4_ok, ti5_ok, ti9_ok, ti21_ok, ti23_ok, ti24_ok, ti27_ok, ti32_ok, ti33_ok, ti35_ok, ti37_ok, ti39_ok, ti41_ok, ti44_ok, ti50_ok, ti53_ok, ti63_ok, ti65_ok, ti67_ok, ti79_ok, ti83_ok, ti84_ok, ti85_ok, ti87_ok, ti88_ok, ti92_ok, ti95_ok, ti96_ok, ti97_ok, ti98_ok, ti100_ok, ti107_ok, ti110_ok, ti115_ok, ti121_ok, ti123_ok, ti124_ok, ti127_ok, ti130_ok, ti141_ok, ti143_ok, ti144_ok, ti146_ok, ti147_ok, ti149_ok, ti150_ok, ti152_ok, ti157_ok, ti159_ok, ti162_ok, ti163_ok, ti171_ok, ti179_ok, ti186_ok, ti188_ok, trivial⟩
end Go.Proofs.YtjphlcfplcacnaaGreat.Sl
namespace Go.Proofs.YtjphlcfplcacnaaGreat.Sl
open Go Go.RowKit Go.Proofs
set_option linter.unusedVariables false
set_option linter.unusedSimpArgs false
attribute [local irreducible] CW Tri OW
set_option maxRecDepth 10000
@[reducible] def pk95 : List (Nat × Plan) := []
@[reducible] def pk52 : List (Nat × Plan) := []
@[reducible] def pk84 : List (Nat × Plan) := []
@[reducible] def pl103_0 : Plan := [(0, 0, []), (1, 0, []), (2, 0, []), (3, 1, [1]), (4, 1, [1]), (5, 0, []), (6, 1, [])]
-- part Fa
/-- An interrupt's state: Edge, Line, Latch, Active. -/
abbrev Iq := Bool × Bool × Bool × Bool
@[reducible] def iqC (i : Iq) : List Value := [.bool i.1, .bool i.2.1, .bool i.2.2.1, .bool i.2.2.2]
def pendI (i : Iq) : Bool := i.2.2.1 || (!i.1 && i.2.1)
def readyI (i : Iq) : Bool := pendI i && !i.2.2.2
def stepI (i : Iq) (x : Int) : Iq :=
  if x = 1 then (i.1, true, i.2.2.1 || (i.1 && !i.2.1), i.2.2.2) else if x = 2 then (i.1, false, i.2.2.1, i.2.2.2) else if x = 3 then (i.1, i.2.1, true, i.2.2.2) else if x = 4 then (i.1, i.2.1, false, i.2.2.2)
  else if x = 5 then (if readyI i then (i.1, i.2.1, false, true) else i) else if x = 6 then (i.1, i.2.1, i.2.2.1, false) else if x = 7 then (i.1, i.2.1, i.2.2.1, true) else if x = 8 then (true, i.2.1, i.2.2.1, i.2.2.2) else if x = 9 then (false, i.2.1, i.2.2.1, i.2.2.2) else i
theorem pending47 (β : Base) (e l t a : Bool) : Tri Tryz.prog β 95 [.agg #[.bool e, .bool l, .bool t, .bool a]] [] (fun v L => v = .bool (pendI (e, l, t, a)) ∧ L = []) := by
  refine Tri.intro tt_ok Tryz.func95 rfl rfl Tryz.ntmps95 rfl fun F => ?_
  cases t
  · cases e
    · (refine G tt_ok pk95 ?_; repeat (refine G1 tt_ok pk95 ?_; intro _))
      refine CW.ret (fin_ret rfl (Ent.dropAll _) ?_)
      exact ⟨by simp [packV, pendI], rfl⟩
    · (refine G tt_ok pk95 ?_; repeat (refine G1 tt_ok pk95 ?_; intro _))
      refine CW.ret (fin_ret rfl (Ent.dropAll _) ?_)
      exact ⟨by simp [packV, pendI], rfl⟩
  · (refine G tt_ok pk95 ?_; repeat (refine G1 tt_ok pk95 ?_; intro _))
    refine CW.ret (fin_ret rfl (Ent.dropAll _) ?_)
    exact ⟨by simp [packV, pendI], rfl⟩
theorem ready60 (β : Base) (e l t a : Bool) : Tri Tryz.prog β 52 [.agg #[.bool e, .bool l, .bool t, .bool a]] [] (fun v L => v = .bool (readyI (e, l, t, a)) ∧ L = []) := by
  refine Tri.intro tt_ok Tryz.func52 rfl rfl Tryz.ntmps52 rfl fun F => ?_
  (refine G tt_ok pk52 ?_; repeat (refine G1 tt_ok pk52 ?_; intro _))
  (refine SQ.call rfl rfl (pending47 β e l t a) [] rfl ?_; rintro _ _ ⟨rfl, rfl⟩; refine w_ ?_)
  unfold readyI
  generalize pendI (e, l, t, a) = p
  cases p
  · (refine G tt_ok pk52 ?_; repeat (refine G1 tt_ok pk52 ?_; intro _))
    refine CW.ret (fin_ret rfl (Ent.dropAll _) ?_)
    exact ⟨by simp [packV], rfl⟩
  · (refine G tt_ok pk52 ?_; repeat (refine G1 tt_ok pk52 ?_; intro _))
    refine CW.ret (fin_ret rfl (Ent.dropAll _) ?_)
    exact ⟨by simp [packV], rfl⟩
theorem step48 (β : Base) (e l t a : Bool) (x : Int) : Tri Tryz.prog β 84 [.agg #[.bool e, .bool l, .bool t, .bool a], .int .i64 x] [] (fun v L => v = .agg (iqC (stepI (e, l, t, a) x)).toArray ∧ L = []) := by
  refine Tri.intro tt_ok Tryz.func84 rfl rfl Tryz.ntmps84 rfl fun F => ?_
  (refine G tt_ok pk84 ?_; repeat (refine G1 tt_ok pk84 ?_; intro _))
  generalize h1 : (x == 1) = c1
  cases c1
  · (refine G tt_ok pk84 ?_; repeat (refine G1 tt_ok pk84 ?_; intro _))
    generalize h2 : (x == 2) = c2
    cases c2
    · (refine G tt_ok pk84 ?_; repeat (refine G1 tt_ok pk84 ?_; intro _))
      generalize h3 : (x == 3) = c3
      cases c3
      · (refine G tt_ok pk84 ?_; repeat (refine G1 tt_ok pk84 ?_; intro _))
        generalize h4 : (x == 4) = c4
        cases c4
        · (refine G tt_ok pk84 ?_; repeat (refine G1 tt_ok pk84 ?_; intro _))
          generalize h5 : (x == 5) = c5
          cases c5
          · (refine G tt_ok pk84 ?_; repeat (refine G1 tt_ok pk84 ?_; intro _))
            generalize h6 : (x == 6) = c6
            cases c6
            · (refine G tt_ok pk84 ?_; repeat (refine G1 tt_ok pk84 ?_; intro _))
              generalize h7 : (x == 7) = c7
              cases c7
              · (refine G tt_ok pk84 ?_; repeat (refine G1 tt_ok pk84 ?_; intro _))
                generalize h8 : (x == 8) = c8
                cases c8
                · (refine G tt_ok pk84 ?_; repeat (refine G1 tt_ok pk84 ?_; intro _))
                  generalize h9 : (x == 9) = c9
                  cases c9
                  · (refine G tt_ok pk84 ?_; repeat (refine G1 tt_ok pk84 ?_; intro _))
                    refine CW.ret (fin_cells [_] ⟨⟨_, _, _, _, 0, rfl, rfl, rfl, rfl⟩, trivial⟩ (Ent.dropAll _) ?_)
                    refine ⟨?_, rfl⟩
                    simp only [beq_eq_false_iff_ne, ne_eq] at h1 h2 h3 h4 h5 h6 h7 h8 h9
                    simp [packV, stepI, iqC, h1, h2, h3, h4, h5, h6, h7, h8, h9]
                  · (refine G tt_ok pk84 ?_; repeat (refine G1 tt_ok pk84 ?_; intro _))
                    refine CW.ret (fin_cells [_] ⟨⟨_, _, _, _, 0, rfl, rfl, rfl, rfl⟩, trivial⟩ (Ent.dropAll _) ?_)
                    refine ⟨?_, rfl⟩
                    obtain rfl : x = 9 := by simpa using h9
                    simp [packV, stepI, iqC]
                · (refine G tt_ok pk84 ?_; repeat (refine G1 tt_ok pk84 ?_; intro _))
                  refine CW.ret (fin_cells [_] ⟨⟨_, _, _, _, 0, rfl, rfl, rfl, rfl⟩, trivial⟩ (Ent.dropAll _) ?_)
                  refine ⟨?_, rfl⟩
                  obtain rfl : x = 8 := by simpa using h8
                  simp [packV, stepI, iqC]
              · (refine G tt_ok pk84 ?_; repeat (refine G1 tt_ok pk84 ?_; intro _))
                refine CW.ret (fin_cells [_] ⟨⟨_, _, _, _, 0, rfl, rfl, rfl, rfl⟩, trivial⟩ (Ent.dropAll _) ?_)
                refine ⟨?_, rfl⟩
                obtain rfl : x = 7 := by simpa using h7
                simp [packV, stepI, iqC]
            · (refine G tt_ok pk84 ?_; repeat (refine G1 tt_ok pk84 ?_; intro _))
              refine CW.ret (fin_cells [_] ⟨⟨_, _, _, _, 0, rfl, rfl, rfl, rfl⟩, trivial⟩ (Ent.dropAll _) ?_)
              refine ⟨?_, rfl⟩
              obtain rfl : x = 6 := by simpa using h6
              simp [packV, stepI, iqC]
          · (refine G tt_ok pk84 ?_; repeat (refine G1 tt_ok pk84 ?_; intro _))
            (refine SQ.call rfl rfl (ready60 β e l t a) [] rfl ?_; rintro _ _ ⟨rfl, rfl⟩; refine w_ ?_)
            generalize hr : readyI (e, l, t, a) = rr
            cases rr
            · (refine G tt_ok pk84 ?_; repeat (refine G1 tt_ok pk84 ?_; intro _))
              refine CW.ret (fin_cells [_] ⟨⟨_, _, _, _, 0, rfl, rfl, rfl, rfl⟩, trivial⟩ (Ent.dropAll _) ?_)
              refine ⟨?_, rfl⟩
              obtain rfl : x = 5 := by simpa using h5
              simp [packV, stepI, iqC, hr]
            · (refine G tt_ok pk84 ?_; repeat (refine G1 tt_ok pk84 ?_; intro _))
              refine CW.ret (fin_cells [_] ⟨⟨_, _, _, _, 0, rfl, rfl, rfl, rfl⟩, trivial⟩ (Ent.dropAll _) ?_)
              refine ⟨?_, rfl⟩
              obtain rfl : x = 5 := by simpa using h5
              simp [packV, stepI, iqC, hr]
        · (refine G tt_ok pk84 ?_; repeat (refine G1 tt_ok pk84 ?_; intro _))
          refine CW.ret (fin_cells [_] ⟨⟨_, _, _, _, 0, rfl, rfl, rfl, rfl⟩, trivial⟩ (Ent.dropAll _) ?_)
          refine ⟨?_, rfl⟩
          obtain rfl : x = 4 := by simpa using h4
          simp [packV, stepI, iqC]
      · (refine G tt_ok pk84 ?_; repeat (refine G1 tt_ok pk84 ?_; intro _))
        refine CW.ret (fin_cells [_] ⟨⟨_, _, _, _, 0, rfl, rfl, rfl, rfl⟩, trivial⟩ (Ent.dropAll _) ?_)
        refine ⟨?_, rfl⟩
        obtain rfl : x = 3 := by simpa using h3
        simp [packV, stepI, iqC]
    · (refine G tt_ok pk84 ?_; repeat (refine G1 tt_ok pk84 ?_; intro _))
      refine CW.ret (fin_cells [_] ⟨⟨_, _, _, _, 0, rfl, rfl, rfl, rfl⟩, trivial⟩ (Ent.dropAll _) ?_)
      refine ⟨?_, rfl⟩
      obtain rfl : x = 2 := by simpa using h2
      simp [packV, stepI, iqC]
  · cases t
    · cases e
      · (refine G tt_ok pk84 ?_; repeat (refine G1 tt_ok pk84 ?_; intro _))
        refine CW.ret (fin_cells [_] ⟨⟨_, _, _, _, 0, rfl, rfl, rfl, rfl⟩, trivial⟩ (Ent.dropAll _) ?_)
        refine ⟨?_, rfl⟩
        obtain rfl : x = 1 := by simpa using h1
        simp [packV, stepI, iqC]
      · (refine G tt_ok pk84 ?_; repeat (refine G1 tt_ok pk84 ?_; intro _))
        refine CW.ret (fin_cells [_] ⟨⟨_, _, _, _, 0, rfl, rfl, rfl, rfl⟩, trivial⟩ (Ent.dropAll _) ?_)
        refine ⟨?_, rfl⟩
        obtain rfl : x = 1 := by simpa using h1
        simp [packV, stepI, iqC]
    · (refine G tt_ok pk84 ?_; repeat (refine G1 tt_ok pk84 ?_; intro _))
      refine CW.ret (fin_cells [_] ⟨⟨_, _, _, _, 0, rfl, rfl, rfl, rfl⟩, trivial⟩ (Ent.dropAll _) ?_)
      refine ⟨?_, rfl⟩
      obtain rfl : x = 1 := by simpa using h1
      simp [packV, stepI, iqC]
theorem real50 (β : Base) (p : Int) : Tri Tryz.prog β 110 [.int .i64 p] [] (fun v L => v = .int .i64 (IntKind.i64.wrap (BitVec.ofInt 64 p &&& BitVec.ofInt 64 248).toNat) ∧ L = []) := by
  refine Tri.intro tt_ok Tryz.func110 rfl rfl Tryz.ntmps110 rfl fun F => ?_
  (refine G tt_ok [] ?_; repeat (refine G1 tt_ok [] ?_; intro _))
  exact CW.ret (fin_ret rfl (Ent.dropAll _) ⟨rfl, rfl⟩)
theorem bit46 (β : Base) (b : Bool) : Tri Tryz.prog β 125 [.bool b] [] (fun v L => v = .int .u64 (if b then 1 else 0) ∧ L = []) := by
  refine Tri.intro tt_ok Tryz.func125 rfl rfl Tryz.ntmps125 rfl fun F => ?_
  cases b
  · (refine G tt_ok [] ?_; repeat (refine G1 tt_ok [] ?_; intro _))
    exact CW.ret (fin_ret rfl (Ent.dropAll _) ⟨rfl, rfl⟩)
  · (refine G tt_ok [] ?_; repeat (refine G1 tt_ok [] ?_; intro _))
    exact CW.ret (fin_ret rfl (Ent.dropAll _) ⟨rfl, rfl⟩)
theorem one57 (β : Base) (b : Bool) : Tri Tryz.prog β 129 [.bool b] [] (fun v L => v = .int .u64 (if b then 1 else 0) ∧ L = []) := by
  refine Tri.intro tt_ok Tryz.func129 rfl rfl Tryz.ntmps129 rfl fun F => ?_
  cases b
  · (refine G tt_ok [] ?_; repeat (refine G1 tt_ok [] ?_; intro _))
    exact CW.ret (fin_ret rfl (Ent.dropAll _) ⟨rfl, rfl⟩)
  · (refine G tt_ok [] ?_; repeat (refine G1 tt_ok [] ?_; intro _))
    exact CW.ret (fin_ret rfl (Ent.dropAll _) ⟨rfl, rfl⟩)
-- part Fb
def actsV (r : Int) : Int := if r = 7 then 3 else if r = 8 then 4 else if r = 9 then 7 else if r = 10 then 6 else 0
theorem acts49 (β : Base) (r : Int) : Tri Tryz.prog β 122 [.int .i64 r] [] (fun v L => v = .int .i64 (actsV r) ∧ L = []) := by
  refine Tri.intro tt_ok Tryz.func122 rfl rfl Tryz.ntmps122 rfl fun F => ?_
  (repeat' (first | refine CW.seq ?_ | refine CW.region tt_ok rfl ?_ | refine CW.block ?_ | refine CW.skip ?_ | refine SQ.nil ?_ | refine SQ.pures1 tt_ok rfl ?_ | refine SQ.pure1 tt_ok rfl ?_ | refine SQ.new _ _ rfl rfl (fun _ => ?_) | refine SQ.ldA tt_ok rfl rfl (by repeat (first | exact .h | exact .q | apply At.t)) (by rfl) ?_ | refine SQ.stA tt_ok rfl rfl (by repeat (first | apply Up.h | apply Up.t)) (by rfl) (by rfl) (by exact trivial) ?_ | refine CW.cond_tt rfl ?_ | refine CW.cond_ff rfl ?_ | ((first | refine CW.cond rfl (fun hc => ?_) (fun hc => ?_) | refine SQ.gsplit rfl (fun hc => ?_) (fun hc => ?_)) <;> try (exfalso; simp_all; done))))
  all_goals (refine CW.ret (fin_ret rfl (Ent.dropAll _) ⟨?_, rfl⟩); simp_all [packV, actsV])
theorem edge51 (β : Base) (x : Int) : Tri Tryz.prog β 123 [.int .u64 x] [] (fun v L => v = .int .i64 (if IntKind.u64.wrap (BitVec.ofInt IntKind.u64.bits x &&& BitVec.ofInt IntKind.u64.bits 2).toNat = 2 then 8 else 9) ∧ L = []) := by
  refine Tri.intro tt_ok Tryz.func123 rfl rfl Tryz.ntmps123 rfl fun F => ?_
  (repeat' (first | refine CW.seq ?_ | refine CW.region tt_ok rfl ?_ | refine CW.block ?_ | refine CW.skip ?_ | refine SQ.nil ?_ | refine SQ.pures1 tt_ok rfl ?_ | refine SQ.pure1 tt_ok rfl ?_ | refine SQ.new _ _ rfl rfl (fun _ => ?_) | refine SQ.ldA tt_ok rfl rfl (by repeat (first | exact .h | exact .q | apply At.t)) (by rfl) ?_ | refine SQ.stA tt_ok rfl rfl (by repeat (first | apply Up.h | apply Up.t)) (by rfl) (by rfl) (by exact trivial) ?_ | refine CW.cond_tt rfl ?_ | refine CW.cond_ff rfl ?_ | ((first | refine CW.cond rfl (fun hc => ?_) (fun hc => ?_) | refine SQ.gsplit rfl (fun hc => ?_) (fun hc => ?_)) <;> try (exfalso; simp_all; done))))
  all_goals (refine CW.ret (fin_ret rfl (Ent.dropAll _) ⟨?_, rfl⟩))
  · simp only [beq_iff_eq] at hc; simp only [packV]; rw [if_pos hc]
  · simp only [beq_eq_false_iff_ne, ne_eq] at hc; simp only [packV]; rw [if_neg hc]
def bitsV (r : Int) : Int := if r = 11 then 8 else if r = 12 then 2 else if r = 13 then 63 else 1
theorem bits45 (β : Base) (r f c : Int) : Tri Tryz.prog β 124 [.agg #[.int .i64 r, .int .i64 f, .int .i64 c]] [] (fun v L => v = .int .i64 (bitsV r) ∧ L = []) := by
  refine Tri.intro tt_ok Tryz.func124 rfl rfl Tryz.ntmps124 rfl fun F => ?_
  (repeat' (first | refine CW.seq ?_ | refine CW.region tt_ok rfl ?_ | refine CW.block ?_ | refine CW.skip ?_ | refine SQ.nil ?_ | refine SQ.pures1 tt_ok rfl ?_ | refine SQ.pure1 tt_ok rfl ?_ | refine SQ.new _ _ rfl rfl (fun _ => ?_) | refine SQ.ldA tt_ok rfl rfl (by repeat (first | exact .h | exact .q | apply At.t)) (by rfl) ?_ | refine SQ.stA tt_ok rfl rfl (by repeat (first | apply Up.h | apply Up.t)) (by rfl) (by rfl) (by exact trivial) ?_ | refine CW.cond_tt rfl ?_ | refine CW.cond_ff rfl ?_ | ((first | refine CW.cond rfl (fun hc => ?_) (fun hc => ?_) | refine SQ.gsplit rfl (fun hc => ?_) (fun hc => ?_)) <;> try (exfalso; simp_all; done))))
  all_goals (refine CW.ret (fin_ret rfl (Ent.dropAll _) ⟨?_, rfl⟩); simp_all [packV, bitsV])
theorem wide56 (β : Base) (r : Int) : Tri Tryz.prog β 128 [.int .i64 r] [] (fun v L => v = .int .i64 (bitsV r) ∧ L = []) := by
  refine Tri.intro tt_ok Tryz.func128 rfl rfl Tryz.ntmps128 rfl fun F => ?_
  (repeat' (first | refine CW.seq ?_ | refine CW.region tt_ok rfl ?_ | refine CW.block ?_ | refine CW.skip ?_ | refine SQ.nil ?_ | refine SQ.pures1 tt_ok rfl ?_ | refine SQ.pure1 tt_ok rfl ?_ | refine SQ.new _ _ rfl rfl (fun _ => ?_) | refine SQ.ldA tt_ok rfl rfl (by repeat (first | exact .h | exact .q | apply At.t)) (by rfl) ?_ | refine SQ.stA tt_ok rfl rfl (by repeat (first | apply Up.h | apply Up.t)) (by rfl) (by rfl) (by exact trivial) ?_ | refine CW.cond_tt rfl ?_ | refine CW.cond_ff rfl ?_ | ((first | refine CW.cond rfl (fun hc => ?_) (fun hc => ?_) | refine SQ.gsplit rfl (fun hc => ?_) (fun hc => ?_)) <;> try (exfalso; simp_all; done))))
  all_goals (refine CW.ret (fin_ret rfl (Ent.dropAll _) ⟨?_, rfl⟩); simp_all [packV, bitsV])
/-- An interrupt: its state, Enabled, Group, Priority. -/
abbrev Ln := Iq × Bool × Int × Int
@[reducible] def lnC (l : Ln) : List Value := [.bool l.1.1, .bool l.1.2.1, .bool l.1.2.2.1, .bool l.1.2.2.2, .bool l.2.1, .int .i64 l.2.2.1, .int .i64 l.2.2.2]
def b2 (b : Bool) : Int := if b then 1 else 0
def showsV (l : Ln) (r : Int) : Int :=
  if r = 4 then IntKind.u64.wrap l.2.2.1 else if r = 5 ∨ r = 6 then b2 l.2.1 else if r = 7 ∨ r = 8 then b2 (pendI l.1) else if r = 9 ∨ r = 10 then b2 l.1.2.2.2
  else if r = 11 then IntKind.u64.wrap l.2.2.2 else if r = 12 then IntKind.u64.wrap (2 * b2 l.1.1) else 0
theorem shows27 (β : Base) (e l t a en : Bool) (g p r : Int) : Tri Tryz.prog β 107 [.agg #[.bool e, .bool l, .bool t, .bool a, .bool en, .int .i64 g, .int .i64 p], .int .i64 r] [] (fun v L => v = .int .u64 (showsV ((e, l, t, a), en, g, p) r) ∧ L = []) := by
  refine Tri.intro tt_ok Tryz.func107 rfl rfl Tryz.ntmps107 rfl fun F => ?_
  (repeat' (first | refine CW.seq ?_ | refine CW.region tt_ok rfl ?_ | refine CW.block ?_ | refine CW.skip ?_ | refine SQ.nil ?_ | refine SQ.pures1 tt_ok rfl ?_ | refine SQ.pure1 tt_ok rfl ?_ | refine SQ.new _ _ rfl rfl (fun _ => ?_) | refine SQ.ldA tt_ok rfl rfl (by repeat (first | exact .h | exact .q | apply At.t)) (by rfl) ?_ | refine SQ.stA tt_ok rfl rfl (by repeat (first | apply Up.h | apply Up.t)) (by rfl) (by rfl) (by exact trivial) ?_ | refine CW.cond_tt rfl ?_ | refine CW.cond_ff rfl ?_ | (refine SQ.callA rfl rfl (bit46 β _) (by repeat (first | exact .n | exact Rm.h | exact Rm.of own_row | exact Rm.of row_close0 | apply Tk.c | apply Rm.t)) ?_; rintro _ _ ⟨rfl, rfl⟩; refine ⟨(by exact trivial), ?_⟩) | (refine SQ.callA rfl rfl (pending47 β _ _ _ _) (by repeat (first | exact .n | exact Rm.h | exact Rm.of own_row | exact Rm.of row_close0 | apply Tk.c | apply Rm.t)) ?_; rintro _ _ ⟨rfl, rfl⟩; refine ⟨(by exact trivial), ?_⟩) | ((first | refine CW.cond rfl (fun hc => ?_) (fun hc => ?_) | refine SQ.gsplit rfl (fun hc => ?_) (fun hc => ?_)) <;> try (exfalso; simp_all; done))))
  all_goals (refine CW.ret (fin_ret rfl (Ent.dropAll _) ⟨?_, rfl⟩); simp_all [packV, showsV, b2])
-- part Fc
def realV (p : Int) : Int := IntKind.i64.wrap (BitVec.ofInt 64 p &&& BitVec.ofInt 64 248).toNat
def edgeV (x : Int) : Int := if IntKind.u64.wrap (BitVec.ofInt IntKind.u64.bits x &&& BitVec.ofInt IntKind.u64.bits 2).toNat = 2 then 8 else 9
def writtenV (id : Int) (l : Ln) (r x : Int) : Ln :=
  if r = 4 then (l.1, l.2.1, IntKind.i64.wrap x, l.2.2.2) else if r = 5 then (l.1, l.2.1 || x == 1, l.2.2) else if r = 6 then (l.1, l.2.1 && x == 0, l.2.2)
  else if r = 7 ∨ r = 8 ∨ r = 9 ∨ r = 10 then (if x = 1 then (stepI l.1 (actsV r), l.2) else l)
  else if r = 11 then (l.1, l.2.1, l.2.2.1, realV (IntKind.i64.wrap x)) else if r = 12 then (if id ≥ 16 then (stepI l.1 (edgeV x), l.2) else l) else l
theorem step48' (β : Base) (e l t a : Bool) (x : Int) : Tri Tryz.prog β 84 [.agg #[.bool e, .bool l, .bool t, .bool a], .int .i64 x] [] (fun v L => v = .agg #[.bool (stepI (e, l, t, a) x).1, .bool (stepI (e, l, t, a) x).2.1, .bool (stepI (e, l, t, a) x).2.2.1, .bool (stepI (e, l, t, a) x).2.2.2] ∧ L = []) := step48 β e l t a x
theorem edge51' (β : Base) (x : Int) : Tri Tryz.prog β 123 [.int .u64 x] [] (fun v L => v = .int .i64 (edgeV x) ∧ L = []) := edge51 β x
theorem real50' (β : Base) (x : Int) : Tri Tryz.prog β 110 [.int .i64 x] [] (fun v L => v = .int .i64 (realV x) ∧ L = []) := real50 β x
set_option maxHeartbeats 4000000 in
theorem written28 (β : Base) (id : Int) (e l t a en : Bool) (g p r x : Int) : Tri Tryz.prog β 103 [.int .i64 id, .agg #[.bool e, .bool l, .bool t, .bool a, .bool en, .int .i64 g, .int .i64 p], .int .i64 r, .int .u64 x] []
    (fun v L => v = .agg (lnC (writtenV id ((e, l, t, a), en, g, p) r x)).toArray ∧ L = []) := by
  refine Tri.intro tt_ok Tryz.func103 rfl rfl Tryz.ntmps103 rfl fun F => ?_
  (repeat' (first | refine CW.seq ?_ | refine CW.region tt_ok rfl ?_ | refine CW.regionD tt_ok (by kernel_rfl) pl103_0 (by decide +kernel) ?_ | refine CW.block ?_ | refine CW.skip ?_ | refine SQ.nil ?_ | refine SQ.pures1 tt_ok rfl ?_ | refine SQ.pure1 tt_ok rfl ?_ | refine SQ.new _ _ rfl rfl (fun _ => ?_) | refine SQ.ldA tt_ok rfl rfl (by repeat (first | exact .h | exact .q | apply At.t)) (by rfl) ?_ | refine SQ.stA tt_ok rfl rfl (by repeat (first | apply Up.h | apply Up.t)) (by rfl) (by rfl) (by repeat (first | exact trivial | refine ⟨trivial, ?_⟩ | refine ⟨wk (by repeat (first | exact .h | exact .q | apply At.t)) (by rfl), ?_⟩)) ?_ | refine CW.cond_tt rfl ?_ | refine CW.cond_ff rfl ?_ | (refine SQ.callA rfl rfl (acts49 β _) (by repeat (first | exact .n | exact Rm.h | exact Rm.of own_row | exact Rm.of row_close0 | apply Tk.c | apply Rm.t)) ?_; rintro _ _ ⟨rfl, rfl⟩; refine ⟨(by repeat (first | exact trivial | refine ⟨trivial, ?_⟩ | refine ⟨wk (by repeat (first | exact .h | exact .q | apply At.t)) (by rfl), ?_⟩)), ?_⟩) | (refine SQ.callA rfl rfl (step48' β _ _ _ _ _) (by repeat (first | exact .n | exact Rm.h | exact Rm.of own_row | exact Rm.of row_close0 | apply Tk.c | apply Rm.t)) ?_; rintro _ _ ⟨rfl, rfl⟩; refine ⟨(by repeat (first | exact trivial | refine ⟨trivial, ?_⟩ | refine ⟨wk (by repeat (first | exact .h | exact .q | apply At.t)) (by rfl), ?_⟩)), ?_⟩) | (refine SQ.callA rfl rfl (edge51' β _) (by repeat (first | exact .n | exact Rm.h | exact Rm.of own_row | exact Rm.of row_close0 | apply Tk.c | apply Rm.t)) ?_; rintro _ _ ⟨rfl, rfl⟩; refine ⟨(by repeat (first | exact trivial | refine ⟨trivial, ?_⟩ | refine ⟨wk (by repeat (first | exact .h | exact .q | apply At.t)) (by rfl), ?_⟩)), ?_⟩) | (refine SQ.callA rfl rfl (real50' β _) (by repeat (first | exact .n | exact Rm.h | exact Rm.of own_row | exact Rm.of row_close0 | apply Tk.c | apply Rm.t)) ?_; rintro _ _ ⟨rfl, rfl⟩; refine ⟨(by repeat (first | exact trivial | refine ⟨trivial, ?_⟩ | refine ⟨wk (by repeat (first | exact .h | exact .q | apply At.t)) (by rfl), ?_⟩)), ?_⟩) | ((first | refine CW.cond rfl (fun hc => ?_) (fun hc => ?_) | refine SQ.gsplit rfl (fun hc => ?_) (fun hc => ?_)) <;> try (exfalso; simp_all; done))))
  all_goals (refine CW.ret (fin_cells [_] ⟨⟨_, _, _, _, 0, rfl, rfl, rfl, rfl⟩, trivial⟩ (Ent.dropAll _) ⟨?_, rfl⟩); simp_all [packV, writtenV, lnC])
  all_goals (have h6 : ¬ (16 : Int) ≤ id := by omega
             simp [h6])
-- part Fd
theorem pending58 (β : Base) (e l t a : Bool) : Tri Tryz.prog β 116 [.agg #[.bool e, .bool l, .bool t, .bool a]] [] (fun v L => v = .bool (pendI (e, l, t, a)) ∧ L = []) := by
  refine Tri.intro tt_ok Tryz.func116 rfl rfl Tryz.ntmps116 rfl fun F => ?_
  (repeat' (first | refine CW.seq ?_ | refine CW.region tt_ok rfl ?_ | refine CW.block ?_ | refine CW.skip ?_ | refine SQ.nil ?_ | refine SQ.pures1 tt_ok rfl ?_ | refine SQ.pure1 tt_ok rfl ?_ | refine SQ.new _ _ rfl rfl (fun _ => ?_) | refine SQ.ldA tt_ok rfl rfl (by repeat (first | exact .h | exact .q | apply At.t)) (by rfl) ?_ | refine SQ.stA tt_ok rfl rfl (by repeat (first | apply Up.h | apply Up.t)) (by rfl) (by rfl) (by repeat (first | exact trivial | refine ⟨trivial, ?_⟩ | refine ⟨wk (by repeat (first | exact .h | exact .q | apply At.t)) (by rfl), ?_⟩)) ?_ | refine CW.cond_tt rfl ?_ | refine CW.cond_ff rfl ?_ | ((first | refine CW.cond rfl (fun hc => ?_) (fun hc => ?_) | refine SQ.gsplit rfl (fun hc => ?_) (fun hc => ?_)) <;> try (exfalso; simp_all; done))))
  all_goals (refine CW.ret (fin_ret rfl (Ent.dropAll _) ⟨?_, rfl⟩); simp_all [packV, pendI])
theorem ready62 (β : Base) (e l t a : Bool) : Tri Tryz.prog β 88 [.agg #[.bool e, .bool l, .bool t, .bool a]] [] (fun v L => v = .bool (readyI (e, l, t, a)) ∧ L = []) := by
  refine Tri.intro tt_ok Tryz.func88 rfl rfl Tryz.ntmps88 rfl fun F => ?_
  (repeat' (first | refine CW.seq ?_ | refine CW.region tt_ok rfl ?_ | refine CW.block ?_ | refine CW.skip ?_ | refine SQ.nil ?_ | refine SQ.pures1 tt_ok rfl ?_ | refine SQ.pure1 tt_ok rfl ?_ | refine SQ.new _ _ rfl rfl (fun _ => ?_) | refine SQ.ldA tt_ok rfl rfl (by repeat (first | exact .h | exact .q | apply At.t)) (by rfl) ?_ | refine SQ.stA tt_ok rfl rfl (by repeat (first | apply Up.h | apply Up.t)) (by rfl) (by rfl) (by repeat (first | exact trivial | refine ⟨trivial, ?_⟩ | refine ⟨wk (by repeat (first | exact .h | exact .q | apply At.t)) (by rfl), ?_⟩)) ?_ | refine CW.cond_tt rfl ?_ | refine CW.cond_ff rfl ?_ | (refine SQ.callA rfl rfl (pending58 β _ _ _ _) (by repeat (first | exact .n | exact Rm.h | exact Rm.of own_row | exact Rm.of row_close0 | apply Tk.c | apply Rm.t)) ?_; rintro _ _ ⟨rfl, rfl⟩; refine ⟨(by repeat (first | exact trivial | refine ⟨trivial, ?_⟩ | refine ⟨wk (by repeat (first | exact .h | exact .q | apply At.t)) (by rfl), ?_⟩)), ?_⟩) | ((first | refine CW.cond rfl (fun hc => ?_) (fun hc => ?_) | refine SQ.gsplit rfl (fun hc => ?_) (fun hc => ?_)) <;> try (exfalso; simp_all; done))))
  all_goals (refine CW.ret (fin_ret rfl (Ent.dropAll _) ⟨?_, rfl⟩); simp_all [packV, readyI])
set_option maxHeartbeats 4000000 in
theorem step55 (β : Base) (e l t a : Bool) (x : Int) : Tri Tryz.prog β 86 [.agg #[.bool e, .bool l, .bool t, .bool a], .int .i64 x] [] (fun v L => v = .agg (iqC (stepI (e, l, t, a) x)).toArray ∧ L = []) := by
  refine Tri.intro tt_ok Tryz.func86 rfl rfl Tryz.ntmps86 rfl fun F => ?_
  (repeat' (first | refine CW.seq ?_ | refine CW.region tt_ok rfl ?_ | refine CW.block ?_ | refine CW.skip ?_ | refine SQ.nil ?_ | refine SQ.pures1 tt_ok rfl ?_ | refine SQ.pure1 tt_ok rfl ?_ | refine SQ.new _ _ rfl rfl (fun _ => ?_) | refine SQ.ldA tt_ok rfl rfl (by repeat (first | exact .h | exact .q | apply At.t)) (by rfl) ?_ | refine SQ.stA tt_ok rfl rfl (by repeat (first | apply Up.h | apply Up.t)) (by rfl) (by rfl) (by repeat (first | exact trivial | refine ⟨trivial, ?_⟩ | refine ⟨wk (by repeat (first | exact .h | exact .q | apply At.t)) (by rfl), ?_⟩)) ?_ | refine CW.cond_tt rfl ?_ | refine CW.cond_ff rfl ?_ | (refine SQ.callA rfl rfl (ready62 β _ _ _ _) (by repeat (first | exact .n | exact Rm.h | exact Rm.of own_row | exact Rm.of row_close0 | apply Tk.c | apply Rm.t)) ?_; rintro _ _ ⟨rfl, rfl⟩; refine ⟨(by repeat (first | exact trivial | refine ⟨trivial, ?_⟩ | refine ⟨wk (by repeat (first | exact .h | exact .q | apply At.t)) (by rfl), ?_⟩)), ?_⟩) | ((first | refine CW.cond rfl (fun hc => ?_) (fun hc => ?_) | refine SQ.gsplit rfl (fun hc => ?_) (fun hc => ?_)) <;> try (exfalso; simp_all; done))))
  all_goals (refine CW.ret (fin_cells [_] ⟨⟨_, _, _, _, 1, rfl, rfl, rfl, rfl⟩, trivial⟩ (Ent.dropAll _) ⟨?_, rfl⟩); simp_all [packV, stepI, iqC])
end Go.Proofs.YtjphlcfplcacnaaGreat.Sl
namespace Go.Proofs.YtjphlcfplcacnaaGreat.Sl
open Go Go.RowKit Go.Proofs
set_option linter.unusedVariables false
set_option linter.unusedSimpArgs false
attribute [local irreducible] CW Tri OW
set_option maxRecDepth 10000
@[reducible] def pk104 : List (Nat × Plan) := [(4, [(0, 0, []), (1, 0, []), (2, 0, []), (3, 0, []), (4, 0, []), (5, 0, []), (6, 0, []), (7, 0, []), (8, 0, []), (9, 0, [])])]
@[reducible] def pk106 : List (Nat × Plan) := [(5, [(0, 0, []), (1, 0, []), (2, 0, []), (3, 0, []), (4, 0, []), (5, 0, []), (6, 0, []), (7, 0, []), (8, 0, []), (9, 0, []), (10, 0, []), (11, 0, []), (12, 0, []), (13, 0, []), (14, 0, []), (15, 0, [])])]
@[reducible] def pl104_0 : Plan := [(0, 0, []), (1, 0, []), (2, 0, []), (3, 0, []), (4, 0, []), (5, 0, []), (6, 0, []), (7, 0, []), (8, 0, []), (9, 0, [])]
@[reducible] def pl106_0 : Plan := [(0, 0, []), (1, 0, []), (2, 0, []), (3, 0, []), (4, 0, []), (5, 0, []), (6, 0, []), (7, 0, []), (8, 0, []), (9, 0, []), (10, 0, []), (11, 0, []), (12, 0, []), (13, 0, []), (14, 0, []), (15, 0, [])]
-- part Fg
theorem bitsV_range (r : Int) : 1 ≤ bitsV r ∧ bitsV r ≤ 63 := by unfold bitsV; split <;> (try split) <;> (try split) <;> omega
theorem mul_ok {r k : Int} (h0 : 0 ≤ k) (h1 : k ≤ 64) : IntKind.i64.wrap (bitsV r * k) = ((bitsV r * k).toNat : Int) := by
  obtain ⟨a, b⟩ := bitsV_range r
  have h2 : 0 ≤ bitsV r * k := Int.mul_nonneg (by omega) h0
  have h3 : bitsV r * k ≤ 63 * 64 := Int.mul_le_mul b h1 h0 (by omega)
  rw [wrap_i64]; split <;> omega
theorem bits_ok (r : Int) : bitsV r = ((bitsV r).toNat : Int) := by have := bitsV_range r; omega
/-- The bits of one. -/
def onesV (r : Int) : Int := IntKind.u64.wrap (IntKind.u64.wrap (1 * 2 ^ min (bitsV r).toNat IntKind.u64.bits) - 1)
def fieldV (v r c k : Int) : Int := if k < 0 ∨ k ≥ c ∨ k > 64 then 0 else IntKind.u64.wrap (BitVec.ofInt IntKind.u64.bits (v.fdiv (2 ^ min (bitsV r * k).toNat IntKind.u64.bits)) &&& BitVec.ofInt IntKind.u64.bits (onesV r)).toNat
theorem field29 (β : Base) (v r f c k : Int) : Tri Tryz.prog β 104 [.int .u64 v, .agg #[.int .i64 r, .int .i64 f, .int .i64 c], .int .i64 k] [] (fun u L => u = .int .u64 (fieldV v r c k) ∧ L = []) := by
  refine Tri.intro tt_ok Tryz.func104 rfl rfl Tryz.ntmps104 rfl fun F => ?_
  (repeat' (first | refine CW.seq ?_ | refine CW.region tt_ok rfl ?_ | refine CW.regionD tt_ok (by kernel_rfl) pl104_0 (by decide +kernel) ?_ | refine CW.block ?_ | refine CW.skip ?_ | refine SQ.nil ?_ | refine SQ.pures1 tt_ok rfl ?_ | refine SQ.pure1 tt_ok rfl ?_ | refine SQ.new _ _ rfl rfl (fun _ => ?_) | refine SQ.ldA tt_ok rfl rfl (by repeat (first | exact .h | exact .q | apply At.t)) (by rfl) ?_ | refine SQ.stA tt_ok rfl rfl (by repeat (first | apply Up.h | apply Up.t)) (by rfl) (by rfl) (by repeat (first | exact trivial | refine ⟨trivial, ?_⟩ | refine ⟨wk (by repeat (first | exact .h | exact .q | apply At.t)) (by rfl), ?_⟩)) ?_ | refine CW.cond_tt rfl ?_ | refine CW.cond_ff rfl ?_ | (refine SQ.callA rfl rfl (bits45 β _ _ _) (by repeat (first | exact .n | exact Rm.h | exact Rm.of own_row | exact Rm.of row_close0 | apply Tk.c | apply Rm.t)) ?_; rintro _ _ ⟨rfl, rfl⟩; refine ⟨(by repeat (first | exact trivial | refine ⟨trivial, ?_⟩ | refine ⟨wk (by repeat (first | exact .h | exact .q | apply At.t)) (by rfl), ?_⟩)), ?_⟩) | ((first | refine CW.cond rfl (fun hc => ?_) (fun hc => ?_) | refine SQ.gsplit rfl (fun hc => ?_) (fun hc => ?_)) <;> try (exfalso; simp_all; done))))
  all_goals simp only [decide_eq_true_eq, decide_eq_false_iff_not] at *
  all_goals (first
    | (refine CW.ret (fin_ret rfl (Ent.dropAll _) ⟨?_, rfl⟩)
       unfold fieldV
       rw [if_pos (show k < 0 ∨ k ≥ c ∨ k > 64 by omega)]
       rfl)
    | (refine SQ.shift tt_ok rfl rfl (bitsV r * k).toNat (mul_ok (by omega) (by omega)) rfl ?_
       (refine G tt_ok pk104 ?_; repeat (refine G1 tt_ok pk104 ?_; intro _))
       refine SQ.shift tt_ok rfl rfl (bitsV r).toNat (bits_ok r) rfl ?_
       (refine G tt_ok pk104 ?_; repeat (refine G1 tt_ok pk104 ?_; intro _))
       refine CW.ret (fin_ret rfl (Ent.dropAll _) ⟨?_, rfl⟩)
       unfold fieldV
       rw [if_neg (show ¬ (k < 0 ∨ k ≥ c ∨ k > 64) by omega)]
       rfl))
def withV (v r c k x : Int) : Int := if k < 0 ∨ k ≥ c ∨ k > 64 then v else
  IntKind.u64.wrap (BitVec.ofInt IntKind.u64.bits (IntKind.u64.wrap (BitVec.ofInt IntKind.u64.bits v &&& ~~~BitVec.ofInt IntKind.u64.bits (IntKind.u64.wrap (onesV r * 2 ^ min (bitsV r * k).toNat IntKind.u64.bits))).toNat) |||
    BitVec.ofInt IntKind.u64.bits (IntKind.u64.wrap (IntKind.u64.wrap (BitVec.ofInt IntKind.u64.bits x &&& BitVec.ofInt IntKind.u64.bits (onesV r)).toNat * 2 ^ min (bitsV r * k).toNat IntKind.u64.bits))).toNat
theorem with26 (β : Base) (v r f c k x : Int) : Tri Tryz.prog β 106 [.int .u64 v, .agg #[.int .i64 r, .int .i64 f, .int .i64 c], .int .i64 k, .int .u64 x] [] (fun u L => u = .int .u64 (withV v r c k x) ∧ L = []) := by
  refine Tri.intro tt_ok Tryz.func106 rfl rfl Tryz.ntmps106 rfl fun F => ?_
  (repeat' (first | refine CW.seq ?_ | refine CW.region tt_ok rfl ?_ | refine CW.regionD tt_ok (by kernel_rfl) pl106_0 (by decide +kernel) ?_ | refine CW.block ?_ | refine CW.skip ?_ | refine SQ.nil ?_ | refine SQ.pures1 tt_ok rfl ?_ | refine SQ.pure1 tt_ok rfl ?_ | refine SQ.new _ _ rfl rfl (fun _ => ?_) | refine SQ.ldA tt_ok rfl rfl (by repeat (first | exact .h | exact .q | apply At.t)) (by rfl) ?_ | refine SQ.stA tt_ok rfl rfl (by repeat (first | apply Up.h | apply Up.t)) (by rfl) (by rfl) (by repeat (first | exact trivial | refine ⟨trivial, ?_⟩ | refine ⟨wk (by repeat (first | exact .h | exact .q | apply At.t)) (by rfl), ?_⟩)) ?_ | refine CW.cond_tt rfl ?_ | refine CW.cond_ff rfl ?_ | (refine SQ.callA rfl rfl (bits45 β _ _ _) (by repeat (first | exact .n | exact Rm.h | exact Rm.of own_row | exact Rm.of row_close0 | apply Tk.c | apply Rm.t)) ?_; rintro _ _ ⟨rfl, rfl⟩; refine ⟨(by repeat (first | exact trivial | refine ⟨trivial, ?_⟩ | refine ⟨wk (by repeat (first | exact .h | exact .q | apply At.t)) (by rfl), ?_⟩)), ?_⟩) | ((first | refine CW.cond rfl (fun hc => ?_) (fun hc => ?_) | refine SQ.gsplit rfl (fun hc => ?_) (fun hc => ?_)) <;> try (exfalso; simp_all; done))))
  all_goals simp only [decide_eq_true_eq, decide_eq_false_iff_not] at *
  all_goals (first
    | (refine CW.ret (fin_ret rfl (Ent.dropAll _) ⟨?_, rfl⟩)
       unfold withV
       rw [if_pos (show k < 0 ∨ k ≥ c ∨ k > 64 by omega)]
       rfl)
    | (refine SQ.shift tt_ok rfl rfl (bitsV r).toNat (bits_ok r) rfl ?_
       (refine G tt_ok pk106 ?_; repeat (refine G1 tt_ok pk106 ?_; intro _))
       refine SQ.shift tt_ok rfl rfl (bitsV r * k).toNat (mul_ok (by omega) (by omega)) rfl ?_
       (refine G tt_ok pk106 ?_; repeat (refine G1 tt_ok pk106 ?_; intro _))
       refine SQ.shift tt_ok rfl rfl (bitsV r * k).toNat (mul_ok (by omega) (by omega)) rfl ?_
       (refine G tt_ok pk106 ?_; repeat (refine G1 tt_ok pk106 ?_; intro _))
       refine CW.ret (fin_ret rfl (Ent.dropAll _) ⟨?_, rfl⟩)
       unfold withV
       rw [if_neg (show ¬ (k < 0 ∨ k ≥ c ∨ k > 64) by omega)]
       rfl))
/-- The numbers of a place. -/
def cntV (c : Int) : Nat := (max 0 (min c 16384)).toNat
def idsV (f : Int) : Nat → List Int
  | 0 => []
  | k + 1 => idsV f k ++ [IntKind.i64.wrap (f + k)]
theorem idsV_pre {f : Int} : ∀ {k n : Nat}, k ≤ n → idsV f k <+: idsV f n
  | k, 0, h => by
    have : k = 0 := by omega
    subst this; exact List.prefix_refl _
  | k, n + 1, h => by
    by_cases e : k = n + 1
    · subst e; exact List.prefix_refl _
    · exact (idsV_pre (by omega)).trans (List.prefix_append _ _)
theorem iter44 (β : Base) (r f c : Int) (b1 : Nat) : Iter Tryz.prog β 121 [.pointer (some ⟨b1, 0, none⟩)] [pt b1 [.int .i64 r, .int .i64 f, .int .i64 c]] (fun x => [Value.int .i64 x]) (idsV f (cntV c)) := by
  intro l J Jx hY
  refine Tri.intro tt_ok Tryz.func121 rfl rfl Tryz.ntmps121 rfl fun F => ?_
  (refine G tt_ok [] ?_; repeat (refine G1 tt_ok [] ?_; intro _))
  have hm : (if (0 : Int) < (if (16384 : Int) < c then 16384 else c) then (if (16384 : Int) < c then 16384 else c) else 0) = ((cntV c : Nat) : Int) := by
    unfold cntV; split <;> split <;> omega
  have hle : cntV c ≤ 16384 := by unfold cntV; omega
  rw [hm]
  generalize cntV c = n at hle hY ⊢
  refine CW.loop (α := Nat) (fun k => k ≤ n) (fun k => [(8, .int .i64 k), (7, .int .i64 n), (0, .func (.yield l) #[] #[]), (1, .pointer (some ⟨b1, 0, none⟩))])
    (fun k => [J (idsV f k), pt b1 [.int .i64 r, .int .i64 f, .int .i64 c]]) (fun k => n - k) 0 (by omega) ⟨rfl, rfl, rfl, rfl, trivial⟩ (Ent.refl _) ?_
  intro k hk
  (refine G tt_ok [] ?_; repeat (refine G1 tt_ok [] ?_; intro _))
  generalize e1 : decide ((k : Int) < (n : Int)) = cc
  cases cc
  · (refine G tt_ok [] ?_; repeat (refine G1 tt_ok [] ?_; intro _))
    refine CW.exit ?_
    have : k = n := by simp at e1; omega
    subst this
    exact fin_normal rfl (Ent.refl _) (.inl rfl)
  · have hlt : k < n := by simp at e1; omega
    have hw : IntKind.i64.wrap ((k : Int) + 1) = ((k + 1 : Nat) : Int) := by rw [wrap_i64]; split <;> omega
    (refine G tt_ok [] ?_; repeat (refine G1 tt_ok [] ?_; intro _))
    (refine SQ.yield rfl rfl (hY (idsV f k) (IntKind.i64.wrap (f + k)) (idsV_pre (k := k + 1) (by omega))) [0, 0] rfl ?_; rintro _ _ (⟨rfl, rfl⟩ | ⟨rfl, rfl⟩) <;> refine w_ ?_)
    · (refine G tt_ok [] ?_; repeat (refine G1 tt_ok [] ?_; intro _))
      refine ⟨k + 1, by omega, by omega, ⟨by rw [← hw]; rfl, rfl, rfl, rfl, trivial⟩, Ent.refl _⟩
    · (refine G tt_ok [] ?_; repeat (refine G1 tt_ok [] ?_; intro _))
      exact CW.ret (fin_ret rfl (Ent.refl _) (.inr ⟨_, rfl⟩))
theorem ids25 (β : Base) (r f c : Int) : Tri Tryz.prog β 102 [.agg #[.int .i64 r, .int .i64 f, .int .i64 c]] [] (fun v L => ∃ b1, v = .func (.func 121) #[] #[.pointer (some ⟨b1, 0, none⟩)] ∧ L = [pt b1 [.int .i64 r, .int .i64 f, .int .i64 c]]) := by
  refine Tri.intro tt_ok Tryz.func102 rfl rfl Tryz.ntmps102 rfl fun F => ?_
  (refine G tt_ok [] ?_; repeat (refine G1 tt_ok [] ?_; intro _))
  refine CW.ret (fin_ret rfl (Ent.refl _) ?_)
  exact ⟨_, rfl, rfl⟩
-- part Fx<
/-! ### Numbers of 64 bits -/
theorem wN {a : Nat} (h : a < 2 ^ 64) : IntKind.u64.wrap (a : Int) = a := by
  rw [wrap_u64]; have : (2 : Nat) ^ 64 = 18446744073709551616 := rfl; omega
theorem oN {a : Nat} (h : a < 2 ^ 64) : (BitVec.ofInt 64 (a : Int)).toNat = a := by
  rw [BitVec.toNat_ofInt]; have : (2 : Nat) ^ 64 = 18446744073709551616 := rfl; omega
theorem and64 {a b : Nat} (ha : a < 2 ^ 64) (hb : b < 2 ^ 64) : IntKind.u64.wrap ((BitVec.ofInt IntKind.u64.bits (a : Int) &&& BitVec.ofInt IntKind.u64.bits (b : Int)).toNat : Int) = ((a &&& b : Nat) : Int) := by
  show IntKind.u64.wrap ((BitVec.ofInt 64 (a : Int) &&& BitVec.ofInt 64 (b : Int)).toNat : Int) = _
  rw [BitVec.toNat_and, oN ha, oN hb, wN (Nat.and_lt_two_pow _ hb)]
theorem or64 {a b : Nat} (ha : a < 2 ^ 64) (hb : b < 2 ^ 64) : IntKind.u64.wrap ((BitVec.ofInt IntKind.u64.bits (a : Int) ||| BitVec.ofInt IntKind.u64.bits (b : Int)).toNat : Int) = ((a ||| b : Nat) : Int) := by
  show IntKind.u64.wrap ((BitVec.ofInt 64 (a : Int) ||| BitVec.ofInt 64 (b : Int)).toNat : Int) = _
  rw [BitVec.toNat_or, oN ha, oN hb, wN (Nat.or_lt_two_pow ha hb)]
/-- a without the bits of b. -/
def andNotN (a b : Nat) : Nat := (BitVec.ofNat 64 a &&& ~~~BitVec.ofNat 64 b).toNat
theorem andNotN_lt (a b : Nat) : andNotN a b < 2 ^ 64 := BitVec.isLt _
theorem andNotN_bit {a b j : Nat} (hj : j < 64) : (andNotN a b).testBit j = (a.testBit j && !b.testBit j) := by
  unfold andNotN
  rw [← BitVec.getLsbD, BitVec.getLsbD_and, BitVec.getLsbD_not, BitVec.getLsbD_ofNat, BitVec.getLsbD_ofNat]
  simp [hj]
theorem oN' (a : Nat) : BitVec.ofInt 64 (a : Int) = BitVec.ofNat 64 a := by
  apply BitVec.eq_of_toNat_eq
  rw [BitVec.toNat_ofInt, BitVec.toNat_ofNat]
  have : (2 : Nat) ^ 64 = 18446744073709551616 := rfl
  omega
theorem andNot64 (a b : Nat) : IntKind.u64.wrap ((BitVec.ofInt IntKind.u64.bits (a : Int) &&& ~~~BitVec.ofInt IntKind.u64.bits (b : Int)).toNat : Int) = ((andNotN a b : Nat) : Int) := by
  show IntKind.u64.wrap ((BitVec.ofInt 64 (a : Int) &&& ~~~BitVec.ofInt 64 (b : Int)).toNat : Int) = _
  rw [oN', oN']
  exact wN (andNotN_lt a b)
theorem bits_n (r : Int) : ∃ n : Nat, 1 ≤ n ∧ n ≤ 63 ∧ bitsV r = n := by
  obtain ⟨a, b⟩ := bitsV_range r
  exact ⟨(bitsV r).toNat, by omega, by omega, by omega⟩
theorem ones_n {r : Int} {n : Nat} (h : bitsV r = n) (hn : n ≤ 63) : onesV r = ((2 ^ n - 1 : Nat) : Int) := by
  unfold onesV
  rw [h, Int.toNat_natCast]
  have hp : (2 : Nat) ^ n ≤ 2 ^ 63 := Nat.pow_le_pow_right (by omega) hn
  have hpos : 0 < (2 : Nat) ^ n := Nat.two_pow_pos n
  have e63 : (2 : Nat) ^ 63 = 9223372036854775808 := rfl
  have hm : min n IntKind.u64.bits = n := by show min n 64 = n; omega
  rw [hm]
  have e : ((2 : Int) ^ n) = ((2 ^ n : Nat) : Int) := by push_cast; rfl
  rw [e, wrap_u64, wrap_u64]
  omega
theorem fieldV_nat {v : Nat} (hv : v < 2 ^ 64) {r c k : Int} {n : Nat} (hb : bitsV r = n) (hn : n ≤ 63) (h0 : 0 ≤ k) (h1 : k < c) (h2 : k ≤ 64) : fieldV v r c k = ((v / 2 ^ (n * k.toNat) % 2 ^ n : Nat) : Int) := by
  unfold fieldV
  rw [if_neg (by omega), ones_n hb hn, hb]
  obtain ⟨k, rfl⟩ : ∃ k' : Nat, k = k' := ⟨k.toNat, by omega⟩
  rw [show ((n : Int) * (k : Int)).toNat = n * k by rw [← Int.natCast_mul]; rfl, Int.toNat_natCast]
  have e : ((v : Int).fdiv (2 ^ min (n * k) IntKind.u64.bits)) = ((v / 2 ^ (n * k) : Nat) : Int) := by
    show ((v : Int).fdiv (2 ^ min (n * k) 64)) = _
    have e1 : ((2 : Int) ^ min (n * k) 64) = ((2 ^ min (n * k) 64 : Nat) : Int) := by push_cast; rfl
    rw [e1, Int.fdiv_eq_ediv_of_nonneg _ (Int.natCast_nonneg _), ← Int.natCast_ediv]
    congr 1
    by_cases h : n * k ≤ 64
    · rw [Nat.min_eq_left h]
    · rw [Nat.min_eq_right (by omega), Nat.div_eq_of_lt hv, Nat.div_eq_of_lt]
      exact Nat.lt_of_lt_of_le hv (Nat.pow_le_pow_right (by omega) (by omega))
  have hlt : v / 2 ^ (n * k) < 2 ^ 64 := Nat.lt_of_le_of_lt (Nat.div_le_self _ _) hv
  have hlt2 : 2 ^ n - 1 < 2 ^ 64 := by
    have hp : (2 : Nat) ^ n ≤ 2 ^ 63 := Nat.pow_le_pow_right (by omega) hn
    have e63 : (2 : Nat) ^ 63 = 9223372036854775808 := rfl
    have e64 : (2 : Nat) ^ 64 = 18446744073709551616 := rfl
    omega
  rw [e, and64 hlt hlt2, Nat.and_two_pow_sub_one_eq_mod]
theorem fieldV_out {v r c k : Int} (h : k < 0 ∨ k ≥ c ∨ k > 64) : fieldV v r c k = 0 := by
  unfold fieldV; rw [if_pos h]
theorem ofInt_wrap (x : Int) : BitVec.ofInt 64 (IntKind.u64.wrap x) = BitVec.ofInt 64 x := by
  apply BitVec.eq_of_toNat_eq
  rw [BitVec.toNat_ofInt, BitVec.toNat_ofInt, wrap_u64]
  have : (2 : Nat) ^ 64 = 18446744073709551616 := rfl
  omega
theorem getLsb_ofNat {a j : Nat} (hj : j < 64) : (BitVec.ofNat 64 a).getLsbD j = a.testBit j := by
  rw [BitVec.getLsbD_ofNat]; simp [hj]
theorem testBit_mul_pow (a n j : Nat) : (a * 2 ^ n).testBit j = (decide (n ≤ j) && a.testBit (j - n)) := by
  rw [← Nat.shiftLeft_eq, Nat.testBit_shiftLeft]
theorem withV_nat {v x : Nat} (hv : v < 2 ^ 64) (hx : x < 2 ^ 64) {r c : Int} {k n : Nat} (hb : bitsV r = n) (hn : n ≤ 63) (h1 : (k : Int) < c) (h2 : k ≤ 64) :
    ∃ W : Nat, W < 2 ^ 64 ∧ withV v r c k x = W ∧ ∀ j, j < 64 → W.testBit j = if n * k ≤ j ∧ j < n * k + n then x.testBit (j - n * k) else v.testBit j := by
  have hlt2 : 2 ^ n - 1 < 2 ^ 64 := by
    have hp : (2 : Nat) ^ n ≤ 2 ^ 63 := Nat.pow_le_pow_right (by omega) hn
    have e63 : (2 : Nat) ^ 63 = 9223372036854775808 := rfl
    have e64 : (2 : Nat) ^ 64 = 18446744073709551616 := rfl
    omega
  refine ⟨((BitVec.ofNat 64 v &&& ~~~BitVec.ofNat 64 ((2 ^ n - 1) * 2 ^ min (n * k) 64)) ||| BitVec.ofNat 64 ((x &&& (2 ^ n - 1)) * 2 ^ min (n * k) 64)).toNat, BitVec.isLt _, ?_, ?_⟩
  · unfold withV
    rw [if_neg (by omega), ones_n hb hn, hb, show ((n : Int) * (k : Int)).toNat = n * k by rw [← Int.natCast_mul]; rfl, and64 hx hlt2]
    show IntKind.u64.wrap ((BitVec.ofInt 64 (IntKind.u64.wrap ((BitVec.ofInt 64 (v : Int) &&& ~~~BitVec.ofInt 64 (IntKind.u64.wrap (((2 ^ n - 1 : Nat) : Int) * 2 ^ min (n * k) 64))).toNat : Int)) ||| BitVec.ofInt 64 (IntKind.u64.wrap (((x &&& (2 ^ n - 1) : Nat) : Int) * 2 ^ min (n * k) 64))).toNat : Int) = _
    have e1 : ((2 : Int) ^ min (n * k) 64) = ((2 ^ min (n * k) 64 : Nat) : Int) := by push_cast; rfl
    rw [ofInt_wrap, ofInt_wrap, ofInt_wrap, e1, ← Int.natCast_mul, ← Int.natCast_mul, oN', oN', oN', oN']
    rw [BitVec.ofNat_toNat, BitVec.setWidth_eq]
    exact wN (BitVec.isLt _)
  · intro j hj
    rw [← BitVec.getLsbD, BitVec.getLsbD_or, BitVec.getLsbD_and, BitVec.getLsbD_not, getLsb_ofNat hj, getLsb_ofNat hj, getLsb_ofNat hj, testBit_mul_pow, testBit_mul_pow, Nat.testBit_and, Nat.testBit_two_pow_sub_one]
    by_cases hM : n * k ≤ 64
    · rw [Nat.min_eq_left hM]
      by_cases h3 : n * k ≤ j
      · by_cases h4 : j - n * k < n
        · rw [if_pos (by omega)]; simp [h3, h4]
        · rw [if_neg (by omega)]; simp [h3, h4, hj]
      · rw [if_neg (by omega)]; simp [h3, hj]
    · rw [Nat.min_eq_right (by omega), if_neg (by omega)]
      simp [show ¬ 64 ≤ j by omega, hj]
theorem withV_out {v r c k x : Int} (h : k < 0 ∨ k ≥ c ∨ k > 64) : withV v r c k x = v := by
  unfold withV; rw [if_pos h]
theorem shows_nat (l : Ln) (r : Int) : ∃ s : Nat, s < 2 ^ 64 ∧ showsV l r = s := by
  have e64 : (2 : Nat) ^ 64 = 18446744073709551616 := rfl
  have hw : ∀ x, ∃ s : Nat, s < 2 ^ 64 ∧ IntKind.u64.wrap x = s := fun x => ⟨(x % 18446744073709551616).toNat, by omega, by rw [wrap_u64]; omega⟩
  have hb : ∀ b, ∃ s : Nat, s < 2 ^ 64 ∧ b2 b = s := fun b => by cases b; exact ⟨0, by omega, rfl⟩; exact ⟨1, by omega, rfl⟩
  unfold showsV
  repeat (split; first | exact hw _ | exact hb _)
  exact ⟨0, by omega, rfl⟩
-- part Fy<
/-! ### What a write makes of one interrupt -/
theorem realV_nat (p : Int) : ∃ s : Nat, s ≤ 248 ∧ realV p = s ∧ s &&& 248 = s := by
  refine ⟨(BitVec.ofInt 64 p &&& BitVec.ofInt 64 248).toNat, ?_, ?_, ?_⟩
  · rw [BitVec.toNat_and]; exact Nat.and_le_right
  · unfold realV
    have : (BitVec.ofInt 64 p &&& BitVec.ofInt 64 248).toNat ≤ 248 := by rw [BitVec.toNat_and]; exact Nat.and_le_right
    rw [wrap_i64]; split <;> omega
  · rw [BitVec.toNat_and, show (BitVec.ofInt 64 248).toNat = 248 from rfl, Nat.and_assoc, Nat.and_self]
theorem realV_of {s : Nat} (h : s < 2 ^ 63) : realV (s : Int) = ((s &&& 248 : Nat) : Int) := by
  have e64 : (2 : Nat) ^ 64 = 18446744073709551616 := rfl
  have e63 : (2 : Nat) ^ 63 = 9223372036854775808 := rfl
  unfold realV
  rw [BitVec.toNat_and, oN (by omega), show (BitVec.ofInt 64 248).toNat = 248 from rfl]
  have : s &&& 248 ≤ 248 := Nat.and_le_right
  rw [wrap_i64]; split <;> omega
theorem realV_real (p : Int) : realV (realV p) = realV p := by
  obtain ⟨s, h1, h2, h3⟩ := realV_nat p
  rw [h2, realV_of (by have e63 : (2 : Nat) ^ 63 = 9223372036854775808 := rfl
                       omega), h3]
theorem realV_range (p : Int) : 0 ≤ realV p ∧ realV p ≤ 248 := by
  obtain ⟨s, h1, h2, h3⟩ := realV_nat p
  omega
-- part Fm
theorem bit63 (β : Base) (p : Int) (k : Nat) (hk : k < 64) : Tri Tryz.prog β 131 [.int .i64 p, .int .i64 k] [] (fun v L => v = .bool (p / 2 ^ k % 2 == 1) ∧ L = []) := by
  refine Tri.intro tt_ok Tryz.func131 rfl rfl Tryz.ntmps131 rfl fun F => ?_
  (refine G tt_ok [] ?_; repeat (refine G1 tt_ok [] ?_; intro _))
  refine CW.ret (fin_ret rfl (Ent.dropAll _) ?_)
  refine ⟨?_, rfl⟩
  have e1 : min k IntKind.i64.bits = k := by show min k 64 = k; omega
  have e2 : p.fdiv (2 ^ k) = p / 2 ^ k := Int.fdiv_eq_ediv_of_nonneg _ (Int.le_of_lt (Int.pow_pos (by omega)))
  rw [e1, e2, and_i64 _ 1 1 rfl (by omega)]
  have e3 : IntKind.i64.wrap (p / 2 ^ k % 2 ^ 1) = p / 2 ^ k % 2 := by
    rw [show ((2 : Int) ^ 1) = 2 from rfl]
    generalize p / 2 ^ k = z
    rw [wrap_i64]; split <;> omega
  rw [e3]
  rfl
theorem nat_and_248 (n : Nat) : n &&& 248 = n % 256 - n % 8 := by
  have h : ∀ m, m < 256 → m &&& 248 = m - m % 8 := by decide
  have e : n &&& 248 = (n % 256) &&& 248 := by
    apply Nat.eq_of_testBit_eq
    intro i
    rw [Nat.testBit_and, Nat.testBit_and, show (256 : Nat) = 2 ^ 8 from rfl, Nat.testBit_mod_two_pow]
    by_cases hi : i < 8
    · simp [hi]
    · have : (248 : Nat).testBit i = false := Nat.testBit_lt_two_pow (Nat.lt_of_lt_of_le (show 248 < 2 ^ 8 by decide) (Nat.pow_le_pow_right (by omega) (by omega)))
      simp [this]
  rw [e, h _ (Nat.mod_lt _ (by decide))]
  omega
theorem realV_mod (p : Int) : realV p = p % 256 - p % 8 := by
  unfold realV
  rw [BitVec.toNat_and, show (BitVec.ofInt 64 248).toNat = 248 from rfl, nat_and_248]
  have := ofInt64 p
  generalize (BitVec.ofInt 64 p).toNat = z at this ⊢
  rw [wrap_i64]; split <;> omega
theorem real61 (β : Base) (p : Int) : Tri Tryz.prog β 130 [.int .i64 p] [] (fun v L => v = .int .i64 (realV p) ∧ L = []) := by
  refine Tri.intro tt_ok Tryz.func130 rfl rfl Tryz.ntmps130 rfl fun F => ?_
  (refine G tt_ok [] ?_; repeat (refine G1 tt_ok [] ?_; intro _))
  refine CW.loop (α := Nat × Int) (fun x => 3 ≤ x.1 ∧ x.1 ≤ 8 ∧ x.2 = p % 2 ^ x.1 - p % 8) (fun x => [(4, .int .i64 x.1), (3, .int .i64 x.2), (0, .int .i64 p)]) (fun _ => []) (fun x => 8 - x.1) (3, 0) ⟨by simp, by simp, by simp⟩ ⟨rfl, rfl, rfl, trivial⟩ (Ent.refl _) ?_
  rintro ⟨k, y⟩ ⟨hk3, hk, hy⟩
  simp only at hk3 hk hy
  (refine G tt_ok [] ?_; repeat (refine G1 tt_ok [] ?_; intro _))
  generalize e1 : decide ((k : Int) ≤ 7) = c
  cases c
  · (refine G tt_ok [] ?_; repeat (refine G1 tt_ok [] ?_; intro _))
    refine CW.exit ?_
    (refine G tt_ok [] ?_; repeat (refine G1 tt_ok [] ?_; intro _))
    refine CW.ret (fin_ret rfl (Ent.dropAll _) ?_)
    have : k = 8 := by simp at e1; omega
    subst this
    refine ⟨?_, rfl⟩
    rw [realV_mod]
    show Value.int .i64 y = _
    congr 1
  · have hlt : k < 8 := by simp at e1; omega
    have hw : IntKind.i64.wrap ((k : Int) + 1) = ((k + 1 : Nat) : Int) := by rw [wrap_i64]; split <;> omega
    have hstep : p % 2 ^ (k + 1) = p % 2 ^ k + 2 ^ k * (p / 2 ^ k % 2) := by
      have : k = 3 ∨ k = 4 ∨ k = 5 ∨ k = 6 ∨ k = 7 := by omega
      rcases this with rfl | rfl | rfl | rfl | rfl <;> omega
    (refine G tt_ok [] ?_; repeat (refine G1 tt_ok [] ?_; intro _))
    (refine SQ.call rfl rfl (bit63 β p k (by omega)) [] rfl ?_; rintro _ _ ⟨rfl, rfl⟩; refine w_ ?_)
    by_cases hb : p / 2 ^ k % 2 = 1
    · rw [show (p / 2 ^ k % 2 == 1) = true by simp [hb]]
      (refine G tt_ok [] ?_; repeat (refine G1 tt_ok [] ?_; intro _))
      have hs : IntKind.i64.wrap (y + IntKind.i64.wrap (1 * 2 ^ min k IntKind.i64.bits)) = y + 2 ^ k := by
        have : k = 3 ∨ k = 4 ∨ k = 5 ∨ k = 6 ∨ k = 7 := by omega
        rw [show min k IntKind.i64.bits = k by show min k 64 = k; omega]
        rcases this with rfl | rfl | rfl | rfl | rfl <;> (rw [wrap_i64, wrap_i64]; repeat' split) <;> omega
      refine ⟨(k + 1, y + 2 ^ k), ⟨by simp; omega, by simp; omega, ?_⟩, by simp; omega, ⟨by rw [← hw]; rfl, by rw [← hs]; rfl, rfl, trivial⟩, Ent.refl _⟩
      simp only
      rw [hstep, hb, hy]; omega
    · rw [show (p / 2 ^ k % 2 == 1) = false by simp [hb]]
      (refine G tt_ok [] ?_; repeat (refine G1 tt_ok [] ?_; intro _))
      refine ⟨(k + 1, y), ⟨by simp; omega, by simp; omega, ?_⟩, by simp; omega, ⟨by rw [← hw]; rfl, rfl, rfl, trivial⟩, Ent.refl _⟩
      simp only
      have : p / 2 ^ k % 2 = 0 := by
        generalize p / 2 ^ k = z at hb ⊢
        omega
      rw [hstep, this, hy]; omega
/-- Where an interrupt stands in the document's bank. -/
theorem at37 (β : Base) (b : Nat) (first id : Int) (p : Option Addr) (n c : Nat) (S2 : Value) (hn : n ≤ 16384) (h2 : vcells S2 = [S2]) :
    Tri Tryz.prog β 85 [.pointer (some ⟨b, 0, none⟩), .int .i64 id] [pt b [.int .i64 first, .slice p n c, S2]] (fun v L => ∃ k : Int, v = .int .i64 k ∧ (k = -1 ∨ ∃ i : Nat, i < n ∧ k = i) ∧ L = [pt b [.int .i64 first, .slice p n c, S2]]) := by
  refine Tri.intro tt_ok Tryz.func85 rfl rfl Tryz.ntmps85 rfl fun F => ?_
  (refine G tt_ok [] ?_; repeat (refine G1 tt_ok [] ?_; intro _))
  refine CW.loop (α := Nat) (fun k => k ≤ n) (fun k => [(5, .int .i64 k), (0, .pointer (some ⟨b, 0, none⟩)), (1, .int .i64 id)]) (fun _ => [pt b [.int .i64 first, .slice p n c, S2]]) (fun k => n - k) 0 (by omega) ⟨rfl, rfl, rfl, trivial⟩ (Ent.refl _) ?_
  intro k hk
  (refine G tt_ok [] ?_; repeat (refine G1 tt_ok [] ?_; intro _))
  generalize e1 : decide ((k : Int) < (n : Int)) = cc
  cases cc
  · (refine G tt_ok [] ?_; repeat (refine G1 tt_ok [] ?_; intro _))
    refine CW.exit ?_
    (refine G tt_ok [] ?_; repeat (refine G1 tt_ok [] ?_; intro _))
    refine CW.ret (fin_ret rfl (Ent.refl _) ?_)
    exact ⟨_, rfl, .inl rfl, rfl⟩
  · have hlt : k < n := by simp at e1; omega
    have hw : IntKind.i64.wrap ((k : Int) + 1) = ((k + 1 : Nat) : Int) := by rw [wrap_i64]; split <;> omega
    (refine G tt_ok [] ?_; repeat (refine G1 tt_ok [] ?_; intro _))
    generalize (IntKind.i64.wrap (first + k) == id) = q
    cases q
    · (refine G tt_ok [] ?_; repeat (refine G1 tt_ok [] ?_; intro _))
      exact ⟨k + 1, by omega, by omega, ⟨by rw [← hw]; rfl, rfl, rfl, trivial⟩, Ent.refl _⟩
    · (refine G tt_ok [] ?_; repeat (refine G1 tt_ok [] ?_; intro _))
      refine CW.ret (fin_ret rfl (Ent.refl _) ?_)
      exact ⟨_, rfl, .inr ⟨k, hlt, rfl⟩, rfl⟩
-- part Fn
theorem bit64 {v k : Nat} (hv : v < 2 ^ 64) (hk : k < 64) : IntKind.u64.wrap ((BitVec.ofInt IntKind.u64.bits ((v : Int).fdiv (2 ^ min k IntKind.u64.bits)) &&& BitVec.ofInt IntKind.u64.bits 1).toNat : Int) = ((v / 2 ^ k % 2 : Nat) : Int) := by
  have ep : ((2 : Int) ^ k) = ((2 ^ k : Nat) : Int) := by push_cast; rfl
  rw [show min k IntKind.u64.bits = k by show min k 64 = k; omega, ep, Int.fdiv_eq_ediv_of_nonneg _ (Int.natCast_nonneg _), ← Int.natCast_ediv]
  have h1 : v / 2 ^ k < 2 ^ 64 := Nat.lt_of_le_of_lt (Nat.div_le_self _ _) hv
  have := and64 (b := 1) h1 (by decide)
  rw [Nat.and_one_is_mod] at this
  exact this
theorem pow_add64 {i y : Nat} (hi : i < 64) (hy : y < 2 ^ i) : IntKind.u64.wrap ((y : Int) + IntKind.u64.wrap (1 * 2 ^ min i IntKind.u64.bits)) = ((y + 2 ^ i : Nat) : Int) := by
  have ep : ((2 : Int) ^ i) = ((2 ^ i : Nat) : Int) := by push_cast; rfl
  have h1 : (2 : Nat) ^ i ≤ 2 ^ 63 := Nat.pow_le_pow_right (by omega) (by omega)
  have e63 : (2 : Nat) ^ 63 = 9223372036854775808 := rfl
  rw [show min i IntKind.u64.bits = i by show min i 64 = i; omega, ep, wrap_u64, wrap_u64]
  omega
theorem mod_step (a i : Nat) : a % 2 ^ (i + 1) = a % 2 ^ i + 2 ^ i * (a / 2 ^ i % 2) := Nat.mod_pow_succ
/-- The document's part of a register. -/
theorem field54 (β : Base) {v : Nat} (hv : v < 2 ^ 64) (r f c k : Int) : Tri Tryz.prog β 127 [.int .u64 v, .agg #[.int .i64 r, .int .i64 f, .int .i64 c], .int .i64 k] [] (fun u L => u = .int .u64 (fieldV v r c k) ∧ L = []) := by
  refine Tri.intro tt_ok Tryz.func127 rfl rfl Tryz.ntmps127 rfl fun F => ?_
  by_cases hk : k < 0 ∨ k ≥ c ∨ k > 64
  · rw [fieldV_out hk]
    (repeat' (first | refine CW.seq ?_ | refine CW.region tt_ok rfl ?_ | refine CW.block ?_ | refine CW.skip ?_ | refine SQ.nil ?_ | refine SQ.pures1 tt_ok rfl ?_ | refine SQ.pure1 tt_ok rfl ?_ | refine SQ.new _ _ rfl rfl (fun _ => ?_) | refine SQ.ldA tt_ok rfl rfl (by repeat (first | exact .h | exact .q | apply At.t)) (by rfl) ?_ | refine SQ.stA tt_ok rfl rfl (by repeat (first | apply Up.h | apply Up.t)) (by rfl) (by rfl) (by repeat (first | exact trivial | refine ⟨trivial, ?_⟩ | refine ⟨wk (by repeat (first | exact .h | exact .q | apply At.t)) (by rfl), ?_⟩)) ?_ | refine CW.cond_tt rfl ?_ | refine CW.cond_ff rfl ?_ | (refine SQ.callA rfl rfl (wide56 β _) (by repeat (first | exact .n | exact Rm.h | exact Rm.of own_row | exact Rm.of row_close0 | apply Tk.c | apply Rm.t)) ?_; rintro _ _ ⟨rfl, rfl⟩; refine ⟨(by repeat (first | exact trivial | refine ⟨trivial, ?_⟩ | refine ⟨wk (by repeat (first | exact .h | exact .q | apply At.t)) (by rfl), ?_⟩)), ?_⟩) | ((first | refine CW.cond rfl (fun hc => ?_) (fun hc => ?_) | refine SQ.gsplit rfl (fun hc => ?_) (fun hc => ?_)) <;> try (exfalso; simp_all; done))))
    all_goals simp only [decide_eq_true_eq, decide_eq_false_iff_not] at *
    all_goals (first
      | exact CW.ret (fin_ret rfl (Ent.dropAll _) ⟨rfl, rfl⟩)
      | (exfalso; omega))
  · obtain ⟨n, hn1, hn, hb⟩ := bits_n r
    rw [fieldV_nat hv hb hn (by omega) (by omega) (by omega)]
    obtain ⟨k, rfl⟩ : ∃ k' : Nat, k = k' := ⟨k.toNat, by omega⟩
    have hmb : n * k ≤ 63 * 64 := Nat.mul_le_mul hn (by omega)
    have hm : IntKind.i64.wrap ((n : Int) * (k : Int)) = ((n * k : Nat) : Int) := by
      rw [← Int.natCast_mul, wrap_i64]; split <;> omega
    rw [Int.toNat_natCast]
    generalize n * k = M at hm hmb ⊢
    (refine G tt_ok [] ?_; repeat (refine G1 tt_ok [] ?_; intro _))
    rw [decide_eq_false (show ¬ (k : Int) ≥ c by omega)]
    (refine G tt_ok [] ?_; repeat (refine G1 tt_ok [] ?_; intro _))
    rw [decide_eq_false (show ¬ (k : Int) > 64 by omega)]
    (refine G tt_ok [] ?_; repeat (refine G1 tt_ok [] ?_; intro _))
    (refine SQ.call rfl rfl (wide56 β r) [] rfl ?_; rintro _ _ ⟨rfl, rfl⟩; refine w_ ?_)
    rw [hb]
    (refine G tt_ok [] ?_; repeat (refine G1 tt_ok [] ?_; intro _))
    rename_i b4
    refine CW.loop (α := Nat) (fun i => i ≤ n) (fun i => [(9, .int .i64 i), (8, .int .u64 ((v / 2 ^ M % 2 ^ i : Nat) : Int)), (7, .int .i64 n), (2, .int .i64 k), (0, .int .u64 v)]) (fun _ => []) (fun i => n - i) 0 (by omega) ⟨rfl, by rw [Nat.pow_zero, Nat.mod_one]; rfl, rfl, rfl, rfl, trivial⟩ (Ent.dropAll _) ?_
    intro i hi
    (refine G tt_ok [] ?_; repeat (refine G1 tt_ok [] ?_; intro _))
    by_cases e1 : (i : Int) < (n : Int)
    · have hw : IntKind.i64.wrap ((i : Int) + 1) = ((i + 1 : Nat) : Int) := by rw [wrap_i64]; split <;> omega
      have hs : IntKind.i64.wrap ((M : Int) + (i : Int)) = ((M + i : Nat) : Int) := by rw [wrap_i64]; split <;> omega
      have hst := mod_step (v / 2 ^ M) i
      rw [Nat.div_div_eq_div_mul, ← Nat.pow_add] at hst
      rw [decide_eq_true e1]
      (refine G tt_ok [] ?_; repeat (refine G1 tt_ok [] ?_; intro _))
      rw [hm, hs]
      by_cases hq : ((M + i : Nat) : Int) < 64
      · rw [decide_eq_true hq]
        (refine G tt_ok [] ?_; repeat (refine G1 tt_ok [] ?_; intro _))
        rw [bit64 hv (by omega)]
        have h01 : v / 2 ^ (M + i) % 2 = 0 ∨ v / 2 ^ (M + i) % 2 = 1 := by omega
        rcases h01 with h | h
        · rw [h] at hst ⊢
          (refine G tt_ok [] ?_; repeat (refine G1 tt_ok [] ?_; intro _))
          exact ⟨i + 1, by omega, by omega, ⟨by rw [← hw]; rfl, by rw [hst]; rfl, rfl, rfl, rfl, trivial⟩, Ent.refl _⟩
        · rw [h] at hst ⊢
          (refine G tt_ok [] ?_; repeat (refine G1 tt_ok [] ?_; intro _))
          have hs2 := pow_add64 (i := i) (y := v / 2 ^ M % 2 ^ i) (by omega) (Nat.mod_lt _ (Nat.two_pow_pos i))
          rw [Nat.mul_one] at hst
          exact ⟨i + 1, by omega, by omega, ⟨by rw [← hw]; rfl, by rw [hst, ← hs2]; rfl, rfl, rfl, rfl, trivial⟩, Ent.refl _⟩
      · rw [decide_eq_false hq]
        (refine G tt_ok [] ?_; repeat (refine G1 tt_ok [] ?_; intro _))
        have h0 : v / 2 ^ (M + i) = 0 := Nat.div_eq_of_lt (Nat.lt_of_lt_of_le hv (Nat.pow_le_pow_right (by omega) (by omega)))
        rw [h0] at hst
        exact ⟨i + 1, by omega, by omega, ⟨by rw [← hw]; rfl, by rw [hst]; rfl, rfl, rfl, rfl, trivial⟩, Ent.refl _⟩
    · rw [decide_eq_false e1]
      (refine G tt_ok [] ?_; repeat (refine G1 tt_ok [] ?_; intro _))
      refine CW.exit ?_
      (refine G tt_ok [] ?_; repeat (refine G1 tt_ok [] ?_; intro _))
      have : i = n := by omega
      subst this
      exact CW.ret (fin_ret rfl (Ent.dropAll _) ⟨rfl, rfl⟩)
-- part Ga<
theorem eq64 {a b : Nat} (ha : a < 2 ^ 64) (hb : b < 2 ^ 64) (h : ∀ j, j < 64 → a.testBit j = b.testBit j) : a = b := by
  apply Nat.eq_of_testBit_eq
  intro j
  by_cases hj : j < 64
  · exact h j hj
  · have hp : (2 : Nat) ^ 64 ≤ 2 ^ j := Nat.pow_le_pow_right (by omega) (by omega)
    rw [Nat.testBit_lt_two_pow (Nat.lt_of_lt_of_le ha hp), Nat.testBit_lt_two_pow (Nat.lt_of_lt_of_le hb hp)]
end Go.Proofs.YtjphlcfplcacnaaGreat.Sl
namespace Go.Proofs.YtjphlcfplcacnaaGreat.Sl
open Go Go.RowKit Go.Proofs
set_option linter.unusedVariables false
set_option linter.unusedSimpArgs false
attribute [local irreducible] CW Tri OW
set_option maxRecDepth 10000
-- part Fo
theorem step55' (β : Base) (e l t a : Bool) (x : Int) : Tri Tryz.prog β 86 [.agg #[.bool e, .bool l, .bool t, .bool a], .int .i64 x] [] (fun v L => v = .agg #[.bool (stepI (e, l, t, a) x).1, .bool (stepI (e, l, t, a) x).2.1, .bool (stepI (e, l, t, a) x).2.2.1, .bool (stepI (e, l, t, a) x).2.2.2] ∧ L = []) := step55 β e l t a x
theorem edge_bit (x : Int) : IntKind.u64.wrap ((BitVec.ofInt IntKind.u64.bits (x.fdiv (2 ^ min 1 IntKind.u64.bits)) &&& BitVec.ofInt IntKind.u64.bits 1).toNat : Int) = x / 2 % 2 := by
  have e2 : x.fdiv (2 ^ min 1 IntKind.u64.bits) = x / 2 := Int.fdiv_eq_ediv_of_nonneg _ (by decide)
  rw [e2, and_u64 _ 1 1 rfl (by omega), show ((2 : Int) ^ 1) = 2 from rfl]
  generalize x / 2 = z
  rw [wrap_u64]; omega
theorem edgeV_bit (x : Int) : edgeV x = if x / 2 % 2 = 1 then 8 else 9 := by
  unfold edgeV
  rw [and2_u64]
  have : IntKind.u64.wrap (2 * (x / 2 % 2)) = 2 * (x / 2 % 2) := by
    generalize x / 2 = z
    rw [wrap_u64]; omega
  rw [this]
  by_cases h : x / 2 % 2 = 1
  · rw [if_pos h, if_pos (by omega)]
  · rw [if_neg h, if_neg (by omega)]
theorem written_low {id : Int} {l : Ln} {r x : Int} (h : r = 12) (h2 : ¬ id ≥ 16) : writtenV id l r x = l := by
  subst h
  unfold writtenV
  simp only [h2, if_false]
  rfl
set_option maxHeartbeats 8000000 in
/-- The document's interrupt behind a write. -/
theorem changed53 (β : Base) (id : Int) (e l t a en : Bool) (g p r x : Int) (hx : r = 6 → x = 0 ∨ x = 1) : Tri Tryz.prog β 126 [.int .i64 id, .agg #[.bool e, .bool l, .bool t, .bool a, .bool en, .int .i64 g, .int .i64 p], .int .i64 r, .int .u64 x] []
    (fun v L => v = .agg (lnC (writtenV id ((e, l, t, a), en, g, p) r x)).toArray ∧ L = []) := by
  refine Tri.intro tt_ok Tryz.func126 rfl rfl Tryz.ntmps126 rfl fun F => ?_
  (repeat' (first | refine CW.seq ?_ | refine CW.region tt_ok rfl ?_ | refine CW.block ?_ | refine CW.skip ?_ | refine SQ.nil ?_ | refine SQ.pures1 tt_ok rfl ?_ | refine SQ.pure1 tt_ok rfl ?_ | refine SQ.new _ _ rfl rfl (fun _ => ?_) | refine SQ.ldA tt_ok rfl rfl (by repeat (first | exact .h | exact .q | apply At.t)) (by rfl) ?_ | refine SQ.stA tt_ok rfl rfl (by repeat (first | apply Up.h | apply Up.t)) (by rfl) (by rfl) (by repeat (first | exact trivial | refine ⟨trivial, ?_⟩ | refine ⟨wk (by repeat (first | exact .h | exact .q | apply At.t)) (by rfl), ?_⟩)) ?_ | refine CW.cond_tt rfl ?_ | refine CW.cond_ff rfl ?_ | (refine SQ.callA rfl rfl (step55' β _ _ _ _ _) (by repeat (first | exact .n | exact Rm.h | exact Rm.of own_row | exact Rm.of row_close0 | apply Tk.c | apply Rm.t)) ?_; rintro _ _ ⟨rfl, rfl⟩; refine ⟨(by repeat (first | exact trivial | refine ⟨trivial, ?_⟩ | refine ⟨wk (by repeat (first | exact .h | exact .q | apply At.t)) (by rfl), ?_⟩)), ?_⟩) | (refine SQ.callA rfl rfl (real61 β _) (by repeat (first | exact .n | exact Rm.h | exact Rm.of own_row | exact Rm.of row_close0 | apply Tk.c | apply Rm.t)) ?_; rintro _ _ ⟨rfl, rfl⟩; refine ⟨(by repeat (first | exact trivial | refine ⟨trivial, ?_⟩ | refine ⟨wk (by repeat (first | exact .h | exact .q | apply At.t)) (by rfl), ?_⟩)), ?_⟩) | ((first | refine CW.cond rfl (fun hc => ?_) (fun hc => ?_) | refine SQ.gsplit rfl (fun hc => ?_) (fun hc => ?_)) <;> try (exfalso; simp_all; done))))
  all_goals (refine CW.ret (fin_cells [_] ⟨⟨_, _, _, _, 1, rfl, rfl, rfl, rfl⟩, trivial⟩ (Ent.dropAll _) ⟨?_, rfl⟩)
             simp only [beq_iff_eq, beq_eq_false_iff_ne, ne_eq, decide_eq_true_eq, decide_eq_false_iff_not, edge_bit] at *)
  all_goals (first | (exfalso; omega) | skip)
  all_goals (first | (subst r; simp_all [packV, writtenV, lnC, actsV, edgeV_bit]; done) | (simp_all [packV, writtenV, lnC, actsV, edgeV_bit]; done) | (rw [written_low ‹_› ‹_›]; rfl))
end Go.Proofs.YtjphlcfplcacnaaGreat.Sl
namespace Go.Proofs.YtjphlcfplcacnaaGreat.Sl
open Go Go.RowKit Go.Proofs
set_option linter.unusedVariables false
set_option linter.unusedSimpArgs false
attribute [local irreducible] CW Tri OW
set_option maxRecDepth 10000
@[reducible] def pk93 : List (Nat × Plan) := [(17, [(0, 0, []), (1, 0, []), (2, 0, []), (3, 0, []), (4, 0, []), (5, 0, []), (6, 0, []), (7, 0, []), (8, 0, []), (9, 0, []), (10, 0, []), (11, 0, []), (12, 1, [1, 3, 6, 9]), (13, 1, [])]), (18, [(0, 0, []), (1, 0, []), (2, 0, []), (3, 0, []), (4, 0, []), (5, 0, []), (6, 0, []), (7, 0, []), (8, 0, []), (9, 0, []), (10, 0, []), (11, 0, []), (12, 0, []), (13, 0, []), (14, 1, [])])]
@[reducible] def pl93_0 : Plan := [(0, 0, []), (1, 0, []), (2, 0, []), (3, 0, []), (4, 0, []), (5, 0, []), (6, 0, []), (7, 0, []), (8, 0, []), (9, 0, []), (10, 0, []), (11, 0, []), (12, 1, [1, 3, 6, 9]), (13, 1, [])]
@[reducible] def pl93_1 : Plan := [(0, 0, []), (1, 0, []), (2, 0, []), (3, 0, []), (4, 0, []), (5, 0, []), (6, 0, []), (7, 0, []), (8, 0, []), (9, 0, []), (10, 0, []), (11, 0, []), (12, 0, []), (13, 0, []), (14, 1, [])]
-- part Fq
/-- A row of the document's tables: from, to, width, register, first, of, per. -/
abbrev Rw := Int × Int × Int × Int × Int × Int × Int
@[reducible] def rwC (r : Rw) : List Value := [.int .i64 r.1, .int .i64 r.2.1, .int .i64 r.2.2.1, .int .i64 r.2.2.2.1, .int .i64 r.2.2.2.2.1, .int .i64 r.2.2.2.2.2.1, .int .i64 r.2.2.2.2.2.2]
def bitRow (a s t : Int) (k : Nat) : Rw := (IntKind.i64.wrap (a + IntKind.i64.wrap (t * k)), IntKind.i64.wrap (IntKind.i64.wrap (a + IntKind.i64.wrap (t * k)) + s), 4, 4 + k, 0, 8, 1)
def bitsRw (a s t : Int) : Nat → List Rw
  | 0 => []
  | k + 1 => bitsRw a s t k ++ [bitRow a s t k]
theorem bitsRw_len (a s t : Int) : ∀ k, (bitsRw a s t k).length = k
  | 0 => rfl
  | k + 1 => by simp [bitsRw, bitsRw_len a s t k]
theorem reg_at {k : Nat} (h : k < 7) : rdv ti65 [.int .i64 4, .int .i64 5, .int .i64 6, .int .i64 7, .int .i64 8, .int .i64 9, .int .i64 10] (0 + k * 1) = some (.int .i64 (4 + k)) := by
  match k, h with
  | 0, _ => rfl
  | 1, _ => rfl
  | 2, _ => rfl
  | 3, _ => rfl
  | 4, _ => rfl
  | 5, _ => rfl
  | 6, _ => rfl
def obA (a s t : Int) (k : Nat) (x : Option Addr × Nat) : List Atom := [own 179 7 (.slice x.1 k x.2) k ((bitsRw a s t k).flatMap rwC)]
set_option maxHeartbeats 2000000 in
theorem bits52 (β : Base) (a s t : Int) : Tri Tryz.prog β 120 [.int .i64 a, .int .i64 s, .int .i64 t] [] (fun v L => ∃ q c, v = .slice q 7 c ∧ L = [own 179 7 (.slice q 7 c) 7 ((bitsRw a s t 7).flatMap rwC)]) := by
  refine Tri.intro tt_ok Tryz.func120 rfl rfl Tryz.ntmps120 rfl fun F => ?_
  (refine G tt_ok [] ?_; repeat (refine G1 tt_ok [] ?_; intro _))
  (refine SQ.built tt_ok rfl rfl (fun _ => w_ ?_))
  (refine G tt_ok [] ?_; repeat (refine G1 tt_ok [] ?_; intro _))
  rename_i b
  refine CW.loop (α := Nat × Option Addr × Nat) (fun k => k.1 ≤ 7) (fun k => [(9, .int .i64 k.1), (8, .slice k.2.1 k.1 k.2.2), (7, .slice (some ⟨b, 0, none⟩) 7 7), (0, .int .i64 a), (1, .int .i64 s), (2, .int .i64 t)])
    (fun k => [own 179 7 (.slice k.2.1 k.1 k.2.2) k.1 ((bitsRw a s t k.1).flatMap rwC), pt b [.int .i64 4, .int .i64 5, .int .i64 6, .int .i64 7, .int .i64 8, .int .i64 9, .int .i64 10]]) (fun k => 7 - k.1) (0, none, 0) (by simp) ⟨rfl, rfl, rfl, rfl, rfl, rfl, trivial⟩ (own_nil 179 7) ?_
  rintro ⟨k, q, c⟩ hk
  simp only at hk ⊢
  (refine G tt_ok [] ?_; repeat (refine G1 tt_ok [] ?_; intro _))
  generalize e1 : decide ((k : Int) < 7) = cc
  cases cc
  · have : k = 7 := by simp at e1; omega
    subst this
    (refine G tt_ok [] ?_; repeat (refine G1 tt_ok [] ?_; intro _))
    refine CW.exit ?_
    (refine G tt_ok [] ?_; repeat (refine G1 tt_ok [] ?_; intro _))
    refine CW.ret (fin_ret rfl (Ent.sel (is := [0]) rfl) ?_)
    exact ⟨q, c, rfl, rfl⟩
  · have hlt : k < 7 := by simp at e1; omega
    have hw : IntKind.i64.wrap ((k : Int) + 1) = ((k + 1 : Nat) : Int) := by rw [wrap_i64]; split <;> omega
    (refine G tt_ok [] ?_; repeat (refine G1 tt_ok [] ?_; intro _))
    refine SQ.idx tt_ok rfl rfl k rfl hlt (o' := 0 + k * 1) rfl ?_
    refine SQ.load tt_ok rfl rfl 1 rfl (reg_at hlt) ?_
    (refine G tt_ok [] ?_; repeat (refine G1 tt_ok [] ?_; intro _))
    (refine SQ.built tt_ok rfl rfl (fun _ => w_ ?_))
    (refine G tt_ok [] ?_; repeat (refine G1 tt_ok [] ?_; intro _))
    refine SQ.append tt_ok rfl rfl 1 rfl 0 (q := true) rfl (rwC (bitRow a s t k)) rfl rfl rfl (scal_eq rfl) (by omega) (by show (k + 1) * 56 ≤ _; omega) (fun v' => ⟨(by repeat (first | exact trivial | refine ⟨trivial, ?_⟩ | refine ⟨wk (by repeat (first | exact .h | exact .q | apply At.t)) (by rfl), ?_⟩)), ?_⟩)
    refine SQ.ent _ (Ent.head (own_shape _ _ _ _ _)) ?_
    refine SQ.open_ fun x => ?_
    refine SQ.pure_ fun hv => ?_
    subst hv
    (refine G tt_ok [] ?_; repeat (refine G1 tt_ok [] ?_; intro _))
    refine ⟨(k + 1, x.1, x.2), by simp; omega, by simp; omega, ⟨by rw [← hw]; rfl, rfl, rfl, rfl, rfl, rfl, trivial⟩, ?_⟩
    have e2 : (bitsRw a s t (k + 1)).flatMap rwC = (bitsRw a s t k).flatMap rwC ++ rwC (bitRow a s t k) := by
      rw [bitsRw, List.flatMap_append]; simp
    rw [e2]
    exact Ent.sel (is := [0, 1]) rfl
/-- The document's table of the distributor. -/
def distRw : List Rw := [(0, 4, 4, 1, 0, 0, 1), (4, 8, 4, 2, 0, 0, 1)] ++ bitsRw 128 128 128 7 ++ [(1024, 2048, 4, 11, 0, 1, 1), (3072, 3328, 4, 12, 0, 4, 1), (24832, 32768, 8, 13, 32, 1, 8)]
theorem distRw_len : distRw.length = 12 := rfl
theorem scal_dist : scal ((bitsRw 128 128 128 7).flatMap rwC) = true := by kernel_rfl
set_option maxHeartbeats 2000000 in
theorem dist32 (β : Base) : Tri Tryz.prog β 117 [] [] (fun v L => ∃ q c, v = .slice q 12 c ∧ L = [rowA q 12 (distRw.flatMap rwC)]) := by
  refine Tri.intro tt_ok Tryz.func117 rfl rfl Tryz.ntmps117 rfl fun F => ?_
  (refine G tt_ok [] ?_; repeat (refine G1 tt_ok [] ?_; intro _))
  refine SQ.builtO tt_ok rfl rfl rfl rfl (fun b => ⟨(by repeat (first | exact trivial | refine ⟨trivial, ?_⟩ | refine ⟨wk (by repeat (first | exact .h | exact .q | apply At.t)) (by rfl), ?_⟩)), ?_⟩)
  (refine G tt_ok [] ?_; repeat (refine G1 tt_ok [] ?_; intro _))
  (refine SQ.call rfl rfl (bits52 β 128 128 128) [] rfl ?_; rintro _ _ ⟨q, c, rfl, rfl⟩; refine w_ ?_)
  refine SQ.ent _ (Ent.head (Ent.trans own_row (row_open (by omega)))) ?_
  refine SQ.open_ fun x => ?_
  obtain ⟨g, rest⟩ := x
  refine SQ.pure_ fun hv => ?_
  simp only at hv
  subst hv
  (refine G tt_ok [] ?_; repeat (refine G1 tt_ok [] ?_; intro _))
  refine SQ.append tt_ok rfl rfl 1 rfl 0 (q := true) rfl ((bitsRw 128 128 128 7).flatMap rwC) rfl rfl rfl (scal_eq scal_dist) (by omega) (by decide) (fun v' => ⟨(by repeat (first | exact trivial | refine ⟨trivial, ?_⟩ | refine ⟨wk (by repeat (first | exact .h | exact .q | apply At.t)) (by rfl), ?_⟩)), ?_⟩)
  refine SQ.ent _ (Ent.head (own_shape _ _ _ _ _)) ?_
  refine SQ.open_ fun x => ?_
  refine SQ.pure_ fun hv => ?_
  subst hv
  (refine G tt_ok [] ?_; repeat (refine G1 tt_ok [] ?_; intro _))
  (refine SQ.built tt_ok rfl rfl (fun _ => w_ ?_))
  (refine G tt_ok [] ?_; repeat (refine G1 tt_ok [] ?_; intro _))
  refine SQ.append tt_ok rfl rfl 1 rfl 0 (q := true) rfl ([(1024, 2048, 4, 11, 0, 1, 1), (3072, 3328, 4, 12, 0, 4, 1), (24832, 32768, 8, 13, 32, 1, 8)].flatMap rwC) rfl rfl rfl (scal_eq rfl) (by omega) (by decide) (fun v' => ⟨(by repeat (first | exact trivial | refine ⟨trivial, ?_⟩ | refine ⟨wk (by repeat (first | exact .h | exact .q | apply At.t)) (by rfl), ?_⟩)), ?_⟩)
  refine SQ.ent _ (Ent.head (own_shape _ _ _ _ _)) ?_
  refine SQ.open_ fun y => ?_
  refine SQ.pure_ fun hv => ?_
  subst hv
  (refine G tt_ok [] ?_; repeat (refine G1 tt_ok [] ?_; intro _))
  refine CW.ret (fin_ret rfl (Ent.trans (Ent.sel (is := [0]) rfl) own_row) ?_)
  refine ⟨y.1, y.2, rfl, ?_⟩
  rfl
-- part Fr
/-- Does a row tell of one of the bytes off, .., off + k - 1? -/
def hitK (r : Rw) (off : Int) : Nat → Bool
  | 0 => false
  | k + 1 => hitK r off k || (decide (off + k ≥ r.1) && decide (off + k < r.2.1))
theorem hitK_mono {r : Rw} {off : Int} : ∀ {k n : Nat}, k ≤ n → hitK r off k = true → hitK r off n = true
  | k, 0, h, e => by obtain rfl : k = 0 := by omega
                     exact e
  | k, n + 1, h, e => by
    by_cases q : k = n + 1
    · subst q; exact e
    · simp [hitK, hitK_mono (show k ≤ n by omega) e]
def plV (r : Rw) (off w : Int) : Int × Int × Int := (r.2.2.2.1, IntKind.i64.wrap (r.2.2.2.2.1 + IntKind.i64.wrap (IntKind.i64.wrap ((IntKind.i64.wrap (off - r.1)).tdiv r.2.2.2.2.2.2) * r.2.2.2.2.2.1)), IntKind.i64.wrap (IntKind.i64.wrap (w.tdiv r.2.2.2.2.2.2) * r.2.2.2.2.2.1))
def outV (r : Rw) (off w : Int) : (Int × Int × Int) × Int := if w = r.2.2.1 then (plV r off w, 0) else ((0, 0, 0), 40)
def findV (rows : List Rw) (size off w : Int) : (Int × Int × Int) × Int :=
  if w ≠ 4 ∧ w ≠ 8 then ((0, 0, 0), 40) else if off.tmod w ≠ 0 then ((0, 0, 0), 41) else if off < 0 ∨ off > size - w then ((0, 0, 0), 42) else
  match rows.find? fun r => hitK r off w.toNat with
  | some r => outV r off w
  | none => ((0, 0, 0), 0)
theorem find_at {α : Type} {f : α → Bool} {l : List α} {k : Nat} {a : α} (h : l[k]? = some a) (hf : f a = true) (hb : ∀ (j : Nat) (b : α), j < k → l[j]? = some b → f b = false) : l.find? f = some a := by
  induction l generalizing k with
  | nil => simp at h
  | cons x l ih =>
    cases k with
    | zero => simp at h; subst h; simp [hf]
    | succ k =>
      have hx : f x = false := hb 0 x (by omega) (by simp)
      rw [List.find?_cons, hx]
      exact ih (by simpa using h) (fun j b hj hl => hb (j + 1) b (by omega) (by simpa using hl))
theorem find_no {α : Type} {f : α → Bool} {l : List α} (hb : ∀ (j : Nat) (b : α), l[j]? = some b → f b = false) : l.find? f = none := by
  rw [List.find?_eq_none]
  intro x hx
  obtain ⟨j, hj, e⟩ := List.getElem_of_mem hx
  simp [hb j x (by rw [← e]; exact List.getElem?_eq_getElem hj)]
theorem rd_rw {cs : List Value} {off n : Nat} {ts : List Rw} (h : (cs.drop off).take (n * 7) = ts.flatMap rwC) {k : Nat} {t : Rw} (hk : ts[k]? = some t) : rdv ti179 cs (off + k * 7) = some (.agg (rwC t).toArray) :=
  rd_enc (enc := rwC) (sz := 7) (fun _ => rfl) rfl rfl h hk
def plC (x : Int × Int × Int) : Value := .agg #[.int .i64 x.1, .int .i64 x.2.1, .int .i64 x.2.2]
set_option maxHeartbeats 4000000 in
theorem find31 (β : Base) {p : Option Addr} {n c : Nat} {rows : List Rw} {A : Atom} (h : RdS β p n 7 (rows.flatMap rwC) A) (hn : n ≤ 1000) (hper : ∀ r ∈ rows, r.2.2.2.2.2.2 ≠ 0) {size : Int} (hs0 : 8 ≤ size) (hs1 : size ≤ 1000000) (off w : Int) :
    Tri Tryz.prog β 93 [.slice p n c, .int .i64 size, .int .i64 off, .int .i64 w] [A] (fun v L => v = .tuple #[plC (findV rows size off w).1, .int .i64 (findV rows size off w).2] ∧ L = [A]) := by
  have hrl : rows.length = n := by have := h.1; rw [flatE_len (sz := 7) (fun _ => rfl)] at this; omega
  refine Tri.intro tt_ok Tryz.func93 rfl rfl Tryz.ntmps93 rfl fun F => ?_
  by_cases hw48 : w ≠ 4 ∧ w ≠ 8
  · (repeat' (first | refine CW.seq ?_ | refine CW.region tt_ok rfl ?_ | refine CW.regionD tt_ok (by kernel_rfl) pl93_0 (by decide +kernel) ?_ | refine CW.regionD tt_ok (by kernel_rfl) pl93_1 (by decide +kernel) ?_ | refine CW.block ?_ | refine CW.skip ?_ | refine SQ.nil ?_ | refine SQ.pures1 tt_ok rfl ?_ | refine SQ.pure1 tt_ok rfl ?_ | refine SQ.new _ _ rfl rfl (fun _ => ?_) | refine SQ.ldA tt_ok rfl rfl (by repeat (first | exact .h | exact .q | apply At.t)) (by rfl) ?_ | refine SQ.stA tt_ok rfl rfl (by repeat (first | apply Up.h | apply Up.t)) (by rfl) (by rfl) (by repeat (first | exact trivial | refine ⟨trivial, ?_⟩ | refine ⟨wk (by repeat (first | exact .h | exact .q | apply At.t)) (by rfl), ?_⟩)) ?_ | refine CW.cond_tt rfl ?_ | refine CW.cond_ff rfl ?_ | ((first | refine CW.cond rfl (fun hc => ?_) (fun hc => ?_) | refine SQ.gsplit rfl (fun hc => ?_) (fun hc => ?_)) <;> try (exfalso; simp_all; done))))
    all_goals (first | (exfalso; simp at *; omega; done) | skip)
    refine CW.ret (fin_cells [_, _] ⟨⟨_, _, _, _, 0, rfl, rfl, rfl, rfl⟩, rfl, trivial⟩ (Ent.sel (is := [1]) rfl) ⟨?_, rfl⟩)
    simp [packV, findV, hw48, plC]
  · have hw48' : w = 4 ∨ w = 8 := by omega
    have hws : IntKind.i64.wrap (size - w) = size - w := by rw [wrap_i64]; split <;> omega
    refine CW.seq ?_
    (refine G tt_ok pk93 ?_; repeat (refine G1 tt_ok pk93 ?_; intro _))
    rename_i b8
    (repeat' (first | refine CW.seq ?_ | refine CW.region tt_ok rfl ?_ | refine CW.regionD tt_ok (by kernel_rfl) pl93_0 (by decide +kernel) ?_ | refine CW.regionD tt_ok (by kernel_rfl) pl93_1 (by decide +kernel) ?_ | refine CW.block ?_ | refine CW.skip ?_ | refine SQ.nil ?_ | refine SQ.pures1 tt_ok rfl ?_ | refine SQ.pure1 tt_ok rfl ?_ | refine SQ.new _ _ rfl rfl (fun _ => ?_) | refine SQ.ldA tt_ok rfl rfl (by repeat (first | exact .h | exact .q | apply At.t)) (by rfl) ?_ | refine SQ.stA tt_ok rfl rfl (by repeat (first | apply Up.h | apply Up.t)) (by rfl) (by rfl) (by repeat (first | exact trivial | refine ⟨trivial, ?_⟩ | refine ⟨wk (by repeat (first | exact .h | exact .q | apply At.t)) (by rfl), ?_⟩)) ?_ | refine CW.cond_tt rfl ?_ | refine CW.cond_ff rfl ?_ | ((first | refine CW.cond rfl (fun hc => ?_) (fun hc => ?_) | refine SQ.gsplit rfl (fun hc => ?_) (fun hc => ?_)) <;> try (exfalso; simp_all; done))))
    all_goals (first | (exfalso; simp at *; omega; done) | skip)
    all_goals refine SQ.div tt_ok rfl rfl (by omega) rfl ?_
    all_goals by_cases ht : off.tmod w = 0
    all_goals (repeat' (first | refine CW.seq ?_ | refine CW.region tt_ok rfl ?_ | refine CW.regionD tt_ok (by kernel_rfl) pl93_0 (by decide +kernel) ?_ | refine CW.regionD tt_ok (by kernel_rfl) pl93_1 (by decide +kernel) ?_ | refine CW.block ?_ | refine CW.skip ?_ | refine SQ.nil ?_ | refine SQ.pures1 tt_ok rfl ?_ | refine SQ.pure1 tt_ok rfl ?_ | refine SQ.new _ _ rfl rfl (fun _ => ?_) | refine SQ.ldA tt_ok rfl rfl (by repeat (first | exact .h | exact .q | apply At.t)) (by rfl) ?_ | refine SQ.stA tt_ok rfl rfl (by repeat (first | apply Up.h | apply Up.t)) (by rfl) (by rfl) (by repeat (first | exact trivial | refine ⟨trivial, ?_⟩ | refine ⟨wk (by repeat (first | exact .h | exact .q | apply At.t)) (by rfl), ?_⟩)) ?_ | refine CW.cond_tt rfl ?_ | refine CW.cond_ff rfl ?_ | ((first | refine CW.cond rfl (fun hc => ?_) (fun hc => ?_) | refine SQ.gsplit rfl (fun hc => ?_) (fun hc => ?_)) <;> try (exfalso; simp_all; done))))
    all_goals (first | (exfalso; simp at *; first | done | contradiction | omega) | skip)
    all_goals (first | (refine CW.ret (fin_cells [_, _] ⟨⟨_, _, _, _, 0, rfl, rfl, rfl, rfl⟩, rfl, trivial⟩ (Ent.sel (is := [1]) rfl) ⟨?_, rfl⟩)
                        simp [packV, findV, hw48, plC, ht]; done) | skip)
    all_goals rw [hws] at *
    all_goals (first | (refine CW.ret (fin_cells [_, _] ⟨⟨_, _, _, _, 0, rfl, rfl, rfl, rfl⟩, rfl, trivial⟩ (Ent.sel (is := [1]) rfl) ⟨?_, rfl⟩)
                        simp only [decide_eq_true_eq, decide_eq_false_iff_not] at *
                        have ho : off < 0 ∨ off > size - w := by omega
                        simp [packV, findV, hw48, plC, ht, ho]; done) | skip)
    all_goals (
      simp only [decide_eq_true_eq, decide_eq_false_iff_not] at *
      have hof : ¬ (off < 0 ∨ off > size - w) := by omega
      have hwo : IntKind.i64.wrap (off + w) = off + w := by rw [wrap_i64]; split <;> omega
      refine CW.loop (α := Nat) (fun k => k ≤ n ∧ ∀ (j : Nat) (r : Rw), j < k → rows[j]? = some r → hitK r off w.toNat = false) (fun k => [(10, .int .i64 k), (9, .int .i64 0), (8, .pointer (some ⟨b8, 0, none⟩)), (3, .int .i64 w), (2, .int .i64 off), (0, .slice p n c)]) (fun _ => [pt b8 [.int .i64 0, .int .i64 0, .int .i64 0], A]) (fun k => n - k) 0 ⟨by omega, by omega⟩ ⟨rfl, rfl, rfl, rfl, rfl, rfl, trivial⟩ (Ent.refl _) ?_
      rintro k ⟨hk, hbef⟩
      (refine G tt_ok pk93 ?_; repeat (refine G1 tt_ok pk93 ?_; intro _))
      generalize e1 : decide ((k : Int) < (n : Int)) = cc
      cases cc
      · have : k = n := by simp at e1; omega
        subst this
        (refine G tt_ok pk93 ?_; repeat (refine G1 tt_ok pk93 ?_; intro _))
        refine CW.exit ?_
        (refine G tt_ok pk93 ?_; repeat (refine G1 tt_ok pk93 ?_; intro _))
        refine CW.ret (fin_cells [_, _] ⟨⟨_, _, _, _, 0, rfl, rfl, rfl, rfl⟩, rfl, trivial⟩ (Ent.sel (is := [1]) rfl) ⟨?_, rfl⟩)
        rw [show findV rows size off w = ((0, 0, 0), 0) by
          unfold findV
          rw [if_neg hw48, if_neg (by simpa using ht), if_neg hof, find_no (fun j b hj => hbef j b (by have := (List.getElem?_eq_some_iff.1 hj).1; omega) hj)]]
        rfl
      · have hlt : k < n := by simp at e1; omega
        have hw1 : IntKind.i64.wrap ((k : Int) + 1) = ((k + 1 : Nat) : Int) := by rw [wrap_i64]; split <;> omega
        obtain ⟨r, hr⟩ : ∃ r, rows[k]? = some r := ⟨rows[k], List.getElem?_eq_getElem (by omega)⟩
        have hpr := hper r (List.mem_of_getElem? hr)
        have hg : w.toNat = w.toNat := rfl
        obtain ⟨b, o, q, cs, rfl, rfl, hcs⟩ := h.2.resolve_left (by omega)
        have hfind : ∀ (x : (Int × Int × Int) × Int), outV r off w = x → hitK r off w.toNat = true → findV rows size off w = x := fun x hx hh => by
          unfold findV
          rw [if_neg hw48, if_neg (by simpa using ht), if_neg hof, find_at hr hh hbef]
          exact hx
        obtain ⟨r1, r2, r3, r4, r5, r6, r7⟩ := r
        simp only at hpr hfind
        (refine G tt_ok pk93 ?_; repeat (refine G1 tt_ok pk93 ?_; intro _))
        refine SQ.idx tt_ok rfl rfl k rfl hlt (o' := o + k * 7) rfl ?_
        refine SQ.loadq tt_ok rfl rfl 1 rfl (rd_rw hcs hr) ?_
        (refine G tt_ok pk93 ?_; repeat (refine G1 tt_ok pk93 ?_; intro _))
        rename_i b11
        refine CW.loop (α := Nat × Int) (fun x => x.1 ≤ w.toNat ∧ x.2 = off + x.1 ∧ hitK (r1, r2, r3, r4, r5, r6, r7) off x.1 = false) (fun x => [(12, .int .i64 x.2), (11, .pointer (some ⟨b11, 0, none⟩)), (10, .int .i64 k), (9, .int .i64 0), (8, .pointer (some ⟨b8, 0, none⟩)), (3, .int .i64 w), (2, .int .i64 off), (0, .slice (some ⟨b, o, none⟩) n c)])
          (fun _ => [pt b11 [.int .i64 r1, .int .i64 r2, .int .i64 r3, .int .i64 r4, .int .i64 r5, .int .i64 r6, .int .i64 r7], pt b8 [.int .i64 0, .int .i64 0, .int .i64 0], pq β q b cs]) (fun x => w.toNat - x.1) (0, off) ⟨by omega, by simp, rfl⟩ ⟨rfl, rfl, rfl, rfl, rfl, rfl, rfl, rfl, trivial⟩ (Ent.refl _) ?_
        rintro ⟨j, y⟩ ⟨hj, hy, hnj⟩
        simp only at hj hy hnj
        (refine G tt_ok pk93 ?_; repeat (refine G1 tt_ok pk93 ?_; intro _))
        rw [hwo]
        generalize e2 : decide (y < off + w) = cc
        cases cc
        · have : j = w.toNat := by simp at e2; omega
          subst this
          (refine G tt_ok pk93 ?_; repeat (refine G1 tt_ok pk93 ?_; intro _))
          refine CW.exit ?_
          (refine G tt_ok pk93 ?_; repeat (refine G1 tt_ok pk93 ?_; intro _))
          refine ⟨k + 1, ⟨by omega, fun i r2 hi hr2 => ?_⟩, by omega, ⟨by rw [← hw1]; rfl, rfl, rfl, rfl, rfl, rfl, trivial⟩, Ent.sel (is := [1, 1]) rfl⟩
          by_cases hik : i = k
          · subst hik
            rw [hr] at hr2
            injection hr2 with hr2
            rw [← hr2]; exact hnj
          · exact hbef i r2 (by omega) hr2
        · simp only [decide_eq_true_eq] at e2
          have hw2 : IntKind.i64.wrap (y + 1) = y + 1 := by rw [wrap_i64]; split <;> omega
          have hnx : ¬ (off + j ≥ r1 ∧ off + j < r2) → hitK (r1, r2, r3, r4, r5, r6, r7) off (j + 1) = false := fun hn => by
            simp only [hitK, hnj, Bool.false_or, Bool.and_eq_false_iff, decide_eq_false_iff_not]
            omega
          by_cases h3 : y < r1
          · (refine G tt_ok pk93 ?_; repeat (refine G1 tt_ok pk93 ?_; intro _))
            rw [decide_eq_true h3]
            (refine G tt_ok pk93 ?_; repeat (refine G1 tt_ok pk93 ?_; intro _))
            refine CW.exit ?_
            (refine G tt_ok pk93 ?_; repeat (refine G1 tt_ok pk93 ?_; intro _))
            exact ⟨(j + 1, IntKind.i64.wrap (y + 1)), ⟨by simp; omega, by simp only [hw2]; omega, hnx (by omega)⟩, by simp; omega, ⟨rfl, rfl, rfl, rfl, rfl, rfl, rfl, rfl, trivial⟩, Ent.refl _⟩
          · by_cases h4 : y ≥ r2
            · (refine G tt_ok pk93 ?_; repeat (refine G1 tt_ok pk93 ?_; intro _))
              rw [decide_eq_false h3]
              (refine G tt_ok pk93 ?_; repeat (refine G1 tt_ok pk93 ?_; intro _))
              rw [decide_eq_true h4]
              (refine G tt_ok pk93 ?_; repeat (refine G1 tt_ok pk93 ?_; intro _))
              refine CW.exit ?_
              (refine G tt_ok pk93 ?_; repeat (refine G1 tt_ok pk93 ?_; intro _))
              exact ⟨(j + 1, IntKind.i64.wrap (y + 1)), ⟨by simp; omega, by simp only [hw2]; omega, hnx (by omega)⟩, by simp; omega, ⟨rfl, rfl, rfl, rfl, rfl, rfl, rfl, rfl, trivial⟩, Ent.refl _⟩
            · have hh : hitK (r1, r2, r3, r4, r5, r6, r7) off w.toNat = true := hitK_mono (k := j + 1) (by omega) (by
                simp only [hitK, hnj, Bool.false_or, Bool.and_eq_true, decide_eq_true_eq]
                omega)
              (refine G tt_ok pk93 ?_; repeat (refine G1 tt_ok pk93 ?_; intro _))
              rw [decide_eq_false h3]
              (refine G tt_ok pk93 ?_; repeat (refine G1 tt_ok pk93 ?_; intro _))
              rw [decide_eq_false h4]
              (refine G tt_ok pk93 ?_; repeat (refine G1 tt_ok pk93 ?_; intro _))
              by_cases h5 : w = r3
              · rw [show (w != r3) = false by simp [h5]]
                (refine G tt_ok pk93 ?_; repeat (refine G1 tt_ok pk93 ?_; intro _))
                refine SQ.div tt_ok rfl rfl hpr rfl ?_
                (refine G tt_ok pk93 ?_; repeat (refine G1 tt_ok pk93 ?_; intro _))
                refine SQ.div tt_ok rfl rfl hpr rfl ?_
                (refine G tt_ok pk93 ?_; repeat (refine G1 tt_ok pk93 ?_; intro _))
                refine CW.ret (fin_cells [_, _] ⟨⟨_, _, _, _, 2, rfl, rfl, rfl, rfl⟩, rfl, trivial⟩ (Ent.sel (is := [3]) rfl) ⟨?_, rfl⟩)
                rw [hfind _ rfl hh]
                unfold outV
                rw [if_pos h5]
                rfl
              · rw [show (w != r3) = true by simp [h5]]
                (refine G tt_ok pk93 ?_; repeat (refine G1 tt_ok pk93 ?_; intro _))
                refine CW.ret (fin_cells [_, _] ⟨⟨_, _, _, _, 1, rfl, rfl, rfl, rfl⟩, rfl, trivial⟩ (Ent.sel (is := [2]) rfl) ⟨?_, rfl⟩)
                rw [hfind _ rfl hh]
                unfold outV
                rw [if_neg h5]
                rfl)
theorem distRw_per : ∀ r ∈ distRw, r.2.2.2.2.2.2 ≠ 0 := by
  have h : (distRw.all fun r => r.2.2.2.2.2.2 != 0) = true := by kernel_rfl
  intro r hr
  have := List.all_eq_true.1 h r hr
  simpa using this
def distV (off w : Int) : (Int × Int × Int) × Int := findV distRw 65536 off w
theorem dist15 (β : Base) (off w : Int) : Tri Tryz.prog β 90 [.int .i64 off, .int .i64 w] [] (fun v L => v = .tuple #[.agg #[.int .i64 (distV off w).1.1, .int .i64 (distV off w).1.2.1, .int .i64 (distV off w).1.2.2], .int .i64 (distV off w).2] ∧ L = []) := by
  refine Tri.intro tt_ok Tryz.func90 rfl rfl Tryz.ntmps90 rfl fun F => ?_
  (refine G tt_ok [] ?_; repeat (refine G1 tt_ok [] ?_; intro _))
  (refine SQ.call rfl rfl (dist32 β) [] rfl ?_; rintro _ _ ⟨q, c, rfl, rfl⟩; refine w_ ?_)
  refine SQ.ent _ (Ent.head (row_rd β (sz := 7) (n := 12) (by rw [flatE_len (sz := 7) (fun _ => rfl)]; rfl))) ?_
  refine SQ.open_ fun B => ?_
  refine SQ.pure_ fun hB => ?_
  (refine G tt_ok [] ?_; repeat (refine G1 tt_ok [] ?_; intro _))
  (refine SQ.call rfl rfl (find31 β hB (by omega) distRw_per (by omega) (by omega) off w) [0] rfl ?_; rintro _ _ ⟨rfl, rfl⟩; refine w_ ?_)
  (refine G tt_ok [] ?_; repeat (refine G1 tt_ok [] ?_; intro _))
  refine CW.ret (fin_cells [_, _] ⟨⟨_, _, _, _, 1, rfl, rfl, rfl, rfl⟩, rfl, trivial⟩ (Ent.dropAll _) ⟨rfl, rfl⟩)
end Go.Proofs.YtjphlcfplcacnaaGreat.Sl
namespace Go.Proofs.YtjphlcfplcacnaaGreat.Sl
open Go Go.RowKit Go.Proofs
set_option linter.unusedVariables false
set_option linter.unusedSimpArgs false
attribute [local irreducible] CW Tri OW
set_option maxRecDepth 10000
@[reducible] def pk40 : List (Nat × Plan) := [(4, [(0, 0, []), (1, 0, []), (2, 0, []), (3, 0, []), (4, 0, []), (5, 0, []), (6, 0, []), (7, 0, []), (8, 0, []), (9, 0, []), (10, 0, []), (11, 0, []), (12, 0, []), (13, 0, []), (14, 1, [3, 8, 12]), (15, 0, []), (16, 0, []), (17, 1, [])])]
-- part Fp
def zeroL : Ln := ((false, false, false, false), false, 0, 0)
/-- The document's bank, while it is built. -/
def nbA (b : Nat) (first : Int) (tx : ByteArray) (k : Nat) : Atom := exA fun x : Option Addr × Nat × Option Addr × Nat => [pt b [.int .i64 first, .slice x.1 k x.2.1, .slice x.2.2.1 k x.2.2.2],
  own 53 7 (.slice x.1 k x.2.1) k ((List.replicate k zeroL).flatMap lnC), own 9 1 (.slice x.2.2.1 k x.2.2.2) k (List.replicate k (.string tx))]
/-- The document's bank. -/
def rbA (b : Nat) (first : Int) (q : Option Addr) (c : Nat) (S2 : Value) (ls : List Ln) : List Atom := [pt b [.int .i64 first, .slice q ls.length c, S2], rowA q ls.length (ls.flatMap lnC)]
theorem rep_succ {α : Type} (k : Nat) (a : α) (enc : α → List Value) : (List.replicate (k + 1) a).flatMap enc = (List.replicate k a).flatMap enc ++ enc a := by
  rw [List.replicate_succ', List.flatMap_append]; simp
set_option maxHeartbeats 2000000 in
theorem new33 (β : Base) {first n : Int} (h0 : 0 ≤ first) (h1 : 0 ≤ n) (h2 : first + n ≤ 16384) (tx : ByteArray) :
    Tri Tryz.prog β 39 [.int .i64 first, .int .i64 n, .string tx] [] (fun v L => ∃ b q c q2 c2, v = .tuple #[.pointer (some ⟨b, 0, none⟩), .bool true] ∧
      L = [pt b [.int .i64 first, .slice q n.toNat c, .slice q2 n.toNat c2], rowA q n.toNat ((List.replicate n.toNat zeroL).flatMap lnC), rowA q2 n.toNat (List.replicate n.toNat (.string tx))]) := by
  obtain ⟨m, rfl⟩ : ∃ m : Nat, n = (m : Int) := ⟨n.toNat, by omega⟩
  have hw0 : IntKind.i64.wrap (first + m) = first + m := by rw [wrap_i64]; split <;> omega
  refine Tri.intro tt_ok Tryz.func39 rfl rfl Tryz.ntmps39 rfl fun F => ?_
  (refine G tt_ok [] ?_; repeat (refine G1 tt_ok [] ?_; intro _))
  rw [decide_eq_false (show ¬ first < 0 by omega)]
  (refine G tt_ok [] ?_; repeat (refine G1 tt_ok [] ?_; intro _))
  rw [decide_eq_false (show ¬ (m : Int) < 0 by omega)]
  (refine G tt_ok [] ?_; repeat (refine G1 tt_ok [] ?_; intro _))
  rw [decide_eq_false (show ¬ first > 16384 by omega)]
  (refine G tt_ok [] ?_; repeat (refine G1 tt_ok [] ?_; intro _))
  rw [decide_eq_false (show ¬ (m : Int) > 16384 by omega)]
  (refine G tt_ok [] ?_; repeat (refine G1 tt_ok [] ?_; intro _))
  rw [hw0, decide_eq_false (show ¬ first + m > 16384 by omega)]
  (refine G tt_ok [] ?_; repeat (refine G1 tt_ok [] ?_; intro _))
  rename_i b
  refine CW.loop (α := Nat) (fun k => k ≤ m) (fun k => [(9, .int .i64 k), (1, .int .i64 m), (8, .pointer (some ⟨b, 0, none⟩)), (2, .string tx)])
    (fun k => [nbA b first tx k]) (fun k => m - k) 0 (by omega) ⟨rfl, rfl, rfl, rfl, trivial⟩ ?_ ?_
  · refine Ent.trans ((own_nil 9 1).trans (own_nil 53 7)) ?_
    exact (Ent.sel (is := [2, 0, 0]) rfl).trans (Ent.exA (f := fun x : Option Addr × Nat × Option Addr × Nat => [pt b [.int .i64 first, .slice x.1 0 x.2.1, .slice x.2.2.1 0 x.2.2.2],
      own 53 7 (.slice x.1 0 x.2.1) 0 ((List.replicate 0 zeroL).flatMap lnC), own 9 1 (.slice x.2.2.1 0 x.2.2.2) 0 (List.replicate 0 (.string tx))]) (none, 0, none, 0))
  intro k hk
  refine CW.open_ fun x => ?_
  obtain ⟨q, c, q2, c2⟩ := x
  simp only [List.cons_append, List.nil_append]
  (refine G tt_ok [] ?_; repeat (refine G1 tt_ok [] ?_; intro _))
  generalize e1 : decide ((k : Int) < (m : Int)) = cc
  cases cc
  · have : k = m := by simp at e1; omega
    subst this
    (refine G tt_ok [] ?_; repeat (refine G1 tt_ok [] ?_; intro _))
    refine CW.exit ?_
    (refine G tt_ok [] ?_; repeat (refine G1 tt_ok [] ?_; intro _))
    refine CW.ret (fin_ret rfl (Ent.cons _ (Ent.append (L := [_]) (L' := [_]) own_row own_row)) ?_)
    exact ⟨b, q, c, q2, c2, rfl, rfl⟩
  · have hlt : k < m := by simp at e1; omega
    have hw : IntKind.i64.wrap ((k : Int) + 1) = ((k + 1 : Nat) : Int) := by rw [wrap_i64]; split <;> omega
    (refine G tt_ok [] ?_; repeat (refine G1 tt_ok [] ?_; intro _))
    (refine SQ.built tt_ok rfl rfl (fun _ => w_ ?_))
    (refine G tt_ok [] ?_; repeat (refine G1 tt_ok [] ?_; intro _))
    refine SQ.append tt_ok rfl rfl 2 rfl 0 (q := true) rfl (lnC zeroL) rfl rfl rfl (scal_eq rfl) (by omega) (by show (k + 1) * 24 ≤ _; omega) (fun v' => ⟨(by repeat (first | exact trivial | refine ⟨trivial, ?_⟩ | refine ⟨wk (by repeat (first | exact .h | exact .q | apply At.t)) (by rfl), ?_⟩)), ?_⟩)
    refine SQ.ent _ (Ent.head (own_shape _ _ _ _ _)) ?_
    refine SQ.open_ fun s => ?_
    refine SQ.pure_ fun hv => ?_
    subst hv
    (refine G tt_ok [] ?_; repeat (refine G1 tt_ok [] ?_; intro _))
    (refine SQ.built tt_ok rfl rfl (fun _ => w_ ?_))
    (refine G tt_ok [] ?_; repeat (refine G1 tt_ok [] ?_; intro _))
    refine SQ.append tt_ok rfl rfl 4 rfl 0 (q := true) rfl [.string tx] rfl rfl rfl (scal_eq rfl) (by omega) (by show (k + 1) * 16 ≤ _; omega) (fun v' => ⟨(by repeat (first | exact trivial | refine ⟨trivial, ?_⟩ | refine ⟨wk (by repeat (first | exact .h | exact .q | apply At.t)) (by rfl), ?_⟩)), ?_⟩)
    refine SQ.ent _ (Ent.head (own_shape _ _ _ _ _)) ?_
    refine SQ.open_ fun s2 => ?_
    refine SQ.pure_ fun hv => ?_
    subst hv
    (refine G tt_ok [] ?_; repeat (refine G1 tt_ok [] ?_; intro _))
    refine ⟨k + 1, by omega, by omega, ⟨by rw [← hw]; rfl, rfl, rfl, rfl, trivial⟩, ?_⟩
    refine Ent.trans ?_ (Ent.exA (f := fun x : Option Addr × Nat × Option Addr × Nat => [pt b [.int .i64 first, .slice x.1 (k + 1) x.2.1, .slice x.2.2.1 (k + 1) x.2.2.2],
      own 53 7 (.slice x.1 (k + 1) x.2.1) (k + 1) ((List.replicate (k + 1) zeroL).flatMap lnC), own 9 1 (.slice x.2.2.1 (k + 1) x.2.2.2) (k + 1) (List.replicate (k + 1) (.string tx))]) (s.1, s.2, s2.1, s2.2))
    rw [rep_succ, List.replicate_succ' (n := k) (a := Value.string tx)]
    exact Ent.sel (is := [4, 2, 0]) rfl
-- part Fs
/-- Where an interrupt stands in the document's bank. -/
def atD (first : Int) (n : Nat) (id : Int) : Int := if first ≤ id ∧ id - first < n then id - first else -1
theorem at37d (β : Base) (b : Nat) {first : Int} (id : Int) (p : Option Addr) {n : Nat} (c : Nat) (S2 : Value) (hf0 : 0 ≤ first) (hf1 : first ≤ 16384) (hn : n ≤ 16384) (h2 : vcells S2 = [S2]) :
    Tri Tryz.prog β 85 [.pointer (some ⟨b, 0, none⟩), .int .i64 id] [pt b [.int .i64 first, .slice p n c, S2]] (fun v L => v = .int .i64 (atD first n id) ∧ L = [pt b [.int .i64 first, .slice p n c, S2]]) := by
  refine Tri.intro tt_ok Tryz.func85 rfl rfl Tryz.ntmps85 rfl fun F => ?_
  (refine G tt_ok [] ?_; repeat (refine G1 tt_ok [] ?_; intro _))
  refine CW.loop (α := Nat) (fun k => k ≤ n ∧ ¬ (first ≤ id ∧ id - first < k)) (fun k => [(5, .int .i64 k), (0, .pointer (some ⟨b, 0, none⟩)), (1, .int .i64 id)]) (fun _ => [pt b [.int .i64 first, .slice p n c, S2]]) (fun k => n - k) 0 ⟨by omega, by omega⟩ ⟨rfl, rfl, rfl, trivial⟩ (Ent.refl _) ?_
  rintro k ⟨hk, hb⟩
  (refine G tt_ok [] ?_; repeat (refine G1 tt_ok [] ?_; intro _))
  generalize e1 : decide ((k : Int) < (n : Int)) = cc
  cases cc
  · have : k = n := by simp at e1; omega
    subst this
    (refine G tt_ok [] ?_; repeat (refine G1 tt_ok [] ?_; intro _))
    refine CW.exit ?_
    (refine G tt_ok [] ?_; repeat (refine G1 tt_ok [] ?_; intro _))
    refine CW.ret (fin_ret rfl (Ent.refl _) ⟨?_, rfl⟩)
    unfold atD
    rw [if_neg hb]; rfl
  · have hlt : k < n := by simp at e1; omega
    have hw : IntKind.i64.wrap ((k : Int) + 1) = ((k + 1 : Nat) : Int) := by rw [wrap_i64]; split <;> omega
    have hwf : IntKind.i64.wrap (first + (k : Int)) = first + (k : Int) := by rw [wrap_i64]; split <;> omega
    (refine G tt_ok [] ?_; repeat (refine G1 tt_ok [] ?_; intro _))
    rw [hwf]
    by_cases hid : first + (k : Int) = id
    · rw [show (first + (k : Int) == id) = true by simp [hid]]
      (refine G tt_ok [] ?_; repeat (refine G1 tt_ok [] ?_; intro _))
      refine CW.ret (fin_ret rfl (Ent.refl _) ⟨?_, rfl⟩)
      unfold atD
      rw [if_pos (by omega)]
      show Value.int .i64 (k : Int) = _
      congr 1; omega
    · rw [show (first + (k : Int) == id) = false by simp [hid]]
      (refine G tt_ok [] ?_; repeat (refine G1 tt_ok [] ?_; intro _))
      exact ⟨k + 1, ⟨by omega, by omega⟩, by omega, ⟨by rw [← hw]; rfl, rfl, rfl, trivial⟩, Ent.refl _⟩
theorem lnC_len (x : Ln) : (lnC x).length = 7 := rfl
theorem rd_ln {es : List Ln} {k : Nat} {e : Ln} (h : es[k]? = some e) (X : List Value) : rdv ti53 (es.flatMap lnC ++ X) (0 + k * 7) = some (.agg #[.bool e.1.1, .bool e.1.2.1, .bool e.1.2.2.1, .bool e.1.2.2.2, .bool e.2.1, .int .i64 e.2.2.1, .int .i64 e.2.2.2]) :=
  rd_partR (enc := lnC) (sz := 7) (fun _ => rfl) h 0 (i := ti53) rfl (by decide) (by omega) (by decide) X
theorem rd_lnq {es : List Ln} {k : Nat} {e : Ln} (h : es[k]? = some e) (X : List Value) : rdv ti35 (es.flatMap lnC ++ X) (0 + k * 7) = some (.agg #[.bool e.1.1, .bool e.1.2.1, .bool e.1.2.2.1, .bool e.1.2.2.2]) :=
  rd_partR (enc := lnC) (sz := 7) (fun _ => rfl) h 0 (i := ti35) rfl (by decide) (by omega) (by decide) X
theorem wr_lnq {es : List Ln} {k : Nat} {e : Ln} (h : es[k]? = some e) (q : Iq) (X : List Value) : wrv ti35 (es.flatMap lnC ++ X) (0 + k * 7) (.agg #[.bool q.1, .bool q.2.1, .bool q.2.2.1, .bool q.2.2.2]) = some ((es.set k (q, e.2)).flatMap lnC ++ X) :=
  wr_encR (enc := lnC) (sz := 7) (fun _ => rfl) h 0 (i := ti35) (by decide) rfl rfl (by omega) X
theorem wr_ln {es : List Ln} {k : Nat} {e : Ln} (h : es[k]? = some e) (q : Ln) (X : List Value) : wrv ti53 (es.flatMap lnC ++ X) (0 + k * 7) (.agg #[.bool q.1.1, .bool q.1.2.1, .bool q.1.2.2.1, .bool q.1.2.2.2, .bool q.2.1, .int .i64 q.2.2.1, .int .i64 q.2.2.2]) = some ((es.set k q).flatMap lnC ++ X) :=
  wr_encR (enc := lnC) (sz := 7) (fun _ => rfl) h 0 (i := ti53) (by decide) rfl rfl (by omega) X
/-- What befalls an interrupt of the document's bank. -/
def doD (first : Int) (ls : List Ln) (id x : Int) : List Ln × Int := if first ≤ id ∧ id - first < ls.length then
  (match ls[(id - first).toNat]? with
  | some l => (ls.set (id - first).toNat (stepI l.1 x, l.2), 0)
  | none => (ls, 0)) else (ls, 90)
theorem doD_len (first : Int) (ls : List Ln) (id x : Int) : (doD first ls id x).1.length = ls.length := by
  unfold doD; split
  · split <;> simp
  · rfl
set_option maxHeartbeats 2000000 in
theorem do36 (β : Base) (b : Nat) {first : Int} (id x : Int) (q : Option Addr) (c : Nat) (S2 : Value) (ls : List Ln) (hf0 : 0 ≤ first) (hf1 : first ≤ 16384) (hn : ls.length ≤ 16384) (h2 : vcells S2 = [S2]) :
    Tri Tryz.prog β 40 [.pointer (some ⟨b, 0, none⟩), .int .i64 id, .int .i64 x] (rbA b first q c S2 ls) (fun v L => v = .int .i64 (doD first ls id x).2 ∧ L = rbA b first q c S2 (doD first ls id x).1) := by
  refine Tri.intro tt_ok Tryz.func40 rfl rfl Tryz.ntmps40 rfl fun F => ?_
  unfold rbA
  rw [doD_len]
  (refine G tt_ok pk40 ?_; repeat (refine G1 tt_ok pk40 ?_; intro _))
  (refine SQ.call rfl rfl (at37d β b id q c S2 hf0 hf1 hn h2) [0] rfl ?_; rintro _ _ ⟨rfl, rfl⟩; refine w_ ?_)
  (refine G tt_ok pk40 ?_; repeat (refine G1 tt_ok pk40 ?_; intro _))
  by_cases hin : first ≤ id ∧ id - first < ls.length
  · have hat : atD first ls.length id = id - first := by unfold atD; rw [if_pos hin]
    have hkl : (id - first).toNat < ls.length := by omega
    obtain ⟨l, hl⟩ : ∃ l, ls[(id - first).toNat]? = some l := ⟨_, List.getElem?_eq_getElem hkl⟩
    have hd : doD first ls id x = (ls.set (id - first).toNat (stepI l.1 x, l.2), 0) := by unfold doD; rw [if_pos hin, hl]
    rw [hat, decide_eq_false (show ¬ id - first < 0 by omega), hd]
    refine CW.ent (Ent.append (L := [_]) (L' := [_]) (Ent.refl _) (row_open (show 0 < ls.length by omega))) ?_
    refine CW.ent (Ent.sel (is := [1, 0]) rfl) ?_
    refine CW.open_ fun y => ?_
    obtain ⟨g, rest⟩ := y
    refine CW.pure_ fun hv => ?_
    simp only at hv
    subst hv
    (refine G tt_ok pk40 ?_; repeat (refine G1 tt_ok pk40 ?_; intro _))
    refine SQ.idx tt_ok rfl rfl (id - first).toNat (by omega) hkl (o' := 0 + (id - first).toNat * 7) rfl ?_
    (refine G tt_ok pk40 ?_; repeat (refine G1 tt_ok pk40 ?_; intro _))
    refine SQ.load tt_ok rfl rfl 0 rfl (rd_lnq hl rest) ?_
    (refine G tt_ok pk40 ?_; repeat (refine G1 tt_ok pk40 ?_; intro _))
    (refine SQ.call rfl rfl (step55' β _ _ _ _ _) [] rfl ?_; rintro _ _ ⟨rfl, rfl⟩; refine ⟨(by repeat (first | exact trivial | refine ⟨trivial, ?_⟩ | refine ⟨wk (by repeat (first | exact .h | exact .q | apply At.t)) (rd_lnq hl rest), ?_⟩ | refine ⟨wk (by repeat (first | exact .h | exact .q | apply At.t)) (by rfl), ?_⟩)), ?_⟩)
    (refine G tt_ok pk40 ?_; repeat (refine G1 tt_ok pk40 ?_; intro _))
    refine SQ.idx tt_ok rfl rfl (id - first).toNat (by omega) hkl (o' := 0 + (id - first).toNat * 7) rfl ?_
    (refine G tt_ok pk40 ?_; repeat (refine G1 tt_ok pk40 ?_; intro _))
    refine SQ.store tt_ok rfl rfl 0 rfl rfl (wr_lnq hl (stepI l.1 x) rest) rfl (by repeat (first | exact trivial | refine ⟨trivial, ?_⟩ | refine ⟨wk (by repeat (first | exact .h | exact .q | apply At.t)) (by rfl), ?_⟩)) ?_
    (refine G tt_ok pk40 ?_; repeat (refine G1 tt_ok pk40 ?_; intro _))
    refine CW.ret (fin_ret rfl (Ent.trans (Ent.append (L := [_]) (L' := [_]) row_close (Ent.refl _)) (Ent.sel (is := [1, 0]) rfl)) ⟨rfl, rfl⟩)
  · have hat : atD first ls.length id = -1 := by unfold atD; rw [if_neg hin]
    have hd : doD first ls id x = (ls, 90) := by unfold doD; rw [if_neg hin]
    rw [hat, hd]
    (refine G tt_ok pk40 ?_; repeat (refine G1 tt_ok pk40 ?_; intro _))
    refine CW.ret (fin_ret rfl (Ent.refl _) ⟨rfl, rfl⟩)
-- part Fu
theorem distRw_all : (distRw.all fun r => decide (0 ≤ r.1) && decide (r.1 ≤ 65536) && decide (0 ≤ r.2.2.2.2.1) && decide (r.2.2.2.2.1 ≤ 32) && (r.2.2.2.2.2.1 == 0 || r.2.2.2.2.2.1 == 1 || r.2.2.2.2.2.1 == 4 || r.2.2.2.2.2.1 == 8) && (r.2.2.2.2.2.2 == 1 || r.2.2.2.2.2.2 == 8)) = true := by kernel_rfl
theorem tdiv8 {x : Int} (h0 : -100000 ≤ x) (h1 : x ≤ 100000) : -100000 ≤ x.tdiv 8 ∧ x.tdiv 8 ≤ 100000 := by
  rcases Int.le_total 0 x with h | h
  · rw [Int.tdiv_eq_ediv_of_nonneg h]; omega
  · have e : x.tdiv 8 = -((-x) / 8) := by rw [← Int.tdiv_eq_ediv_of_nonneg (by omega), Int.neg_tdiv, Int.neg_neg]
    rw [e]; omega
theorem wrap_id {x : Int} (h0 : -9223372036854775808 ≤ x) (h1 : x ≤ 9223372036854775807) : IntKind.i64.wrap x = x := by rw [wrap_i64]; split <;> omega
theorem dist_place (off : Int) : 0 ≤ (distV off 4).1.2.2 ∧ (distV off 4).1.2.2 ≤ 32 ∧ -1000000 ≤ (distV off 4).1.2.1 ∧ (distV off 4).1.2.1 ≤ 1000000 := by
  unfold distV findV
  split
  · simp
  · split
    · simp
    · split
      · simp
      · split
        · rename_i h1 h2 h3 x r hr
          unfold outV
          split
          · have := List.all_eq_true.1 distRw_all r (List.mem_of_find?_eq_some hr)
            simp only [Bool.and_eq_true, Bool.or_eq_true, decide_eq_true_eq, beq_iff_eq] at this
            obtain ⟨⟨⟨⟨⟨a1, a2⟩, a3⟩, a4⟩, a5⟩, a6⟩ := this
            simp only [plV]
            have e1 : IntKind.i64.wrap (off - r.1) = off - r.1 := wrap_id (by omega) (by omega)
            have b8 := tdiv8 (x := off - r.1) (by omega) (by omega)
            have b4 : (4 : Int).tdiv 8 = 0 := rfl
            have b41 : (4 : Int).tdiv 1 = 4 := rfl
            rw [e1]
            rcases a6 with h | h <;> rw [h] <;> (try simp only [Int.tdiv_one, b4, b41]) <;> rcases a5 with ((g | g) | g) | g <;> rw [g]
            all_goals (simp only [wrap_i64]; repeat' split)
            all_goals omega
          · simp
        · simp
theorem distV_le (off : Int) : (distV off 4).1.2.2 ≤ 16384 := by have := dist_place off; omega
theorem u8_mod {a : Int} (h0 : 0 ≤ a) (h1 : a ≤ 255) (m : Int) (hm : 0 < m) (hm2 : m ≤ 1000) : IntKind.i64.wrap (a.tmod m) = a % m := by
  rw [Int.tmod_eq_emod_of_nonneg h0]
  have h2 := Int.emod_nonneg a (show m ≠ 0 by omega)
  have h3 := Int.emod_lt_of_pos a hm
  rw [wrap_i64]; split <;> omega
-- part Ge
/-- v, i bits of it from M on taken from x. -/
def outN (v x M i : Nat) : Nat := 2 ^ (M + i) * (v / 2 ^ (M + i)) + (2 ^ M * (x % 2 ^ i) + v % 2 ^ M)
theorem low_lt (v x M i : Nat) : 2 ^ M * (x % 2 ^ i) + v % 2 ^ M < 2 ^ (M + i) := by
  have h1 : v % 2 ^ M < 2 ^ M := Nat.mod_lt _ (Nat.two_pow_pos M)
  have h2 : x % 2 ^ i + 1 ≤ 2 ^ i := Nat.mod_lt _ (Nat.two_pow_pos i)
  have h3 := Nat.mul_le_mul_left (2 ^ M) h2
  rw [Nat.mul_add, Nat.mul_one, ← Nat.pow_add] at h3
  omega
theorem out_zero (v x M : Nat) : outN v x M 0 = v := by
  unfold outN
  rw [Nat.add_zero, Nat.pow_zero, Nat.mod_one, Nat.mul_zero, Nat.zero_add]
  exact Nat.div_add_mod v (2 ^ M)
theorem out_div (v x M i : Nat) : outN v x M i / 2 ^ (M + i) = v / 2 ^ (M + i) := by
  unfold outN
  rw [Nat.mul_add_div (Nat.two_pow_pos _), Nat.div_eq_of_lt (low_lt v x M i), Nat.add_zero]
theorem out_lt {v x M i : Nat} (hv : v < 2 ^ 64) (hi : M + i ≤ 64) : outN v x M i < 2 ^ 64 := by
  have h1 : v / 2 ^ (M + i) + 1 ≤ 2 ^ (64 - (M + i)) := by
    apply Nat.div_lt_of_lt_mul
    rw [← Nat.pow_add, show M + i + (64 - (M + i)) = 64 by omega]; exact hv
  have h2 := Nat.mul_le_mul_left (2 ^ (M + i)) h1
  rw [Nat.mul_add, Nat.mul_one, ← Nat.pow_add, show M + i + (64 - (M + i)) = 64 by omega] at h2
  have h3 := low_lt v x M i
  unfold outN
  omega
theorem out_step (v x M i : Nat) : outN v x M (i + 1) + 2 ^ (M + i) * (v / 2 ^ (M + i) % 2) = outN v x M i + 2 ^ (M + i) * (x / 2 ^ i % 2) := by
  unfold outN
  rw [mod_step x i, Nat.mul_add, ← Nat.mul_assoc, ← Nat.pow_add, show M + (i + 1) = M + i + 1 by omega]
  have e1 : 2 ^ (M + i + 1) * (v / 2 ^ (M + i + 1)) + 2 ^ (M + i) * (v / 2 ^ (M + i) % 2) = 2 ^ (M + i) * (v / 2 ^ (M + i)) := by
    rw [Nat.pow_succ, ← Nat.div_div_eq_div_mul, Nat.mul_assoc, ← Nat.mul_add, Nat.div_add_mod]
  omega
theorem out_bit {v x M i j : Nat} : (outN v x M i).testBit j = if M ≤ j ∧ j < M + i then x.testBit (j - M) else v.testBit j := by
  unfold outN
  rw [Nat.testBit_two_pow_mul_add _ (low_lt v x M i), Nat.testBit_two_pow_mul_add _ (Nat.mod_lt _ (Nat.two_pow_pos M))]
  by_cases h1 : j < M + i
  · rw [if_pos h1]
    by_cases h2 : j < M
    · rw [if_pos h2, if_neg (by omega), Nat.testBit_mod_two_pow]; simp [h2]
    · rw [if_neg h2, if_pos (by omega), Nat.testBit_mod_two_pow]; simp; omega
  · rw [if_neg h1, if_neg (by omega), Nat.testBit_div_two_pow]
    congr 1; omega
theorem out_with {v x : Nat} (hv : v < 2 ^ 64) (hx : x < 2 ^ 64) {r c : Int} {k n : Nat} (hb : bitsV r = n) (hn : n ≤ 63) (h1 : (k : Int) < c) (h2 : k ≤ 64) : withV v r c k x = ((outN v x (n * k) (min n (64 - n * k)) : Nat) : Int) := by
  obtain ⟨W, g1, g2, g3⟩ := withV_nat hv hx (c := c) hb hn h1 h2
  rw [g2]
  congr 1
  by_cases hM : n * k ≤ 64
  · refine eq64 g1 (out_lt hv (by omega)) fun j hj => ?_
    rw [g3 j hj, out_bit]
    by_cases h : n * k ≤ j ∧ j < n * k + n
    · rw [if_pos h, if_pos (by omega)]
    · rw [if_neg h, if_neg (by omega)]
  · rw [show min n (64 - n * k) = 0 by omega, out_zero]
    refine eq64 g1 hv fun j hj => ?_
    rw [g3 j hj, if_neg (by omega)]
theorem and64_1 {a : Nat} (h : a < 2 ^ 64) : IntKind.u64.wrap ((BitVec.ofInt IntKind.u64.bits (a : Int) &&& BitVec.ofInt IntKind.u64.bits 1).toNat : Int) = ((a % 2 : Nat) : Int) := by
  have := and64 (b := 1) h (by decide)
  rw [Nat.and_one_is_mod] at this
  exact this
set_option maxHeartbeats 4000000 in
/-- The document's setting of a part of a register. -/
theorem with38 (β : Base) {v x : Nat} (hv : v < 2 ^ 64) (hx : x < 2 ^ 64) (r f c k : Int) : Tri Tryz.prog β 118 [.int .u64 v, .agg #[.int .i64 r, .int .i64 f, .int .i64 c], .int .i64 k, .int .u64 x] [] (fun u L => u = .int .u64 (withV v r c k x) ∧ L = []) := by
  refine Tri.intro tt_ok Tryz.func118 rfl rfl Tryz.ntmps118 rfl fun F => ?_
  by_cases hk : k < 0 ∨ k ≥ c ∨ k > 64
  · rw [withV_out hk]
    (repeat' (first | refine CW.seq ?_ | refine CW.region tt_ok rfl ?_ | refine CW.block ?_ | refine CW.skip ?_ | refine SQ.nil ?_ | refine SQ.pures1 tt_ok rfl ?_ | refine SQ.pure1 tt_ok rfl ?_ | refine SQ.new _ _ rfl rfl (fun _ => ?_) | refine SQ.ldA tt_ok rfl rfl (by repeat (first | exact .h | exact .q | apply At.t)) (by rfl) ?_ | refine SQ.stA tt_ok rfl rfl (by repeat (first | apply Up.h | apply Up.t)) (by rfl) (by rfl) (by repeat (first | exact trivial | refine ⟨trivial, ?_⟩ | refine ⟨wk (by repeat (first | exact .h | exact .q | apply At.t)) (by rfl), ?_⟩)) ?_ | refine CW.cond_tt rfl ?_ | refine CW.cond_ff rfl ?_ | (refine SQ.callA rfl rfl (wide56 β _) (by repeat (first | exact .n | exact Rm.h | exact Rm.of own_row | exact Rm.of row_close0 | apply Tk.c | apply Rm.t)) ?_; rintro _ _ ⟨rfl, rfl⟩; refine ⟨(by repeat (first | exact trivial | refine ⟨trivial, ?_⟩ | refine ⟨wk (by repeat (first | exact .h | exact .q | apply At.t)) (by rfl), ?_⟩)), ?_⟩) | ((first | refine CW.cond rfl (fun hc => ?_) (fun hc => ?_) | refine SQ.gsplit rfl (fun hc => ?_) (fun hc => ?_)) <;> try (exfalso; simp_all; done))))
    all_goals simp only [decide_eq_true_eq, decide_eq_false_iff_not] at *
    all_goals (first
      | exact CW.ret (fin_ret rfl (Ent.dropAll _) ⟨rfl, rfl⟩)
      | (exfalso; omega))
  · obtain ⟨n, hn1, hn, hb⟩ := bits_n r
    obtain ⟨k, rfl⟩ : ∃ k' : Nat, k = k' := ⟨k.toNat, by omega⟩
    rw [out_with hv hx hb hn (by omega) (by omega)]
    have hmb : n * k ≤ 63 * 64 := Nat.mul_le_mul hn (by omega)
    have hm : IntKind.i64.wrap ((n : Int) * (k : Int)) = ((n * k : Nat) : Int) := by
      rw [← Int.natCast_mul, wrap_i64]; split <;> omega
    generalize n * k = M at hm hmb ⊢
    (refine G tt_ok [] ?_; repeat (refine G1 tt_ok [] ?_; intro _))
    rw [decide_eq_false (show ¬ (k : Int) ≥ c by omega)]
    (refine G tt_ok [] ?_; repeat (refine G1 tt_ok [] ?_; intro _))
    rw [decide_eq_false (show ¬ (k : Int) > 64 by omega)]
    (refine G tt_ok [] ?_; repeat (refine G1 tt_ok [] ?_; intro _))
    refine ke rfl rfl (wide56 β r) ?_
    rw [hb]
    (refine G tt_ok [] ?_; repeat (refine G1 tt_ok [] ?_; intro _))
    rename_i b5
    refine CW.loop (α := Nat) (fun i => i ≤ n) (fun i => [(11, .int .i64 i), (10, .int .u64 ((outN v x M (min i (64 - M)) : Nat) : Int)), (9, .int .i64 n), (2, .int .i64 k), (3, .int .u64 x)]) (fun _ => []) (fun i => n - i) 0 (by omega) ⟨rfl, by rw [Nat.zero_min, out_zero]; rfl, rfl, rfl, rfl, trivial⟩ (Ent.dropAll _) ?_
    intro i hi
    (refine G tt_ok [] ?_; repeat (refine G1 tt_ok [] ?_; intro _))
    by_cases e1 : (i : Int) < (n : Int)
    · have hw : IntKind.i64.wrap ((i : Int) + 1) = ((i + 1 : Nat) : Int) := by rw [wrap_i64]; split <;> omega
      have hs : IntKind.i64.wrap ((M : Int) + (i : Int)) = ((M + i : Nat) : Int) := by rw [wrap_i64]; split <;> omega
      rw [decide_eq_true e1]
      (refine G tt_ok [] ?_; repeat (refine G1 tt_ok [] ?_; intro _))
      rw [hm, hs]
      by_cases hq : ((M + i : Nat) : Int) ≥ 64
      · rw [decide_eq_true hq]
        (refine G tt_ok [] ?_; repeat (refine G1 tt_ok [] ?_; intro _))
        refine CW.exit ?_
        (refine G tt_ok [] ?_; repeat (refine G1 tt_ok [] ?_; intro _))
        exact ⟨i + 1, by omega, by omega, ⟨by rw [← hw]; rfl, by rw [show min (i + 1) (64 - M) = min i (64 - M) by omega]; rfl, rfl, rfl, rfl, trivial⟩, Ent.refl _⟩
      · rw [decide_eq_false hq]
        have hM : M + i < 64 := by omega
        rw [show min i (64 - M) = i by omega]
        have hnx : min (i + 1) (64 - M) = i + 1 := by omega
        have hol := out_lt (x := x) hv (show M + i ≤ 64 by omega)
        have hol2 := out_lt (x := x) hv (show M + (i + 1) ≤ 64 by omega)
        have hb1 := bit64 hol hM
        rw [out_div] at hb1
        have hb2 := bit64 hx (show i < 64 by omega)
        have hst := out_step v x M i
        have hpp : (2 : Nat) ^ (M + i) ≤ 2 ^ 63 := Nat.pow_le_pow_right (by omega) (by omega)
        have e63 : (2 : Nat) ^ 63 = 9223372036854775808 := rfl
        have e64 : (2 : Nat) ^ 64 = 18446744073709551616 := rfl
        have ep : ((2 : Int) ^ (M + i)) = ((2 ^ (M + i) : Nat) : Int) := by push_cast; rfl
        have hmin : min (M + i) IntKind.u64.bits = M + i := by show min (M + i) 64 = M + i; omega
        (refine G tt_ok [] ?_; repeat (refine G1 tt_ok [] ?_; intro _))
        rw [hb1]
        have h01 : v / 2 ^ (M + i) % 2 = 0 ∨ v / 2 ^ (M + i) % 2 = 1 := by omega
        have g01 : x / 2 ^ i % 2 = 0 ∨ x / 2 ^ i % 2 = 1 := by omega
        rcases h01 with h | h <;> rcases g01 with g | g
        all_goals rw [h] at hst ⊢
        all_goals rw [g] at hst hb2
        all_goals simp only [Nat.mul_zero, Nat.mul_one, Nat.add_zero] at hst
        all_goals (refine G tt_ok [] ?_; repeat (refine G1 tt_ok [] ?_; intro _))
        all_goals try rw [hb2]
        all_goals (refine G tt_ok [] ?_; repeat (refine G1 tt_ok [] ?_; intro _))
        all_goals try rw [hb2]
        all_goals (refine G tt_ok [] ?_; repeat (refine G1 tt_ok [] ?_; intro _))
        · exact ⟨i + 1, by omega, by omega, ⟨by rw [← hw]; rfl, by rw [hnx, hst]; rfl, rfl, rfl, rfl, trivial⟩, Ent.refl _⟩
        · have hv2 : IntKind.u64.wrap (((outN v x M i : Nat) : Int) + IntKind.u64.wrap (1 * 2 ^ min (M + i) IntKind.u64.bits)) = ((outN v x M (i + 1) : Nat) : Int) := by
            rw [hmin, ep, wrap_u64, wrap_u64]; omega
          exact ⟨i + 1, by omega, by omega, ⟨by rw [← hw]; rfl, by rw [hnx, ← hv2]; rfl, rfl, rfl, rfl, trivial⟩, Ent.refl _⟩
        · have hv2 : IntKind.u64.wrap (((outN v x M i : Nat) : Int) - IntKind.u64.wrap (1 * 2 ^ min (M + i) IntKind.u64.bits)) = ((outN v x M (i + 1) : Nat) : Int) := by
            rw [hmin, ep, wrap_u64, wrap_u64]; omega
          exact ⟨i + 1, by omega, by omega, ⟨by rw [← hw]; rfl, by rw [hnx, ← hv2]; rfl, rfl, rfl, rfl, trivial⟩, Ent.refl _⟩
        · exact ⟨i + 1, by omega, by omega, ⟨by rw [← hw]; rfl, by rw [hnx, show outN v x M (i + 1) = outN v x M i by omega]; rfl, rfl, rfl, rfl, trivial⟩, Ent.refl _⟩
    · rw [decide_eq_false e1]
      (refine G tt_ok [] ?_; repeat (refine G1 tt_ok [] ?_; intro _))
      refine CW.exit ?_
      (refine G tt_ok [] ?_; repeat (refine G1 tt_ok [] ?_; intro _))
      have : i = n := by omega
      subst this
      exact CW.ret (fin_ret rfl (Ent.dropAll _) ⟨rfl, rfl⟩)
-- part Gf<
theorem shows39 (β : Base) (e l t a en : Bool) (g p r : Int) : Tri Tryz.prog β 119 [.agg #[.bool e, .bool l, .bool t, .bool a, .bool en, .int .i64 g, .int .i64 p], .int .i64 r] [] (fun v L => v = .int .u64 (showsV ((e, l, t, a), en, g, p) r) ∧ L = []) := by
  refine Tri.intro tt_ok Tryz.func119 rfl rfl Tryz.ntmps119 rfl fun F => ?_
  (repeat' (first | refine CW.seq ?_ | refine CW.region tt_ok rfl ?_ | refine CW.block ?_ | refine CW.skip ?_ | refine SQ.nil ?_ | refine SQ.pures1 tt_ok rfl ?_ | refine SQ.pure1 tt_ok rfl ?_ | refine SQ.new _ _ rfl rfl (fun _ => ?_) | refine SQ.ldA tt_ok rfl rfl (by repeat (first | exact .h | exact .q | apply At.t)) (by rfl) ?_ | refine SQ.stA tt_ok rfl rfl (by repeat (first | apply Up.h | apply Up.t)) (by rfl) (by rfl) (by exact trivial) ?_ | refine CW.cond_tt rfl ?_ | refine CW.cond_ff rfl ?_ | (refine SQ.callA rfl rfl (one57 β _) (by repeat (first | exact .n | exact Rm.h | exact Rm.of own_row | exact Rm.of row_close0 | apply Tk.c | apply Rm.t)) ?_; rintro _ _ ⟨rfl, rfl⟩; refine ⟨(by exact trivial), ?_⟩) | (refine SQ.callA rfl rfl (pending58 β _ _ _ _) (by repeat (first | exact .n | exact Rm.h | exact Rm.of own_row | exact Rm.of row_close0 | apply Tk.c | apply Rm.t)) ?_; rintro _ _ ⟨rfl, rfl⟩; refine ⟨(by exact trivial), ?_⟩) | ((first | refine CW.cond rfl (fun hc => ?_) (fun hc => ?_) | refine SQ.gsplit rfl (fun hc => ?_) (fun hc => ?_)) <;> try (exfalso; simp_all; done))))
  all_goals (refine CW.ret (fin_ret rfl (Ent.dropAll _) ⟨?_, rfl⟩); simp_all [packV, showsV, b2])
theorem shows39' (β : Base) (l : Ln) (r : Int) : Tri Tryz.prog β 119 [.agg #[.bool l.1.1, .bool l.1.2.1, .bool l.1.2.2.1, .bool l.1.2.2.2, .bool l.2.1, .int .i64 l.2.2.1, .int .i64 l.2.2.2], .int .i64 r] [] (fun v L => v = .int .u64 (showsV l r) ∧ L = []) := shows39 β _ _ _ _ _ _ _ r
end Go.Proofs.YtjphlcfplcacnaaGreat.Sl
namespace Go.Proofs.YtjphlcfplcacnaaGreat.Sl.Bn
open Go Go.RowKit Go.Proofs
set_option linter.unusedVariables false
set_option linter.unusedSimpArgs false
attribute [local irreducible] CW Tri OW
set_option maxRecDepth 10000
@[reducible] def pk57 : List (Nat × Plan) := [(3, [(0, 0, []), (1, 0, []), (2, 0, []), (3, 0, []), (4, 0, []), (5, 0, []), (6, 0, []), (7, 0, []), (8, 0, []), (9, 0, []), (10, 0, []), (11, 0, []), (12, 1, []), (13, 0, [])])]
@[reducible] def pk38 : List (Nat × Plan) := [(3, [(0, 0, []), (1, 0, []), (2, 0, []), (3, 0, []), (4, 0, []), (5, 0, []), (6, 0, []), (7, 0, []), (8, 0, []), (9, 0, []), (10, 0, []), (11, 0, [])])]
@[reducible] def pk105 : List (Nat × Plan) := [(6, [(0, 0, []), (1, 0, []), (2, 0, []), (3, 0, []), (4, 0, []), (5, 0, []), (6, 0, []), (7, 0, []), (8, 0, []), (9, 0, []), (10, 0, []), (11, 0, []), (12, 1, [])])]
@[reducible] def pk68 : List (Nat × Plan) := [(7, [(0, 0, []), (1, 0, []), (2, 0, []), (3, 0, []), (4, 0, []), (5, 0, []), (6, 0, []), (7, 1, [0, 1, 2, 4, 6]), (8, 1, [0, 1, 2, 4, 6]), (9, 1, [])])]
@[reducible] def pk66 : List (Nat × Plan) := [(5, [(0, 0, []), (1, 0, []), (2, 0, []), (3, 0, []), (4, 0, []), (5, 0, []), (6, 0, []), (7, 0, []), (8, 1, [2, 4, 5, 6, 7]), (9, 1, [2, 4, 5, 6, 7]), (10, 2, []), (11, 1, [])])]
@[reducible] def pk100 : List (Nat × Plan) := [(3, [(0, 0, []), (1, 0, []), (2, 0, []), (3, 0, []), (4, 0, []), (5, 0, []), (6, 0, []), (7, 0, []), (8, 1, []), (9, 0, [])])]
@[reducible] def pk60 : List (Nat × Plan) := [(1, [(0, 0, []), (1, 0, []), (2, 0, []), (3, 0, []), (4, 0, []), (5, 0, []), (6, 0, []), (7, 0, []), (8, 1, [3, 7]), (9, 0, []), (10, 1, [3, 7]), (11, 0, [])])]
@[reducible] def pk111 : List (Nat × Plan) := [(7, [(0, 0, []), (1, 0, []), (2, 0, []), (3, 0, []), (4, 0, []), (5, 0, []), (6, 0, []), (7, 0, []), (8, 0, []), (9, 0, []), (10, 0, []), (11, 0, []), (12, 0, []), (13, 0, []), (14, 0, []), (15, 0, []), (16, 1, [1, 7, 10, 12, 14]), (17, 1, [1, 7, 10, 12, 14]), (18, 2, []), (19, 1, [])]), (8, [(0, 0, []), (1, 0, []), (2, 0, []), (3, 0, []), (4, 0, []), (5, 0, []), (6, 0, []), (7, 0, []), (8, 0, [])]), (10, [(0, 0, []), (1, 0, []), (2, 0, []), (3, 0, []), (4, 0, []), (5, 0, []), (6, 0, []), (7, 1, [])])]
@[reducible] def pk92 : List (Nat × Plan) := [(7, [(0, 0, []), (1, 0, []), (2, 0, []), (3, 0, []), (4, 0, []), (5, 0, []), (6, 0, []), (7, 0, []), (8, 0, []), (9, 0, []), (10, 0, []), (11, 0, []), (12, 1, [1, 6, 9, 11]), (13, 1, [1, 6, 9, 11]), (14, 0, [])])]
@[reducible] def pl83_0 : Plan := [(0, 0, []), (1, 0, []), (2, 0, []), (3, 0, []), (4, 0, []), (5, 0, []), (6, 0, []), (7, 0, []), (8, 0, []), (9, 0, []), (10, 0, []), (11, 0, []), (12, 0, []), (13, 0, []), (14, 0, []), (15, 0, []), (16, 0, []), (17, 0, []), (18, 0, []), (19, 0, []), (20, 0, [])]
@[reducible] def pl105_0 : Plan := [(0, 0, []), (1, 0, []), (2, 0, []), (3, 0, []), (4, 0, []), (5, 0, []), (6, 0, []), (7, 0, []), (8, 0, []), (9, 0, []), (10, 0, []), (11, 0, []), (12, 1, [])]
-- part Fe
/-- An interrupt in a bank, and the text besides. -/
abbrev En := Ln × Unit
@[reducible] def enC (x : En) : List Value := [.bool x.1.1.1, .bool x.1.1.2.1, .bool x.1.1.2.2.1, .bool x.1.1.2.2.2, .bool x.1.2.1, .int .i64 x.1.2.2.1, .int .i64 x.1.2.2.2]
def atE (first : Int) (es : List En) (id : Int) : Option En := if id ≥ first then es[(id - first).toNat]? else none
/-- A bank, in two rows. -/
def bkA (b : Nat) (q0 : Option Addr) (c0 : Nat) (first : Int) (es : List En) : List Atom := [pt b [.int .i64 first, .slice q0 es.length c0], rowA q0 es.length (es.flatMap enC)]
theorem wrap_sub {id first : Int} (h0 : 0 ≤ first) (h1 : first ≤ 16384) (h2 : id ≥ first) (h3 : id < 9223372036854775808) : IntKind.i64.wrap (id - first) = id - first := by
  rw [wrap_i64]; split <;> omega
theorem has11 (β : Base) (b : Nat) (q0 : Option Addr) (c0 : Nat) (first id : Int) (n : Nat) (h0 : 0 ≤ first) (h1 : first ≤ 16384) (h3 : id < 9223372036854775808) :
    Tri Tryz.prog β 83 [.pointer (some ⟨b, 0, none⟩), .int .i64 id] [pt b [.int .i64 first, .slice q0 n c0]] (fun v L => v = .bool (decide (id ≥ first) && decide (id - first < n)) ∧ L = [pt b [.int .i64 first, .slice q0 n c0]]) := by
  refine Tri.intro tt_ok Tryz.func83 rfl rfl Tryz.ntmps83 rfl fun F => ?_
  by_cases h2 : id ≥ first
  · have hw := wrap_sub h0 h1 h2 h3
    (repeat' (first | refine CW.seq ?_ | refine CW.region tt_ok rfl ?_ | refine CW.regionD tt_ok (by kernel_rfl) pl83_0 (by decide +kernel) ?_ | refine CW.block ?_ | refine CW.skip ?_ | refine SQ.nil ?_ | refine SQ.pures1 tt_ok rfl ?_ | refine SQ.pure1 tt_ok rfl ?_ | refine SQ.new _ _ rfl rfl (fun _ => ?_) | refine SQ.ldA tt_ok rfl rfl (by repeat (first | exact .h | exact .q | apply At.t)) (by rfl) ?_ | refine SQ.stA tt_ok rfl rfl (by repeat (first | apply Up.h | apply Up.t)) (by rfl) (by rfl) (by repeat (first | exact trivial | refine ⟨trivial, ?_⟩ | refine ⟨wk (by repeat (first | exact .h | exact .q | apply At.t)) (by rfl), ?_⟩)) ?_ | refine CW.cond_tt rfl ?_ | refine CW.cond_ff rfl ?_ | ((first | refine CW.cond rfl (fun hc => ?_) (fun hc => ?_) | refine SQ.gsplit rfl (fun hc => ?_) (fun hc => ?_)) <;> try (exfalso; simp_all; done))))
    all_goals (refine CW.ret (fin_ret rfl (Ent.refl _) ⟨?_, rfl⟩); simp_all [packV])
  · (repeat' (first | refine CW.seq ?_ | refine CW.region tt_ok rfl ?_ | refine CW.regionD tt_ok (by kernel_rfl) pl83_0 (by decide +kernel) ?_ | refine CW.block ?_ | refine CW.skip ?_ | refine SQ.nil ?_ | refine SQ.pures1 tt_ok rfl ?_ | refine SQ.pure1 tt_ok rfl ?_ | refine SQ.new _ _ rfl rfl (fun _ => ?_) | refine SQ.ldA tt_ok rfl rfl (by repeat (first | exact .h | exact .q | apply At.t)) (by rfl) ?_ | refine SQ.stA tt_ok rfl rfl (by repeat (first | apply Up.h | apply Up.t)) (by rfl) (by rfl) (by repeat (first | exact trivial | refine ⟨trivial, ?_⟩ | refine ⟨wk (by repeat (first | exact .h | exact .q | apply At.t)) (by rfl), ?_⟩)) ?_ | refine CW.cond_tt rfl ?_ | refine CW.cond_ff rfl ?_ | ((first | refine CW.cond rfl (fun hc => ?_) (fun hc => ?_) | refine SQ.gsplit rfl (fun hc => ?_) (fun hc => ?_)) <;> try (exfalso; simp_all; done))))
    all_goals (refine CW.ret (fin_ret rfl (Ent.refl _) ⟨?_, rfl⟩); simp_all [packV])
    all_goals (first | omega | (exfalso; omega))
theorem atE_some {first : Int} {es : List En} {id : Int} {e : En} (h : atE first es id = some e) : id ≥ first ∧ (id - first).toNat < es.length ∧ es[(id - first).toNat]? = some e ∧ ((id - first).toNat : Int) = id - first ∧ (decide (id ≥ first) && decide (id - first < es.length)) = true := by
  unfold atE at h
  split at h
  · rename_i h1
    have h2 := (List.getElem?_eq_some_iff.1 h).1
    refine ⟨h1, h2, h, by omega, ?_⟩
    simp; omega
  · cases h
theorem atE_none {first : Int} {es : List En} {id : Int} (h : atE first es id = none) : (decide (id ≥ first) && decide (id - first < es.length)) = false := by
  unfold atE at h
  split at h
  · rename_i h1
    have h2 := List.getElem?_eq_none_iff.1 h
    simp; omega
  · rename_i h1
    simp; omega
theorem hasIs (β : Base) (b : Nat) (q0 : Option Addr) (c0 : Nat) {first id : Int} {es : List En} (h0 : 0 ≤ first) (h1 : first ≤ 16384) (h3 : id < 9223372036854775808) {c : Bool} (h : (decide (id ≥ first) && decide (id - first < es.length)) = c) :
    Tri Tryz.prog β 83 [.pointer (some ⟨b, 0, none⟩), .int .i64 id] [pt b [.int .i64 first, .slice q0 es.length c0]] (fun v L => v = .bool c ∧ L = [pt b [.int .i64 first, .slice q0 es.length c0]]) := by
  rw [← h]; exact has11 β b q0 c0 first id es.length h0 h1 h3
theorem enC_len (x : En) : (enC x).length = 7 := rfl
theorem rd_en {es : List En} {k : Nat} {e : En} (h : es[k]? = some e) (X : List Value) : rdv ti115 (es.flatMap enC ++ X) (0 + k * 7) = some (.agg (enC e).toArray) :=
  rd_partR (enc := enC) (sz := 7) (fun _ => rfl) h 0 (i := ti115) rfl (by decide) (by omega) (by decide) X
theorem bk_open {b : Nat} {q0 : Option Addr} {c0 : Nat} {first : Int} {es : List En} (h : 0 < es.length) : Ent (bkA b q0 c0 first es) [exA fun x : Nat × List Value => [pureA (q0 = some ⟨x.1, 0, none⟩), pt x.1 (es.flatMap enC ++ x.2), pt b [.int .i64 first, .slice q0 es.length c0]]] := by
  intro hp s
  obtain ⟨h1, h2, a, st, d, rfl⟩ := s
  obtain ⟨k, ⟨k1, k2, ⟨x, sx⟩, e0, d2, rfl⟩, le⟩ := row_open (q := q0) (cs := es.flatMap enC) h h2 st
  obtain rfl : k2 = Hp.emp := e0
  rw [Hp.add_emp] at le
  have hd : Hp.disj h1 k1 := Hp.disj_le (Hp.le_refl _) le d
  have hs : star ([pureA (q0 = some ⟨x.1, 0, none⟩), pt x.1 (es.flatMap enC ++ x.2)] ++ [pt b [.int .i64 first, .slice q0 es.length c0]]) (Hp.add k1 h1) :=
    star_append.2 ⟨k1, h1, sx, ⟨h1, Hp.emp, a, rfl, Hp.disj_emp _, (Hp.add_emp _).symm⟩, Hp.disj_comm hd, rfl⟩
  refine ⟨Hp.add k1 h1, ⟨_, Hp.emp, ⟨x, hs⟩, rfl, Hp.disj_emp _, (Hp.add_emp _).symm⟩, ?_⟩
  rw [Hp.add_comm (Hp.disj_comm hd)]
  exact Hp.add_le_add (Hp.le_refl _) le d
theorem bk_close {b g n : Nat} {first : Int} {cs rest : List Value} {v : Value} : Ent [pt g (cs ++ rest), pt b [.int .i64 first, v]] [pt b [.int .i64 first, v], rowA (some ⟨g, 0, none⟩) n cs] :=
  Ent.trans (Ent.sel (is := [1, 0]) rfl) (Ent.cons _ row_close)
def zeroE : En := (((false, false, false, false), false, 0, 0), ())
def getV (first : Int) (es : List En) (id : Int) : En × Int := match atE first es id with
  | some e => (e, 0)
  | none => (zeroE, 90)
theorem get14 (β : Base) (b : Nat) (q0 : Option Addr) (c0 : Nat) {first id : Int} {es : List En} (h0 : 0 ≤ first) (h1 : first ≤ 16384) (h3 : id < 9223372036854775808) :
    Tri Tryz.prog β 57 [.pointer (some ⟨b, 0, none⟩), .int .i64 id] (bkA b q0 c0 first es) (fun v L => v = .tuple #[.agg (enC (getV first es id).1).toArray, .int .i64 (getV first es id).2] ∧ L = bkA b q0 c0 first es) := by
  refine Tri.intro tt_ok Tryz.func57 rfl rfl Tryz.ntmps57 rfl fun F => ?_
  cases h : atE first es id with
  | none =>
    (refine G tt_ok pk57 ?_; repeat (refine G1 tt_ok pk57 ?_; intro _))
    refine ke rfl rfl (hasIs β b q0 c0 h0 h1 h3 (atE_none h)) ?_
    (refine G tt_ok pk57 ?_; repeat (refine G1 tt_ok pk57 ?_; intro _))
    refine CW.ret (fin_cells [_, _] ⟨⟨_, _, _, _, 1, rfl, rfl, rfl, rfl⟩, rfl, trivial⟩ pk_ ⟨?_, rfl⟩)
    simp [packV, getV, h, zeroE, enC]
  | some e =>
    obtain ⟨g1, g2, g3, g4, g5⟩ := atE_some h
    have hw := wrap_sub h0 h1 g1 h3
    refine CW.ent (bk_open (by omega)) (CW.open_ fun y => ?_)
    obtain ⟨g, rest⟩ := y
    refine CW.pure_ fun hv => ?_
    simp only at hv
    subst hv
    (refine G tt_ok pk57 ?_; repeat (refine G1 tt_ok pk57 ?_; intro _))
    refine ke rfl rfl (hasIs β b _ c0 h0 h1 h3 g5) ?_
    (refine G tt_ok pk57 ?_; repeat (refine G1 tt_ok pk57 ?_; intro _))
    refine SQ.idx tt_ok rfl rfl (id - first).toNat (by rw [hw, g4]) g2 (o' := 0 + (id - first).toNat * 7) rfl ?_
    refine SQ.load tt_ok rfl rfl 2 rfl (rd_en g3 rest) ?_
    (refine G tt_ok pk57 ?_; repeat (refine G1 tt_ok pk57 ?_; intro _))
    refine CW.ret (fin_cells [_, _] ⟨⟨_, _, _, _, 1, rfl, rfl, rfl, rfl⟩, rfl, trivial⟩ (Ent.trans pk_ (bk_close)) ⟨?_, rfl⟩)
    simp [packV, getV, h, zeroE, enC]
theorem rd_iq {es : List En} {k : Nat} {e : En} (h : es[k]? = some e) (X : List Value) : rdv ti35 (es.flatMap enC ++ X) (0 + k * 7) = some (.agg #[.bool e.1.1.1, .bool e.1.1.2.1, .bool e.1.1.2.2.1, .bool e.1.1.2.2.2]) :=
  rd_partR (enc := enC) (sz := 7) (fun _ => rfl) h 0 (i := ti35) rfl (by decide) (by omega) (by decide) X
theorem wr_iq {es : List En} {k : Nat} {e : En} (h : es[k]? = some e) (q : Iq) (X : List Value) : wrv ti35 (es.flatMap enC ++ X) (0 + k * 7) (.agg #[.bool q.1, .bool q.2.1, .bool q.2.2.1, .bool q.2.2.2]) = some ((es.set k ((q, e.1.2), e.2)).flatMap enC ++ X) :=
  wr_encR (enc := enC) (sz := 7) (fun _ => rfl) h 0 (i := ti35) (by decide) rfl rfl (by omega) X
/-- What befalls an interrupt of a bank. -/
def doV (first : Int) (es : List En) (id x : Int) : List En × Int := match atE first es id with
  | some e => (es.set (id - first).toNat ((stepI e.1.1 x, e.1.2), e.2), 0)
  | none => (es, 90)
theorem doV_len (first : Int) (es : List En) (id x : Int) : (doV first es id x).1.length = es.length := by
  unfold doV; split <;> simp
theorem do35 (β : Base) (b : Nat) (q0 : Option Addr) (c0 : Nat) {first id x : Int} {es : List En} (h0 : 0 ≤ first) (h1 : first ≤ 16384) (h3 : id < 9223372036854775808) :
    Tri Tryz.prog β 38 [.pointer (some ⟨b, 0, none⟩), .int .i64 id, .int .i64 x] (bkA b q0 c0 first es) (fun v L => v = .int .i64 (doV first es id x).2 ∧ L = bkA b q0 c0 first (doV first es id x).1) := by
  refine Tri.intro tt_ok Tryz.func38 rfl rfl Tryz.ntmps38 rfl fun F => ?_
  unfold bkA
  rw [doV_len]
  cases h : atE first es id with
  | none =>
    rw [show doV first es id x = (es, 90) by simp [doV, h]]
    (refine G tt_ok pk38 ?_; repeat (refine G1 tt_ok pk38 ?_; intro _))
    refine ke rfl rfl (hasIs β b q0 c0 h0 h1 h3 (atE_none h)) ?_
    (refine G tt_ok pk38 ?_; repeat (refine G1 tt_ok pk38 ?_; intro _))
    exact CW.ret (fin_ret rfl pk_ ⟨rfl, rfl⟩)
  | some e =>
    obtain ⟨g1, g2, g3, g4, g5⟩ := atE_some h
    have hw := wrap_sub h0 h1 g1 h3
    rw [show doV first es id x = (es.set (id - first).toNat ((stepI e.1.1 x, e.1.2), e.2), 0) by simp [doV, h]]
    refine CW.ent (bk_open (by omega)) (CW.open_ fun y => ?_)
    obtain ⟨g, rest⟩ := y
    refine CW.pure_ fun hv => ?_
    simp only at hv
    subst hv
    (refine G tt_ok pk38 ?_; repeat (refine G1 tt_ok pk38 ?_; intro _))
    refine ke rfl rfl (hasIs β b _ c0 h0 h1 h3 g5) ?_
    (refine G tt_ok pk38 ?_; repeat (refine G1 tt_ok pk38 ?_; intro _))
    refine SQ.idx tt_ok rfl rfl (id - first).toNat (by rw [hw, g4]) g2 (o' := 0 + (id - first).toNat * 7) rfl ?_
    (refine G tt_ok pk38 ?_; repeat (refine G1 tt_ok pk38 ?_; intro _))
    refine SQ.load tt_ok rfl rfl 1 rfl (rd_iq g3 rest) ?_
    (refine G tt_ok pk38 ?_; repeat (refine G1 tt_ok pk38 ?_; intro _))
    refine ke rfl rfl (step48' β _ _ _ _ _) ?_
    (refine G tt_ok pk38 ?_; repeat (refine G1 tt_ok pk38 ?_; intro _))
    refine SQ.store tt_ok rfl rfl 1 rfl rfl (wr_iq g3 (stepI e.1.1 x) rest) rfl (by repeat (first | exact trivial | refine ⟨trivial, ?_⟩ | refine ⟨wk (by repeat (first | exact .h | exact .q | apply At.t)) (by rfl), ?_⟩)) ?_
    (refine G tt_ok pk38 ?_; repeat (refine G1 tt_ok pk38 ?_; intro _))
    exact CW.ret (fin_ret rfl (Ent.trans pk_ (bk_close)) ⟨rfl, rfl⟩)
-- part Ff
theorem wr_en {es : List En} {k : Nat} {e : En} (h : es[k]? = some e) (q : En) (X : List Value) : wrv ti115 (es.flatMap enC ++ X) (0 + k * 7) (.agg (enC q).toArray) = some ((es.set k q).flatMap enC ++ X) :=
  wr_encR (enc := enC) (sz := 7) (fun _ => rfl) h 0 (i := ti115) (by decide) rfl rfl (by omega) X
def putV (first : Int) (es : List En) (id : Int) (q : En) : List En × Int := match atE first es id with
  | some e => if q.1.2.2.1 < 0 ∨ q.1.2.2.1 > 1 ∨ q.1.2.2.2 < 0 ∨ q.1.2.2.2 > 255 then (es, 1) else (es.set (id - first).toNat ((q.1.1, q.1.2.1, q.1.2.2.1, realV q.1.2.2.2), q.2), 0)
  | none => (es, 90)
theorem putV_len (first : Int) (es : List En) (id : Int) (q : En) : (putV first es id q).1.length = es.length := by
  unfold putV; split
  · split <;> simp
  · rfl
set_option maxHeartbeats 4000000 in
theorem put30 (β : Base) (b : Nat) (q0 : Option Addr) (c0 : Nat) {first id : Int} {es : List En} (q : En) (h0 : 0 ≤ first) (h1 : first ≤ 16384) (h3 : id < 9223372036854775808) :
    Tri Tryz.prog β 105 [.pointer (some ⟨b, 0, none⟩), .int .i64 id, .agg (enC q).toArray] (bkA b q0 c0 first es) (fun v L => v = .int .i64 (putV first es id q).2 ∧ L = bkA b q0 c0 first (putV first es id q).1) := by
  refine Tri.intro tt_ok Tryz.func105 rfl rfl Tryz.ntmps105 rfl fun F => ?_
  unfold bkA
  rw [putV_len]
  cases h : atE first es id with
  | none =>
    rw [show putV first es id q = (es, 90) by simp [putV, h]]
    (refine G tt_ok pk105 ?_; repeat (refine G1 tt_ok pk105 ?_; intro _))
    refine ke rfl rfl (hasIs β b q0 c0 h0 h1 h3 (atE_none h)) ?_
    (refine G tt_ok pk105 ?_; repeat (refine G1 tt_ok pk105 ?_; intro _))
    exact CW.ret (fin_ret rfl pk_ ⟨rfl, rfl⟩)
  | some e =>
    obtain ⟨g1, g2, g3, g4, g5⟩ := atE_some h
    have hw := wrap_sub h0 h1 g1 h3
    refine CW.ent (bk_open (by omega)) (CW.open_ fun y => ?_)
    obtain ⟨g, rest⟩ := y
    refine CW.pure_ fun hv => ?_
    simp only at hv
    subst hv
    (refine G tt_ok pk105 ?_; repeat (refine G1 tt_ok pk105 ?_; intro _))
    refine ke rfl rfl (hasIs β b _ c0 h0 h1 h3 g5) ?_
    (repeat' (first | refine CW.seq ?_ | refine CW.region tt_ok rfl ?_ | refine CW.regionD tt_ok (by kernel_rfl) pl105_0 (by decide +kernel) ?_ | refine CW.block ?_ | refine CW.skip ?_ | refine SQ.nil ?_ | refine SQ.pures1 tt_ok rfl ?_ | refine SQ.pure1 tt_ok rfl ?_ | refine SQ.new _ _ rfl rfl (fun _ => ?_) | refine SQ.ldA tt_ok rfl rfl (by repeat (first | exact .h | exact .q | apply At.t)) (by rfl) ?_ | refine SQ.stA tt_ok rfl rfl (by repeat (first | apply Up.h | apply Up.t)) (by rfl) (by rfl) (by repeat (first | exact trivial | refine ⟨trivial, ?_⟩ | refine ⟨wk (by repeat (first | exact .h | exact .q | apply At.t)) (by rfl), ?_⟩)) ?_ | refine CW.cond_tt rfl ?_ | refine CW.cond_ff rfl ?_ | (refine SQ.callA rfl rfl (real50' β _) (by repeat (first | exact .n | exact Rm.h | exact Rm.of own_row | exact Rm.of row_close0 | apply Tk.c | apply Rm.t)) ?_; rintro _ _ ⟨rfl, rfl⟩; refine ⟨(by repeat (first | exact trivial | refine ⟨trivial, ?_⟩ | refine ⟨wk (by repeat (first | exact .h | exact .q | apply At.t)) (by rfl), ?_⟩)), ?_⟩) | ((first | refine CW.cond rfl (fun hc => ?_) (fun hc => ?_) | refine SQ.gsplit rfl (fun hc => ?_) (fun hc => ?_)) <;> try (exfalso; simp_all; done))))
    all_goals (first
      | (refine CW.ret (fin_ret rfl (Ent.trans pk_ (bk_close (b := b) (g := g) (n := es.length) (first := first) (rest := rest) (v := .slice (some ⟨g, 0, none⟩) es.length c0) (cs := es.flatMap enC))) ⟨?_, ?_⟩)
         · simp_all [packV, putV]
         · simp_all [putV])
      | (refine SQ.idx tt_ok rfl rfl (id - first).toNat (by rw [hw, g4]) g2 (o' := 0 + (id - first).toNat * 7) rfl ?_
         refine SQ.stA tt_ok rfl rfl (by repeat (first | apply Up.h | apply Up.t)) (by rfl) (wr_en g3 ((q.1.1, q.1.2.1, q.1.2.2.1, realV q.1.2.2.2), q.2) rest) (by repeat (first | exact trivial | refine ⟨trivial, ?_⟩ | refine ⟨wk (by repeat (first | exact .h | exact .q | apply At.t)) (by rfl), ?_⟩)) ?_
         (refine G tt_ok pk105 ?_; repeat (refine G1 tt_ok pk105 ?_; intro _))
         refine CW.ret (fin_ret rfl (Ent.trans pk_ (bk_close (b := b) (g := g) (n := es.length) (first := first) (rest := rest) (v := .slice (some ⟨g, 0, none⟩) es.length c0) (cs := (es.set (id - first).toNat ((q.1.1, q.1.2.1, q.1.2.2.1, realV q.1.2.2.2), q.2)).flatMap enC))) ⟨?_, ?_⟩)
         · simp_all [packV, putV]; rw [if_neg (by omega)]
         · simp_all [putV]; rw [if_neg (by omega)]))
-- part Fh
theorem idsV_len (f : Int) : ∀ n, (idsV f n).length = n
  | 0 => rfl
  | n + 1 => by simp [idsV, idsV_len f n]
theorem idsV_at (f : Int) : ∀ {n i : Nat}, i < n → (idsV f n)[i]? = some (IntKind.i64.wrap (f + i))
  | n + 1, i, h => by
    simp only [idsV]
    by_cases e : i = n
    · subst e; rw [List.getElem?_append_right (by rw [idsV_len]; omega), idsV_len]; simp
    · rw [List.getElem?_append_left (by rw [idsV_len]; omega)]; exact idsV_at f (by omega)
theorem pre_at {f : Int} {n : Nat} {pre : List Int} {x : Int} (h : (pre ++ [x]) <+: idsV f n) : pre.length < n ∧ x = IntKind.i64.wrap (f + pre.length) := by
  obtain ⟨t, ht⟩ := h
  have hl := congrArg List.length ht
  rw [idsV_len] at hl
  simp at hl
  have h1 : (idsV f n)[pre.length]? = some x := by rw [← ht]; simp
  rw [idsV_at f (by omega)] at h1
  exact ⟨by omega, by simpa using h1.symm⟩
theorem wrap_lt (x : Int) : IntKind.i64.wrap x < 9223372036854775808 := by rw [wrap_i64]; split <;> omega
def rdK (first : Int) (es : List En) (r f c : Int) : Nat → Int
  | 0 => 0
  | k + 1 => match atE first es (IntKind.i64.wrap (f + k)) with
    | some e => withV (rdK first es r f c k) r c k (showsV e.1 r)
    | none => rdK first es r f c k
theorem getSome (β : Base) (b : Nat) (q0 : Option Addr) (c0 : Nat) {first id : Int} {es : List En} {e : En} (h0 : 0 ≤ first) (h1 : first ≤ 16384) (h3 : id < 9223372036854775808) (h : atE first es id = some e) :
    Tri Tryz.prog β 57 [.pointer (some ⟨b, 0, none⟩), .int .i64 id] [pt b [.int .i64 first, .slice q0 es.length c0], rowA q0 es.length (es.flatMap enC)] (fun v L => v = .tuple #[.agg #[.bool e.1.1.1, .bool e.1.1.2.1, .bool e.1.1.2.2.1, .bool e.1.1.2.2.2, .bool e.1.2.1, .int .i64 e.1.2.2.1, .int .i64 e.1.2.2.2], .int .i64 0] ∧
      L = [pt b [.int .i64 first, .slice q0 es.length c0], rowA q0 es.length (es.flatMap enC)]) := by
  have := get14 β b q0 c0 (es := es) h0 h1 h3
  simp only [getV, h] at this
  exact this
theorem getNone (β : Base) (b : Nat) (q0 : Option Addr) (c0 : Nat) {first id : Int} {es : List En} (h0 : 0 ≤ first) (h1 : first ≤ 16384) (h3 : id < 9223372036854775808) (h : atE first es id = none) :
    Tri Tryz.prog β 57 [.pointer (some ⟨b, 0, none⟩), .int .i64 id] [pt b [.int .i64 first, .slice q0 es.length c0], rowA q0 es.length (es.flatMap enC)] (fun v L => v = .tuple #[.agg #[.bool false, .bool false, .bool false, .bool false, .bool false, .int .i64 0, .int .i64 0], .int .i64 90] ∧
      L = [pt b [.int .i64 first, .slice q0 es.length c0], rowA q0 es.length (es.flatMap enC)]) := by
  have := get14 β b q0 c0 (es := es) h0 h1 h3
  simp only [getV, h] at this
  exact this
set_option maxHeartbeats 2000000 in
theorem read12 (β : Base) (b : Nat) (q0 : Option Addr) (c0 : Nat) {first : Int} {es : List En} (h0 : 0 ≤ first) (h1 : first ≤ 16384) (r f c : Int) :
    Tri Tryz.prog β 68 [.pointer (some ⟨b, 0, none⟩), .agg #[.int .i64 r, .int .i64 f, .int .i64 c]] (bkA b q0 c0 first es) (fun v L => v = .int .u64 (rdK first es r f c (cntV c)) ∧ L = bkA b q0 c0 first es) := by
  refine Tri.intro tt_ok Tryz.func68 rfl rfl Tryz.ntmps68 rfl fun F => ?_
  unfold bkA
  (refine G tt_ok pk68 ?_; repeat (refine G1 tt_ok pk68 ?_; intro _))
  rename_i b2 b3 b5 b6
  (refine SQ.call rfl rfl (ids25 β r f c) [] rfl ?_; rintro _ _ ⟨b1, rfl, rfl⟩; refine w_ ?_)
  (refine G tt_ok pk68 ?_; repeat (refine G1 tt_ok pk68 ?_; intro _))
  refine CW.rangeFunc rfl (iter44 β r f c b1) [0] rfl
    (fun pre => [pt b6 [.int .i64 pre.length], pt b5 [.int .u64 (rdK first es r f c pre.length)], pt b3 [.int .i64 r, .int .i64 f, .int .i64 c], pt b2 [.pointer (some ⟨b, 0, none⟩)], pt b [.int .i64 first, .slice q0 es.length c0], rowA q0 es.length (es.flatMap enC)])
    (fun _ _ => False) (Ent.refl _) (fun _ => rfl) (by decide) ?_ ?_ (fun _ _ h => h.elim)
  · intro pre x hpre l fm rec1
    obtain ⟨hlt, hx⟩ := pre_at hpre
    have hx3 : x < 9223372036854775808 := by rw [hx]; exact wrap_lt _
    have hle : cntV c ≤ 16384 := by unfold cntV; omega
    have hw : IntKind.i64.wrap ((pre.length : Int) + 1) = (((pre ++ [x]).length : Nat) : Int) := by rw [wrap_i64]; simp; split <;> omega
    have hstep : rdK first es r f c (pre ++ [x]).length = match atE first es x with
      | some e => withV (rdK first es r f c pre.length) r c pre.length (showsV e.1 r)
      | none => rdK first es r f c pre.length := by rw [List.length_append, hx]; rfl
    (refine G tt_ok pk68 ?_; repeat (refine G1 tt_ok pk68 ?_; intro _))
    intro fm2 rec2
    (refine G tt_ok pk68 ?_; repeat (refine G1 tt_ok pk68 ?_; intro _))
    cases h : atE first es x with
    | none =>
      rw [h] at hstep
      (refine SQ.call rfl rfl (getNone β b q0 c0 h0 h1 hx3 h) [4, 4] rfl ?_; rintro _ _ ⟨rfl, rfl⟩; refine w_ ?_)
      (refine G tt_ok pk68 ?_; repeat (refine G1 tt_ok pk68 ?_; intro _))
      rw [hstep, ← hw]
      exact Ent.sel (is := [3, 3, 3, 3, 1, 1, 1]) rfl
    | some e =>
      rw [h] at hstep
      (refine SQ.call rfl rfl (getSome β b q0 c0 h0 h1 hx3 h) [4, 4] rfl ?_; rintro _ _ ⟨rfl, rfl⟩; refine w_ ?_)
      (refine G tt_ok pk68 ?_; repeat (refine G1 tt_ok pk68 ?_; intro _))
      (refine SQ.call rfl rfl (shows27 β _ _ _ _ _ _ _ _) [] rfl ?_; rintro _ _ ⟨rfl, rfl⟩; refine w_ ?_)
      (refine G tt_ok pk68 ?_; repeat (refine G1 tt_ok pk68 ?_; intro _))
      (refine SQ.call rfl rfl (with26 β _ r f c _ _) [] rfl ?_; rintro _ _ ⟨rfl, rfl⟩; refine w_ ?_)
      (refine G tt_ok pk68 ?_; repeat (refine G1 tt_ok pk68 ?_; intro _))
      rw [hstep, ← hw]
      exact Ent.sel (is := [3, 3, 3, 3, 1, 1, 1]) rfl
  · (refine G tt_ok pk68 ?_; repeat (refine G1 tt_ok pk68 ?_; intro _))
    rw [idsV_len]
    refine CW.ret (fin_ret rfl (Ent.sel (is := [4, 4]) rfl) ⟨rfl, rfl⟩)
/-- What a place's write makes of a bank: how many are others, and the bank. -/
def wr1 (first : Int) (es : List En) (r f c v : Int) (k : Nat) : List En × Bool :=
  match atE first es (IntKind.i64.wrap (f + k)) with
  | some e => let l := writtenV (IntKind.i64.wrap (f + k)) e.1 r (fieldV v r c k)
    if l = e.1 then (es, false) else ((putV first es (IntKind.i64.wrap (f + k)) (l, e.2)).1, true)
  | none => (es, false)
def wrK (first : Int) (es : List En) (r f c v : Int) : Nat → List En × Nat
  | 0 => (es, 0)
  | k + 1 => let p := wrK first es r f c v k
    let q := wr1 first p.1 r f c v k
    (q.1, p.2 + if q.2 then 1 else 0)
theorem wr1_len (first : Int) (es : List En) (r f c v : Int) (k : Nat) : (wr1 first es r f c v k).1.length = es.length := by
  unfold wr1; split
  · simp only; split
    · rfl
    · exact putV_len _ _ _ _
  · rfl
theorem wrK_len (first : Int) (es : List En) (r f c v : Int) : ∀ k, (wrK first es r f c v k).1.length = es.length
  | 0 => rfl
  | k + 1 => by simp only [wrK]; rw [wr1_len, wrK_len first es r f c v k]
theorem wrK_cnt (first : Int) (es : List En) (r f c v : Int) : ∀ k, (wrK first es r f c v k).2 ≤ k
  | 0 => Nat.le_refl _
  | k + 1 => by simp only [wrK]; have := wrK_cnt first es r f c v k; split <;> omega
-- part Fi
theorem written28' (β : Base) (id : Int) (e l t a en : Bool) (g p r x : Int) : Tri Tryz.prog β 103 [.int .i64 id, .agg #[.bool e, .bool l, .bool t, .bool a, .bool en, .int .i64 g, .int .i64 p], .int .i64 r, .int .u64 x] []
    (fun v L => v = .agg #[.bool (writtenV id ((e, l, t, a), en, g, p) r x).1.1, .bool (writtenV id ((e, l, t, a), en, g, p) r x).1.2.1, .bool (writtenV id ((e, l, t, a), en, g, p) r x).1.2.2.1, .bool (writtenV id ((e, l, t, a), en, g, p) r x).1.2.2.2, .bool (writtenV id ((e, l, t, a), en, g, p) r x).2.1, .int .i64 (writtenV id ((e, l, t, a), en, g, p) r x).2.2.1, .int .i64 (writtenV id ((e, l, t, a), en, g, p) r x).2.2.2] ∧ L = []) := written28 β id e l t a en g p r x
theorem put30' (β : Base) (b : Nat) (q0 : Option Addr) (c0 : Nat) {first id : Int} {es : List En} (q : En) (h0 : 0 ≤ first) (h1 : first ≤ 16384) (h3 : id < 9223372036854775808) :
    Tri Tryz.prog β 105 [.pointer (some ⟨b, 0, none⟩), .int .i64 id, .agg #[.bool q.1.1.1, .bool q.1.1.2.1, .bool q.1.1.2.2.1, .bool q.1.1.2.2.2, .bool q.1.2.1, .int .i64 q.1.2.2.1, .int .i64 q.1.2.2.2]] [pt b [.int .i64 first, .slice q0 es.length c0], rowA q0 es.length (es.flatMap enC)]
      (fun v L => ∃ u, v = .int .i64 u ∧ L = [pt b [.int .i64 first, .slice q0 es.length c0], rowA q0 (putV first es id q).1.length ((putV first es id q).1.flatMap enC)]) :=
  (put30 β b q0 c0 q h0 h1 h3).mono fun v L ⟨e1, e2⟩ => ⟨_, e1, by rw [e2, bkA, putV_len]⟩
set_option maxHeartbeats 4000000 in
theorem write13 (β : Base) (b : Nat) (q0 : Option Addr) (c0 : Nat) {first : Int} {es0 : List En} (h0 : 0 ≤ first) (h1 : first ≤ 16384) (r f c v : Int) :
    Tri Tryz.prog β 66 [.pointer (some ⟨b, 0, none⟩), .agg #[.int .i64 r, .int .i64 f, .int .i64 c], .int .u64 v] (bkA b q0 c0 first es0) (fun u L => u = .int .i64 (wrK first es0 r f c v (cntV c)).2 ∧ L = bkA b q0 c0 first (wrK first es0 r f c v (cntV c)).1) := by
  refine Tri.intro tt_ok Tryz.func66 rfl rfl Tryz.ntmps66 rfl fun F => ?_
  unfold bkA
  (refine G tt_ok pk66 ?_; repeat (refine G1 tt_ok pk66 ?_; intro _))
  rename_i b3 b4 b5 b7 b8
  (refine SQ.call rfl rfl (ids25 β r f c) [] rfl ?_; rintro _ _ ⟨b1, rfl, rfl⟩; refine w_ ?_)
  (refine G tt_ok pk66 ?_; repeat (refine G1 tt_ok pk66 ?_; intro _))
  refine CW.rangeFunc rfl (iter44 β r f c b1) [0] rfl
    (fun pre => [pt b8 [.int .i64 pre.length], pt b7 [.int .i64 ((wrK first es0 r f c v pre.length).2 : Int)], pt b5 [.int .u64 v], pt b4 [.int .i64 r, .int .i64 f, .int .i64 c], pt b3 [.pointer (some ⟨b, 0, none⟩)], pt b [.int .i64 first, .slice q0 (wrK first es0 r f c v pre.length).1.length c0], rowA q0 (wrK first es0 r f c v pre.length).1.length ((wrK first es0 r f c v pre.length).1.flatMap enC)])
    (fun _ _ => False) (Ent.refl _) (fun _ => rfl) (by decide) ?_ ?_ (fun _ _ h => h.elim)
  · intro pre x hpre l fm rec1
    obtain ⟨hlt, hx⟩ := pre_at hpre
    have hx3 : x < 9223372036854775808 := by rw [hx]; exact wrap_lt _
    have hle : cntV c ≤ 16384 := by unfold cntV; omega
    have hw : IntKind.i64.wrap ((pre.length : Int) + 1) = (((pre ++ [x]).length : Nat) : Int) := by rw [wrap_i64]; simp; split <;> omega
    have hcn := wrK_cnt first es0 r f c v pre.length
    have hstep : wrK first es0 r f c v (pre ++ [x]).length = ((wr1 first (wrK first es0 r f c v pre.length).1 r f c v pre.length).1, (wrK first es0 r f c v pre.length).2 + if (wr1 first (wrK first es0 r f c v pre.length).1 r f c v pre.length).2 then 1 else 0) := by rw [List.length_append]; rfl
    rw [hstep]
    generalize wrK first es0 r f c v pre.length = z at hcn ⊢
    obtain ⟨es, m⟩ := z
    simp only at hcn ⊢
    have hwm : IntKind.i64.wrap ((m : Int) + 1) = ((m + 1 : Nat) : Int) := by rw [wrap_i64]; split <;> omega
    (refine G tt_ok pk66 ?_; repeat (refine G1 tt_ok pk66 ?_; intro _))
    intro fm2 rec2
    (refine G tt_ok pk66 ?_; repeat (refine G1 tt_ok pk66 ?_; intro _))
    cases h : atE first es x with
    | none =>
      have hq : wr1 first es r f c v pre.length = (es, false) := by simp only [wr1, ← hx, h]
      rw [hq]
      (refine SQ.call rfl rfl (getNone β b q0 c0 h0 h1 hx3 h) [5, 5] rfl ?_; rintro _ _ ⟨rfl, rfl⟩; refine w_ ?_)
      (refine G tt_ok pk66 ?_; repeat (refine G1 tt_ok pk66 ?_; intro _))
      (refine SQ.call rfl rfl (field29 β v r f c _) [] rfl ?_; rintro _ _ ⟨rfl, rfl⟩; refine w_ ?_)
      (refine G tt_ok pk66 ?_; repeat (refine G1 tt_ok pk66 ?_; intro _))
      (refine SQ.call rfl rfl (written28' β _ _ _ _ _ _ _ _ _ _) [] rfl ?_; rintro _ _ ⟨rfl, rfl⟩; refine w_ ?_)
      (refine G tt_ok pk66 ?_; repeat (refine G1 tt_ok pk66 ?_; intro _))
      rw [← hw]
      exact Ent.sel (is := [4, 4, 4, 4, 4, 2, 2, 2]) rfl
    | some e =>
      obtain ⟨⟨⟨a1, a2, a3, a4⟩, en, g, p⟩, tx⟩ := e
      (refine SQ.call rfl rfl (getSome β b q0 c0 h0 h1 hx3 h) [5, 5] rfl ?_; rintro _ _ ⟨rfl, rfl⟩; refine w_ ?_)
      (refine G tt_ok pk66 ?_; repeat (refine G1 tt_ok pk66 ?_; intro _))
      (refine SQ.call rfl rfl (field29 β v r f c _) [] rfl ?_; rintro _ _ ⟨rfl, rfl⟩; refine w_ ?_)
      (refine G tt_ok pk66 ?_; repeat (refine G1 tt_ok pk66 ?_; intro _))
      have hcall := written28' β x a1 a2 a3 a4 en g p r (fieldV v r c pre.length)
      have hq : wr1 first es r f c v pre.length = (let l := writtenV x ((a1, a2, a3, a4), en, g, p) r (fieldV v r c pre.length)
        if l = ((a1, a2, a3, a4), en, g, p) then (es, false) else ((putV first es x (l, tx)).1, true)) := by simp only [wr1, ← hx, h]
      generalize writtenV x ((a1, a2, a3, a4), en, g, p) r (fieldV v r c pre.length) = W at hcall hq
      obtain ⟨⟨w1, w2, w3, w4⟩, w5, w6, w7⟩ := W
      simp only at hcall hq
      rw [hq]
      (refine SQ.call rfl rfl (hcall) [] rfl ?_; rintro _ _ ⟨rfl, rfl⟩; refine w_ ?_)
      (refine G tt_ok pk66 ?_; repeat (refine G1 tt_ok pk66 ?_; intro _))
      by_cases hl : (((w1, w2, w3, w4), w5, w6, w7) : Ln) = ((a1, a2, a3, a4), en, g, p)
      · rw [if_pos hl]
        refine SQ.eqn tt_ok [53, 35] ⟨by kernel_rfl, by kernel_rfl, trivial⟩ rfl rfl (by kernel_rfl) false (by simp at hl ⊢; simp [hl]) ?_
        (refine G tt_ok pk66 ?_; repeat (refine G1 tt_ok pk66 ?_; intro _))
        rw [← hw]
        exact Ent.sel (is := [4, 4, 4, 4, 4, 2, 2, 2]) rfl
      · rw [if_neg hl]
        refine SQ.eqn tt_ok [53, 35] ⟨by kernel_rfl, by kernel_rfl, trivial⟩ rfl rfl (by kernel_rfl) true (by apply Decidable.byContradiction; intro hc; simp at hc; exact hl (by simp [hc])) ?_
        (refine G tt_ok pk66 ?_; repeat (refine G1 tt_ok pk66 ?_; intro _))
        (refine SQ.call rfl rfl (put30' β b q0 c0 (((w1, w2, w3, w4), w5, w6, w7), tx) h0 h1 hx3) [2, 2] rfl ?_; rintro _ _ ⟨u, rfl, rfl⟩; refine w_ ?_)
        (refine G tt_ok pk66 ?_; repeat (refine G1 tt_ok pk66 ?_; intro _))
        rw [← hw]
        simp only [putV_len, if_true]
        rw [hwm]
        exact Ent.sel (is := [4, 4, 4, 4, 4, 0, 0, 2]) rfl
  · (refine G tt_ok pk66 ?_; repeat (refine G1 tt_ok pk66 ?_; intro _))
    rw [idsV_len]
    refine CW.ret (fin_ret rfl (Ent.sel (is := [5, 5]) rfl) ⟨rfl, rfl⟩)
-- part Fx>
theorem rdK_some {first : Int} {es : List En} {r f c : Int} {k : Nat} {e : En} (h : atE first es (IntKind.i64.wrap (f + k)) = some e) : rdK first es r f c (k + 1) = withV (rdK first es r f c k) r c k (showsV e.1 r) := by
  show (match atE first es (IntKind.i64.wrap (f + k)) with
    | some e => withV (rdK first es r f c k) r c k (showsV e.1 r)
    | none => rdK first es r f c k) = _
  rw [h]
theorem rdK_none {first : Int} {es : List En} {r f c : Int} {k : Nat} (h : atE first es (IntKind.i64.wrap (f + k)) = none) : rdK first es r f c (k + 1) = rdK first es r f c k := by
  show (match atE first es (IntKind.i64.wrap (f + k)) with
    | some e => withV (rdK first es r f c k) r c k (showsV e.1 r)
    | none => rdK first es r f c k) = _
  rw [h]
/-- What a register shows, bit by bit. -/
theorem rdK_bit (first : Int) (es : List En) {r f c : Int} {n : Nat} (hb : bitsV r = n) (hn1 : 1 ≤ n) (hn : n ≤ 63) : ∀ m : Nat, (m : Int) ≤ c → ∃ W : Nat, W < 2 ^ 64 ∧ rdK first es r f c m = W ∧
    ∀ j, j < 64 → W.testBit j = (decide (j / n < m) && match atE first es (IntKind.i64.wrap (f + ((j / n : Nat) : Int))) with | some e => (showsV e.1 r).toNat.testBit (j % n) | none => false)
  | 0, _ => ⟨0, by decide, rfl, fun j hj => by simp⟩
  | m + 1, hm => by
    obtain ⟨W, hW, hr, hbit⟩ := rdK_bit first es (f := f) (c := c) hb hn1 hn m (by omega)
    have hdm : ∀ j : Nat, n * (j / n) + j % n = j ∧ j % n < n := fun j => ⟨Nat.div_add_mod j n, Nat.mod_lt _ (by omega)⟩
    have hin : ∀ j : Nat, (n * m ≤ j ∧ j < n * m + n) ↔ j / n = m := fun j => by
      obtain ⟨h1, h2⟩ := hdm j
      constructor
      · rintro ⟨h3, h4⟩
        rcases Nat.lt_trichotomy (j / n) m with h | h | h
        · have : n * (j / n + 1) ≤ n * m := Nat.mul_le_mul_left n h
          rw [Nat.mul_add] at this; omega
        · exact h
        · have : n * (m + 1) ≤ n * (j / n) := Nat.mul_le_mul_left n h
          rw [Nat.mul_add] at this; omega
      · intro h; rw [h] at h1; omega
    have hd64 : ∀ j, j < 64 → j / n < 64 := fun j hj => Nat.lt_of_le_of_lt (Nat.div_le_self _ _) hj
    cases ha : atE first es (IntKind.i64.wrap (f + m)) with
    | none =>
      rw [rdK_none ha]
      refine ⟨W, hW, hr, fun j hj => ?_⟩
      rw [hbit j hj]
      by_cases hq : j / n = m
      · rw [hq, ha]; simp
      · congr 1; simp; omega
    | some e =>
      obtain ⟨s, hs, he⟩ := shows_nat e.1 r
      rw [rdK_some ha, hr, he]
      by_cases hm64 : m ≤ 64
      · obtain ⟨W', h1, h2, h3⟩ := withV_nat hW hs (c := c) hb hn (k := m) (by omega) hm64
        refine ⟨W', h1, h2, fun j hj => ?_⟩
        rw [h3 j hj]
        by_cases hq : j / n = m
        · rw [if_pos ((hin j).2 hq), hq, ha]
          have : j - n * m = j % n := by have := hdm j; rw [hq] at this; omega
          simp [he, this]
        · rw [if_neg (fun h => hq ((hin j).1 h)), hbit j hj]
          congr 1; simp; omega
      · rw [withV_out (by omega)]
        refine ⟨W, hW, rfl, fun j hj => ?_⟩
        have := hd64 j hj
        rw [hbit j hj]
        congr 1; simp; omega
-- part Fy>
def updE (id r x : Int) (e : En) : En × Bool :=
  if writtenV id e.1 r x = e.1 then (e, false) else
  if (writtenV id e.1 r x).2.2.1 < 0 ∨ (writtenV id e.1 r x).2.2.1 > 1 ∨ (writtenV id e.1 r x).2.2.2 < 0 ∨ (writtenV id e.1 r x).2.2.2 > 255 then (e, true)
  else ((((writtenV id e.1 r x).1, (writtenV id e.1 r x).2.1, (writtenV id e.1 r x).2.2.1, realV (writtenV id e.1 r x).2.2.2), e.2), true)
theorem set_same {α : Type} {l : List α} {k : Nat} {a : α} (h : l[k]? = some a) : l.set k a = l := by
  apply List.ext_getElem?
  intro i
  by_cases e : k = i
  · subst e; rw [List.getElem?_set_self (List.getElem?_eq_some_iff.1 h).1, h]
  · rw [List.getElem?_set_ne e]
theorem wr1_upd (first : Int) (es : List En) (r f c v : Int) (k : Nat) : wr1 first es r f c v k = match atE first es (IntKind.i64.wrap (f + k)) with
    | some e => (es.set (IntKind.i64.wrap (f + k) - first).toNat (updE (IntKind.i64.wrap (f + k)) r (fieldV v r c k) e).1, (updE (IntKind.i64.wrap (f + k)) r (fieldV v r c k) e).2)
    | none => (es, false) := by
  unfold wr1
  cases h : atE first es (IntKind.i64.wrap (f + k)) with
  | none => rfl
  | some e =>
    obtain ⟨g1, g2, g3, g4, g5⟩ := atE_some h
    simp only [updE]
    split
    · simp only [set_same g3]
    · simp only [putV, h]
      split
      · simp only [set_same g3]
      · rfl
theorem atE_iff {first : Int} {es : List En} {id : Int} {e : En} : atE first es id = some e ↔ ∃ i : Nat, id = first + i ∧ es[i]? = some e := by
  constructor
  · intro h
    obtain ⟨g1, g2, g3, g4, g5⟩ := atE_some h
    exact ⟨(id - first).toNat, by omega, g3⟩
  · rintro ⟨i, rfl, h⟩
    unfold atE
    rw [if_pos (by omega), show (first + (i : Int) - first).toNat = i by omega, h]
/-- What a place's write makes of a bank, one by one. -/
theorem wrK_at {first : Int} {es : List En} {r f c v : Int} {N : Nat} (hf : ∀ k : Nat, k < N → IntKind.i64.wrap (f + k) = f + k) : ∀ m : Nat, m ≤ N → ∀ (i : Nat) (e : En), es[i]? = some e →
    (wrK first es r f c v m).1[i]? = some (if f ≤ first + i ∧ first + i < f + m then (updE (first + i) r (fieldV v r c (first + i - f)) e).1 else e)
  | 0, _, i, e, h => by rw [if_neg (by omega)]; exact h
  | m + 1, hm, i, e, h => by
    have ih := wrK_at (first := first) (es := es) (r := r) (c := c) (v := v) hf m (by omega) i e h
    simp only [wrK]
    rw [wr1_upd, hf m (by omega)]
    cases ha : atE first (wrK first es r f c v m).1 (f + m) with
    | none =>
      simp only
      rw [ih]
      have hne : first + (i : Int) ≠ f + m := fun h2 => by
        have : atE first (wrK first es r f c v m).1 (f + m) = some (if f ≤ first + (i : Int) ∧ first + (i : Int) < f + m then (updE (first + i) r (fieldV v r c (first + i - f)) e).1 else e) := atE_iff.2 ⟨i, h2.symm, ih⟩
        rw [ha] at this; cases this
      by_cases h3 : f ≤ first + (i : Int) ∧ first + (i : Int) < f + m
      · rw [if_pos h3, if_pos (by omega)]
      · rw [if_neg h3, if_neg (by omega)]
    | some e0 =>
      obtain ⟨j, hj, hje⟩ := atE_iff.1 ha
      simp only
      rw [show (f + (m : Int) - first).toNat = j by omega]
      by_cases hij : j = i
      · subst hij
        rw [List.getElem?_set_self (List.getElem?_eq_some_iff.1 hje).1, if_pos (by omega)]
        rw [ih, if_neg (by omega)] at hje
        injection hje with hje
        rw [hje, hj, show first + (j : Int) - f = (m : Int) by omega]
      · rw [List.getElem?_set_ne hij, ih]
        by_cases h3 : f ≤ first + (i : Int) ∧ first + (i : Int) < f + m
        · rw [if_pos h3, if_pos (by omega)]
        · rw [if_neg h3, if_neg (by omega)]
/-- A write that changes no interrupt is told as one that changes none. -/
theorem wrK_none {first : Int} {es : List En} {r f c v : Int} {N : Nat} (hf : ∀ k : Nat, k < N → IntKind.i64.wrap (f + k) = f + k) (h : ∀ (k : Nat) (e : En), k < N → atE first es (f + k) = some e → updE (f + k) r (fieldV v r c k) e = (e, false)) : ∀ m : Nat, m ≤ N →
    wrK first es r f c v m = (es, 0)
  | 0, _ => rfl
  | m + 1, hm => by
    have ih := wrK_none (first := first) (es := es) (r := r) (c := c) (v := v) hf h m (by omega)
    simp only [wrK]
    rw [ih, wr1_upd, hf m (by omega)]
    cases ha : atE first es (f + m) with
    | none => rfl
    | some e =>
      obtain ⟨j, hj, hje⟩ := atE_iff.1 ha
      have h2 := h m e (by omega) ha
      simp only [h2, show (f + (m : Int) - first).toNat = j by omega, set_same hje]
      rfl
/-- An interrupt that a bank may hold. -/
def okE (e : En) : Prop := 0 ≤ e.1.2.2.1 ∧ e.1.2.2.1 ≤ 1 ∧ 0 ≤ e.1.2.2.2 ∧ e.1.2.2.2 ≤ 255 ∧ realV e.1.2.2.2 = e.1.2.2.2
def okL (es : List En) : Prop := ∀ e ∈ es, okE e
theorem updE_ok {id r x : Int} {e : En} (h : okE e) : okE (updE id r x e).1 := by
  unfold updE
  split
  · exact h
  · split
    · exact h
    · rename_i h2
      have := realV_range (writtenV id e.1 r x).2.2.2
      have h3 := realV_real (writtenV id e.1 r x).2.2.2
      unfold okE
      simp only
      exact ⟨by omega, by omega, by omega, by omega, h3⟩
theorem okL_at {es : List En} (h : okL es) {i : Nat} {e : En} (hi : es[i]? = some e) : okE e := h e (List.mem_of_getElem? hi)
theorem okL_set {es : List En} (h : okL es) {e : En} (he : okE e) (i : Nat) : okL (es.set i e) := fun x hx => by
  rcases List.mem_or_eq_of_mem_set hx with h2 | rfl
  · exact h x h2
  · exact he
theorem wrK_ok {first : Int} {es : List En} {r f c v : Int} (h : okL es) : ∀ m, okL (wrK first es r f c v m).1
  | 0 => h
  | m + 1 => by
    have ih := wrK_ok (first := first) (r := r) (f := f) (c := c) (v := v) h m
    simp only [wrK]
    rw [wr1_upd]
    split
    · rename_i e he
      obtain ⟨j, hj, hje⟩ := atE_iff.1 he
      exact okL_set ih (updE_ok (okL_at ih hje)) _
    · exact ih
theorem doV_ok {first : Int} {es : List En} {id x : Int} (h : okL es) : okL (doV first es id x).1 := by
  unfold doV
  split
  · rename_i e he
    obtain ⟨j, hj, hje⟩ := atE_iff.1 he
    exact okL_set h (by have := okL_at h hje; exact this) _
  · exact h
theorem okL_new (n : Nat) (tx : Unit) : okL (List.replicate n (zeroE.1, tx)) := fun e he => by
  rw [List.eq_of_mem_replicate he]
  have h : okE (zeroE.1, ()) := ⟨by decide, by decide, by decide, by decide, by decide⟩
  exact h
/-! ### Written twice -/
theorem stepI_again (i : Iq) (r x : Int) (h : r = 7 ∨ r = 8 ∨ r = 9 ∨ r = 10) : stepI (stepI i (actsV r)) (actsV r) = stepI i (actsV r) := by
  obtain ⟨a, b, c, d⟩ := i
  rcases h with rfl | rfl | rfl | rfl <;> cases a <;> cases b <;> cases c <;> cases d <;> rfl
theorem stepI_edge (i : Iq) (x : Int) : stepI (stepI i (edgeV x)) (edgeV x) = stepI i (edgeV x) := by
  obtain ⟨a, b, c, d⟩ := i
  unfold edgeV
  split <;> cases a <;> cases b <;> cases c <;> cases d <;> rfl
theorem written_again (id r x p : Int) (l : Ln) (hp : p = (writtenV id l r x).2.2.2 ∨ p = realV (writtenV id l r x).2.2.2) :
    writtenV id ((writtenV id l r x).1, (writtenV id l r x).2.1, (writtenV id l r x).2.2.1, p) r x = ((writtenV id l r x).1, (writtenV id l r x).2.1, (writtenV id l r x).2.2.1, p) := by
  obtain ⟨i, en, g, q⟩ := l
  by_cases h4 : r = 4
  · simp [writtenV, h4]
  by_cases h5 : r = 5
  · simp [writtenV, h5]
  by_cases h6 : r = 6
  · simp [writtenV, h6]
  by_cases h7 : r = 7 ∨ r = 8 ∨ r = 9 ∨ r = 10
  · by_cases hx : x = 1
    · simp only [writtenV, h4, h5, h6, h7, hx, if_true, if_false]
      rw [stepI_again i r x h7]
    · simp only [writtenV, h4, h5, h6, h7, hx, if_true, if_false]
  by_cases h11 : r = 11
  · subst h11
    simp only [writtenV, h4, h5, h6, if_true, if_false] at hp ⊢
    rw [if_neg h7] at hp ⊢
    rcases hp with rfl | rfl
    · rw [if_neg h7]
    · rw [if_neg h7, realV_real]
  by_cases h12 : r = 12
  · subst h12
    by_cases h16 : id ≥ 16
    · simp only [writtenV, h4, h5, h6, h7, h11, h16, if_true, if_false]
      rw [stepI_edge]
    · simp only [writtenV, h4, h5, h6, h7, h11, h16, if_true, if_false]
  · simp only [writtenV, h4, h5, h6, h7, h11, h12, if_false]
theorem written_range {id r x : Int} {e : En} (he : okE e) (hx : r = 4 → x = 0 ∨ x = 1) : ¬ ((writtenV id e.1 r x).2.2.1 < 0 ∨ (writtenV id e.1 r x).2.2.1 > 1 ∨ (writtenV id e.1 r x).2.2.2 < 0 ∨ (writtenV id e.1 r x).2.2.2 > 255) := by
  obtain ⟨h0, h1, h2, h3, _⟩ := he
  have hr := realV_range (IntKind.i64.wrap x)
  have hw : r = 4 → IntKind.i64.wrap x = x := fun h => by rcases hx h with rfl | rfl <;> rfl
  unfold writtenV
  split
  · rename_i h
    have := hw h
    have := hx h
    simp only; omega
  repeat' split
  all_goals (first | omega | (simp only; omega))
theorem updE_again {id r x : Int} {e : En} (he : okE e) (hx : r = 4 → x = 0 ∨ x = 1) : updE id r x (updE id r x e).1 = ((updE id r x e).1, false) := by
  have hr := written_range (id := id) he hx
  by_cases h1 : writtenV id e.1 r x = e.1
  · have : updE id r x e = (e, false) := by unfold updE; rw [if_pos h1]
    rw [this]; exact this
  · have h2 : updE id r x e = ((((writtenV id e.1 r x).1, (writtenV id e.1 r x).2.1, (writtenV id e.1 r x).2.2.1, realV (writtenV id e.1 r x).2.2.2), e.2), true) := by unfold updE; rw [if_neg h1, if_neg hr]
    rw [h2]
    have h3 := written_again id r x (realV (writtenV id e.1 r x).2.2.2) e.1 (.inr rfl)
    simp only
    unfold updE
    rw [if_pos h3]
theorem field_bit {v : Int} (hv0 : 0 ≤ v) (hv1 : v < 18446744073709551616) (c k : Int) : fieldV v 4 c k = 0 ∨ fieldV v 4 c k = 1 := by
  by_cases h : k < 0 ∨ k ≥ c ∨ k > 64
  · exact .inl (fieldV_out h)
  · obtain ⟨w, rfl⟩ : ∃ w : Nat, v = w := ⟨v.toNat, by omega⟩
    have e64 : (2 : Nat) ^ 64 = 18446744073709551616 := rfl
    rw [fieldV_nat (n := 1) (by omega) rfl (by omega) (by omega) (by omega) (by omega)]
    omega
theorem wrK_again {first : Int} {es : List En} {r f c v : Int} {N : Nat} (hok : okL es) (hf : ∀ k : Nat, k < N → IntKind.i64.wrap (f + k) = f + k) (hv0 : 0 ≤ v) (hv1 : v < 18446744073709551616) :
    wrK first (wrK first es r f c v N).1 r f c v N = ((wrK first es r f c v N).1, 0) := by
  refine wrK_none hf (fun k e hk ha => ?_) N (Nat.le_refl _)
  obtain ⟨j, hj, hje⟩ := atE_iff.1 ha
  have hjl : j < es.length := by have := (List.getElem?_eq_some_iff.1 hje).1; rw [wrK_len] at this; exact this
  obtain ⟨e0, he0⟩ : ∃ e0, es[j]? = some e0 := ⟨_, List.getElem?_eq_getElem hjl⟩
  have h1 := wrK_at (first := first) (r := r) (c := c) (v := v) hf N (Nat.le_refl _) j e0 he0
  rw [hje, if_pos (by omega), ← hj, show f + (k : Int) - f = (k : Int) by omega] at h1
  injection h1 with h1
  rw [h1]
  exact updE_again (okL_at hok he0) (fun h => by subst h; exact field_bit hv0 hv1 c k)
/-- What is written, as the document has it: nothing is rounded besides. -/
theorem upd_line {id r x : Int} {e : En} (he : okE e) (hx : r = 4 → x = 0 ∨ x = 1) : (updE id r x e).1 = (writtenV id e.1 r x, e.2) ∧ (updE id r x e).2 = decide (writtenV id e.1 r x ≠ e.1) := by
  have hg := written_range (id := id) he hx
  have hp : realV (writtenV id e.1 r x).2.2.2 = (writtenV id e.1 r x).2.2.2 := by
    have h5 := he.2.2.2.2
    unfold writtenV
    repeat' split
    all_goals (first | exact h5 | exact realV_real _)
  by_cases h : writtenV id e.1 r x = e.1
  · unfold updE
    rw [if_pos h]
    exact ⟨by rw [h], by simp [h]⟩
  · unfold updE
    rw [if_neg h, if_neg hg]
    exact ⟨by rw [hp], by simp [h]⟩
/-- The texts besides stay. -/
theorem updE_text (id r x : Int) (e : En) : (updE id r x e).1.2 = e.2 := by
  unfold updE
  split
  · rfl
  · split <;> rfl
theorem map_set_same {α β : Type} {f : α → β} {l : List α} {k : Nat} {a b : α} (h : l[k]? = some a) (hf : f b = f a) : (l.set k b).map f = l.map f := by
  rw [List.map_set, hf]
  apply set_same
  rw [List.getElem?_map, h]; rfl
theorem wrK_texts (first : Int) (es : List En) (r f c v : Int) : ∀ m, (wrK first es r f c v m).1.map (·.2) = es.map (·.2)
  | 0 => rfl
  | m + 1 => by
    have ih := wrK_texts first es r f c v m
    simp only [wrK]
    rw [wr1_upd]
    split
    · rename_i e he
      obtain ⟨j, hj, hje⟩ := atE_iff.1 he
      simp only
      rw [show (IntKind.i64.wrap (f + (m : Int)) - first).toNat = j by omega]
      rw [map_set_same hje (updE_text _ _ _ _), ih]
    · exact ih
theorem doV_texts (first : Int) (es : List En) (id x : Int) : (doV first es id x).1.map (·.2) = es.map (·.2) := by
  unfold doV
  split
  · rename_i e he
    obtain ⟨j, hj, hje⟩ := atE_iff.1 he
    simp only
    rw [show (id - first).toNat = j by omega]
    exact map_set_same hje rfl
  · rfl
-- part Gg
theorem enC_one (a : En) : scal (enC a) = true := rfl
set_option maxHeartbeats 2000000 in
theorem clone42 (β : Base) (q0 : Option Addr) (c0 : Nat) (es : List En) (hn : es.length ≤ 16384) :
    Tri Tryz.prog β 98 [.slice q0 es.length c0] [rowA q0 es.length (es.flatMap enC)] (fun v L => ∃ q1 c1, v = .slice q1 es.length c1 ∧ L = [rowA q0 es.length (es.flatMap enC), rowA q1 es.length (es.flatMap enC)]) := by
  refine Tri.intro tt_ok Tryz.func98 rfl rfl Tryz.ntmps98 rfl fun F => ?_
  cases q0 with
  | none =>
    refine CW.ent row_none (CW.pure_ fun h => ?_)
    obtain ⟨h1, h2⟩ := h
    rw [h1, h2]
    (refine G tt_ok [] ?_; repeat (refine G1 tt_ok [] ?_; intro _))
    refine CW.ret (fin_ret rfl (A := [rowA none 0 [], rowA none 0 []]) (Ent.trans row_nil row_nil) ?_)
    exact ⟨none, 0, rfl, rfl⟩
  | some a =>
    refine CW.ent row_some (CW.open_ fun y => ?_)
    obtain ⟨g, rest⟩ := y
    refine CW.pure_ fun hv => ?_
    simp only at hv
    subst hv
    (refine G tt_ok [] ?_; repeat (refine G1 tt_ok [] ?_; intro _))
    refine SQ.builtO tt_ok rfl rfl rfl rfl (fun b => ⟨(by repeat (first | exact trivial | refine ⟨trivial, ?_⟩ | refine ⟨wk (by repeat (first | exact .h | exact .q | apply At.t)) (by rfl), ?_⟩)), ?_⟩)
    (refine G tt_ok [] ?_; repeat (refine G1 tt_ok [] ?_; intro _))
    refine SQ.append tt_ok rfl rfl 0 rfl 1 (q := true) rfl (es.flatMap enC) (by rw [List.drop_zero]; exact List.take_left) (flatE_len (sz := 7) (fun _ => rfl) es) rfl (one_flat enC_one es) (by omega) (by show (0 + es.length) * 32 ≤ _; omega) (fun v' => ⟨(by repeat (first | exact trivial | refine ⟨trivial, ?_⟩ | refine ⟨wk (by repeat (first | exact .h | exact .q | apply At.t)) (by rfl), ?_⟩)), ?_⟩)
    refine SQ.ent _ (Ent.head (own_shape _ _ _ _ _)) ?_
    refine SQ.open_ fun x => ?_
    refine SQ.pure_ fun hv => ?_
    subst hv
    (refine G tt_ok [] ?_; repeat (refine G1 tt_ok [] ?_; intro _))
    have ho : Ent [own 115 7 (.slice x.1 (0 + es.length) x.2) (0 + es.length) ([] ++ es.flatMap enC)] [rowA x.1 es.length (es.flatMap enC)] := by
      rw [Nat.zero_add, List.nil_append]; exact own_row
    refine CW.ret (fin_ret rfl (A := [rowA (some ⟨g, 0, none⟩) es.length (es.flatMap enC), rowA x.1 es.length (es.flatMap enC)]) (Ent.trans (Ent.sel (is := [1, 0]) rfl) (Ent.append (L := [_]) (L' := [_]) row_close ho)) ?_)
    exact ⟨x.1, x.2, by rw [Nat.zero_add]; rfl, rfl⟩
theorem all21 (β : Base) (b : Nat) (q0 : Option Addr) (c0 : Nat) (first : Int) (es : List En) (hn : es.length ≤ 16384) :
    Tri Tryz.prog β 64 [.pointer (some ⟨b, 0, none⟩)] (bkA b q0 c0 first es) (fun v L => ∃ b1 b3 q1 c1, v = .func (.func 100) #[] #[.pointer (some ⟨b3, 0, none⟩), .pointer (some ⟨b1, 0, none⟩)] ∧
      L = [pt b3 [.slice q1 es.length c1], pt b1 [.pointer (some ⟨b, 0, none⟩)], rowA q1 es.length (es.flatMap enC)] ++ bkA b q0 c0 first es) := by
  refine Tri.intro tt_ok Tryz.func64 rfl rfl Tryz.ntmps64 rfl fun F => ?_
  (refine G tt_ok [] ?_; repeat (refine G1 tt_ok [] ?_; intro _))
  rename_i b1
  (refine ka rfl rfl (clone42 β q0 c0 es hn) ?_; rintro _ _ ⟨q1, c1, rfl, rfl⟩; refine w_ ?_)
  (refine G tt_ok [] ?_; repeat (refine G1 tt_ok [] ?_; intro _))
  rename_i b3
  refine CW.ret (fin_ret rfl (A := [pt b3 [.slice q1 es.length c1], pt b1 [.pointer (some ⟨b, 0, none⟩)], rowA q1 es.length (es.flatMap enC)] ++ bkA b q0 c0 first es) pk_ ?_)
  exact ⟨b1, b3, q1, c1, rfl, rfl⟩
/-- All of a bank, with their numbers. -/
def allV (first : Int) : List En → List (Int × En)
  | [] => []
  | e :: r => (first, e) :: allV (first + 1) r
theorem allV_len : ∀ (first : Int) (es : List En), (allV first es).length = es.length
  | _, [] => rfl
  | first, e :: r => by simp [allV, allV_len (first + 1) r]
theorem allV_at : ∀ {first : Int} {es : List En} {k : Nat} {e : En}, es[k]? = some e → (allV first es)[k]? = some (first + k, e)
  | _, [], _, _, h => by simp at h
  | first, a :: r, 0, e, h => by simp at h; subst h; simp [allV]
  | first, a :: r, k + 1, e, h => by
    have := allV_at (first := first + 1) (es := r) (k := k) (e := e) (by simpa using h)
    simp only [allV, List.getElem?_cons_succ]
    rw [this]; simp; omega
@[reducible] def peC (x : Int × En) : List Value := [.int .i64 x.1, .agg #[.bool x.2.1.1.1, .bool x.2.1.1.2.1, .bool x.2.1.1.2.2.1, .bool x.2.1.1.2.2.2, .bool x.2.1.2.1, .int .i64 x.2.1.2.2.1, .int .i64 x.2.1.2.2.2]]
theorem allV_pre {first : Int} {es : List En} {pre : List (Int × En)} {x : Int × En} (h : (pre ++ [x]) <+: allV first es) : ∃ e, es[pre.length]? = some e ∧ x = (first + pre.length, e) := by
  obtain ⟨t, ht⟩ := h
  have hl := congrArg List.length ht
  rw [allV_len] at hl
  simp at hl
  obtain ⟨e, he⟩ : ∃ e, es[pre.length]? = some e := ⟨_, List.getElem?_eq_getElem (by omega)⟩
  have h1 := allV_at (first := first) he
  rw [← ht] at h1
  simp at h1
  exact ⟨e, he, h1⟩
theorem take_pre {α : Type} {l : List α} {k : Nat} {x : α} (h : l[k]? = some x) : (l.take k ++ [x]) <+: l := by
  have : l.take (k + 1) = l.take k ++ [x] := by rw [List.take_add_one, h]; rfl
  rw [← this]; exact List.take_prefix _ _
theorem rd_enq {cs : List Value} {off n : Nat} {ts : List En} (h : (cs.drop off).take (n * 7) = ts.flatMap enC) {k : Nat} {t : En} (hk : ts[k]? = some t) : rdv ti115 cs (off + k * 7) = some (.agg (enC t).toArray) :=
  rd_enc (enc := enC) (sz := 7) (fun _ => rfl) rfl rfl h hk
set_option maxHeartbeats 2000000 in
theorem iter43 (β : Base) (b b1 b3 : Nat) {q1 : Option Addr} {c1 : Nat} {first : Int} {es : List En} {S : Value} {A1 : Atom} (h1 : RdS β q1 es.length 7 (es.flatMap enC) A1) (hf0 : 0 ≤ first) (hf1 : first ≤ 16384) (hn : es.length ≤ 16384) (hS : vcells S = [S]) :
    Iter Tryz.prog β 100 [.pointer (some ⟨b3, 0, none⟩), .pointer (some ⟨b1, 0, none⟩)] [pt b3 [.slice q1 es.length c1], pt b1 [.pointer (some ⟨b, 0, none⟩)], pt b [.int .i64 first, S], A1] peC (allV first es) := by
  intro l J Jx hY
  refine Tri.intro tt_ok Tryz.func100 rfl rfl Tryz.ntmps100 rfl fun F => ?_
  (refine G tt_ok pk100 ?_; repeat (refine G1 tt_ok pk100 ?_; intro _))
  refine CW.loop (α := Nat) (fun k => k ≤ es.length) (fun k => [(8, .int .i64 k), (7, .int .i64 es.length), (6, .slice q1 es.length c1), (0, .func (.yield l) #[] #[]), (2, .pointer (some ⟨b1, 0, none⟩))])
    (fun k => [J ((allV first es).take k), pt b3 [.slice q1 es.length c1], pt b1 [.pointer (some ⟨b, 0, none⟩)], pt b [.int .i64 first, S], A1]) (fun k => es.length - k) 0 (by omega) ⟨rfl, rfl, rfl, rfl, rfl, trivial⟩ (Ent.refl _) ?_
  intro k hk
  (refine G tt_ok pk100 ?_; repeat (refine G1 tt_ok pk100 ?_; intro _))
  generalize e1 : decide ((k : Int) < (es.length : Int)) = c
  cases c
  · (refine G tt_ok pk100 ?_; repeat (refine G1 tt_ok pk100 ?_; intro _))
    refine CW.exit ?_
    have : k = es.length := by simp at e1; omega
    subst this
    refine fin_normal rfl (Ent.refl _) (.inl ?_)
    rw [List.take_of_length_le (by rw [allV_len]; omega)]
  · have hlt : k < es.length := by simp at e1; omega
    have hw : IntKind.i64.wrap ((k : Int) + 1) = ((k + 1 : Nat) : Int) := by rw [wrap_i64]; split <;> omega
    have hwf : IntKind.i64.wrap (first + (k : Int)) = first + k := by rw [wrap_i64]; split <;> omega
    obtain ⟨e, he⟩ : ∃ e, es[k]? = some e := ⟨_, List.getElem?_eq_getElem hlt⟩
    obtain ⟨bs, os, qs, cs, rfl, rfl, hcs⟩ := h1.2.resolve_left (by omega)
    have hat := allV_at (first := first) he
    have htk : (allV first es).take (k + 1) = (allV first es).take k ++ [(first + k, e)] := by rw [List.take_add_one, hat]; rfl
    (refine G tt_ok pk100 ?_; repeat (refine G1 tt_ok pk100 ?_; intro _))
    refine SQ.idx tt_ok rfl rfl k rfl hlt (o' := os + k * 7) rfl ?_
    refine SQ.loadq tt_ok rfl rfl 4 rfl (rd_enq hcs he) ?_
    (refine G tt_ok pk100 ?_; repeat (refine G1 tt_ok pk100 ?_; intro _))
    rw [hwf]
    (refine SQ.yield rfl rfl (hY ((allV first es).take k) (first + k, e) (take_pre hat)) [1, 1, 1, 1, 1] rfl ?_; rintro _ _ (⟨rfl, rfl⟩ | ⟨rfl, rfl⟩) <;> refine w_ ?_)
    · (refine G tt_ok pk100 ?_; repeat (refine G1 tt_ok pk100 ?_; intro _))
      refine ⟨k + 1, by omega, by omega, ⟨by rw [← hw]; rfl, rfl, rfl, rfl, rfl, trivial⟩, ?_⟩
      rw [htk]
      exact pk_
    · (refine G tt_ok pk100 ?_; repeat (refine G1 tt_ok pk100 ?_; intro _))
      exact CW.ret (fin_ret rfl pk_ (.inr ⟨_, rfl⟩))
-- part Gj>
theorem copy40 (β : Base) (b : Nat) (q0 : Option Addr) (c0 : Nat) (first : Int) (es : List En) (hn : es.length ≤ 16384) :
    Tri Tryz.prog β 60 [.pointer (some ⟨b, 0, none⟩)] (bkA b q0 c0 first es) (fun v L => ∃ b2 q1 c1, v = .pointer (some ⟨b2, 0, none⟩) ∧ L = bkA b2 q1 c1 first es ++ bkA b q0 c0 first es) := by
  refine Tri.intro tt_ok Tryz.func60 rfl rfl Tryz.ntmps60 rfl fun F => ?_
  (refine G tt_ok pk60 ?_; repeat (refine G1 tt_ok pk60 ?_; intro _))
  (refine ka rfl rfl (clone42 β q0 c0 es hn) ?_; rintro _ _ ⟨q1, c1, rfl, rfl⟩; refine w_ ?_)
  (refine G tt_ok pk60 ?_; repeat (refine G1 tt_ok pk60 ?_; intro _))
  rename_i b2
  refine CW.ret (fin_ret rfl (A := bkA b2 q1 c1 first es ++ bkA b q0 c0 first es) pk_ ?_)
  exact ⟨b2, q1, c1, rfl, rfl⟩
-- part Ft
/-- The lines of a bank. -/
def lsV (es : List En) : List Ln := es.map (·.1)
theorem lsV_len (es : List En) : (lsV es).length = es.length := by simp [lsV]
theorem lsV_set (es : List En) (k : Nat) (e : En) : lsV (es.set k e) = (lsV es).set k e.1 := by simp [lsV, List.map_set]
theorem field_bit6 {v : Nat} (hv : v < 2 ^ 64) {r c k : Int} (hr : r = 4 ∨ r = 6) : fieldV v r c k = 0 ∨ fieldV v r c k = 1 := by
  by_cases h : k < 0 ∨ k ≥ c ∨ k > 64
  · exact .inl (fieldV_out h)
  · rw [fieldV_nat (n := 1) hv (by rcases hr with rfl | rfl <;> rfl) (by omega) (by omega) (by omega) (by omega)]
    omega
theorem changed53' (β : Base) (id : Int) (l : Ln) (r x : Int) (hx : r = 6 → x = 0 ∨ x = 1) : Tri Tryz.prog β 126 [.int .i64 id, .agg #[.bool l.1.1, .bool l.1.2.1, .bool l.1.2.2.1, .bool l.1.2.2.2, .bool l.2.1, .int .i64 l.2.2.1, .int .i64 l.2.2.2], .int .i64 r, .int .u64 x] []
    (fun v L => v = .agg #[.bool (writtenV id l r x).1.1, .bool (writtenV id l r x).1.2.1, .bool (writtenV id l r x).1.2.2.1, .bool (writtenV id l r x).1.2.2.2, .bool (writtenV id l r x).2.1, .int .i64 (writtenV id l r x).2.2.1, .int .i64 (writtenV id l r x).2.2.2] ∧ L = []) :=
  changed53 β id _ _ _ _ _ _ _ r x hx
theorem wr1_out {first : Int} {es : List En} {r f c v : Int} {k : Nat} (h : atE first es (IntKind.i64.wrap (f + k)) = none) : wrK first es r f c v (k + 1) = wrK first es r f c v (k + 1) := rfl
theorem lineq (a b : Ln) : (a.1.1 == b.1.1 && (a.1.2.1 == b.1.2.1 && (a.1.2.2.1 == b.1.2.2.1 && (a.1.2.2.2 == b.1.2.2.2 && true))) && (a.2.1 == b.2.1 && (a.2.2.1 == b.2.2.1 && (a.2.2.2 == b.2.2.2 && true)))) = decide (a = b) := by
  obtain ⟨⟨a1, a2, a3, a4⟩, a5, a6, a7⟩ := a
  obtain ⟨⟨b1, b2, b3, b4⟩, b5, b6, b7⟩ := b
  rw [Bool.eq_iff_iff]
  simp [and_assoc]
set_option maxHeartbeats 8000000 in
/-- The document's write: it does to its lines what the program does to the bank. -/
theorem write34 (β : Base) (b : Nat) {first : Int} (q : Option Addr) (c : Nat) (S2 : Value) (es : List En) (hf0 : 0 ≤ first) (hf1 : first ≤ 16384) (hn : es.length ≤ 16384) (h2 : vcells S2 = [S2]) (hok : okL es) (r f cnt : Int) {v : Nat} (hv : v < 2 ^ 64) (hc : cnt ≤ 16384) :
    Tri Tryz.prog β 111 [.pointer (some ⟨b, 0, none⟩), .agg #[.int .i64 r, .int .i64 f, .int .i64 cnt], .int .u64 v] (rbA b first q c S2 (lsV es)) (fun u L => u = .int .i64 (wrK first es r f cnt v (cntV cnt)).2 ∧ L = rbA b first q c S2 (lsV (wrK first es r f cnt v (cntV cnt)).1)) := by
  refine Tri.intro tt_ok Tryz.func111 rfl rfl Tryz.ntmps111 rfl fun F => ?_
  unfold rbA
  rw [lsV_len, lsV_len, wrK_len]
  (refine G tt_ok pk111 ?_; repeat (refine G1 tt_ok pk111 ?_; intro _))
  rename_i b4
  refine CW.loop (α := Nat) (fun k => (k : Int) ≤ max cnt 0) (fun k => [(8, .int .i64 k), (7, .int .i64 ((wrK first es r f cnt v k).2 : Int)), (4, .pointer (some ⟨b4, 0, none⟩)), (0, .pointer (some ⟨b, 0, none⟩)), (2, .int .u64 v)])
    (fun k => [pt b4 [.int .i64 r, .int .i64 f, .int .i64 cnt], pt b [.int .i64 first, .slice q es.length c, S2], rowA q es.length ((lsV (wrK first es r f cnt v k).1).flatMap lnC)]) (fun k => cnt.toNat - k) 0 (by omega) ⟨rfl, rfl, rfl, rfl, rfl, trivial⟩ (Ent.refl _) ?_
  intro k hk
  (refine G tt_ok pk111 ?_; repeat (refine G1 tt_ok pk111 ?_; intro _))
  generalize e1 : decide ((k : Int) < cnt) = cc
  cases cc
  · (refine G tt_ok pk111 ?_; repeat (refine G1 tt_ok pk111 ?_; intro _))
    refine CW.exit ?_
    (refine G tt_ok pk111 ?_; repeat (refine G1 tt_ok pk111 ?_; intro _))
    have : k = cntV cnt := by unfold cntV; simp at e1; omega
    subst this
    exact CW.ret (fin_ret rfl pk_ ⟨rfl, rfl⟩)
  · simp only [decide_eq_true_eq] at e1
    have hw : IntKind.i64.wrap ((k : Int) + 1) = ((k + 1 : Nat) : Int) := by rw [wrap_i64]; split <;> omega
    have hcn := wrK_cnt first es r f cnt v k
    have hokk := wrK_ok (first := first) (r := r) (f := f) (c := cnt) (v := (v : Int)) hok k
    have hlen := wrK_len first es r f cnt v k
    have hstep : wrK first es r f cnt v (k + 1) = ((wr1 first (wrK first es r f cnt v k).1 r f cnt v k).1, (wrK first es r f cnt v k).2 + if (wr1 first (wrK first es r f cnt v k).1 r f cnt v k).2 then 1 else 0) := rfl
    rw [wr1_upd] at hstep
    generalize wrK first es r f cnt v k = z at hcn hokk hlen hstep ⊢
    obtain ⟨ek, m⟩ := z
    simp only at hcn hokk hlen hstep ⊢
    have hwm : IntKind.i64.wrap ((m : Int) + 1) = ((m + 1 : Nat) : Int) := by rw [wrap_i64]; split <;> omega
    (refine G tt_ok pk111 ?_; repeat (refine G1 tt_ok pk111 ?_; intro _))
    generalize hid : IntKind.i64.wrap (f + (k : Int)) = id at hstep ⊢
    refine ke rfl rfl (at37d β b id q c S2 hf0 hf1 hn h2) ?_
    (refine G tt_ok pk111 ?_; repeat (refine G1 tt_ok pk111 ?_; intro _))
    by_cases hin : first ≤ id ∧ id - first < es.length
    · have hat : atD first es.length id = id - first := by unfold atD; rw [if_pos hin]
      have hkl : (id - first).toNat < es.length := by omega
      obtain ⟨e, he⟩ : ∃ e, ek[(id - first).toNat]? = some e := ⟨_, List.getElem?_eq_getElem (by omega)⟩
      have hae : atE first ek id = some e := atE_iff.2 ⟨(id - first).toNat, by omega, he⟩
      have hl : (lsV ek)[(id - first).toNat]? = some e.1 := by simp [lsV, he]
      have hup := upd_line (id := id) (r := r) (x := fieldV v r cnt k) (okL_at hokk he) (fun h => field_bit6 hv (.inl h))
      rw [hae] at hstep
      simp only [hup.1, hup.2] at hstep
      have hls : lsV (wrK first es r f cnt v (k + 1)).1 = (lsV ek).set (id - first).toNat (writtenV id e.1 r (fieldV v r cnt k)) := by rw [hstep]; exact lsV_set _ _ _
      rw [hat, decide_eq_false (show ¬ id - first < 0 by omega)]
      refine CW.ent (L' := [rowA q es.length ((lsV ek).flatMap lnC), pt b [.int .i64 first, .slice q es.length c, S2], pt b4 [.int .i64 r, .int .i64 f, .int .i64 cnt]]) pk_ ?_
      refine CW.ent (Ent.append (L := [_]) (Ent.trans (row_open (show 0 < es.length by omega)) (Ent.refl _)) (Ent.refl _)) ?_
      refine CW.open_ fun y => ?_
      obtain ⟨g, rest⟩ := y
      refine CW.pure_ fun hv => ?_
      simp only at hv
      subst hv
      (refine G tt_ok pk111 ?_; repeat (refine G1 tt_ok pk111 ?_; intro _))
      rw [hid]
      refine SQ.idx tt_ok rfl rfl (id - first).toNat (by omega) hkl (o' := 0 + (id - first).toNat * 7) rfl ?_
      refine SQ.load tt_ok rfl rfl 0 rfl (rd_ln hl rest) ?_
      (refine G tt_ok pk111 ?_; repeat (refine G1 tt_ok pk111 ?_; intro _))
      (refine SQ.callA rfl rfl (field54 β hv r f cnt k) (by repeat (first | exact .n | exact Rm.h | exact Rm.of own_row | exact Rm.of row_close0 | apply Tk.c | apply Rm.t)) ?_; rintro _ _ ⟨rfl, rfl⟩; refine ⟨(by repeat (first | exact trivial | refine ⟨trivial, ?_⟩ | refine ⟨wk .h (rd_ln hl rest), ?_⟩ | refine ⟨wk (by repeat (first | exact .h | exact .q | apply At.t)) (by rfl), ?_⟩)), ?_⟩)
      (refine G tt_ok pk111 ?_; repeat (refine G1 tt_ok pk111 ?_; intro _))
      (refine SQ.callA rfl rfl (changed53' β id e.1 r (fieldV v r cnt k) (fun h => field_bit6 hv (.inr h))) (by repeat (first | exact .n | exact Rm.h | exact Rm.of own_row | exact Rm.of row_close0 | apply Tk.c | apply Rm.t)) ?_; rintro _ _ ⟨rfl, rfl⟩; refine ⟨(by repeat (first | exact trivial | refine ⟨trivial, ?_⟩ | refine ⟨wk .h (rd_ln hl rest), ?_⟩ | refine ⟨wk (by repeat (first | exact .h | exact .q | apply At.t)) (by rfl), ?_⟩)), ?_⟩)
      generalize writtenV id e.1 r (fieldV v r cnt k) = l' at hstep hls ⊢
      (refine G tt_ok pk111 ?_; repeat (refine G1 tt_ok pk111 ?_; intro _))
      refine SQ.idx tt_ok rfl rfl (id - first).toNat (by omega) hkl (o' := 0 + (id - first).toNat * 7) rfl ?_
      refine SQ.load tt_ok rfl rfl 1 rfl (rd_ln hl rest) ?_
      by_cases hne : l' = e.1
      · refine SQ.eqn tt_ok [53, 35] ⟨by kernel_rfl, by kernel_rfl, trivial⟩ rfl rfl (by kernel_rfl) false (by simp [hne]) ?_
        (refine G tt_ok pk111 ?_; repeat (refine G1 tt_ok pk111 ?_; intro _))
        refine SQ.idx tt_ok rfl rfl (id - first).toNat (by omega) hkl (o' := 0 + (id - first).toNat * 7) rfl ?_
        refine SQ.store tt_ok rfl rfl 1 rfl rfl (wr_ln hl l' rest) rfl (by repeat (first | exact trivial | refine ⟨trivial, ?_⟩ | refine ⟨wk (by repeat (first | exact .h | exact .q | apply At.t)) (by rfl), ?_⟩)) ?_
        (refine G tt_ok pk111 ?_; repeat (refine G1 tt_ok pk111 ?_; intro _))
        refine ⟨k + 1, by omega, by omega, ⟨by rw [← hw]; rfl, by rw [hstep]; simp [hne]; rfl, rfl, rfl, rfl, trivial⟩, ?_⟩
        rw [hls]
        exact Ent.trans (Ent.sel (is := [1, 1, 1]) rfl) (Ent.trans (Ent.append (L := [_]) row_close (Ent.refl _)) (Ent.sel (is := [2, 1, 0]) rfl))
      · refine SQ.eqn tt_ok [53, 35] ⟨by kernel_rfl, by kernel_rfl, trivial⟩ rfl rfl (by kernel_rfl) true (by
          apply Decidable.byContradiction
          intro hc
          apply hne
          simp at hc
          obtain ⟨⟨a1, a2, a3, a4⟩, a5, a6, a7⟩ := l'
          obtain ⟨⟨⟨b1, b2, b3, b4⟩, b5, b6, b7⟩, b8⟩ := e
          simp_all) ?_
        (refine G tt_ok pk111 ?_; repeat (refine G1 tt_ok pk111 ?_; intro _))
        rw [hwm]
        refine SQ.idx tt_ok rfl rfl (id - first).toNat (by omega) hkl (o' := 0 + (id - first).toNat * 7) rfl ?_
        refine SQ.store tt_ok rfl rfl 1 rfl rfl (wr_ln hl l' rest) rfl (by repeat (first | exact trivial | refine ⟨trivial, ?_⟩ | refine ⟨wk (by repeat (first | exact .h | exact .q | apply At.t)) (by rfl), ?_⟩)) ?_
        (refine G tt_ok pk111 ?_; repeat (refine G1 tt_ok pk111 ?_; intro _))
        refine ⟨k + 1, by omega, by omega, ⟨by rw [← hw]; rfl, by rw [hstep]; simp [hne]; rfl, rfl, rfl, rfl, trivial⟩, ?_⟩
        rw [hls]
        exact Ent.trans (Ent.sel (is := [1, 1, 1]) rfl) (Ent.trans (Ent.append (L := [_]) row_close (Ent.refl _)) (Ent.sel (is := [2, 1, 0]) rfl))
    · have hat : atD first es.length id = -1 := by unfold atD; rw [if_neg hin]
      have hae : atE first ek id = none := by
        cases h : atE first ek id with
        | none => rfl
        | some e =>
          obtain ⟨i, hi, he⟩ := atE_iff.1 h
          have := (List.getElem?_eq_some_iff.1 he).1
          omega
      rw [hae] at hstep
      rw [hat]
      (refine G tt_ok pk111 ?_; repeat (refine G1 tt_ok pk111 ?_; intro _))
      refine CW.exit ?_
      (refine G tt_ok pk111 ?_; repeat (refine G1 tt_ok pk111 ?_; intro _))
      refine ⟨k + 1, by omega, by omega, ⟨by rw [← hw]; rfl, by rw [hstep]; rfl, rfl, rfl, rfl, trivial⟩, ?_⟩
      rw [hstep]
      exact pk_
-- part Fu
theorem doD_lsV (first : Int) (es : List En) (id x : Int) : doD first (lsV es) id x = (lsV (doV first es id x).1, (doV first es id x).2) := by
  unfold doD doV
  rw [lsV_len]
  by_cases hin : first ≤ id ∧ id - first < es.length
  · obtain ⟨e, he⟩ : ∃ e, es[(id - first).toNat]? = some e := ⟨_, List.getElem?_eq_getElem (by omega)⟩
    have hae : atE first es id = some e := atE_iff.2 ⟨(id - first).toNat, by omega, he⟩
    have hl : (lsV es)[(id - first).toNat]? = some e.1 := by simp [lsV, he]
    rw [if_pos hin, hl, hae]
    simp only [lsV_set]
  · have hae : atE first es id = none := by
      cases h : atE first es id with
      | none => rfl
      | some e =>
        obtain ⟨i, hi, he⟩ := atE_iff.1 h
        have := (List.getElem?_eq_some_iff.1 he).1
        omega
    rw [if_neg hin, hae]
-- part Gf>
set_option maxHeartbeats 4000000 in
/-- The document's reading: of a bank's lines, what the program reads of the bank. -/
theorem read19 (β : Base) (b : Nat) {first : Int} (q : Option Addr) (c : Nat) (S2 : Value) (es : List En) (hf0 : 0 ≤ first) (hf1 : first ≤ 16384) (hn : es.length ≤ 16384) (h2 : vcells S2 = [S2]) (r f cnt : Int) (hc : cnt ≤ 16384) :
    Tri Tryz.prog β 92 [.pointer (some ⟨b, 0, none⟩), .agg #[.int .i64 r, .int .i64 f, .int .i64 cnt]] (rbA b first q c S2 (lsV es)) (fun u L => u = .int .u64 (rdK first es r f cnt (cntV cnt)) ∧ L = rbA b first q c S2 (lsV es)) := by
  refine Tri.intro tt_ok Tryz.func92 rfl rfl Tryz.ntmps92 rfl fun F => ?_
  obtain ⟨n, hn1, hn63, hb⟩ := bits_n r
  unfold rbA
  rw [lsV_len]
  (refine G tt_ok pk92 ?_; repeat (refine G1 tt_ok pk92 ?_; intro _))
  rename_i b3
  refine CW.loop (α := Nat) (fun k => (k : Int) ≤ max cnt 0) (fun k => [(6, .int .i64 k), (5, .int .u64 (rdK first es r f cnt k)), (3, .pointer (some ⟨b3, 0, none⟩)), (0, .pointer (some ⟨b, 0, none⟩))])
    (fun k => [pt b3 [.int .i64 r, .int .i64 f, .int .i64 cnt], pt b [.int .i64 first, .slice q es.length c, S2], rowA q es.length ((lsV es).flatMap lnC)]) (fun k => cnt.toNat - k) 0 (by omega) ⟨rfl, rfl, rfl, rfl, trivial⟩ (Ent.refl _) ?_
  intro k hk
  (refine G tt_ok pk92 ?_; repeat (refine G1 tt_ok pk92 ?_; intro _))
  generalize e1 : decide ((k : Int) < cnt) = cc
  cases cc
  · (refine G tt_ok pk92 ?_; repeat (refine G1 tt_ok pk92 ?_; intro _))
    refine CW.exit ?_
    (refine G tt_ok pk92 ?_; repeat (refine G1 tt_ok pk92 ?_; intro _))
    have : k = cntV cnt := by unfold cntV; simp at e1; omega
    subst this
    exact CW.ret (fin_ret rfl pk_ ⟨rfl, rfl⟩)
  · simp only [decide_eq_true_eq] at e1
    have hw : IntKind.i64.wrap ((k : Int) + 1) = ((k + 1 : Nat) : Int) := by rw [wrap_i64]; split <;> omega
    obtain ⟨w, hw1, hw2, _⟩ := rdK_bit first es (r := r) (f := f) (c := cnt) hb hn1 hn63 k (by omega)
    (refine G tt_ok pk92 ?_; repeat (refine G1 tt_ok pk92 ?_; intro _))
    generalize hid : IntKind.i64.wrap (f + (k : Int)) = id
    refine ke rfl rfl (at37d β b id q c S2 hf0 hf1 hn h2) ?_
    (refine G tt_ok pk92 ?_; repeat (refine G1 tt_ok pk92 ?_; intro _))
    by_cases hin : first ≤ id ∧ id - first < es.length
    · have hat : atD first es.length id = id - first := by unfold atD; rw [if_pos hin]
      have hkl : (id - first).toNat < es.length := by omega
      obtain ⟨e, he⟩ : ∃ e, es[(id - first).toNat]? = some e := ⟨_, List.getElem?_eq_getElem (by omega)⟩
      have hae : atE first es (IntKind.i64.wrap (f + (k : Int))) = some e := by rw [hid]; exact atE_iff.2 ⟨(id - first).toNat, by omega, he⟩
      have hl : (lsV es)[(id - first).toNat]? = some e.1 := by simp [lsV, he]
      obtain ⟨s, hs1, hs2⟩ := shows_nat e.1 r
      have hnx := rdK_some (r := r) (f := f) (c := cnt) hae
      rw [hw2, hs2] at hnx
      rw [hat, decide_eq_true (show id - first ≥ 0 by omega), hw2]
      refine CW.ent (L' := [rowA q es.length ((lsV es).flatMap lnC), pt b [.int .i64 first, .slice q es.length c, S2], pt b3 [.int .i64 r, .int .i64 f, .int .i64 cnt]]) pk_ ?_
      refine CW.ent (Ent.append (L := [_]) (Ent.trans (row_open (show 0 < es.length by omega)) (Ent.refl _)) (Ent.refl _)) ?_
      refine CW.open_ fun y => ?_
      obtain ⟨g, rest⟩ := y
      refine CW.pure_ fun hv => ?_
      simp only at hv
      subst hv
      (refine G tt_ok pk92 ?_; repeat (refine G1 tt_ok pk92 ?_; intro _))
      refine SQ.idx tt_ok rfl rfl (id - first).toNat (by omega) hkl (o' := 0 + (id - first).toNat * 7) rfl ?_
      refine SQ.load tt_ok rfl rfl 0 rfl (rd_ln hl rest) ?_
      (refine G tt_ok pk92 ?_; repeat (refine G1 tt_ok pk92 ?_; intro _))
      (refine SQ.callA rfl rfl (shows39' β e.1 r) (by repeat (first | exact .n | exact Rm.h | exact Rm.of own_row | exact Rm.of row_close0 | apply Tk.c | apply Rm.t)) ?_; rintro _ _ ⟨rfl, rfl⟩; refine ⟨(by repeat (first | exact trivial | refine ⟨trivial, ?_⟩ | refine ⟨wk .h (rd_ln hl rest), ?_⟩ | refine ⟨wk (by repeat (first | exact .h | exact .q | apply At.t)) (by rfl), ?_⟩)), ?_⟩)
      rw [hs2]
      (refine G tt_ok pk92 ?_; repeat (refine G1 tt_ok pk92 ?_; intro _))
      (refine SQ.callA rfl rfl (with38 β hw1 hs1 r f cnt k) (by repeat (first | exact .n | exact Rm.h | exact Rm.of own_row | exact Rm.of row_close0 | apply Tk.c | apply Rm.t)) ?_; rintro _ _ ⟨rfl, rfl⟩; refine ⟨(by repeat (first | exact trivial | refine ⟨trivial, ?_⟩ | refine ⟨wk .h (rd_ln hl rest), ?_⟩ | refine ⟨wk (by repeat (first | exact .h | exact .q | apply At.t)) (by rfl), ?_⟩)), ?_⟩)
      (refine G tt_ok pk92 ?_; repeat (refine G1 tt_ok pk92 ?_; intro _))
      refine ⟨k + 1, by omega, by omega, ⟨by rw [← hw]; rfl, by rw [hnx]; rfl, rfl, rfl, trivial⟩, ?_⟩
      exact Ent.trans (L := [_, _, _]) (M := [pt g ((lsV es).flatMap lnC ++ rest), pt b [.int .i64 first, .slice (some ⟨g, 0, none⟩) es.length c, S2], pt b3 [.int .i64 r, .int .i64 f, .int .i64 cnt]]) pk_ (Ent.trans (Ent.append (L := [_]) row_close (Ent.refl _)) (Ent.sel (is := [2, 1, 0]) rfl))
    · have hat : atD first es.length id = -1 := by unfold atD; rw [if_neg hin]
      have hae : atE first es (IntKind.i64.wrap (f + (k : Int))) = none := by
        rw [hid]
        cases h : atE first es id with
        | none => rfl
        | some e =>
          obtain ⟨i, hi, he⟩ := atE_iff.1 h
          have := (List.getElem?_eq_some_iff.1 he).1
          omega
      rw [hat]
      (refine G tt_ok pk92 ?_; repeat (refine G1 tt_ok pk92 ?_; intro _))
      refine ⟨k + 1, by omega, by omega, ⟨by rw [← hw]; rfl, by rw [rdK_none hae]; rfl, rfl, rfl, trivial⟩, ?_⟩
      exact pk_
end Go.Proofs.YtjphlcfplcacnaaGreat.Sl.Bn
namespace Go.Proofs.YtjphlcfplcacnaaGreat.Sl.Bn
open Go Go.RowKit Go.Proofs
set_option linter.unusedVariables false
set_option linter.unusedSimpArgs false
attribute [local irreducible] CW Tri OW
set_option maxRecDepth 10000
theorem made_flat_of {α : Type} {enc : α → List Value} {a : α} (z : Array Value) (hz : enc a = z.toList) (hp : 0 < z.size) : ∀ n, (madeCells z (n * z.size)).toList = (List.replicate n a).flatMap enc
  | 0 => by simp [madeCells]
  | n + 1 => by
    have ih := made_flat_of z hz hp n
    rw [List.replicate_succ', List.flatMap_append, ← ih]
    simp only [madeCells, Array.toList_map, Array.toList_range, List.flatMap_cons, List.flatMap_nil, List.append_nil]
    rw [Nat.add_mul, Nat.one_mul, List.range_add, List.map_append, hz]
    congr 1
    apply List.ext_getElem?
    intro i
    rw [List.map_map]
    by_cases hi : i < z.size
    · simp [hi, Nat.mod_eq_of_lt hi, getElem!_pos]
    · simp [hi]
theorem made_flat (n : Nat) : (madeCells ti115.zero.cells (n * ti115.size)).toList = (List.replicate n zeroE).flatMap enC :=
  made_flat_of (enc := enC) (a := zeroE) ti115.zero.cells rfl (by decide) n
/-- A new bank's interrupts, some of them with what they have besides. -/
def newK (tx : Unit) (n k : Nat) : List En := List.replicate k (zeroE.1, tx) ++ List.replicate (n - k) zeroE
theorem newK_at {tx : Unit} {n k : Nat} (h : k < n) : (newK tx n k)[k]? = some zeroE := by
  obtain ⟨m, hm⟩ : ∃ m, n - k = m + 1 := ⟨n - k - 1, by omega⟩
  unfold newK
  rw [List.getElem?_append_right (by simp), List.length_replicate, Nat.sub_self, hm]
  rfl
theorem newK_set {tx : Unit} {n k : Nat} (h : k < n) : (newK tx n k).set k (zeroE.1, tx) = newK tx n (k + 1) := by
  unfold newK
  obtain ⟨m, hm⟩ : ∃ m, n - k = m + 1 := ⟨n - k - 1, by omega⟩
  rw [hm, show n - (k + 1) = m from by omega, List.set_append_right _ _ (by simp), List.length_replicate, Nat.sub_self, List.replicate_succ (n := m), List.set_cons_zero, List.replicate_succ' (n := k), List.append_assoc]
  rfl
set_option maxHeartbeats 2000000 in
theorem bankNew (β : Base) {first n : Int} (h0 : 0 ≤ first) (h1 : 0 ≤ n) (h2 : first + n ≤ 16384) (tx : Unit) :
    Tri Tryz.prog β 37 [.int .i64 first, .int .i64 n, (.agg #[])] [] (fun v L => ∃ b q0 c0, v = .tuple #[.pointer (some ⟨b, 0, none⟩), .int .i64 0] ∧ L = bkA b q0 c0 first (List.replicate n.toNat (zeroE.1, tx))) := by
  obtain ⟨m, rfl⟩ : ∃ m : Nat, n = (m : Int) := ⟨n.toNat, by omega⟩
  have hw0 : IntKind.i64.wrap (16384 - first) = 16384 - first := by rw [wrap_i64]; split <;> omega
  refine Tri.intro tt_ok Tryz.func37 rfl rfl Tryz.ntmps37 rfl fun F => ?_
  (refine G tt_ok [] ?_; repeat (refine G1 tt_ok [] ?_; intro _))
  rw [decide_eq_false (show ¬ first < 0 by omega)]
  (refine G tt_ok [] ?_; repeat (refine G1 tt_ok [] ?_; intro _))
  rw [decide_eq_false (show ¬ (m : Int) < 0 by omega)]
  (refine G tt_ok [] ?_; repeat (refine G1 tt_ok [] ?_; intro _))
  rw [decide_eq_false (show ¬ first > 16384 by omega)]
  (refine G tt_ok [] ?_; repeat (refine G1 tt_ok [] ?_; intro _))
  rw [hw0, decide_eq_false (show ¬ (m : Int) > 16384 - first by omega)]
  (refine G tt_ok [] ?_; repeat (refine G1 tt_ok [] ?_; intro _))
  refine SQ.makeT tt_ok rfl rfl rfl m rfl rfl (show m * 7 ≤ 16777216 by omega) (show 32 * m ≤ 281474976710656 by omega) (by omega) (fun eb => ⟨(by repeat (first | exact trivial | refine ⟨trivial, ?_⟩ | refine ⟨wk (by repeat (first | exact .h | exact .q | apply At.t)) (by rfl), ?_⟩)), ?_⟩)
  rw [made_flat]
  (refine G tt_ok [] ?_; repeat (refine G1 tt_ok [] ?_; intro _))
  rename_i b5 b
  refine CW.loop (α := Nat) (fun k => k ≤ m) (fun k => [(36, .int .i64 k), (35, .int .i64 m), (8, .pointer (some ⟨b, 0, none⟩)), (5, .pointer (some ⟨b5, 0, none⟩))])
    (fun k => [pt b [.int .i64 first, .slice (some ⟨eb, 0, none⟩) m m], ptT 115 eb ((List.replicate m zeroE).flatMap enC), pt b5 []]) (fun k => m - k) 0 (by omega) ⟨rfl, rfl, rfl, rfl, trivial⟩ pk_ ?_
  intro k hk
  (refine G tt_ok [] ?_; repeat (refine G1 tt_ok [] ?_; intro _))
  generalize e1 : decide ((k : Int) < (m : Int)) = cc
  cases cc
  · have : k = m := by simp at e1; omega
    subst this
    (refine G tt_ok [] ?_; repeat (refine G1 tt_ok [] ?_; intro _))
    refine CW.exit ?_
    (refine G tt_ok [] ?_; repeat (refine G1 tt_ok [] ?_; intro _))
    refine CW.ret (fin_ret rfl (Ent.trans (M := [pt b [.int .i64 first, .slice (some ⟨eb, 0, none⟩) k k], ptT 115 eb ((List.replicate k zeroE).flatMap enC)]) pk_ (Ent.cons _ (ptT_pt.trans (row_close0 (n := k))))) ?_)
    refine ⟨b, some ⟨eb, 0, none⟩, k, rfl, ?_⟩
    have : (zeroE.1, tx) = zeroE := rfl
    simp [bkA, this]
  · have hlt : k < m := by simp at e1; omega
    have hw : IntKind.i64.wrap ((k : Int) + 1) = ((k + 1 : Nat) : Int) := by rw [wrap_i64]; split <;> omega
    (refine G tt_ok [] ?_; repeat (refine G1 tt_ok [] ?_; intro _))
    refine CW.regionD tt_ok (by kernel_rfl) [(0, 0, []), (1, 0, []), (2, 0, []), (3, 0, []), (4, 0, []), (5, 0, []), (6, 0, []), (7, 1, [5]), (8, 1, [])] (by decide +kernel) ?_
    (refine G tt_ok [] ?_; repeat (refine G1 tt_ok [] ?_; intro _))
    refine SQ.idx tt_ok rfl rfl k rfl hlt (o' := 0 + k * 7) rfl ?_
    refine SQ.field0 rfl rfl 1 rfl Tryz.underlying115 rfl (fun w => (tt_ok.get (t := 92) rfl).run_sizeOf w) (q := 6) (x := 0) (y := 0) (by kernel_rfl) (by rw [show (0 + k * 7) % (6 + 1) = 0 by omega]; kernel_rfl) (by show byteOfCell Tryz.prog Tryz.prog.depth 115 ((0 + k * 7 + 7) % (6 + 1)) = some 0; rw [show (0 + k * 7 + 7) % (6 + 1) = 0 by omega]; kernel_rfl) (fun a => ⟨by repeat (first | exact trivial | refine ⟨trivial, ?_⟩ | refine ⟨wk (by repeat (first | exact .h | exact .q | apply At.t)) (by rfl), ?_⟩), ?_⟩)
    refine SQ.st0 tt_ok rfl rfl ⟨by repeat (first | exact trivial | refine ⟨trivial, ?_⟩ | refine ⟨wk (by repeat (first | exact .h | exact .q | apply At.t)) (by rfl), ?_⟩), ?_⟩
    (refine G tt_ok [] ?_; repeat (refine G1 tt_ok [] ?_; intro _))
    exact ⟨k + 1, by omega, by omega, ⟨by rw [← hw]; rfl, rfl, rfl, rfl, trivial⟩, pk_⟩
end Go.Proofs.YtjphlcfplcacnaaGreat.Sl.Bn
