import Derived.Test.YtmaheecbohbilaaL4
import Derived.Test.YtmaheecbohbilaaProg
namespace Go.Proofs.Ytmaheecbohbilaa.Sl
open Go Go.RowKit Go.Proofs
set_option linter.unusedVariables false
/-- The types that the texts of this seat ask. -/
def ti2 : TI := { desc := .int .i64, size := 1, bytes := 8, zero := .int .i64 0, places := [] }
def ti3 : TI := { desc := .int .i64, size := 1, bytes := 8, zero := .int .i64 0, places := [] }
def ti4 : TI := { desc := .bool, size := 1, bytes := 1, zero := .bool false, places := [] }
def ti5 : TI := { desc := .int .u8, size := 1, bytes := 1, zero := .int .u8 0, places := [] }
def ti9 : TI := { desc := .string, size := 1, bytes := 16, zero := .string ByteArray.empty, places := [] }
def ti21 : TI := { desc := .int .i32, size := 1, bytes := 4, zero := .int .i32 0, places := [] }
def ti22 : TI := { desc := .slice 46, size := 1, bytes := 24, zero := .slice none 0 0, places := [] }
def ti23 : TI := { desc := .int .u32, size := 1, bytes := 4, zero := .int .u32 0, places := [] }
def ti25 : TI := { desc := .pointer 69, size := 1, bytes := 8, zero := .pointer none, places := [] }
def ti27 : TI := { desc := .int .i64, size := 1, bytes := 8, zero := .int .i64 0, places := [] }
def ti29 : TI := { desc := .struct #[{ name := "Reg", type := 27, offset := 0, embedded := false, tag := "", pkgPath := "", byteOffset := 0 }, { name := "First", type := 3, offset := 1, embedded := false, tag := "", pkgPath := "", byteOffset := 8 }, { name := "Count", type := 3, offset := 2, embedded := false, tag := "", pkgPath := "", byteOffset := 16 }], size := 3, bytes := 24, zero := .agg #[.int .i64 0, .int .i64 0, .int .i64 0], places := [(0, 1), (1, 1), (2, 1)] }
def ti30 : TI := { desc := .int .u64, size := 1, bytes := 8, zero := .int .u64 0, places := [] }
def ti36 : TI := { desc := .struct #[{ name := "Edge", type := 4, offset := 0, embedded := false, tag := "", pkgPath := "", byteOffset := 0 }, { name := "Line", type := 4, offset := 1, embedded := false, tag := "", pkgPath := "", byteOffset := 1 }, { name := "Latch", type := 4, offset := 2, embedded := false, tag := "", pkgPath := "", byteOffset := 2 }, { name := "Active", type := 4, offset := 3, embedded := false, tag := "", pkgPath := "", byteOffset := 3 }], size := 4, bytes := 4, zero := .agg #[.bool false, .bool false, .bool false, .bool false], places := [(0, 1), (1, 1), (2, 1), (3, 1)] }
def ti38 : TI := { desc := .struct #[{ name := "Irq", type := 36, offset := 0, embedded := true, tag := "", pkgPath := "", byteOffset := 0 }, { name := "Enabled", type := 4, offset := 4, embedded := false, tag := "", pkgPath := "", byteOffset := 4 }, { name := "Group", type := 3, offset := 5, embedded := false, tag := "", pkgPath := "", byteOffset := 8 }, { name := "Priority", type := 3, offset := 6, embedded := false, tag := "", pkgPath := "", byteOffset := 16 }], size := 7, bytes := 24, zero := .agg #[.bool false, .bool false, .bool false, .bool false, .bool false, .int .i64 0, .int .i64 0], places := [(0, 4), (4, 1), (5, 1), (6, 1)] }
def ti40 : TI := { desc := .struct #[{ name := "Line", type := 38, offset := 0, embedded := true, tag := "", pkgPath := "", byteOffset := 0 }, { name := "Extra", type := 9, offset := 7, embedded := false, tag := "", pkgPath := "", byteOffset := 24 }], size := 8, bytes := 40, zero := .agg #[.bool false, .bool false, .bool false, .bool false, .bool false, .int .i64 0, .int .i64 0, .string ByteArray.empty], places := [(0, 7), (7, 1)] }
def ti41 : TI := { desc := .int .i64, size := 1, bytes := 8, zero := .int .i64 0, places := [] }
def ti44 : TI := { desc := .int .i64, size := 1, bytes := 8, zero := .int .i64 0, places := [] }
def ti46 : TI := { desc := .struct #[{ name := "Do", type := 3, offset := 0, embedded := false, tag := "", pkgPath := "", byteOffset := 0 }, { name := "Off", type := 3, offset := 1, embedded := false, tag := "", pkgPath := "", byteOffset := 8 }, { name := "ID", type := 3, offset := 2, embedded := false, tag := "", pkgPath := "", byteOffset := 16 }, { name := "V", type := 30, offset := 3, embedded := false, tag := "", pkgPath := "", byteOffset := 24 }, { name := "A", type := 44, offset := 4, embedded := false, tag := "", pkgPath := "", byteOffset := 32 }], size := 5, bytes := 40, zero := .agg #[.int .i64 0, .int .i64 0, .int .i64 0, .int .u64 0, .int .i64 0], places := [(0, 1), (1, 1), (2, 1), (3, 1), (4, 1)] }
def ti51 : TI := { desc := .pointer 88, size := 1, bytes := 8, zero := .pointer none, places := [] }
def ti56 : TI := { desc := .slice 3, size := 1, bytes := 24, zero := .slice none 0 0, places := [] }
def ti61 : TI := { desc := .func #[92] #[] false, size := 1, bytes := 8, zero := .nilFunc, places := [] }
def ti67 : TI := { desc := .slice 40, size := 1, bytes := 24, zero := .slice none 0 0, places := [] }
def ti69 : TI := { desc := .struct #[{ name := "first", type := 3, offset := 0, embedded := false, tag := "", pkgPath := "crier/bank", byteOffset := 0 }, { name := "entries", type := 67, offset := 1, embedded := false, tag := "", pkgPath := "crier/bank", byteOffset := 8 }], size := 2, bytes := 32, zero := .agg #[.int .i64 0, .slice none 0 0], places := [(0, 1), (1, 1)] }
def ti71 : TI := { desc := .func #[31] #[] false, size := 1, bytes := 8, zero := .nilFunc, places := [] }
def ti79 : TI := { desc := .slice 100, size := 1, bytes := 24, zero := .slice none 0 0, places := [] }
def ti85 : TI := { desc := .slice 38, size := 1, bytes := 24, zero := .slice none 0 0, places := [] }
def ti86 : TI := { desc := .slice 9, size := 1, bytes := 24, zero := .slice none 0 0, places := [] }
def ti88 : TI := { desc := .struct #[{ name := "First", type := 3, offset := 0, embedded := false, tag := "", pkgPath := "", byteOffset := 0 }, { name := "Lines", type := 85, offset := 1, embedded := false, tag := "", pkgPath := "", byteOffset := 8 }, { name := "Extras", type := 86, offset := 2, embedded := false, tag := "", pkgPath := "", byteOffset := 32 }], size := 3, bytes := 56, zero := .agg #[.int .i64 0, .slice none 0 0, .slice none 0 0], places := [(0, 1), (1, 1), (2, 1)] }
def ti92 : TI := { desc := .func #[3, 40] #[4] false, size := 1, bytes := 8, zero := .nilFunc, places := [] }
def ti100 : TI := { desc := .struct #[{ name := "from", type := 3, offset := 0, embedded := false, tag := "", pkgPath := "crier/crierref10", byteOffset := 0 }, { name := "to", type := 3, offset := 1, embedded := false, tag := "", pkgPath := "crier/crierref10", byteOffset := 8 }, { name := "width", type := 3, offset := 2, embedded := false, tag := "", pkgPath := "crier/crierref10", byteOffset := 16 }, { name := "reg", type := 27, offset := 3, embedded := false, tag := "", pkgPath := "crier/crierref10", byteOffset := 24 }, { name := "first", type := 3, offset := 4, embedded := false, tag := "", pkgPath := "crier/crierref10", byteOffset := 32 }, { name := "of", type := 3, offset := 5, embedded := false, tag := "", pkgPath := "crier/crierref10", byteOffset := 40 }, { name := "per", type := 3, offset := 6, embedded := false, tag := "", pkgPath := "crier/crierref10", byteOffset := 48 }], size := 7, bytes := 56, zero := .agg #[.int .i64 0, .int .i64 0, .int .i64 0, .int .i64 0, .int .i64 0, .int .i64 0, .int .i64 0], places := [(0, 1), (1, 1), (2, 1), (3, 1), (4, 1), (5, 1), (6, 1)] }
def ti105 : TI := { desc := .slice 27, size := 1, bytes := 24, zero := .slice none 0 0, places := [] }
def tt : TT := [(2, ti2), (3, ti3), (4, ti4), (5, ti5), (9, ti9), (21, ti21), (22, ti22), (23, ti23), (25, ti25), (27, ti27), (29, ti29), (30, ti30), (36, ti36), (38, ti38), (40, ti40), (41, ti41), (44, ti44), (46, ti46), (51, ti51), (56, ti56), (61, ti61), (67, ti67), (69, ti69), (71, ti71), (79, ti79), (85, ti85), (86, ti86), (88, ti88), (92, ti92), (100, ti100), (105, ti105)]
theorem ti2_ok : TIok Try.prog 2 ti2 := ⟨⟨by kernel_rfl, by kernel_rfl⟩, by kernel_rfl⟩
theorem ti3_ok : TIok Try.prog 3 ti3 := ⟨⟨by kernel_rfl, by kernel_rfl⟩, by kernel_rfl⟩
theorem ti4_ok : TIok Try.prog 4 ti4 := ⟨⟨by kernel_rfl, by kernel_rfl⟩, by kernel_rfl⟩
theorem ti5_ok : TIok Try.prog 5 ti5 := ⟨⟨by kernel_rfl, by kernel_rfl⟩, by kernel_rfl⟩
theorem ti9_ok : TIok Try.prog 9 ti9 := ⟨⟨by kernel_rfl, by kernel_rfl⟩, by kernel_rfl⟩
theorem ti21_ok : TIok Try.prog 21 ti21 := ⟨⟨by kernel_rfl, by kernel_rfl⟩, by kernel_rfl⟩
theorem ti22_ok : TIok Try.prog 22 ti22 := ⟨⟨by kernel_rfl, by kernel_rfl⟩, by kernel_rfl⟩
theorem ti23_ok : TIok Try.prog 23 ti23 := ⟨⟨by kernel_rfl, by kernel_rfl⟩, by kernel_rfl⟩
theorem ti25_ok : TIok Try.prog 25 ti25 := ⟨⟨by kernel_rfl, by kernel_rfl⟩, by kernel_rfl⟩
theorem ti27_ok : TIok Try.prog 27 ti27 := ⟨⟨by kernel_rfl, by kernel_rfl⟩, by kernel_rfl⟩
theorem ti29_ok : TIok Try.prog 29 ti29 := ⟨⟨by kernel_rfl, by kernel_rfl⟩, by kernel_rfl⟩
theorem ti30_ok : TIok Try.prog 30 ti30 := ⟨⟨by kernel_rfl, by kernel_rfl⟩, by kernel_rfl⟩
theorem ti36_ok : TIok Try.prog 36 ti36 := ⟨⟨by kernel_rfl, by kernel_rfl⟩, by kernel_rfl⟩
theorem ti38_ok : TIok Try.prog 38 ti38 := ⟨⟨by kernel_rfl, by kernel_rfl⟩, by kernel_rfl⟩
theorem ti40_ok : TIok Try.prog 40 ti40 := ⟨⟨by kernel_rfl, by kernel_rfl⟩, by kernel_rfl⟩
theorem ti41_ok : TIok Try.prog 41 ti41 := ⟨⟨by kernel_rfl, by kernel_rfl⟩, by kernel_rfl⟩
theorem ti44_ok : TIok Try.prog 44 ti44 := ⟨⟨by kernel_rfl, by kernel_rfl⟩, by kernel_rfl⟩
theorem ti46_ok : TIok Try.prog 46 ti46 := ⟨⟨by kernel_rfl, by kernel_rfl⟩, by kernel_rfl⟩
theorem ti51_ok : TIok Try.prog 51 ti51 := ⟨⟨by kernel_rfl, by kernel_rfl⟩, by kernel_rfl⟩
theorem ti56_ok : TIok Try.prog 56 ti56 := ⟨⟨by kernel_rfl, by kernel_rfl⟩, by kernel_rfl⟩
theorem ti61_ok : TIok Try.prog 61 ti61 := ⟨⟨by kernel_rfl, by kernel_rfl⟩, by kernel_rfl⟩
theorem ti67_ok : TIok Try.prog 67 ti67 := ⟨⟨by kernel_rfl, by kernel_rfl⟩, by kernel_rfl⟩
theorem ti69_ok : TIok Try.prog 69 ti69 := ⟨⟨by kernel_rfl, by kernel_rfl⟩, by kernel_rfl⟩
theorem ti71_ok : TIok Try.prog 71 ti71 := ⟨⟨by kernel_rfl, by kernel_rfl⟩, by kernel_rfl⟩
theorem ti79_ok : TIok Try.prog 79 ti79 := ⟨⟨by kernel_rfl, by kernel_rfl⟩, by kernel_rfl⟩
theorem ti85_ok : TIok Try.prog 85 ti85 := ⟨⟨by kernel_rfl, by kernel_rfl⟩, by kernel_rfl⟩
theorem ti86_ok : TIok Try.prog 86 ti86 := ⟨⟨by kernel_rfl, by kernel_rfl⟩, by kernel_rfl⟩
theorem ti88_ok : TIok Try.prog 88 ti88 := ⟨⟨by kernel_rfl, by kernel_rfl⟩, by kernel_rfl⟩
theorem ti92_ok : TIok Try.prog 92 ti92 := ⟨⟨by kernel_rfl, by kernel_rfl⟩, by kernel_rfl⟩
theorem ti100_ok : TIok Try.prog 100 ti100 := ⟨⟨by kernel_rfl, by kernel_rfl⟩, by kernel_rfl⟩
theorem ti105_ok : TIok Try.prog 105 ti105 := ⟨⟨by kernel_rfl, by kernel_rfl⟩, by kernel_rfl⟩
theorem tt_ok : TTok Try.prog tt := ⟨ti2_ok, ti3_ok, ti4_ok, ti5_ok, ti9_ok, ti21_ok, ti22_ok, ti23_ok, ti25_ok, ti27_ok, ti29_ok, ti30_ok, ti36_ok, ti38_ok, ti40_ok, ti41_ok, ti44_ok, ti46_ok, ti51_ok, ti56_ok, ti61_ok, ti67_ok, ti69_ok, ti71_ok, ti79_ok, ti85_ok, ti86_ok, ti88_ok, ti92_ok, ti100_ok, ti105_ok, trivial⟩
end Go.Proofs.Ytmaheecbohbilaa.Sl
