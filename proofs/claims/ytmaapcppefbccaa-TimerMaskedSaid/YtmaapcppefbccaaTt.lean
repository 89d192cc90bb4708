import Derived.Test.YtmaapcppefbccaaSlF
import Derived.Test.YtmaapcppefbccaaProg
namespace Go.Proofs.Ytmaapcppefbccaa.Sl
open Go Go.RowKit Go.Proofs
set_option linter.unusedVariables false
/-- The types that the texts of this seat ask. -/
def ti2 : TI := { desc := .int .i64, size := 1, bytes := 8, zero := .int .i64 0, places := [] }
def ti3 : TI := { desc := .int .i64, size := 1, bytes := 8, zero := .int .i64 0, places := [] }
def ti4 : TI := { desc := .bool, size := 1, bytes := 1, zero := .bool false, places := [] }
def ti5 : TI := { desc := .int .u8, size := 1, bytes := 1, zero := .int .u8 0, places := [] }
def ti9 : TI := { desc := .string, size := 1, bytes := 16, zero := .string ByteArray.empty, places := [] }
def ti21 : TI := { desc := .int .i32, size := 1, bytes := 4, zero := .int .i32 0, places := [] }
def ti23 : TI := { desc := .struct #[{ name := "On", type := 4, offset := 0, embedded := false, tag := "", pkgPath := "", byteOffset := 0 }, { name := "Masked", type := 4, offset := 1, embedded := false, tag := "", pkgPath := "", byteOffset := 1 }, { name := "At", type := 3, offset := 2, embedded := false, tag := "", pkgPath := "", byteOffset := 8 }], size := 3, bytes := 16, zero := .agg #[.bool false, .bool false, .int .i64 0], places := [(0, 1), (1, 1), (2, 1)] }
def ti24 : TI := { desc := .slice 37, size := 1, bytes := 24, zero := .slice none 0 0, places := [] }
def ti25 : TI := { desc := .int .i64, size := 1, bytes := 8, zero := .int .i64 0, places := [] }
def ti27 : TI := { desc := .struct #[{ name := "On", type := 4, offset := 0, embedded := false, tag := "", pkgPath := "", byteOffset := 0 }, { name := "Masked", type := 4, offset := 1, embedded := false, tag := "", pkgPath := "", byteOffset := 1 }, { name := "At", type := 3, offset := 2, embedded := false, tag := "", pkgPath := "", byteOffset := 8 }], size := 3, bytes := 16, zero := .agg #[.bool false, .bool false, .int .i64 0], places := [(0, 1), (1, 1), (2, 1)] }
def ti29 : TI := { desc := .int .u64, size := 1, bytes := 8, zero := .int .u64 0, places := [] }
def ti30 : TI := { desc := .int .i64, size := 1, bytes := 8, zero := .int .i64 0, places := [] }
def ti37 : TI := { desc := .struct #[{ name := "Reg", type := 25, offset := 0, embedded := false, tag := "", pkgPath := "", byteOffset := 0 }, { name := "Now", type := 3, offset := 1, embedded := false, tag := "", pkgPath := "", byteOffset := 8 }, { name := "V", type := 29, offset := 2, embedded := false, tag := "", pkgPath := "", byteOffset := 16 }], size := 3, bytes := 24, zero := .agg #[.int .i64 0, .int .i64 0, .int .u64 0], places := [(0, 1), (1, 1), (2, 1)] }
def ti44 : TI := { desc := .int .u32, size := 1, bytes := 4, zero := .int .u32 0, places := [] }
def ti48 : TI := { desc := .slice 23, size := 1, bytes := 24, zero := .slice none 0 0, places := [] }
def ti50 : TI := { desc := .slice 3, size := 1, bytes := 24, zero := .slice none 0 0, places := [] }
def ti55 : TI := { desc := .pointer 23, size := 1, bytes := 8, zero := .pointer none, places := [] }
def ti35 : TI := { desc := .func #[3] #[4] false, size := 1, bytes := 8, zero := .nilFunc, places := [] }
def ti57 : TI := { desc := .func #[35] #[] false, size := 1, bytes := 8, zero := .nilFunc, places := [] }
def tt : TT := [(2, ti2), (3, ti3), (4, ti4), (5, ti5), (9, ti9), (21, ti21), (23, ti23), (24, ti24), (25, ti25), (27, ti27), (29, ti29), (30, ti30), (37, ti37), (44, ti44), (48, ti48), (50, ti50), (55, ti55), (35, ti35), (57, ti57)]
theorem ti2_ok : TIok Try.prog 2 ti2 := ⟨⟨by kernel_rfl, by kernel_rfl⟩, by kernel_rfl⟩
theorem ti3_ok : TIok Try.prog 3 ti3 := ⟨⟨by kernel_rfl, by kernel_rfl⟩, by kernel_rfl⟩
theorem ti4_ok : TIok Try.prog 4 ti4 := ⟨⟨by kernel_rfl, by kernel_rfl⟩, by kernel_rfl⟩
theorem ti5_ok : TIok Try.prog 5 ti5 := ⟨⟨by kernel_rfl, by kernel_rfl⟩, by kernel_rfl⟩
theorem ti9_ok : TIok Try.prog 9 ti9 := ⟨⟨by kernel_rfl, by kernel_rfl⟩, by kernel_rfl⟩
theorem ti21_ok : TIok Try.prog 21 ti21 := ⟨⟨by kernel_rfl, by kernel_rfl⟩, by kernel_rfl⟩
theorem ti23_ok : TIok Try.prog 23 ti23 := ⟨⟨by kernel_rfl, by kernel_rfl⟩, by kernel_rfl⟩
theorem ti24_ok : TIok Try.prog 24 ti24 := ⟨⟨by kernel_rfl, by kernel_rfl⟩, by kernel_rfl⟩
theorem ti25_ok : TIok Try.prog 25 ti25 := ⟨⟨by kernel_rfl, by kernel_rfl⟩, by kernel_rfl⟩
theorem ti27_ok : TIok Try.prog 27 ti27 := ⟨⟨by kernel_rfl, by kernel_rfl⟩, by kernel_rfl⟩
theorem ti29_ok : TIok Try.prog 29 ti29 := ⟨⟨by kernel_rfl, by kernel_rfl⟩, by kernel_rfl⟩
theorem ti30_ok : TIok Try.prog 30 ti30 := ⟨⟨by kernel_rfl, by kernel_rfl⟩, by kernel_rfl⟩
theorem ti37_ok : TIok Try.prog 37 ti37 := ⟨⟨by kernel_rfl, by kernel_rfl⟩, by kernel_rfl⟩
theorem ti44_ok : TIok Try.prog 44 ti44 := ⟨⟨by kernel_rfl, by kernel_rfl⟩, by kernel_rfl⟩
theorem ti48_ok : TIok Try.prog 48 ti48 := ⟨⟨by kernel_rfl, by kernel_rfl⟩, by kernel_rfl⟩
theorem ti50_ok : TIok Try.prog 50 ti50 := ⟨⟨by kernel_rfl, by kernel_rfl⟩, by kernel_rfl⟩
theorem ti55_ok : TIok Try.prog 55 ti55 := ⟨⟨by kernel_rfl, by kernel_rfl⟩, by kernel_rfl⟩
theorem ti35_ok : TIok Try.prog 35 ti35 := ⟨⟨by kernel_rfl, by kernel_rfl⟩, by kernel_rfl⟩
theorem ti57_ok : TIok Try.prog 57 ti57 := ⟨⟨by kernel_rfl, by kernel_rfl⟩, by kernel_rfl⟩
theorem tt_ok : TTok Try.prog tt := ⟨ti2_ok, ti3_ok, ti4_ok, ti5_ok, ti9_ok, ti21_ok, ti23_ok, ti24_ok, ti25_ok, ti27_ok, ti29_ok, ti30_ok, ti37_ok, ti44_ok, ti48_ok, ti50_ok, ti55_ok, ti35_ok, ti57_ok, trivial⟩
end Go.Proofs.Ytmaapcppefbccaa.Sl
