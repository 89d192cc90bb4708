/-
  Part 1 of the proof: contracts of the code's functions, and what is plain.
-/
import Derived.Test.YthhfoppaaehepaaGreatDoorL4
import Derived.Test.YthhfoppaaehepaaGreatDoorProg
import Derived.Test.YthhfoppaaehepaaGreatDoorL5
import Derived.Test.YthhfoppaaehepaaGreatDoorL7
namespace Go.Proofs.YthhfoppaaehepaaGreatDoor.Sl
open Go Go.RowKit Go.Proofs
set_option linter.unusedVariables false
/-- The types that the texts of this seat ask. -/
def ti3 : TI := { desc := .int .i64, size := 1, bytes := 8, zero := .int .i64 0, places := [] }
def ti4 : TI := { desc := .bool, size := 1, bytes := 1, zero := .bool false, places := [] }
def ti5 : TI := { desc := .int .u8, size := 1, bytes := 1, zero := .int .u8 0, places := [] }
def ti9 : TI := { desc := .string, size := 1, bytes := 16, zero := .string ByteArray.empty, places := [] }
def ti22 : TI := { desc := .slice 82, size := 1, bytes := 24, zero := .slice none 0 0, places := [] }
def ti23 : TI := { desc := .int .i64, size := 1, bytes := 8, zero := .int .i64 0, places := [] }
def ti25 : TI := { desc := .struct #[{ name := "Op", type := 23, offset := 0, embedded := false, tag := "", pkgPath := "", byteOffset := 0 }, { name := "Device", type := 3, offset := 1, embedded := false, tag := "", pkgPath := "", byteOffset := 8 }, { name := "Event", type := 3, offset := 2, embedded := false, tag := "", pkgPath := "", byteOffset := 16 }, { name := "Number", type := 3, offset := 3, embedded := false, tag := "", pkgPath := "", byteOffset := 24 }, { name := "Coll", type := 3, offset := 4, embedded := false, tag := "", pkgPath := "", byteOffset := 32 }, { name := "Target", type := 3, offset := 5, embedded := false, tag := "", pkgPath := "", byteOffset := 40 }, { name := "Bits", type := 3, offset := 6, embedded := false, tag := "", pkgPath := "", byteOffset := 48 }, { name := "Addr", type := 3, offset := 7, embedded := false, tag := "", pkgPath := "", byteOffset := 56 }, { name := "Valid", type := 4, offset := 8, embedded := false, tag := "", pkgPath := "", byteOffset := 64 }], size := 9, bytes := 72, zero := .agg #[.int .i64 0, .int .i64 0, .int .i64 0, .int .i64 0, .int .i64 0, .int .i64 0, .int .i64 0, .int .i64 0, .bool false], places := [(0, 1), (1, 1), (2, 1), (3, 1), (4, 1), (5, 1), (6, 1), (7, 1), (8, 1)] }
def ti27 : TI := { desc := .pointer 60, size := 1, bytes := 8, zero := .pointer none, places := [] }
def ti28 : TI := { desc := .pointer 85, size := 1, bytes := 8, zero := .pointer none, places := [] }
def ti29 : TI := { desc := .slice 50, size := 1, bytes := 24, zero := .slice none 0 0, places := [] }
def ti30 : TI := { desc := .pointer 122, size := 1, bytes := 8, zero := .pointer none, places := [] }
def ti31 : TI := { desc := .pointer 174, size := 1, bytes := 8, zero := .pointer none, places := [] }
def ti32 : TI := { desc := .slice 124, size := 1, bytes := 24, zero := .slice none 0 0, places := [] }
def ti34 : TI := { desc := .struct #[{ name := "M", type := 31, offset := 0, embedded := false, tag := "", pkgPath := "", byteOffset := 0 }, { name := "Ts", type := 32, offset := 1, embedded := false, tag := "", pkgPath := "", byteOffset := 8 }], size := 2, bytes := 32, zero := .agg #[.pointer none, .slice none 0 0], places := [(0, 1), (1, 1)] }
def ti36 : TI := { desc := .struct #[{ name := "s", type := 27, offset := 0, embedded := false, tag := "", pkgPath := "crier/crierlaw19", byteOffset := 0 }, { name := "m", type := 28, offset := 1, embedded := false, tag := "", pkgPath := "crier/crierlaw19", byteOffset := 8 }, { name := "ts", type := 29, offset := 2, embedded := false, tag := "", pkgPath := "crier/crierlaw19", byteOffset := 16 }, { name := "r", type := 30, offset := 3, embedded := false, tag := "", pkgPath := "crier/crierlaw19", byteOffset := 40 }, { name := "x", type := 34, offset := 4, embedded := false, tag := "", pkgPath := "crier/crierlaw19", byteOffset := 48 }, { name := "ok", type := 4, offset := 6, embedded := false, tag := "", pkgPath := "crier/crierlaw19", byteOffset := 80 }], size := 7, bytes := 88, zero := .agg #[.pointer none, .pointer none, .slice none 0 0, .pointer none, .pointer none, .slice none 0 0, .bool false], places := [(0, 1), (1, 1), (2, 1), (3, 1), (4, 2), (6, 1)] }
def ti40 : TI := { desc := .struct #[{ name := "At", type := 3, offset := 0, embedded := false, tag := "", pkgPath := "", byteOffset := 0 }, { name := "Size", type := 3, offset := 1, embedded := false, tag := "", pkgPath := "", byteOffset := 8 }], size := 2, bytes := 16, zero := .agg #[.int .i64 0, .int .i64 0], places := [(0, 1), (1, 1)] }
def ti41 : TI := { desc := .slice 5, size := 1, bytes := 24, zero := .slice none 0 0, places := [] }
def ti42 : TI := { desc := .int .i64, size := 1, bytes := 8, zero := .int .i64 0, places := [] }
def ti45 : TI := { desc := .slice 46, size := 1, bytes := 24, zero := .slice none 0 0, places := [] }
def ti46 : TI := { desc := .slice 3, size := 1, bytes := 24, zero := .slice none 0 0, places := [] }
def ti50 : TI := { desc := .pointer 91, size := 1, bytes := 8, zero := .pointer none, places := [] }
def ti56 : TI := { desc := .struct #[{ name := "Window", type := 40, offset := 0, embedded := false, tag := "", pkgPath := "", byteOffset := 0 }, { name := "Read", type := 3, offset := 2, embedded := false, tag := "", pkgPath := "", byteOffset := 16 }, { name := "Write", type := 3, offset := 3, embedded := false, tag := "", pkgPath := "", byteOffset := 24 }], size := 4, bytes := 32, zero := .agg #[.int .i64 0, .int .i64 0, .int .i64 0, .int .i64 0], places := [(0, 2), (2, 1), (3, 1)] }
def ti58 : TI := { desc := .struct #[{ name := "Window", type := 40, offset := 0, embedded := false, tag := "", pkgPath := "", byteOffset := 0 }, { name := "Page", type := 3, offset := 2, embedded := false, tag := "", pkgPath := "", byteOffset := 16 }], size := 3, bytes := 24, zero := .agg #[.int .i64 0, .int .i64 0, .int .i64 0], places := [(0, 2), (2, 1)] }
def ti60 : TI := { desc := .struct #[{ name := "On", type := 4, offset := 0, embedded := false, tag := "", pkgPath := "", byteOffset := 0 }, { name := "Stalled", type := 4, offset := 1, embedded := false, tag := "", pkgPath := "", byteOffset := 1 }, { name := "Queue", type := 56, offset := 2, embedded := false, tag := "", pkgPath := "", byteOffset := 8 }, { name := "Devices", type := 58, offset := 6, embedded := false, tag := "", pkgPath := "", byteOffset := 40 }, { name := "Colls", type := 40, offset := 9, embedded := false, tag := "", pkgPath := "", byteOffset := 64 }], size := 11, bytes := 80, zero := .agg #[.bool false, .bool false, .int .i64 0, .int .i64 0, .int .i64 0, .int .i64 0, .int .i64 0, .int .i64 0, .int .i64 0, .int .i64 0, .int .i64 0], places := [(0, 1), (1, 1), (2, 4), (6, 3), (9, 2)] }
def ti62 : TI := { desc := .struct #[{ name := "Number", type := 3, offset := 0, embedded := false, tag := "", pkgPath := "", byteOffset := 0 }, { name := "Coll", type := 3, offset := 1, embedded := false, tag := "", pkgPath := "", byteOffset := 8 }, { name := "Valid", type := 4, offset := 2, embedded := false, tag := "", pkgPath := "", byteOffset := 16 }], size := 3, bytes := 24, zero := .agg #[.int .i64 0, .int .i64 0, .bool false], places := [(0, 1), (1, 1), (2, 1)] }
def ti67 : TI := { desc := .slice 25, size := 1, bytes := 24, zero := .slice none 0 0, places := [] }
def ti80 : TI := { desc := .int .u64, size := 1, bytes := 8, zero := .int .u64 0, places := [] }
def ti82 : TI := { desc := .struct #[{ name := "Do", type := 3, offset := 0, embedded := false, tag := "", pkgPath := "", byteOffset := 0 }, { name := "N", type := 3, offset := 1, embedded := false, tag := "", pkgPath := "", byteOffset := 8 }, { name := "C", type := 25, offset := 2, embedded := false, tag := "", pkgPath := "", byteOffset := 16 }, { name := "Is", type := 4, offset := 11, embedded := false, tag := "", pkgPath := "", byteOffset := 88 }, { name := "V", type := 80, offset := 12, embedded := false, tag := "", pkgPath := "", byteOffset := 96 }], size := 13, bytes := 104, zero := .agg #[.int .i64 0, .int .i64 0, .int .i64 0, .int .i64 0, .int .i64 0, .int .i64 0, .int .i64 0, .int .i64 0, .int .i64 0, .int .i64 0, .bool false, .bool false, .int .u64 0], places := [(0, 1), (1, 1), (2, 9), (11, 1), (12, 1)] }
def ti85 : TI := { desc := .struct #[{ name := "bytes", type := 41, offset := 0, embedded := false, tag := "", pkgPath := "crier/mem", byteOffset := 0 }], size := 1, bytes := 24, zero := .agg #[.slice none 0 0], places := [(0, 1)] }
def ti89 : TI := { desc := .pointer 165, size := 1, bytes := 8, zero := .pointer none, places := [] }
def ti91 : TI := { desc := .struct #[{ name := "many", type := 3, offset := 0, embedded := false, tag := "", pkgPath := "crier/lpi", byteOffset := 0 }, { name := "on", type := 4, offset := 1, embedded := false, tag := "", pkgPath := "crier/lpi", byteOffset := 8 }, { name := "prop", type := 40, offset := 2, embedded := false, tag := "", pkgPath := "crier/lpi", byteOffset := 16 }, { name := "pend", type := 40, offset := 4, embedded := false, tag := "", pkgPath := "crier/lpi", byteOffset := 32 }, { name := "config", type := 41, offset := 6, embedded := false, tag := "", pkgPath := "crier/lpi", byteOffset := 48 }, { name := "waits", type := 89, offset := 7, embedded := false, tag := "", pkgPath := "crier/lpi", byteOffset := 72 }], size := 8, bytes := 80, zero := .agg #[.int .i64 0, .bool false, .int .i64 0, .int .i64 0, .int .i64 0, .int .i64 0, .slice none 0 0, .pointer none], places := [(0, 1), (1, 1), (2, 2), (4, 2), (6, 1), (7, 1)] }
def ti92 : TI := { desc := .array 4 80, size := 4, bytes := 32, zero := .agg #[.int .u64 0, .int .u64 0, .int .u64 0, .int .u64 0], places := [] }
def ti106 : TI := { desc := .struct #[{ name := "Size", type := 3, offset := 0, embedded := false, tag := "", pkgPath := "", byteOffset := 0 }, { name := "Step", type := 3, offset := 1, embedded := false, tag := "", pkgPath := "", byteOffset := 8 }], size := 2, bytes := 16, zero := .agg #[.int .i64 0, .int .i64 0], places := [(0, 1), (1, 1)] }
def ti109 : TI := { desc := .pointer 56, size := 1, bytes := 8, zero := .pointer none, places := [] }
def ti116 : TI := { desc := .struct #[{ name := "Window", type := 40, offset := 0, embedded := false, tag := "", pkgPath := "", byteOffset := 0 }, { name := "Page", type := 3, offset := 2, embedded := false, tag := "", pkgPath := "", byteOffset := 16 }], size := 3, bytes := 24, zero := .agg #[.int .i64 0, .int .i64 0, .int .i64 0], places := [(0, 2), (2, 1)] }
def ti120 : TI := { desc := .struct #[{ name := "Window", type := 40, offset := 0, embedded := false, tag := "", pkgPath := "", byteOffset := 0 }, { name := "Read", type := 3, offset := 2, embedded := false, tag := "", pkgPath := "", byteOffset := 16 }, { name := "Write", type := 3, offset := 3, embedded := false, tag := "", pkgPath := "", byteOffset := 24 }], size := 4, bytes := 32, zero := .agg #[.int .i64 0, .int .i64 0, .int .i64 0, .int .i64 0], places := [(0, 2), (2, 1), (3, 1)] }
def ti122 : TI := { desc := .struct #[{ name := "On", type := 4, offset := 0, embedded := false, tag := "", pkgPath := "", byteOffset := 0 }, { name := "Stalled", type := 4, offset := 1, embedded := false, tag := "", pkgPath := "", byteOffset := 1 }, { name := "Queue", type := 120, offset := 2, embedded := false, tag := "", pkgPath := "", byteOffset := 8 }, { name := "Devices", type := 116, offset := 6, embedded := false, tag := "", pkgPath := "", byteOffset := 40 }, { name := "Colls", type := 40, offset := 9, embedded := false, tag := "", pkgPath := "", byteOffset := 64 }], size := 11, bytes := 80, zero := .agg #[.bool false, .bool false, .int .i64 0, .int .i64 0, .int .i64 0, .int .i64 0, .int .i64 0, .int .i64 0, .int .i64 0, .int .i64 0, .int .i64 0], places := [(0, 1), (1, 1), (2, 4), (6, 3), (9, 2)] }
def ti124 : TI := { desc := .pointer 182, size := 1, bytes := 8, zero := .pointer none, places := [] }
def ti136 : TI := { desc := .int .i64, size := 1, bytes := 8, zero := .int .i64 0, places := [] }
def ti138 : TI := { desc := .struct #[{ name := "word", type := 3, offset := 0, embedded := false, tag := "", pkgPath := "crier/cmd", byteOffset := 0 }, { name := "from", type := 3, offset := 1, embedded := false, tag := "", pkgPath := "crier/cmd", byteOffset := 8 }, { name := "size", type := 3, offset := 2, embedded := false, tag := "", pkgPath := "crier/cmd", byteOffset := 16 }], size := 3, bytes := 24, zero := .agg #[.int .i64 0, .int .i64 0, .int .i64 0], places := [(0, 1), (1, 1), (2, 1)] }
def ti143 : TI := { desc := .struct #[{ name := "Valid", type := 4, offset := 0, embedded := false, tag := "", pkgPath := "", byteOffset := 0 }, { name := "Bits", type := 3, offset := 1, embedded := false, tag := "", pkgPath := "", byteOffset := 8 }, { name := "At", type := 3, offset := 2, embedded := false, tag := "", pkgPath := "", byteOffset := 16 }], size := 3, bytes := 24, zero := .agg #[.bool false, .int .i64 0, .int .i64 0], places := [(0, 1), (1, 1), (2, 1)] }
def ti163 : TI := { desc := .slice 80, size := 1, bytes := 24, zero := .slice none 0 0, places := [] }
def ti165 : TI := { desc := .struct #[{ name := "words", type := 163, offset := 0, embedded := false, tag := "", pkgPath := "crier/sets", byteOffset := 0 }], size := 1, bytes := 24, zero := .agg #[.slice none 0 0], places := [(0, 1)] }
def ti166 : TI := { desc := .int .u64, size := 1, bytes := 8, zero := .int .u64 0, places := [] }
def ti174 : TI := { desc := .struct #[{ name := "B", type := 41, offset := 0, embedded := false, tag := "", pkgPath := "", byteOffset := 0 }], size := 1, bytes := 24, zero := .agg #[.slice none 0 0], places := [(0, 1)] }
def ti182 : TI := { desc := .struct #[{ name := "Many", type := 3, offset := 0, embedded := false, tag := "", pkgPath := "", byteOffset := 0 }, { name := "On", type := 4, offset := 1, embedded := false, tag := "", pkgPath := "", byteOffset := 8 }, { name := "Prop", type := 40, offset := 2, embedded := false, tag := "", pkgPath := "", byteOffset := 16 }, { name := "Pend", type := 40, offset := 4, embedded := false, tag := "", pkgPath := "", byteOffset := 32 }, { name := "Config", type := 41, offset := 6, embedded := false, tag := "", pkgPath := "", byteOffset := 48 }, { name := "Waits", type := 46, offset := 7, embedded := false, tag := "", pkgPath := "", byteOffset := 72 }], size := 8, bytes := 96, zero := .agg #[.int .i64 0, .bool false, .int .i64 0, .int .i64 0, .int .i64 0, .int .i64 0, .slice none 0 0, .slice none 0 0], places := [(0, 1), (1, 1), (2, 2), (4, 2), (6, 1), (7, 1)] }
def ti192 : TI := { desc := .pointer 120, size := 1, bytes := 8, zero := .pointer none, places := [] }
def ti204 : TI := { desc := .slice 208, size := 1, bytes := 24, zero := .slice none 0 0, places := [] }
def ti208 : TI := { desc := .struct #[{ name := "Word", type := 3, offset := 0, embedded := false, tag := "", pkgPath := "", byteOffset := 0 }, { name := "From", type := 3, offset := 1, embedded := false, tag := "", pkgPath := "", byteOffset := 8 }, { name := "Size", type := 3, offset := 2, embedded := false, tag := "", pkgPath := "", byteOffset := 16 }, { name := "N", type := 3, offset := 3, embedded := false, tag := "", pkgPath := "", byteOffset := 24 }], size := 4, bytes := 32, zero := .agg #[.int .i64 0, .int .i64 0, .int .i64 0, .int .i64 0], places := [(0, 1), (1, 1), (2, 1), (3, 1)] }
def ti209 : TI := { desc := .struct #[{ name := "Valid", type := 4, offset := 0, embedded := false, tag := "", pkgPath := "", byteOffset := 0 }, { name := "Bits", type := 3, offset := 1, embedded := false, tag := "", pkgPath := "", byteOffset := 8 }, { name := "At", type := 3, offset := 2, embedded := false, tag := "", pkgPath := "", byteOffset := 16 }], size := 3, bytes := 24, zero := .agg #[.bool false, .int .i64 0, .int .i64 0], places := [(0, 1), (1, 1), (2, 1)] }
def ti229 : TI := { desc := .pointer 25, size := 1, bytes := 8, zero := .pointer none, places := [] }
def ti231 : TI := { desc := .slice 23, size := 1, bytes := 24, zero := .slice none 0 0, places := [] }
def ti245 : TI := { desc := .array 64 5, size := 64, bytes := 64, zero := .agg #[.int .u8 0, .int .u8 0, .int .u8 0, .int .u8 0, .int .u8 0, .int .u8 0, .int .u8 0, .int .u8 0, .int .u8 0, .int .u8 0, .int .u8 0, .int .u8 0, .int .u8 0, .int .u8 0, .int .u8 0, .int .u8 0, .int .u8 0, .int .u8 0, .int .u8 0, .int .u8 0, .int .u8 0, .int .u8 0, .int .u8 0, .int .u8 0, .int .u8 0, .int .u8 0, .int .u8 0, .int .u8 0, .int .u8 0, .int .u8 0, .int .u8 0, .int .u8 0, .int .u8 0, .int .u8 0, .int .u8 0, .int .u8 0, .int .u8 0, .int .u8 0, .int .u8 0, .int .u8 0, .int .u8 0, .int .u8 0, .int .u8 0, .int .u8 0, .int .u8 0, .int .u8 0, .int .u8 0, .int .u8 0, .int .u8 0, .int .u8 0, .int .u8 0, .int .u8 0, .int .u8 0, .int .u8 0, .int .u8 0, .int .u8 0, .int .u8 0, .int .u8 0, .int .u8 0, .int .u8 0, .int .u8 0, .int .u8 0, .int .u8 0, .int .u8 0], places := [] }
def tt : TT := [(3, ti3), (4, ti4), (5, ti5), (9, ti9), (22, ti22), (23, ti23), (25, ti25), (27, ti27), (28, ti28), (29, ti29), (30, ti30), (31, ti31), (32, ti32), (34, ti34), (36, ti36), (40, ti40), (41, ti41), (42, ti42), (45, ti45), (46, ti46), (50, ti50), (56, ti56), (58, ti58), (60, ti60), (62, ti62), (67, ti67), (80, ti80), (82, ti82), (85, ti85), (89, ti89), (91, ti91), (92, ti92), (106, ti106), (109, ti109), (116, ti116), (120, ti120), (122, ti122), (124, ti124), (136, ti136), (138, ti138), (143, ti143), (163, ti163), (165, ti165), (166, ti166), (174, ti174), (182, ti182), (192, ti192), (204, ti204), (208, ti208), (209, ti209), (229, ti229), (231, ti231), (245, ti245)]
theorem ti3_ok : TIok Tryz.prog 3 ti3 := ⟨⟨by kernel_rfl, by kernel_rfl⟩, by kernel_rfl⟩
theorem ti4_ok : TIok Tryz.prog 4 ti4 := ⟨⟨by kernel_rfl, by kernel_rfl⟩, by kernel_rfl⟩
theorem ti5_ok : TIok Tryz.prog 5 ti5 := ⟨⟨by kernel_rfl, by kernel_rfl⟩, by kernel_rfl⟩
theorem ti9_ok : TIok Tryz.prog 9 ti9 := ⟨⟨by kernel_rfl, by kernel_rfl⟩, by kernel_rfl⟩
theorem ti22_ok : TIok Tryz.prog 22 ti22 := ⟨⟨by kernel_rfl, by kernel_rfl⟩, by kernel_rfl⟩
theorem ti23_ok : TIok Tryz.prog 23 ti23 := ⟨⟨by kernel_rfl, by kernel_rfl⟩, by kernel_rfl⟩
theorem ti25_ok : TIok Tryz.prog 25 ti25 := ⟨⟨by kernel_rfl, by kernel_rfl⟩, by kernel_rfl⟩
theorem ti27_ok : TIok Tryz.prog 27 ti27 := ⟨⟨by kernel_rfl, by kernel_rfl⟩, by kernel_rfl⟩
theorem ti28_ok : TIok Tryz.prog 28 ti28 := ⟨⟨by kernel_rfl, by kernel_rfl⟩, by kernel_rfl⟩
theorem ti29_ok : TIok Tryz.prog 29 ti29 := ⟨⟨by kernel_rfl, by kernel_rfl⟩, by kernel_rfl⟩
theorem ti30_ok : TIok Tryz.prog 30 ti30 := ⟨⟨by kernel_rfl, by kernel_rfl⟩, by kernel_rfl⟩
theorem ti31_ok : TIok Tryz.prog 31 ti31 := ⟨⟨by kernel_rfl, by kernel_rfl⟩, by kernel_rfl⟩
theorem ti32_ok : TIok Tryz.prog 32 ti32 := ⟨⟨by kernel_rfl, by kernel_rfl⟩, by kernel_rfl⟩
theorem ti34_ok : TIok Tryz.prog 34 ti34 := ⟨⟨by kernel_rfl, by kernel_rfl⟩, by kernel_rfl⟩
theorem ti36_ok : TIok Tryz.prog 36 ti36 := ⟨⟨by kernel_rfl, by kernel_rfl⟩, by kernel_rfl⟩
theorem ti40_ok : TIok Tryz.prog 40 ti40 := ⟨⟨by kernel_rfl, by kernel_rfl⟩, by kernel_rfl⟩
theorem ti41_ok : TIok Tryz.prog 41 ti41 := ⟨⟨by kernel_rfl, by kernel_rfl⟩, by kernel_rfl⟩
theorem ti42_ok : TIok Tryz.prog 42 ti42 := ⟨⟨by kernel_rfl, by kernel_rfl⟩, by kernel_rfl⟩
theorem ti45_ok : TIok Tryz.prog 45 ti45 := ⟨⟨by kernel_rfl, by kernel_rfl⟩, by kernel_rfl⟩
theorem ti46_ok : TIok Tryz.prog 46 ti46 := ⟨⟨by kernel_rfl, by kernel_rfl⟩, by kernel_rfl⟩
theorem ti50_ok : TIok Tryz.prog 50 ti50 := ⟨⟨by kernel_rfl, by kernel_rfl⟩, by kernel_rfl⟩
theorem ti56_ok : TIok Tryz.prog 56 ti56 := ⟨⟨by kernel_rfl, by kernel_rfl⟩, by kernel_rfl⟩
theorem ti58_ok : TIok Tryz.prog 58 ti58 := ⟨⟨by kernel_rfl, by kernel_rfl⟩, by kernel_rfl⟩
theorem ti60_ok : TIok Tryz.prog 60 ti60 := ⟨⟨by kernel_rfl, by kernel_rfl⟩, by kernel_rfl⟩
theorem ti62_ok : TIok Tryz.prog 62 ti62 := ⟨⟨by kernel_rfl, by kernel_rfl⟩, by kernel_rfl⟩
theorem ti67_ok : TIok Tryz.prog 67 ti67 := ⟨⟨by kernel_rfl, by kernel_rfl⟩, by kernel_rfl⟩
theorem ti80_ok : TIok Tryz.prog 80 ti80 := ⟨⟨by kernel_rfl, by kernel_rfl⟩, by kernel_rfl⟩
theorem ti82_ok : TIok Tryz.prog 82 ti82 := ⟨⟨by kernel_rfl, by kernel_rfl⟩, by kernel_rfl⟩
theorem ti85_ok : TIok Tryz.prog 85 ti85 := ⟨⟨by kernel_rfl, by kernel_rfl⟩, by kernel_rfl⟩
theorem ti89_ok : TIok Tryz.prog 89 ti89 := ⟨⟨by kernel_rfl, by kernel_rfl⟩, by kernel_rfl⟩
theorem ti91_ok : TIok Tryz.prog 91 ti91 := ⟨⟨by kernel_rfl, by kernel_rfl⟩, by kernel_rfl⟩
theorem ti92_ok : TIok Tryz.prog 92 ti92 := ⟨⟨by kernel_rfl, by kernel_rfl⟩, by kernel_rfl⟩
theorem ti106_ok : TIok Tryz.prog 106 ti106 := ⟨⟨by kernel_rfl, by kernel_rfl⟩, by kernel_rfl⟩
theorem ti109_ok : TIok Tryz.prog 109 ti109 := ⟨⟨by kernel_rfl, by kernel_rfl⟩, by kernel_rfl⟩
theorem ti116_ok : TIok Tryz.prog 116 ti116 := ⟨⟨by kernel_rfl, by kernel_rfl⟩, by kernel_rfl⟩
theorem ti120_ok : TIok Tryz.prog 120 ti120 := ⟨⟨by kernel_rfl, by kernel_rfl⟩, by kernel_rfl⟩
theorem ti122_ok : TIok Tryz.prog 122 ti122 := ⟨⟨by kernel_rfl, by kernel_rfl⟩, by kernel_rfl⟩
theorem ti124_ok : TIok Tryz.prog 124 ti124 := ⟨⟨by kernel_rfl, by kernel_rfl⟩, by kernel_rfl⟩
theorem ti136_ok : TIok Tryz.prog 136 ti136 := ⟨⟨by kernel_rfl, by kernel_rfl⟩, by kernel_rfl⟩
theorem ti138_ok : TIok Tryz.prog 138 ti138 := ⟨⟨by kernel_rfl, by kernel_rfl⟩, by kernel_rfl⟩
theorem ti143_ok : TIok Tryz.prog 143 ti143 := ⟨⟨by kernel_rfl, by kernel_rfl⟩, by kernel_rfl⟩
theorem ti163_ok : TIok Tryz.prog 163 ti163 := ⟨⟨by kernel_rfl, by kernel_rfl⟩, by kernel_rfl⟩
theorem ti165_ok : TIok Tryz.prog 165 ti165 := ⟨⟨by kernel_rfl, by kernel_rfl⟩, by kernel_rfl⟩
theorem ti166_ok : TIok Tryz.prog 166 ti166 := ⟨⟨by kernel_rfl, by kernel_rfl⟩, by kernel_rfl⟩
theorem ti174_ok : TIok Tryz.prog 174 ti174 := ⟨⟨by kernel_rfl, by kernel_rfl⟩, by kernel_rfl⟩
theorem ti182_ok : TIok Tryz.prog 182 ti182 := ⟨⟨by kernel_rfl, by kernel_rfl⟩, by kernel_rfl⟩
theorem ti192_ok : TIok Tryz.prog 192 ti192 := ⟨⟨by kernel_rfl, by kernel_rfl⟩, by kernel_rfl⟩
theorem ti204_ok : TIok Tryz.prog 204 ti204 := ⟨⟨by kernel_rfl, by kernel_rfl⟩, by kernel_rfl⟩
theorem ti208_ok : TIok Tryz.prog 208 ti208 := ⟨⟨by kernel_rfl, by kernel_rfl⟩, by kernel_rfl⟩
theorem ti209_ok : TIok Tryz.prog 209 ti209 := ⟨⟨by kernel_rfl, by kernel_rfl⟩, by kernel_rfl⟩
theorem ti229_ok : TIok Tryz.prog 229 ti229 := ⟨⟨by kernel_rfl, by kernel_rfl⟩, by kernel_rfl⟩
theorem ti231_ok : TIok Tryz.prog 231 ti231 := ⟨⟨by kernel_rfl, by kernel_rfl⟩, by kernel_rfl⟩
theorem ti245_ok : TIok Tryz.prog 245 ti245 := ⟨⟨by kernel_rfl, by kernel_rfl⟩, by kernel_rfl⟩
theorem tt_ok : TTok Tryz.prog tt := ⟨ti3_ok, ti4_ok, ti5_ok, ti9_ok, ti22_ok, ti23_ok, ti25_ok, ti27_ok, ti28_ok, ti29_ok, ti30_ok, ti31_ok, ti32_ok, ti34_ok, ti36_ok, ti40_ok, ti41_ok, ti42_ok, ti45_ok, ti46_ok, ti50_ok, ti56_ok, ti58_ok, ti60_ok, ti62_ok, ti67_ok, ti80_ok, ti82_ok, ti85_ok, ti89_ok, ti91_ok, ti92_ok, ti106_ok, ti109_ok, ti116_ok, ti120_ok, ti122_ok, ti124_ok, ti136_ok, ti138_ok, ti143_ok, ti163_ok, ti165_ok, ti166_ok, ti174_ok, ti182_ok, ti192_ok, ti204_ok, ti208_ok, ti209_ok, ti229_ok, ti231_ok, ti245_ok, trivial⟩
end Go.Proofs.YthhfoppaaehepaaGreatDoor.Sl
namespace Go.Proofs.YthhfoppaaehepaaGreatDoor.Sl
open Go Go.RowKit Go.Proofs
set_option linter.unusedVariables false
set_option linter.unusedSimpArgs false
def leN : List Nat → Nat
  | [] => 0
  | b :: r => b + 256 * leN r
def leB : Nat → Nat → List Nat
  | 0, _ => []
  | w + 1, v => v % 256 :: leB w (v / 256)
def byOk (B : List Nat) : Prop := ∀ b ∈ B, b < 256
theorem leB_len : ∀ w v, (leB w v).length = w
  | 0, _ => rfl
  | w + 1, v => by simp [leB, leB_len w]
theorem leB_ok : ∀ w v, byOk (leB w v)
  | 0, _, _, h => by simp [leB] at h
  | w + 1, v, b, h => by
    simp only [leB, List.mem_cons] at h
    rcases h with rfl | h
    · omega
    · exact leB_ok w _ b h
theorem leN_leB : ∀ w v, leN (leB w v) = v % 256 ^ w
  | 0, v => by simp [leB, leN, Nat.mod_one]
  | w + 1, v => by
    simp only [leB, leN]
    rw [leN_leB w, Nat.pow_succ, Nat.mul_comm (256 ^ w), Nat.mod_mul]
theorem leN_lt : ∀ {l : List Nat}, byOk l → leN l < 256 ^ l.length
  | [], _ => by simp [leN]
  | b :: r, h => by
    have h1 := h b (by simp)
    have h2 := leN_lt (l := r) fun x hx => h x (by simp [hx])
    simp only [leN, List.length_cons, Nat.pow_succ]
    omega
theorem leN_snoc : ∀ (l : List Nat) (b : Nat), leN (l ++ [b]) = leN l + 256 ^ l.length * b
  | [], b => by simp [leN]
  | a :: r, b => by
    simp only [List.cons_append, leN, leN_snoc r b, List.length_cons, Nat.pow_succ, Nat.mul_add]
    rw [Nat.mul_comm (256 ^ r.length) 256, Nat.mul_assoc]; omega
def rdN (B : List Nat) (a w : Nat) : Nat := leN ((B.drop a).take w)
def wrN (B : List Nat) (a w v : Nat) : List Nat := B.take a ++ leB w v ++ B.drop (a + w)
theorem wrN_len {B : List Nat} {a w : Nat} (v : Nat) (h : a + w ≤ B.length) : (wrN B a w v).length = B.length := by
  simp only [wrN, List.length_append, List.length_take, List.length_drop, leB_len]; omega
theorem wrN_ok {B : List Nat} (a w v : Nat) (h : byOk B) : byOk (wrN B a w v) := fun b hb => by
  simp only [wrN, List.mem_append] at hb
  rcases hb with (hb | hb) | hb
  · exact h b (List.mem_of_mem_take hb)
  · exact leB_ok _ _ b hb
  · exact h b (List.mem_of_mem_drop hb)
theorem wrN_at {B : List Nat} {a w v : Nat} (h : a + w ≤ B.length) (k : Nat) : (wrN B a w v)[k]? = if a ≤ k ∧ k < a + w then (leB w v)[k - a]? else B[k]? := by
  unfold wrN
  by_cases h1 : k < a
  · rw [if_neg (by omega), List.append_assoc, List.getElem?_append_left (by rw [List.length_take]; omega), List.getElem?_take_of_lt h1]
  · by_cases h2 : k < a + w
    · rw [if_pos (by omega), List.getElem?_append_left (by rw [List.length_append, List.length_take, leB_len]; omega), List.getElem?_append_right (by rw [List.length_take]; omega), List.length_take, Nat.min_eq_left (by omega)]
    · rw [if_neg (by omega), List.getElem?_append_right (by rw [List.length_append, List.length_take, leB_len]; omega), List.getElem?_drop]
      congr 1
      rw [List.length_append, List.length_take, leB_len]; omega
theorem rdN_lt {B : List Nat} (h : byOk B) (a w : Nat) : rdN B a w < 256 ^ w := by
  have h1 := leN_lt (l := (B.drop a).take w) fun b hb => h b (List.mem_of_mem_drop (List.mem_of_mem_take hb))
  exact Nat.lt_of_lt_of_le h1 (Nat.pow_le_pow_right (by omega) (by rw [List.length_take]; omega))
theorem rd_wr {B : List Nat} {a w : Nat} (v : Nat) (h : a + w ≤ B.length) : rdN (wrN B a w v) a w = v % 256 ^ w := by
  have e : ((wrN B a w v).drop a).take w = leB w v := by
    unfold wrN
    rw [List.append_assoc, List.drop_append, List.length_take, Nat.min_eq_left (by omega), Nat.sub_self, List.drop_of_length_le (by rw [List.length_take]; omega), List.nil_append, List.drop_zero]
    rw [List.take_append, leB_len, Nat.sub_self, List.take_zero, List.append_nil, List.take_of_length_le (by rw [leB_len]; omega)]
  unfold rdN; rw [e, leN_leB]
theorem rd_apart {B : List Nat} {a w b u : Nat} (v : Nat) (h : a + w ≤ B.length) (hd : a + w ≤ b ∨ b + u ≤ a) : rdN (wrN B a w v) b u = rdN B b u := by
  unfold rdN
  congr 1
  apply List.ext_getElem?
  intro k
  rw [List.getElem?_take, List.getElem?_take]
  split
  · rw [List.getElem?_drop, List.getElem?_drop, wrN_at h, if_neg (by omega)]
  · rfl
end Go.Proofs.YthhfoppaaehepaaGreatDoor.Sl
namespace Go.Proofs.YthhfoppaaehepaaGreatDoor.Sl
open Go Go.RowKit Go.Proofs
set_option linter.unusedVariables false
set_option linter.unusedSimpArgs false
attribute [local irreducible] CW Tri OW
set_option maxRecDepth 10000
@[reducible] def pk10 : List (Nat × Plan) := []
@[reducible] def pk29 : List (Nat × Plan) := [(1, [(0, 0, []), (1, 0, []), (2, 0, []), (3, 0, []), (4, 0, []), (5, 0, []), (6, 0, []), (7, 0, []), (8, 0, []), (9, 0, []), (10, 0, []), (11, 0, []), (12, 0, []), (13, 0, []), (14, 0, []), (15, 0, []), (16, 0, []), (17, 0, []), (18, 0, []), (19, 0, []), (20, 0, []), (21, 0, []), (22, 0, []), (23, 0, []), (24, 0, []), (25, 0, []), (26, 0, []), (27, 0, []), (28, 0, []), (29, 0, []), (30, 0, []), (31, 0, [])])]
theorem wrap_id {x : Int} (h0 : -9223372036854775808 ≤ x) (h1 : x ≤ 9223372036854775807) : IntKind.i64.wrap x = x := by rw [wrap_i64]; split <;> omega
/-- A memory's cells. -/
@[reducible] def byC (b : Nat) : List Value := [.int .u8 (b : Int)]
def bys (B : List Nat) : List Value := B.flatMap byC
theorem bys_len (B : List Nat) : (bys B).length = B.length := by unfold bys; rw [flatE_len (sz := 1) (fun _ => rfl)]; omega
theorem bys_at {B : List Nat} {k : Nat} {b : Nat} (h : B[k]? = some b) : rdv ti5 (bys B) (0 + k * 1) = some (.int .u8 (b : Int)) :=
  rd_part (enc := byC) (sz := 1) (fun _ => rfl) h 0 (i := ti5) rfl (by decide) (by omega) (by decide)
theorem bys_wr {B : List Nat} {k : Nat} (hk : k < B.length) (b : Nat) : wrv ti5 (bys B) (0 + k * 1) (.int .u8 (b : Int)) = some (bys (B.set k b)) :=
  wr_enc (enc := byC) (sz := 1) (fun _ => rfl) (List.getElem?_eq_getElem hk) 0 (i := ti5) (by decide) rfl rfl (by omega)
def memA (m g : Nat) (B : List Nat) : List Atom := [pt m [.slice (some ⟨g, 0, none⟩) B.length B.length], pt g (bys B)]
def holdsV (n : Nat) (at_ sz : Int) : Bool := decide (at_ ≥ 0) && (decide (sz ≥ 0) && (decide (sz ≤ n) && decide (at_ ≤ n - sz)))
def mayV (sz off w : Int) : Int := if ¬ (w = 1 ∨ w = 4 ∨ w = 8) then 40 else if off.tmod w ≠ 0 then 41 else if off < 0 ∨ off > IntKind.i64.wrap (sz - w) then 42 else 0
def accV (n : Nat) (at_ sz off w : Int) : Int := if holdsV n at_ sz then mayV sz off w else 42
theorem size10 (β : Base) (m : Nat) (q : Option Addr) (n c : Nat) : Tri Tryz.prog β 10 [.pointer (some ⟨m, 0, none⟩)] [pt m [.slice q n c]] (fun v L => v = .int .i64 n ∧ L = [pt m [.slice q n c]]) := by
  refine Tri.intro tt_ok Tryz.func10 rfl rfl Tryz.ntmps10 rfl fun F => ?_
  (refine G tt_ok pk10 ?_; repeat (refine G1 tt_ok pk10 ?_; intro _))
  exact CW.ret (fin_ret rfl pk_ ⟨rfl, rfl⟩)
set_option maxHeartbeats 1000000 in
theorem holds29 (β : Base) (m : Nat) (q : Option Addr) {n : Nat} (c : Nat) (hn : n ≤ 1000000) (a s : Int) : Tri Tryz.prog β 29 [.pointer (some ⟨m, 0, none⟩), .agg #[.int .i64 a, .int .i64 s]] [pt m [.slice q n c]] (fun v L => v = .bool (holdsV n a s) ∧ L = [pt m [.slice q n c]]) := by
  refine Tri.intro tt_ok Tryz.func29 rfl rfl Tryz.ntmps29 rfl fun F => ?_
  unfold holdsV
  (refine G tt_ok pk29 ?_; repeat (refine G1 tt_ok pk29 ?_; intro _))
  by_cases h1 : a ≥ 0
  · rw [decide_eq_true h1]
    (refine G tt_ok pk29 ?_; repeat (refine G1 tt_ok pk29 ?_; intro _))
    by_cases h2 : s ≥ 0
    · rw [decide_eq_true h2]
      (refine G tt_ok pk29 ?_; repeat (refine G1 tt_ok pk29 ?_; intro _))
      by_cases h3 : s ≤ n
      · rw [decide_eq_true h3]
        (refine G tt_ok pk29 ?_; repeat (refine G1 tt_ok pk29 ?_; intro _))
        rw [wrap_id (show -9223372036854775808 ≤ (n : Int) - s by omega) (by omega)]
        exact CW.ret (fin_ret rfl pk_ ⟨rfl, rfl⟩)
      · rw [decide_eq_false h3]
        (refine G tt_ok pk29 ?_; repeat (refine G1 tt_ok pk29 ?_; intro _))
        exact CW.ret (fin_ret rfl pk_ ⟨rfl, rfl⟩)
    · rw [decide_eq_false h2]
      (refine G tt_ok pk29 ?_; repeat (refine G1 tt_ok pk29 ?_; intro _))
      exact CW.ret (fin_ret rfl pk_ ⟨rfl, rfl⟩)
  · rw [decide_eq_false h1]
    (refine G tt_ok pk29 ?_; repeat (refine G1 tt_ok pk29 ?_; intro _))
    exact CW.ret (fin_ret rfl pk_ ⟨rfl, rfl⟩)
theorem may133 (β : Base) (s off w : Int) : Tri Tryz.prog β 133 [.int .i64 s, .int .i64 off, .int .i64 w] [] (fun v L => v = .int .i64 (mayV s off w) ∧ L = []) := by
  refine Tri.intro tt_ok Tryz.func133 rfl rfl Tryz.ntmps133 rfl fun F => ?_
  unfold mayV
  by_cases h : w = 1 ∨ w = 4 ∨ w = 8
  · rw [if_neg (fun hn => hn h)]
    rcases h with rfl | rfl | rfl
    · (refine G tt_ok [] ?_; repeat (refine G1 tt_ok [] ?_; intro _))
      by_cases h1 : off.tmod 1 = 0
      · rw [show (off.tmod 1 != 0) = false by simp [h1], if_neg (by simp [h1])]
        (refine G tt_ok [] ?_; repeat (refine G1 tt_ok [] ?_; intro _))
        by_cases h2 : off < 0
        · rw [decide_eq_true h2, if_pos (Or.inl h2)]
          (refine G tt_ok [] ?_; repeat (refine G1 tt_ok [] ?_; intro _))
          exact CW.ret (fin_ret rfl (Ent.dropAll _) ⟨rfl, rfl⟩)
        · rw [decide_eq_false h2]
          (refine G tt_ok [] ?_; repeat (refine G1 tt_ok [] ?_; intro _))
          by_cases h3 : off > IntKind.i64.wrap (s - 1)
          · rw [decide_eq_true h3, if_pos (Or.inr h3)]
            (refine G tt_ok [] ?_; repeat (refine G1 tt_ok [] ?_; intro _))
            exact CW.ret (fin_ret rfl (Ent.dropAll _) ⟨rfl, rfl⟩)
          · rw [decide_eq_false h3, if_neg (by omega)]
            (refine G tt_ok [] ?_; repeat (refine G1 tt_ok [] ?_; intro _))
            exact CW.ret (fin_ret rfl (Ent.dropAll _) ⟨rfl, rfl⟩)
      · exact absurd (Int.tmod_one off) h1
    · (refine G tt_ok [] ?_; repeat (refine G1 tt_ok [] ?_; intro _))
      by_cases h1 : off.tmod 4 = 0
      · rw [show (off.tmod 4 != 0) = false by simp [h1], if_neg (by simp [h1])]
        (refine G tt_ok [] ?_; repeat (refine G1 tt_ok [] ?_; intro _))
        by_cases h2 : off < 0
        · rw [decide_eq_true h2, if_pos (Or.inl h2)]
          (refine G tt_ok [] ?_; repeat (refine G1 tt_ok [] ?_; intro _))
          exact CW.ret (fin_ret rfl (Ent.dropAll _) ⟨rfl, rfl⟩)
        · rw [decide_eq_false h2]
          (refine G tt_ok [] ?_; repeat (refine G1 tt_ok [] ?_; intro _))
          by_cases h3 : off > IntKind.i64.wrap (s - 4)
          · rw [decide_eq_true h3, if_pos (Or.inr h3)]
            (refine G tt_ok [] ?_; repeat (refine G1 tt_ok [] ?_; intro _))
            exact CW.ret (fin_ret rfl (Ent.dropAll _) ⟨rfl, rfl⟩)
          · rw [decide_eq_false h3, if_neg (by omega)]
            (refine G tt_ok [] ?_; repeat (refine G1 tt_ok [] ?_; intro _))
            exact CW.ret (fin_ret rfl (Ent.dropAll _) ⟨rfl, rfl⟩)
      · rw [show (off.tmod 4 != 0) = true by simp [h1], if_pos h1]
        (refine G tt_ok [] ?_; repeat (refine G1 tt_ok [] ?_; intro _))
        exact CW.ret (fin_ret rfl (Ent.dropAll _) ⟨rfl, rfl⟩)
    · (refine G tt_ok [] ?_; repeat (refine G1 tt_ok [] ?_; intro _))
      by_cases h1 : off.tmod 8 = 0
      · rw [show (off.tmod 8 != 0) = false by simp [h1], if_neg (by simp [h1])]
        (refine G tt_ok [] ?_; repeat (refine G1 tt_ok [] ?_; intro _))
        by_cases h2 : off < 0
        · rw [decide_eq_true h2, if_pos (Or.inl h2)]
          (refine G tt_ok [] ?_; repeat (refine G1 tt_ok [] ?_; intro _))
          exact CW.ret (fin_ret rfl (Ent.dropAll _) ⟨rfl, rfl⟩)
        · rw [decide_eq_false h2]
          (refine G tt_ok [] ?_; repeat (refine G1 tt_ok [] ?_; intro _))
          by_cases h3 : off > IntKind.i64.wrap (s - 8)
          · rw [decide_eq_true h3, if_pos (Or.inr h3)]
            (refine G tt_ok [] ?_; repeat (refine G1 tt_ok [] ?_; intro _))
            exact CW.ret (fin_ret rfl (Ent.dropAll _) ⟨rfl, rfl⟩)
          · rw [decide_eq_false h3, if_neg (by omega)]
            (refine G tt_ok [] ?_; repeat (refine G1 tt_ok [] ?_; intro _))
            exact CW.ret (fin_ret rfl (Ent.dropAll _) ⟨rfl, rfl⟩)
      · rw [show (off.tmod 8 != 0) = true by simp [h1], if_pos h1]
        (refine G tt_ok [] ?_; repeat (refine G1 tt_ok [] ?_; intro _))
        exact CW.ret (fin_ret rfl (Ent.dropAll _) ⟨rfl, rfl⟩)
  · rw [if_pos h]
    (refine G tt_ok [] ?_; repeat (refine G1 tt_ok [] ?_; intro _))
    rw [show (w != 1) = true by simp; omega]
    (refine G tt_ok [] ?_; repeat (refine G1 tt_ok [] ?_; intro _))
    rw [show (w != 4) = true by simp; omega]
    (refine G tt_ok [] ?_; repeat (refine G1 tt_ok [] ?_; intro _))
    rw [show (w != 8) = true by simp; omega]
    (refine G tt_ok [] ?_; repeat (refine G1 tt_ok [] ?_; intro _))
    exact CW.ret (fin_ret rfl (Ent.dropAll _) ⟨rfl, rfl⟩)
theorem acc_in {n : Nat} (hn : n ≤ 1000000) {a s off w : Int} (h : accV n a s off w = 0) : ∃ A W : Nat, a + off = (A : Int) ∧ w = (W : Int) ∧ (W = 1 ∨ W = 4 ∨ W = 8) ∧ A + W ≤ n ∧ 0 ≤ a ∧ 0 ≤ off ∧ s ≤ n ∧ a ≤ n := by
  unfold accV holdsV at h
  split at h
  · rename_i h1
    simp only [Bool.and_eq_true, decide_eq_true_eq] at h1
    unfold mayV at h
    split at h
    · omega
    · rename_i hw
      have hw2 : w = 1 ∨ w = 4 ∨ w = 8 := Classical.not_not.1 hw
      split at h
      · omega
      · split at h
        · omega
        · rename_i h3 h4
          have h5 : ¬ off < 0 ∧ ¬ off > IntKind.i64.wrap (s - w) := ⟨fun h => h4 (.inl h), fun h => h4 (.inr h)⟩
          rw [wrap_id (by omega) (by omega)] at h5
          exact ⟨(a + off).toNat, w.toNat, by omega, by omega, by omega, by omega, by omega, by omega, by omega, by omega⟩
  · omega
end Go.Proofs.YthhfoppaaehepaaGreatDoor.Sl
namespace Go.Proofs.YthhfoppaaehepaaGreatDoor.Sl
open Go Go.RowKit Go.Proofs
set_option linter.unusedVariables false
set_option linter.unusedSimpArgs false
attribute [local irreducible] CW Tri OW
set_option maxRecDepth 10000
@[reducible] def pk124 : List (Nat × Plan) := [(6, [(0, 0, []), (1, 0, []), (2, 0, []), (3, 0, []), (4, 0, []), (5, 0, []), (6, 0, []), (7, 0, []), (8, 0, []), (9, 0, []), (10, 0, []), (11, 0, []), (12, 0, []), (13, 0, []), (14, 0, []), (15, 0, []), (16, 0, [])])]
theorem part_ok (β : Base) {m g : Nat} {B : List Nat} (hn : B.length ≤ 1000000) {a s off w : Int} {A W : Nat} (h : accV B.length a s off w = 0) (hA : a + off = (A : Int)) (hW : w = (W : Int)) :
    Tri Tryz.prog β 124 [.pointer (some ⟨m, 0, none⟩), .agg #[.int .i64 a, .int .i64 s], .int .i64 off, .int .i64 w] (memA m g B) (fun v L => v = .tuple #[.slice (some ⟨g, A, none⟩) W (B.length - A), .int .i64 0] ∧ L = memA m g B) := by
  obtain ⟨A', W', e1, e2, hw, hle, ha, ho, hs, haa⟩ := acc_in hn h
  obtain rfl : A' = A := by omega
  obtain rfl : W' = W := by omega
  have hh : holdsV B.length a s = true := by unfold accV at h; split at h; assumption; omega
  have hm : mayV s off w = 0 := by unfold accV at h; rw [hh] at h; exact h
  refine Tri.intro tt_ok Tryz.func124 rfl rfl Tryz.ntmps124 rfl fun F => ?_
  unfold memA
  (refine G tt_ok pk124 ?_; repeat (refine G1 tt_ok pk124 ?_; intro _))
  refine ke rfl rfl (holds29 β m (some ⟨g, 0, none⟩) B.length hn a s) ?_
  rw [hh]
  (refine G tt_ok pk124 ?_; repeat (refine G1 tt_ok pk124 ?_; intro _))
  refine ke rfl rfl (may133 β s off w) ?_
  rw [hm]
  (refine G tt_ok pk124 ?_; repeat (refine G1 tt_ok pk124 ?_; intro _))
  rw [wrap_id (show -9223372036854775808 ≤ a + off by omega) (by omega), hA, hW, wrap_id (show -9223372036854775808 ≤ (A' : Int) + W' by omega) (by omega)]
  (refine SQ.slc tt_ok rfl rfl (A') (A' + W') (rfl) (by omega) (by omega) (by omega) (by omega) (o' := A') (n' := W') (c' := B.length - A') (by show _ + _ * 1 = _; omega) (by omega) (by omega) ?_)
  (refine G tt_ok pk124 ?_; repeat (refine G1 tt_ok pk124 ?_; intro _))
  exact CW.ret (fin_ret rfl pk_ ⟨rfl, rfl⟩)
theorem part_no (β : Base) {m g : Nat} {B : List Nat} (hn : B.length ≤ 1000000) {a s off w : Int} (h : accV B.length a s off w ≠ 0) :
    Tri Tryz.prog β 124 [.pointer (some ⟨m, 0, none⟩), .agg #[.int .i64 a, .int .i64 s], .int .i64 off, .int .i64 w] (memA m g B) (fun v L => v = .tuple #[.slice none 0 0, .int .i64 (accV B.length a s off w)] ∧ L = memA m g B) := by
  refine Tri.intro tt_ok Tryz.func124 rfl rfl Tryz.ntmps124 rfl fun F => ?_
  unfold memA
  (refine G tt_ok pk124 ?_; repeat (refine G1 tt_ok pk124 ?_; intro _))
  refine ke rfl rfl (holds29 β m (some ⟨g, 0, none⟩) B.length hn a s) ?_
  unfold accV at h ⊢
  cases hh : holdsV B.length a s with
  | false =>
    (refine G tt_ok pk124 ?_; repeat (refine G1 tt_ok pk124 ?_; intro _))
    exact CW.ret (fin_ret rfl pk_ ⟨rfl, rfl⟩)
  | true =>
    rw [hh, if_pos rfl] at h
    (refine G tt_ok pk124 ?_; repeat (refine G1 tt_ok pk124 ?_; intro _))
    refine ke rfl rfl (may133 β s off w) ?_
    (refine G tt_ok pk124 ?_; repeat (refine G1 tt_ok pk124 ?_; intro _))
    rw [show (mayV s off w != 0) = true by simp [h]]
    (refine G tt_ok pk124 ?_; repeat (refine G1 tt_ok pk124 ?_; intro _))
    exact CW.ret (fin_ret rfl pk_ ⟨rfl, rfl⟩)
theorem oN {a : Nat} (h : a < 2 ^ 64) : (BitVec.ofInt 64 (a : Int)).toNat = a := by
  rw [BitVec.toNat_ofInt]; have : (2 : Nat) ^ 64 = 18446744073709551616 := rfl; omega
theorem wN {a : Nat} (h : a < 2 ^ 64) : IntKind.u64.wrap (a : Int) = (a : Int) := by rw [wrap_u64]; have : (2 : Nat) ^ 64 = 18446744073709551616 := rfl; omega
theorem and64 {a b : Nat} (ha : a < 2 ^ 64) (hb : b < 2 ^ 64) : IntKind.u64.wrap ((BitVec.ofInt IntKind.u64.bits (a : Int) &&& BitVec.ofInt IntKind.u64.bits (b : Int)).toNat : Int) = ((a &&& b : Nat) : Int) := by
  show IntKind.u64.wrap ((BitVec.ofInt 64 (a : Int) &&& BitVec.ofInt 64 (b : Int)).toNat : Int) = _
  rw [BitVec.toNat_and, oN ha, oN hb, wN (Nat.and_lt_two_pow _ hb)]
theorem or64 {a b : Nat} (ha : a < 2 ^ 64) (hb : b < 2 ^ 64) : IntKind.u64.wrap ((BitVec.ofInt IntKind.u64.bits (a : Int) ||| BitVec.ofInt IntKind.u64.bits (b : Int)).toNat : Int) = ((a ||| b : Nat) : Int) := by
  show IntKind.u64.wrap ((BitVec.ofInt 64 (a : Int) ||| BitVec.ofInt 64 (b : Int)).toNat : Int) = _
  rw [BitVec.toNat_or, oN ha, oN hb, wN (Nat.or_lt_two_pow ha hb)]
theorem pow256 (i : Nat) : 2 ^ (8 * i) = 256 ^ i := by rw [Nat.pow_mul]
theorem p256_lt {i : Nat} (h : i < 8) {b : Nat} (hb : b < 256) : b * 256 ^ i < 2 ^ 64 := by
  have h1 : 256 ^ i ≤ 256 ^ 7 := Nat.pow_le_pow_right (by omega) (by omega)
  have h2 : b * 256 ^ i ≤ 255 * 256 ^ 7 := Nat.mul_le_mul (by omega) h1
  have h3 : 255 * 256 ^ 7 < 2 ^ 64 := by decide
  omega
theorem sh_step {i : Nat} (h : i < 8) {b : Nat} (hb : b < 256) : (if true = true then IntKind.u64.wrap (IntKind.u64.wrap (b : Int) * 2 ^ min (8 * i) IntKind.u64.bits) else (IntKind.u64.wrap (b : Int)).fdiv (2 ^ min (8 * i) IntKind.u64.bits)) = ((b * 256 ^ i : Nat) : Int) := by
  rw [if_pos rfl, wN (by have : (2 : Nat) ^ 64 = 18446744073709551616 := rfl; omega), show min (8 * i) IntKind.u64.bits = 8 * i from Nat.min_eq_left (by show 8 * i ≤ 64; omega)]
  rw [show (b : Int) * 2 ^ (8 * i) = ((b * 256 ^ i : Nat) : Int) by rw [← pow256]; simp, wN (p256_lt h hb)]
theorem or_step {i : Nat} (h : i < 8) {a b : Nat} (ha : a < 256 ^ i) (hb : b < 256) : IntKind.u64.wrap ((BitVec.ofInt IntKind.u64.bits (a : Int) ||| BitVec.ofInt IntKind.u64.bits ((b * 256 ^ i : Nat) : Int)).toNat : Int) = ((a + 256 ^ i * b : Nat) : Int) := by
  have h1 : 256 ^ i ≤ 256 ^ 7 := Nat.pow_le_pow_right (by omega) (by omega)
  have h3 : 256 ^ 7 < 2 ^ 64 := by decide
  rw [or64 (by omega) (p256_lt h hb)]
  congr 1
  rw [Nat.or_comm, Nat.mul_comm b, ← pow256, ← Nat.two_pow_add_eq_or_of_lt (by rw [pow256]; exact ha)]
  omega
theorem leN_take {l : List Nat} {i : Nat} {b : Nat} (h : l[i]? = some b) : leN (l.take (i + 1)) = leN (l.take i) + 256 ^ i * b := by
  have hi := (List.getElem?_eq_some_iff.1 h).1
  rw [List.take_add_one, h]
  show leN (l.take i ++ [b]) = _
  rw [leN_snoc, List.length_take, Nat.min_eq_left (by omega)]
def memRd (B : List Nat) (a s off w : Int) : Nat × Int := if accV B.length a s off w = 0 then (rdN B (a + off).toNat w.toNat, 0) else (0, accV B.length a s off w)
def memWr (B : List Nat) (a s off w : Int) (v : Nat) : List Nat × Int := if accV B.length a s off w = 0 then (wrN B (a + off).toNat w.toNat v, 0) else (B, accV B.length a s off w)
set_option maxHeartbeats 4000000 in
theorem read91 (β : Base) (m g : Nat) (B : List Nat) (hn : B.length ≤ 1000000) (hb : byOk B) (a s off w : Int) :
    Tri Tryz.prog β 91 [.pointer (some ⟨m, 0, none⟩), .agg #[.int .i64 a, .int .i64 s], .int .i64 off, .int .i64 w] (memA m g B) (fun v L => v = .tuple #[.int .u64 ((memRd B a s off w).1 : Int), .int .i64 (memRd B a s off w).2] ∧ L = memA m g B) := by
  refine Tri.intro tt_ok Tryz.func91 rfl rfl Tryz.ntmps91 rfl fun F => ?_
  unfold memRd
  by_cases h : accV B.length a s off w = 0
  · rw [if_pos h]
    obtain ⟨A, W, e1, e2, hw, hle, ha, ho, hs, haa⟩ := acc_in hn h
    rw [e1, e2, Int.toNat_natCast, Int.toNat_natCast]
    rw [e2] at h
    (refine G tt_ok [] ?_; repeat (refine G1 tt_ok [] ?_; intro _))
    refine ke rfl rfl (part_ok β hn h e1 rfl) ?_
    (refine G tt_ok [] ?_; repeat (refine G1 tt_ok [] ?_; intro _))
    refine CW.loop (α := Nat) (fun i => i ≤ W) (fun i => [(25, .int .i64 i), (24, .int .i64 W), (23, .slice (some ⟨g, A, none⟩) W (B.length - A)), (12, .int .u64 (leN (((B.drop A).take W).take i) : Int)), (11, .int .i64 0)]) (fun i => memA m g B) (fun i => W - i) 0 (by omega) ⟨rfl, rfl, rfl, rfl, rfl, trivial⟩ pk_ ?_
    intro i hi
    unfold memA
    (refine G tt_ok [] ?_; repeat (refine G1 tt_ok [] ?_; intro _))
    by_cases hlt : i < W
    · rw [decide_eq_true (show (i : Int) < W by omega)]
      have hwr : IntKind.i64.wrap ((i : Int) + 1) = ((i + 1 : Nat) : Int) := by rw [wrap_i64]; split <;> omega
      obtain ⟨b, hbb⟩ : ∃ b, B[A + i]? = some b := ⟨_, List.getElem?_eq_getElem (by omega)⟩
      have hb1 : ((B.drop A).take W)[i]? = some b := by rw [List.getElem?_take_of_lt hlt, List.getElem?_drop]; exact hbb
      have hb2 := hb b (List.mem_of_getElem? hbb)
      have hacc : leN (((B.drop A).take W).take i) < 256 ^ i := by
        have h1 := leN_lt (l := ((B.drop A).take W).take i) fun x hx => hb x (List.mem_of_mem_drop (List.mem_of_mem_take (List.mem_of_mem_take hx)))
        rw [List.length_take, List.length_take, List.length_drop] at h1
        rwa [show min i (min W (B.length - A)) = i by omega] at h1
      have hst := leN_take hb1
      (refine G tt_ok [] ?_; repeat (refine G1 tt_ok [] ?_; intro _))
      refine SQ.idx tt_ok rfl rfl i rfl hlt (o' := 0 + (A + i) * 1) (by show A + i * 1 = _; omega) ?_
      (refine SQ.ldA tt_ok rfl rfl (by repeat (first | exact .h | exact .q | apply At.t)) (bys_at hbb) ?_)
      (refine G tt_ok [] ?_; repeat (refine G1 tt_ok [] ?_; intro _))
      refine SQ.shift tt_ok rfl rfl (8 * i) (by rw [wrap_id (by omega) (by omega)]; omega) (v := ((b * 256 ^ i : Nat) : Int)) (sh_step (by omega) hb2) ?_
      (refine G tt_ok [] ?_; repeat (refine G1 tt_ok [] ?_; intro _))
      rw [or_step (show i < 8 by omega) hacc hb2]
      refine ⟨i + 1, by omega, by omega, ⟨by rw [← hwr]; rfl, rfl, rfl, by rw [hst]; rfl, rfl, trivial⟩, pk_⟩
    · rw [decide_eq_false (show ¬ (i : Int) < W by omega)]
      (refine G tt_ok [] ?_; repeat (refine G1 tt_ok [] ?_; intro _))
      refine CW.exit ?_
      (refine G tt_ok [] ?_; repeat (refine G1 tt_ok [] ?_; intro _))
      obtain rfl : i = W := by omega
      rw [List.take_take, Nat.min_self]
      exact CW.ret (fin_ret rfl (A := memA m g B) pk_ ⟨rfl, rfl⟩)
  · rw [if_neg h]
    (refine G tt_ok [] ?_; repeat (refine G1 tt_ok [] ?_; intro _))
    refine ke rfl rfl (part_no β hn h) ?_
    (refine G tt_ok [] ?_; repeat (refine G1 tt_ok [] ?_; intro _))
    refine CW.loop (α := Unit) (fun _ => True) (fun _ => [(25, .int .i64 0), (24, .int .i64 0), (23, .slice none 0 0), (12, .int .u64 0), (11, .int .i64 (accV B.length a s off w))]) (fun _ => memA m g B) (fun _ => 0) () trivial ⟨rfl, rfl, rfl, rfl, rfl, trivial⟩ pk_ ?_
    intro _ _
    (refine G tt_ok [] ?_; repeat (refine G1 tt_ok [] ?_; intro _))
    refine CW.exit ?_
    (refine G tt_ok [] ?_; repeat (refine G1 tt_ok [] ?_; intro _))
    exact CW.ret (fin_ret rfl (A := memA m g B) pk_ ⟨rfl, rfl⟩)
end Go.Proofs.YthhfoppaaehepaaGreatDoor.Sl
namespace Go.Proofs.YthhfoppaaehepaaGreatDoor.Sl
open Go Go.RowKit Go.Proofs
set_option linter.unusedVariables false
set_option linter.unusedSimpArgs false
attribute [local irreducible] CW Tri OW
set_option maxRecDepth 10000
@[reducible] def pk80 : List (Nat × Plan) := [(3, [(0, 0, []), (1, 0, []), (2, 0, []), (3, 0, []), (4, 0, []), (5, 0, []), (6, 0, []), (7, 0, []), (8, 0, []), (9, 0, []), (10, 0, []), (11, 0, []), (12, 1, [])])]
theorem leB_at : ∀ (w v k : Nat), (leB w v)[k]? = if k < w then some (v / 256 ^ k % 256) else none
  | 0, v, k => by simp [leB]
  | w + 1, v, 0 => by simp [leB]
  | w + 1, v, k + 1 => by
    simp only [leB, List.getElem?_cons_succ]
    rw [leB_at w (v / 256) k, Nat.div_div_eq_div_mul, Nat.pow_succ, Nat.mul_comm 256]
    simp
theorem wrN_zero (B : List Nat) (A v : Nat) : wrN B A 0 v = B := by simp [wrN, leB]
theorem wrN_step {B : List Nat} {A i v : Nat} (h : A + i < B.length) : (wrN B A i v).set (A + i) (v / 256 ^ i % 256) = wrN B A (i + 1) v := by
  apply List.ext_getElem?
  intro k
  rw [wrN_at (by omega)]
  by_cases e : A + i = k
  · subst e
    rw [List.getElem?_set_self (by rw [wrN_len v (by omega)]; exact h), if_pos (by omega), leB_at, show A + i - A = i by omega, if_pos (by omega)]
  · rw [List.getElem?_set_ne e, wrN_at (by omega)]
    by_cases h1 : A ≤ k ∧ k < A + i
    · rw [if_pos h1, if_pos (by omega), leB_at, leB_at, if_pos (by omega), if_pos (by omega)]
    · rw [if_neg h1, if_neg (by omega)]
theorem shr_byte {v i : Nat} (h : i < 8) (hv : v < 2 ^ 64) : IntKind.u8.wrap ((v : Int).fdiv (2 ^ min (8 * i) IntKind.u64.bits)) = ((v / 256 ^ i % 256 : Nat) : Int) := by
  rw [show min (8 * i) IntKind.u64.bits = 8 * i from Nat.min_eq_left (by show 8 * i ≤ 64; omega)]
  rw [show (v : Int).fdiv (2 ^ (8 * i)) = ((v / 256 ^ i : Nat) : Int) by rw [← pow256, Int.fdiv_eq_ediv_of_nonneg _ (by exact Int.le_of_lt (Int.pow_pos (by omega)))]; simp]
  have : ∀ n : Int, IntKind.u8.wrap n = n % 256 := fun n => by unfold IntKind.wrap; simp [IntKind.signed, IntKind.bits]
  rw [this]
  omega
set_option maxHeartbeats 4000000 in
theorem write68 (β : Base) (m g : Nat) (B : List Nat) (hn : B.length ≤ 1000000) (a s off w : Int) (v : Nat) (hv : v < 2 ^ 64) :
    Tri Tryz.prog β 68 [.pointer (some ⟨m, 0, none⟩), .agg #[.int .i64 a, .int .i64 s], .int .i64 off, .int .i64 w, .int .u64 (v : Int)] (memA m g B) (fun u L => u = .int .i64 (memWr B a s off w v).2 ∧ L = memA m g (memWr B a s off w v).1) := by
  refine Tri.intro tt_ok Tryz.func68 rfl rfl Tryz.ntmps68 rfl fun F => ?_
  unfold memWr
  by_cases h : accV B.length a s off w = 0
  · rw [if_pos h]
    obtain ⟨A, W, e1, e2, hw, hle, ha, ho, hs, haa⟩ := acc_in hn h
    rw [e1, e2, Int.toNat_natCast, Int.toNat_natCast]
    rw [e2] at h
    (refine G tt_ok [] ?_; repeat (refine G1 tt_ok [] ?_; intro _))
    refine ke rfl rfl (part_ok β hn h e1 rfl) ?_
    (refine G tt_ok [] ?_; repeat (refine G1 tt_ok [] ?_; intro _))
    refine CW.loop (α := Nat) (fun i => i ≤ W) (fun i => [(24, .int .i64 i), (23, .int .i64 W), (11, .slice (some ⟨g, A, none⟩) W (B.length - A)), (12, .int .i64 0), (4, .int .u64 (v : Int))]) (fun i => memA m g (wrN B A i v)) (fun i => W - i) 0 (by omega) ⟨rfl, rfl, rfl, rfl, rfl, trivial⟩ (by rw [wrN_zero]; exact pk_) ?_
    intro i hi
    have hwl := wrN_len (B := B) (a := A) (w := i) v (by omega)
    unfold memA
    rw [hwl]
    (refine G tt_ok [] ?_; repeat (refine G1 tt_ok [] ?_; intro _))
    by_cases hlt : i < W
    · rw [decide_eq_true (show (i : Int) < W by omega)]
      have hwr : IntKind.i64.wrap ((i : Int) + 1) = ((i + 1 : Nat) : Int) := by rw [wrap_i64]; split <;> omega
      (refine G tt_ok [] ?_; repeat (refine G1 tt_ok [] ?_; intro _))
      refine SQ.shift tt_ok rfl rfl (8 * i) (by rw [wrap_id (by omega) (by omega)]; omega) rfl ?_
      (refine G tt_ok [] ?_; repeat (refine G1 tt_ok [] ?_; intro _))
      refine SQ.idx tt_ok rfl rfl i rfl hlt (o' := 0 + (A + i) * 1) (by show A + i * 1 = _; omega) ?_
      (refine G tt_ok [] ?_; repeat (refine G1 tt_ok [] ?_; intro _))
      rw [if_neg (by simp), shr_byte (by omega) hv]
      (refine SQ.stA tt_ok rfl rfl (by repeat (first | apply Up.h | apply Up.t)) (by rfl) (bys_wr (show A + i < (wrN B A i v).length by omega) _) (by exact trivial) ?_)
      (refine G tt_ok [] ?_; repeat (refine G1 tt_ok [] ?_; intro _))
      rw [wrN_step (by omega)]
      have hwl2 := wrN_len (B := B) (a := A) (w := i + 1) v (by omega)
      refine ⟨i + 1, by omega, by omega, ⟨by rw [← hwr]; rfl, rfl, rfl, rfl, rfl, trivial⟩, ?_⟩
      rw [hwl2]
      exact pk_
    · rw [decide_eq_false (show ¬ (i : Int) < W by omega)]
      (refine G tt_ok [] ?_; repeat (refine G1 tt_ok [] ?_; intro _))
      refine CW.exit ?_
      (refine G tt_ok [] ?_; repeat (refine G1 tt_ok [] ?_; intro _))
      obtain rfl : i = W := by omega
      refine CW.ret (fin_ret rfl (A := memA m g (wrN B A i v)) ?_ ⟨rfl, rfl⟩)
      unfold memA
      rw [hwl]
      exact pk_
  · rw [if_neg h]
    (refine G tt_ok [] ?_; repeat (refine G1 tt_ok [] ?_; intro _))
    refine ke rfl rfl (part_no β hn h) ?_
    (refine G tt_ok [] ?_; repeat (refine G1 tt_ok [] ?_; intro _))
    refine CW.loop (α := Unit) (fun _ => True) (fun _ => [(24, .int .i64 0), (23, .int .i64 0), (11, .slice none 0 0), (12, .int .i64 (accV B.length a s off w))]) (fun _ => memA m g B) (fun _ => 0) () trivial ⟨rfl, rfl, rfl, rfl, trivial⟩ pk_ ?_
    intro _ _
    (refine G tt_ok [] ?_; repeat (refine G1 tt_ok [] ?_; intro _))
    refine CW.exit ?_
    (refine G tt_ok [] ?_; repeat (refine G1 tt_ok [] ?_; intro _))
    exact CW.ret (fin_ret rfl (A := memA m g B) pk_ ⟨rfl, rfl⟩)
theorem bys_clr {B : List Nat} {A W : Nat} (h : A + W ≤ B.length) : (bys B).take A ++ List.replicate W ti5.zero ++ (bys B).drop (A + W) = bys (B.take A ++ List.replicate W 0 ++ B.drop (A + W)) := by
  have e : ∀ B : List Nat, bys B = B.map fun (b : Nat) => Value.int .u8 (b : Int) := fun B => by
    unfold bys
    induction B with
    | nil => rfl
    | cons b B ih => rw [List.flatMap_cons, ih]; rfl
  rw [e, e, ← List.map_take, ← List.map_drop, List.map_append, List.map_append, List.map_replicate]; rfl
def wipeN (B : List Nat) (A W : Nat) : List Nat := B.take A ++ List.replicate W 0 ++ B.drop (A + W)
theorem wipe_len {B : List Nat} {A W : Nat} (h : A + W ≤ B.length) : (wipeN B A W).length = B.length := by
  simp only [wipeN, List.length_append, List.length_take, List.length_drop, List.length_replicate]; omega
/-- A window that is there, and not empty, wiped. -/
theorem wipe80 (β : Base) (m g : Nat) (B : List Nat) (hn : B.length ≤ 1000000) {A W : Nat} (hW : 0 < W) (hle : A + W ≤ B.length) :
    Tri Tryz.prog β 80 [.pointer (some ⟨m, 0, none⟩), .agg #[.int .i64 (A : Int), .int .i64 (W : Int)]] (memA m g B) (fun u L => u = .int .i64 0 ∧ L = memA m g (wipeN B A W)) := by
  refine Tri.intro tt_ok Tryz.func80 rfl rfl Tryz.ntmps80 rfl fun F => ?_
  have hh : holdsV B.length A W = true := by simp [holdsV]; omega
  unfold memA
  (refine G tt_ok pk80 ?_; repeat (refine G1 tt_ok pk80 ?_; intro _))
  refine ke rfl rfl (holds29 β m (some ⟨g, 0, none⟩) B.length hn A W) ?_
  rw [hh]
  (refine G tt_ok pk80 ?_; repeat (refine G1 tt_ok pk80 ?_; intro _))
  rw [wrap_id (show -9223372036854775808 ≤ (A : Int) + W by omega) (by omega)]
  (refine SQ.slc tt_ok rfl rfl (A) (A + W) (rfl) (by omega) (by omega) (by omega) (by omega) (o' := A) (n' := W) (c' := B.length - A) (by show _ + _ * 1 = _; omega) (by omega) (by omega) ?_)
  (refine G tt_ok pk80 ?_; repeat (refine G1 tt_ok pk80 ?_; intro _))
  refine SQ.clr tt_ok rfl rfl hW (by rw [bys_len]; exact hle) (by repeat (first | apply Up.h | apply Up.t)) (by repeat (first | exact trivial | refine ⟨trivial, ?_⟩ | refine ⟨wk (by repeat (first | exact .h | exact .q | apply At.t)) (by rfl), ?_⟩)) ?_
  rw [bys_clr hle]
  (refine G tt_ok pk80 ?_; repeat (refine G1 tt_ok pk80 ?_; intro _))
  refine CW.ret (fin_ret rfl (A := memA m g (wipeN B A W)) ?_ ⟨rfl, rfl⟩)
  unfold memA
  rw [wipe_len hle]
  exact pk_
theorem made_flat_of {α : Type} {enc : α → List Value} {a : α} (z : Array Value) (hz : enc a = z.toList) (hp : 0 < z.size) : ∀ n, (madeCells z (n * z.size)).toList = (List.replicate n a).flatMap enc
  | 0 => by simp [madeCells]
  | n + 1 => by
    have ih := made_flat_of z hz hp n
    rw [List.replicate_succ', List.flatMap_append, ← ih]
    simp only [madeCells, Array.toList_map, Array.toList_range, List.flatMap_cons, List.flatMap_nil, List.append_nil]
    rw [Nat.add_mul, Nat.one_mul, List.range_add, List.map_append, hz]
    congr 1
    apply List.ext_getElem?
    intro i
    rw [List.map_map]
    by_cases hi : i < z.size
    · simp [hi, Nat.mod_eq_of_lt hi, getElem!_pos]
    · simp [hi]
theorem new96 (β : Base) {n : Nat} (hn : n ≤ 131072) : Tri Tryz.prog β 96 [.int .i64 n] [] (fun v L => ∃ m g, v = .tuple #[.pointer (some ⟨m, 0, none⟩), .int .i64 0] ∧ L = memA m g (List.replicate n 0)) := by
  refine Tri.intro tt_ok Tryz.func96 rfl rfl Tryz.ntmps96 rfl fun F => ?_
  (refine G tt_ok [] ?_; repeat (refine G1 tt_ok [] ?_; intro _))
  rw [decide_eq_false (show ¬ (n : Int) < 0 by omega)]
  (refine G tt_ok [] ?_; repeat (refine G1 tt_ok [] ?_; intro _))
  rw [decide_eq_false (show ¬ (n : Int) > 131072 by omega)]
  (refine G tt_ok [] ?_; repeat (refine G1 tt_ok [] ?_; intro _))
  refine SQ.make tt_ok rfl rfl n rfl rfl (by show n * 1 ≤ _; omega) (by show 1 * n ≤ _; omega) (by omega) (fun g => w_ ?_)
  (refine G tt_ok [] ?_; repeat (refine G1 tt_ok [] ?_; intro _))
  rename_i m
  refine CW.ret (fin_ret rfl (A := memA m g (List.replicate n 0)) ?_ ⟨m, g, rfl, rfl⟩)
  unfold memA
  rw [List.length_replicate, show bys (List.replicate n 0) = (madeCells ti5.zero.cells (n * ti5.size)).toList from (made_flat_of (enc := byC) (a := 0) ti5.zero.cells rfl (by decide) n).symm]
  exact pk_
end Go.Proofs.YthhfoppaaehepaaGreatDoor.Sl
namespace Go.Proofs.YthhfoppaaehepaaGreatDoor.Sl
open Go Go.RowKit Go.Proofs
set_option linter.unusedVariables false
set_option linter.unusedSimpArgs false
attribute [local irreducible] CW Tri OW
set_option maxRecDepth 10000
def fairV (a s : Int) : Bool := decide (0 ≤ a ∧ a ≤ 1099511627776 ∧ 0 ≤ s ∧ s ≤ 1099511627776)
theorem fair129 (β : Base) (a s : Int) : Tri Tryz.prog β 129 [.agg #[.int .i64 a, .int .i64 s]] [] (fun v L => v = .bool (fairV a s) ∧ L = []) := by
  refine Tri.intro tt_ok Tryz.func129 rfl rfl Tryz.ntmps129 rfl fun F => ?_
  (repeat' (first | refine CW.seq ?_ | refine CW.region tt_ok rfl ?_ | refine CW.block ?_ | refine CW.skip ?_ | refine SQ.nil ?_ | refine SQ.pures1 tt_ok rfl ?_ | refine SQ.pure1 tt_ok rfl ?_ | refine SQ.new _ _ rfl rfl (fun _ => ?_) | refine SQ.ldA tt_ok rfl rfl (by repeat (first | exact .h | exact .q | apply At.t)) (by rfl) ?_ | refine SQ.stA tt_ok rfl rfl (by repeat (first | apply Up.h | apply Up.t)) (by rfl) (by rfl) (by exact trivial) ?_ | refine CW.cond_tt rfl ?_ | refine CW.cond_ff rfl ?_ | ((first | refine CW.cond rfl (fun hc => ?_) (fun hc => ?_) | refine SQ.gsplit rfl (fun hc => ?_) (fun hc => ?_)) <;> try (exfalso; simp_all; done))))
  all_goals (refine CW.ret (fin_ret rfl (Ent.dropAll _) ⟨?_, rfl⟩); simp_all [packV, fairV]; try omega)
def meetV (a s b t : Int) : Bool := fairV a s && (fairV b t && decide (1 ≤ s ∧ 1 ≤ t ∧ (if a < b then b - a < s else a - b < t)))
set_option maxHeartbeats 2000000 in
theorem meet77 (β : Base) (a s b t : Int) : Tri Tryz.prog β 77 [.agg #[.int .i64 a, .int .i64 s], .agg #[.int .i64 b, .int .i64 t]] [] (fun v L => v = .bool (meetV a s b t) ∧ L = []) := by
  refine Tri.intro tt_ok Tryz.func77 rfl rfl Tryz.ntmps77 rfl fun F => ?_
  unfold meetV
  (refine G tt_ok [] ?_; repeat (refine G1 tt_ok [] ?_; intro _))
  refine ke rfl rfl (fair129 β a s) ?_
  cases h1 : fairV a s with
  | false =>
    (refine G tt_ok [] ?_; repeat (refine G1 tt_ok [] ?_; intro _))
    exact CW.ret (fin_ret rfl (Ent.dropAll _) ⟨rfl, rfl⟩)
  | true =>
    (refine G tt_ok [] ?_; repeat (refine G1 tt_ok [] ?_; intro _))
    refine ke rfl rfl (fair129 β b t) ?_
    cases h2 : fairV b t with
    | false =>
      (refine G tt_ok [] ?_; repeat (refine G1 tt_ok [] ?_; intro _))
      exact CW.ret (fin_ret rfl (Ent.dropAll _) ⟨rfl, rfl⟩)
    | true =>
      unfold fairV at h1 h2
      simp only [decide_eq_true_eq] at h1 h2
      have e1 : IntKind.i64.wrap (b - a) = b - a := wrap_id (by omega) (by omega)
      have e2 : IntKind.i64.wrap (a - b) = a - b := wrap_id (by omega) (by omega)
      (repeat' (first | refine CW.seq ?_ | refine CW.region tt_ok rfl ?_ | refine CW.block ?_ | refine CW.skip ?_ | refine SQ.nil ?_ | refine SQ.pures1 tt_ok rfl ?_ | refine SQ.pure1 tt_ok rfl ?_ | refine SQ.new _ _ rfl rfl (fun _ => ?_) | refine SQ.ldA tt_ok rfl rfl (by repeat (first | exact .h | exact .q | apply At.t)) (by rfl) ?_ | refine SQ.stA tt_ok rfl rfl (by repeat (first | apply Up.h | apply Up.t)) (by rfl) (by rfl) (by exact trivial) ?_ | refine CW.cond_tt rfl ?_ | refine CW.cond_ff rfl ?_ | ((first | refine CW.cond rfl (fun hc => ?_) (fun hc => ?_) | refine SQ.gsplit rfl (fun hc => ?_) (fun hc => ?_)) <;> try (exfalso; simp_all; done))))
      all_goals (refine CW.ret (fin_ret rfl (Ent.dropAll _) ⟨?_, rfl⟩); simp_all [packV]; try omega)
def partV (a s at_ z : Int) : (Int × Int) × Int := if fairV a s ∧ 0 ≤ at_ ∧ 0 ≤ z ∧ z ≤ s ∧ at_ ≤ s - z then ((a + at_, z), 0) else ((0, 0), 42)
set_option maxHeartbeats 2000000 in
theorem part160 (β : Base) (a s at_ z : Int) : Tri Tryz.prog β 160 [.agg #[.int .i64 a, .int .i64 s], .int .i64 at_, .int .i64 z] [] (fun v L => v = .tuple #[.agg #[.int .i64 (partV a s at_ z).1.1, .int .i64 (partV a s at_ z).1.2], .int .i64 (partV a s at_ z).2] ∧ L = []) := by
  refine Tri.intro tt_ok Tryz.func160 rfl rfl Tryz.ntmps160 rfl fun F => ?_
  unfold partV
  (refine G tt_ok [] ?_; repeat (refine G1 tt_ok [] ?_; intro _))
  refine ke rfl rfl (fair129 β a s) ?_
  cases h1 : fairV a s with
  | false =>
    (refine G tt_ok [] ?_; repeat (refine G1 tt_ok [] ?_; intro _))
    exact CW.ret (fin_cells [_, _] ⟨(by first | exact ⟨_, _, _, _, 0, rfl, rfl, rfl, rfl⟩ | exact ⟨_, _, _, _, 1, rfl, rfl, rfl, rfl⟩ | exact ⟨_, _, _, _, 2, rfl, rfl, rfl, rfl⟩ | exact ⟨_, _, _, _, 3, rfl, rfl, rfl, rfl⟩ | exact ⟨_, _, _, _, 4, rfl, rfl, rfl, rfl⟩ | exact ⟨_, _, _, _, 5, rfl, rfl, rfl, rfl⟩ | exact ⟨_, _, _, _, 6, rfl, rfl, rfl, rfl⟩ | exact ⟨_, _, _, _, 7, rfl, rfl, rfl, rfl⟩ | exact ⟨_, _, _, _, 8, rfl, rfl, rfl, rfl⟩ | exact ⟨_, _, _, _, 9, rfl, rfl, rfl, rfl⟩ | exact ⟨_, _, _, _, 10, rfl, rfl, rfl, rfl⟩ | exact ⟨_, _, _, _, 11, rfl, rfl, rfl, rfl⟩ | exact ⟨_, _, _, _, 12, rfl, rfl, rfl, rfl⟩ | exact ⟨_, _, _, _, 13, rfl, rfl, rfl, rfl⟩ | exact ⟨_, _, _, _, 14, rfl, rfl, rfl, rfl⟩ | exact ⟨_, _, _, _, 15, rfl, rfl, rfl, rfl⟩ | exact ⟨_, _, _, _, 16, rfl, rfl, rfl, rfl⟩ | exact ⟨_, _, _, _, 17, rfl, rfl, rfl, rfl⟩ | exact ⟨_, _, _, _, 18, rfl, rfl, rfl, rfl⟩ | exact ⟨_, _, _, _, 19, rfl, rfl, rfl, rfl⟩ | exact ⟨_, _, _, _, 20, rfl, rfl, rfl, rfl⟩ | exact ⟨_, _, _, _, 21, rfl, rfl, rfl, rfl⟩ | exact ⟨_, _, _, _, 22, rfl, rfl, rfl, rfl⟩ | exact ⟨_, _, _, _, 23, rfl, rfl, rfl, rfl⟩), rfl, trivial⟩ (Ent.dropAll _) ⟨rfl, rfl⟩)
  | true =>
    unfold fairV at h1
    simp only [decide_eq_true_eq] at h1
    by_cases h : 0 ≤ at_ ∧ 0 ≤ z ∧ z ≤ s ∧ at_ ≤ s - z
    · rw [if_pos ⟨rfl, h⟩]
      (refine G tt_ok [] ?_; repeat (refine G1 tt_ok [] ?_; intro _))
      rw [decide_eq_false (show ¬ at_ < 0 by omega)]
      (refine G tt_ok [] ?_; repeat (refine G1 tt_ok [] ?_; intro _))
      rw [decide_eq_false (show ¬ z < 0 by omega)]
      (refine G tt_ok [] ?_; repeat (refine G1 tt_ok [] ?_; intro _))
      rw [decide_eq_false (show ¬ z > s by omega)]
      (refine G tt_ok [] ?_; repeat (refine G1 tt_ok [] ?_; intro _))
      rw [wrap_id (show -9223372036854775808 ≤ s - z by omega) (by omega), decide_eq_false (show ¬ at_ > s - z by omega)]
      (refine G tt_ok [] ?_; repeat (refine G1 tt_ok [] ?_; intro _))
      rw [wrap_id (show -9223372036854775808 ≤ a + at_ by omega) (by omega)]
      exact CW.ret (fin_cells [_, _] ⟨(by first | exact ⟨_, _, _, _, 0, rfl, rfl, rfl, rfl⟩ | exact ⟨_, _, _, _, 1, rfl, rfl, rfl, rfl⟩ | exact ⟨_, _, _, _, 2, rfl, rfl, rfl, rfl⟩ | exact ⟨_, _, _, _, 3, rfl, rfl, rfl, rfl⟩ | exact ⟨_, _, _, _, 4, rfl, rfl, rfl, rfl⟩ | exact ⟨_, _, _, _, 5, rfl, rfl, rfl, rfl⟩ | exact ⟨_, _, _, _, 6, rfl, rfl, rfl, rfl⟩ | exact ⟨_, _, _, _, 7, rfl, rfl, rfl, rfl⟩ | exact ⟨_, _, _, _, 8, rfl, rfl, rfl, rfl⟩ | exact ⟨_, _, _, _, 9, rfl, rfl, rfl, rfl⟩ | exact ⟨_, _, _, _, 10, rfl, rfl, rfl, rfl⟩ | exact ⟨_, _, _, _, 11, rfl, rfl, rfl, rfl⟩ | exact ⟨_, _, _, _, 12, rfl, rfl, rfl, rfl⟩ | exact ⟨_, _, _, _, 13, rfl, rfl, rfl, rfl⟩ | exact ⟨_, _, _, _, 14, rfl, rfl, rfl, rfl⟩ | exact ⟨_, _, _, _, 15, rfl, rfl, rfl, rfl⟩ | exact ⟨_, _, _, _, 16, rfl, rfl, rfl, rfl⟩ | exact ⟨_, _, _, _, 17, rfl, rfl, rfl, rfl⟩ | exact ⟨_, _, _, _, 18, rfl, rfl, rfl, rfl⟩ | exact ⟨_, _, _, _, 19, rfl, rfl, rfl, rfl⟩ | exact ⟨_, _, _, _, 20, rfl, rfl, rfl, rfl⟩ | exact ⟨_, _, _, _, 21, rfl, rfl, rfl, rfl⟩ | exact ⟨_, _, _, _, 22, rfl, rfl, rfl, rfl⟩ | exact ⟨_, _, _, _, 23, rfl, rfl, rfl, rfl⟩), rfl, trivial⟩ (Ent.dropAll _) ⟨rfl, rfl⟩)
    · rw [if_neg (fun hn => h hn.2)]
      (refine G tt_ok [] ?_; repeat (refine G1 tt_ok [] ?_; intro _))
      by_cases g1 : at_ < 0
      · rw [decide_eq_true g1]
        (refine G tt_ok [] ?_; repeat (refine G1 tt_ok [] ?_; intro _))
        exact CW.ret (fin_cells [_, _] ⟨(by first | exact ⟨_, _, _, _, 0, rfl, rfl, rfl, rfl⟩ | exact ⟨_, _, _, _, 1, rfl, rfl, rfl, rfl⟩ | exact ⟨_, _, _, _, 2, rfl, rfl, rfl, rfl⟩ | exact ⟨_, _, _, _, 3, rfl, rfl, rfl, rfl⟩ | exact ⟨_, _, _, _, 4, rfl, rfl, rfl, rfl⟩ | exact ⟨_, _, _, _, 5, rfl, rfl, rfl, rfl⟩ | exact ⟨_, _, _, _, 6, rfl, rfl, rfl, rfl⟩ | exact ⟨_, _, _, _, 7, rfl, rfl, rfl, rfl⟩ | exact ⟨_, _, _, _, 8, rfl, rfl, rfl, rfl⟩ | exact ⟨_, _, _, _, 9, rfl, rfl, rfl, rfl⟩ | exact ⟨_, _, _, _, 10, rfl, rfl, rfl, rfl⟩ | exact ⟨_, _, _, _, 11, rfl, rfl, rfl, rfl⟩ | exact ⟨_, _, _, _, 12, rfl, rfl, rfl, rfl⟩ | exact ⟨_, _, _, _, 13, rfl, rfl, rfl, rfl⟩ | exact ⟨_, _, _, _, 14, rfl, rfl, rfl, rfl⟩ | exact ⟨_, _, _, _, 15, rfl, rfl, rfl, rfl⟩ | exact ⟨_, _, _, _, 16, rfl, rfl, rfl, rfl⟩ | exact ⟨_, _, _, _, 17, rfl, rfl, rfl, rfl⟩ | exact ⟨_, _, _, _, 18, rfl, rfl, rfl, rfl⟩ | exact ⟨_, _, _, _, 19, rfl, rfl, rfl, rfl⟩ | exact ⟨_, _, _, _, 20, rfl, rfl, rfl, rfl⟩ | exact ⟨_, _, _, _, 21, rfl, rfl, rfl, rfl⟩ | exact ⟨_, _, _, _, 22, rfl, rfl, rfl, rfl⟩ | exact ⟨_, _, _, _, 23, rfl, rfl, rfl, rfl⟩), rfl, trivial⟩ (Ent.dropAll _) ⟨rfl, rfl⟩)
      rw [decide_eq_false g1]
      (refine G tt_ok [] ?_; repeat (refine G1 tt_ok [] ?_; intro _))
      by_cases g2 : z < 0
      · rw [decide_eq_true g2]
        (refine G tt_ok [] ?_; repeat (refine G1 tt_ok [] ?_; intro _))
        exact CW.ret (fin_cells [_, _] ⟨(by first | exact ⟨_, _, _, _, 0, rfl, rfl, rfl, rfl⟩ | exact ⟨_, _, _, _, 1, rfl, rfl, rfl, rfl⟩ | exact ⟨_, _, _, _, 2, rfl, rfl, rfl, rfl⟩ | exact ⟨_, _, _, _, 3, rfl, rfl, rfl, rfl⟩ | exact ⟨_, _, _, _, 4, rfl, rfl, rfl, rfl⟩ | exact ⟨_, _, _, _, 5, rfl, rfl, rfl, rfl⟩ | exact ⟨_, _, _, _, 6, rfl, rfl, rfl, rfl⟩ | exact ⟨_, _, _, _, 7, rfl, rfl, rfl, rfl⟩ | exact ⟨_, _, _, _, 8, rfl, rfl, rfl, rfl⟩ | exact ⟨_, _, _, _, 9, rfl, rfl, rfl, rfl⟩ | exact ⟨_, _, _, _, 10, rfl, rfl, rfl, rfl⟩ | exact ⟨_, _, _, _, 11, rfl, rfl, rfl, rfl⟩ | exact ⟨_, _, _, _, 12, rfl, rfl, rfl, rfl⟩ | exact ⟨_, _, _, _, 13, rfl, rfl, rfl, rfl⟩ | exact ⟨_, _, _, _, 14, rfl, rfl, rfl, rfl⟩ | exact ⟨_, _, _, _, 15, rfl, rfl, rfl, rfl⟩ | exact ⟨_, _, _, _, 16, rfl, rfl, rfl, rfl⟩ | exact ⟨_, _, _, _, 17, rfl, rfl, rfl, rfl⟩ | exact ⟨_, _, _, _, 18, rfl, rfl, rfl, rfl⟩ | exact ⟨_, _, _, _, 19, rfl, rfl, rfl, rfl⟩ | exact ⟨_, _, _, _, 20, rfl, rfl, rfl, rfl⟩ | exact ⟨_, _, _, _, 21, rfl, rfl, rfl, rfl⟩ | exact ⟨_, _, _, _, 22, rfl, rfl, rfl, rfl⟩ | exact ⟨_, _, _, _, 23, rfl, rfl, rfl, rfl⟩), rfl, trivial⟩ (Ent.dropAll _) ⟨rfl, rfl⟩)
      rw [decide_eq_false g2]
      (refine G tt_ok [] ?_; repeat (refine G1 tt_ok [] ?_; intro _))
      by_cases g3 : z > s
      · rw [decide_eq_true g3]
        (refine G tt_ok [] ?_; repeat (refine G1 tt_ok [] ?_; intro _))
        exact CW.ret (fin_cells [_, _] ⟨(by first | exact ⟨_, _, _, _, 0, rfl, rfl, rfl, rfl⟩ | exact ⟨_, _, _, _, 1, rfl, rfl, rfl, rfl⟩ | exact ⟨_, _, _, _, 2, rfl, rfl, rfl, rfl⟩ | exact ⟨_, _, _, _, 3, rfl, rfl, rfl, rfl⟩ | exact ⟨_, _, _, _, 4, rfl, rfl, rfl, rfl⟩ | exact ⟨_, _, _, _, 5, rfl, rfl, rfl, rfl⟩ | exact ⟨_, _, _, _, 6, rfl, rfl, rfl, rfl⟩ | exact ⟨_, _, _, _, 7, rfl, rfl, rfl, rfl⟩ | exact ⟨_, _, _, _, 8, rfl, rfl, rfl, rfl⟩ | exact ⟨_, _, _, _, 9, rfl, rfl, rfl, rfl⟩ | exact ⟨_, _, _, _, 10, rfl, rfl, rfl, rfl⟩ | exact ⟨_, _, _, _, 11, rfl, rfl, rfl, rfl⟩ | exact ⟨_, _, _, _, 12, rfl, rfl, rfl, rfl⟩ | exact ⟨_, _, _, _, 13, rfl, rfl, rfl, rfl⟩ | exact ⟨_, _, _, _, 14, rfl, rfl, rfl, rfl⟩ | exact ⟨_, _, _, _, 15, rfl, rfl, rfl, rfl⟩ | exact ⟨_, _, _, _, 16, rfl, rfl, rfl, rfl⟩ | exact ⟨_, _, _, _, 17, rfl, rfl, rfl, rfl⟩ | exact ⟨_, _, _, _, 18, rfl, rfl, rfl, rfl⟩ | exact ⟨_, _, _, _, 19, rfl, rfl, rfl, rfl⟩ | exact ⟨_, _, _, _, 20, rfl, rfl, rfl, rfl⟩ | exact ⟨_, _, _, _, 21, rfl, rfl, rfl, rfl⟩ | exact ⟨_, _, _, _, 22, rfl, rfl, rfl, rfl⟩ | exact ⟨_, _, _, _, 23, rfl, rfl, rfl, rfl⟩), rfl, trivial⟩ (Ent.dropAll _) ⟨rfl, rfl⟩)
      rw [decide_eq_false g3]
      (refine G tt_ok [] ?_; repeat (refine G1 tt_ok [] ?_; intro _))
      rw [wrap_id (show -9223372036854775808 ≤ s - z by omega) (by omega), decide_eq_true (show at_ > s - z by omega)]
      (refine G tt_ok [] ?_; repeat (refine G1 tt_ok [] ?_; intro _))
      exact CW.ret (fin_cells [_, _] ⟨(by first | exact ⟨_, _, _, _, 0, rfl, rfl, rfl, rfl⟩ | exact ⟨_, _, _, _, 1, rfl, rfl, rfl, rfl⟩ | exact ⟨_, _, _, _, 2, rfl, rfl, rfl, rfl⟩ | exact ⟨_, _, _, _, 3, rfl, rfl, rfl, rfl⟩ | exact ⟨_, _, _, _, 4, rfl, rfl, rfl, rfl⟩ | exact ⟨_, _, _, _, 5, rfl, rfl, rfl, rfl⟩ | exact ⟨_, _, _, _, 6, rfl, rfl, rfl, rfl⟩ | exact ⟨_, _, _, _, 7, rfl, rfl, rfl, rfl⟩ | exact ⟨_, _, _, _, 8, rfl, rfl, rfl, rfl⟩ | exact ⟨_, _, _, _, 9, rfl, rfl, rfl, rfl⟩ | exact ⟨_, _, _, _, 10, rfl, rfl, rfl, rfl⟩ | exact ⟨_, _, _, _, 11, rfl, rfl, rfl, rfl⟩ | exact ⟨_, _, _, _, 12, rfl, rfl, rfl, rfl⟩ | exact ⟨_, _, _, _, 13, rfl, rfl, rfl, rfl⟩ | exact ⟨_, _, _, _, 14, rfl, rfl, rfl, rfl⟩ | exact ⟨_, _, _, _, 15, rfl, rfl, rfl, rfl⟩ | exact ⟨_, _, _, _, 16, rfl, rfl, rfl, rfl⟩ | exact ⟨_, _, _, _, 17, rfl, rfl, rfl, rfl⟩ | exact ⟨_, _, _, _, 18, rfl, rfl, rfl, rfl⟩ | exact ⟨_, _, _, _, 19, rfl, rfl, rfl, rfl⟩ | exact ⟨_, _, _, _, 20, rfl, rfl, rfl, rfl⟩ | exact ⟨_, _, _, _, 21, rfl, rfl, rfl, rfl⟩ | exact ⟨_, _, _, _, 22, rfl, rfl, rfl, rfl⟩ | exact ⟨_, _, _, _, 23, rfl, rfl, rfl, rfl⟩), rfl, trivial⟩ (Ent.dropAll _) ⟨rfl, rfl⟩)
end Go.Proofs.YthhfoppaaehepaaGreatDoor.Sl
namespace Go.Proofs.YthhfoppaaehepaaGreatDoor.Sl
open Go Go.RowKit Go.Proofs
set_option linter.unusedVariables false
set_option linter.unusedSimpArgs false
attribute [local irreducible] CW Tri OW
set_option maxRecDepth 10000
@[reducible] def pk97 : List (Nat × Plan) := []
@[reducible] def pk128 : List (Nat × Plan) := [(9, [(0, 0, []), (1, 0, []), (2, 0, []), (3, 0, []), (4, 0, []), (5, 0, []), (6, 0, []), (7, 1, [2]), (8, 0, []), (9, 0, []), (10, 0, []), (11, 0, []), (12, 0, [])]), (12, [(0, 0, []), (1, 0, []), (2, 0, []), (3, 0, []), (4, 0, []), (5, 0, []), (6, 0, []), (7, 0, []), (8, 0, []), (9, 1, []), (10, 0, [])])]
theorem and_mod {a k : Nat} (ha : a < 2 ^ 64) (hk : k ≤ 63) : IntKind.u64.wrap ((BitVec.ofInt IntKind.u64.bits (a : Int) &&& BitVec.ofInt IntKind.u64.bits ((2 ^ k - 1 : Nat) : Int)).toNat : Int) = ((a % 2 ^ k : Nat) : Int) := by
  have h1 : 2 ^ k ≤ 2 ^ 63 := Nat.pow_le_pow_right (by omega) hk
  have h2 : (2 : Nat) ^ 63 < 2 ^ 64 := by decide
  have h3 := Nat.one_le_two_pow (n := k)
  rw [and64 ha (by omega), Nat.and_two_pow_sub_one_eq_mod]
theorem fdivN (a k : Nat) (hk : k ≤ 64) : (a : Int).fdiv (2 ^ min k IntKind.u64.bits) = ((a / 2 ^ k : Nat) : Int) := by
  rw [show min k IntKind.u64.bits = k from Nat.min_eq_left hk, Int.fdiv_eq_ediv_of_nonneg _ (by exact Int.le_of_lt (Int.pow_pos (by omega)))]
  simp
theorem right97 (β : Base) (m : Nat) (q : Option Addr) {n : Nat} (c : Nat) (hn : n ≤ 1000000) {a s p : Int} (hp : p = 0 ∨ p = 32) (hh : holdsV n a s = true) : Tri Tryz.prog β 97 [.agg #[.int .i64 a, .int .i64 s, .int .i64 p], .pointer (some ⟨m, 0, none⟩)] [pt m [.slice q n c]] (fun v L => v = .int .i64 0 ∧ L = [pt m [.slice q n c]]) := by
  refine Tri.intro tt_ok Tryz.func97 rfl rfl Tryz.ntmps97 rfl fun F => ?_
  (refine G tt_ok pk97 ?_; repeat (refine G1 tt_ok pk97 ?_; intro _))
  refine ke rfl rfl (holds29 β m q c hn a s) ?_
  rw [hh]
  rcases hp with rfl | rfl
  · (refine G tt_ok pk97 ?_; repeat (refine G1 tt_ok pk97 ?_; intro _))
    exact CW.ret (fin_ret rfl pk_ ⟨rfl, rfl⟩)
  · (refine G tt_ok pk97 ?_; repeat (refine G1 tt_ok pk97 ?_; intro _))
    exact CW.ret (fin_ret rfl pk_ ⟨rfl, rfl⟩)
/-- An entry of 8 bytes of a window: where it lies. -/
def entA (n : Nat) (a s k : Int) : Option Nat := if fairV a s = true ∧ holdsV n a s = true ∧ 0 ≤ k ∧ 8 ≤ s ∧ k * 8 ≤ s - 8 then some (a + k * 8).toNat else none
def slotA (B : List Nat) (a s p id : Int) : Option Nat := if id < 0 ∨ 131072 ≤ id then none else if p = 0 then entA B.length a s id else
  if (memRd B a s (id / 4 * 8) 8).2 = 0 ∧ 2 ^ 63 ≤ (memRd B a s (id / 4 * 8) 8).1 then entA B.length ((memRd B a s (id / 4 * 8) 8).1 % 2 ^ 32 : Nat) 32 (id % 4) else none
theorem entA_some {n : Nat} {a s k : Int} {A : Nat} (h : entA n a s k = some A) : (A : Int) = a + k * 8 ∧ A + 8 ≤ n ∧ 0 ≤ a ∧ 0 ≤ k ∧ k * 8 ≤ s - 8 ∧ a + s ≤ n := by
  unfold entA at h
  split at h
  · rename_i h1
    obtain ⟨h1, h2, h3, h4, h5⟩ := h1
    unfold holdsV at h2
    simp only [Bool.and_eq_true, decide_eq_true_eq] at h2
    simp only [Option.some.injEq] at h
    omega
  · cases h
theorem slotA_in {B : List Nat} {a s p id : Int} {A : Nat} (h : slotA B a s p id = some A) : A + 8 ≤ B.length := by
  unfold slotA at h
  split at h
  · cases h
  · split at h
    · exact (entA_some h).2.1
    · split at h
      · exact (entA_some h).2.1
      · cases h
theorem memRd_lt {B : List Nat} (hb : byOk B) (a s off : Int) : (memRd B a s off 8).1 < 2 ^ 64 := by
  unfold memRd
  split
  · have := rdN_lt hb (a + off).toNat (8 : Int).toNat
    have e : (256 : Nat) ^ (8 : Int).toNat = 2 ^ 64 := rfl
    rw [e] at this; exact this
  · exact Nat.two_pow_pos 64
set_option maxHeartbeats 8000000 in
theorem slot128 (β : Base) (m g : Nat) (B : List Nat) (hn : B.length ≤ 1000000) (hb : byOk B) {a s p : Int} (hp : p = 0 ∨ p = 32) (hh : holdsV B.length a s = true) (id : Int) :
    Tri Tryz.prog β 128 [.agg #[.int .i64 a, .int .i64 s, .int .i64 p], .pointer (some ⟨m, 0, none⟩), .int .i64 id] (memA m g B)
      (fun v L => v = (match slotA B a s p id with | some A => .tuple #[.agg #[.int .i64 (A : Int), .int .i64 8], .int .i64 0] | none => .tuple #[.agg #[.int .i64 0, .int .i64 0], .int .i64 180]) ∧ L = memA m g B) := by
  refine Tri.intro tt_ok Tryz.func128 rfl rfl Tryz.ntmps128 rfl fun F => ?_
  unfold slotA
  (refine G tt_ok pk128 ?_; repeat (refine G1 tt_ok pk128 ?_; intro _))
  refine ke rfl rfl (right97 β m (some ⟨g, 0, none⟩) B.length hn hp hh) ?_
  (refine G tt_ok pk128 ?_; repeat (refine G1 tt_ok pk128 ?_; intro _))
  by_cases h1 : id < 0
  · rw [decide_eq_true h1, if_pos (Or.inl h1)]
    (refine G tt_ok pk128 ?_; repeat (refine G1 tt_ok pk128 ?_; intro _))
    exact CW.ret (fin_cells [_, _] ⟨(by first | exact ⟨_, _, _, _, 0, rfl, rfl, rfl, rfl⟩ | exact ⟨_, _, _, _, 1, rfl, rfl, rfl, rfl⟩ | exact ⟨_, _, _, _, 2, rfl, rfl, rfl, rfl⟩ | exact ⟨_, _, _, _, 3, rfl, rfl, rfl, rfl⟩ | exact ⟨_, _, _, _, 4, rfl, rfl, rfl, rfl⟩ | exact ⟨_, _, _, _, 5, rfl, rfl, rfl, rfl⟩ | exact ⟨_, _, _, _, 6, rfl, rfl, rfl, rfl⟩ | exact ⟨_, _, _, _, 7, rfl, rfl, rfl, rfl⟩ | exact ⟨_, _, _, _, 8, rfl, rfl, rfl, rfl⟩ | exact ⟨_, _, _, _, 9, rfl, rfl, rfl, rfl⟩ | exact ⟨_, _, _, _, 10, rfl, rfl, rfl, rfl⟩ | exact ⟨_, _, _, _, 11, rfl, rfl, rfl, rfl⟩ | exact ⟨_, _, _, _, 12, rfl, rfl, rfl, rfl⟩ | exact ⟨_, _, _, _, 13, rfl, rfl, rfl, rfl⟩ | exact ⟨_, _, _, _, 14, rfl, rfl, rfl, rfl⟩ | exact ⟨_, _, _, _, 15, rfl, rfl, rfl, rfl⟩ | exact ⟨_, _, _, _, 16, rfl, rfl, rfl, rfl⟩ | exact ⟨_, _, _, _, 17, rfl, rfl, rfl, rfl⟩ | exact ⟨_, _, _, _, 18, rfl, rfl, rfl, rfl⟩ | exact ⟨_, _, _, _, 19, rfl, rfl, rfl, rfl⟩ | exact ⟨_, _, _, _, 20, rfl, rfl, rfl, rfl⟩ | exact ⟨_, _, _, _, 21, rfl, rfl, rfl, rfl⟩ | exact ⟨_, _, _, _, 22, rfl, rfl, rfl, rfl⟩ | exact ⟨_, _, _, _, 23, rfl, rfl, rfl, rfl⟩), rfl, trivial⟩ (A := memA m g B) pk_ ⟨rfl, rfl⟩)
  rw [decide_eq_false h1]
  (refine G tt_ok pk128 ?_; repeat (refine G1 tt_ok pk128 ?_; intro _))
  by_cases h2 : id ≥ 131072
  · rw [decide_eq_true h2, if_pos (Or.inr h2)]
    (refine G tt_ok pk128 ?_; repeat (refine G1 tt_ok pk128 ?_; intro _))
    exact CW.ret (fin_cells [_, _] ⟨(by first | exact ⟨_, _, _, _, 0, rfl, rfl, rfl, rfl⟩ | exact ⟨_, _, _, _, 1, rfl, rfl, rfl, rfl⟩ | exact ⟨_, _, _, _, 2, rfl, rfl, rfl, rfl⟩ | exact ⟨_, _, _, _, 3, rfl, rfl, rfl, rfl⟩ | exact ⟨_, _, _, _, 4, rfl, rfl, rfl, rfl⟩ | exact ⟨_, _, _, _, 5, rfl, rfl, rfl, rfl⟩ | exact ⟨_, _, _, _, 6, rfl, rfl, rfl, rfl⟩ | exact ⟨_, _, _, _, 7, rfl, rfl, rfl, rfl⟩ | exact ⟨_, _, _, _, 8, rfl, rfl, rfl, rfl⟩ | exact ⟨_, _, _, _, 9, rfl, rfl, rfl, rfl⟩ | exact ⟨_, _, _, _, 10, rfl, rfl, rfl, rfl⟩ | exact ⟨_, _, _, _, 11, rfl, rfl, rfl, rfl⟩ | exact ⟨_, _, _, _, 12, rfl, rfl, rfl, rfl⟩ | exact ⟨_, _, _, _, 13, rfl, rfl, rfl, rfl⟩ | exact ⟨_, _, _, _, 14, rfl, rfl, rfl, rfl⟩ | exact ⟨_, _, _, _, 15, rfl, rfl, rfl, rfl⟩ | exact ⟨_, _, _, _, 16, rfl, rfl, rfl, rfl⟩ | exact ⟨_, _, _, _, 17, rfl, rfl, rfl, rfl⟩ | exact ⟨_, _, _, _, 18, rfl, rfl, rfl, rfl⟩ | exact ⟨_, _, _, _, 19, rfl, rfl, rfl, rfl⟩ | exact ⟨_, _, _, _, 20, rfl, rfl, rfl, rfl⟩ | exact ⟨_, _, _, _, 21, rfl, rfl, rfl, rfl⟩ | exact ⟨_, _, _, _, 22, rfl, rfl, rfl, rfl⟩ | exact ⟨_, _, _, _, 23, rfl, rfl, rfl, rfl⟩), rfl, trivial⟩ (A := memA m g B) pk_ ⟨rfl, rfl⟩)
  rw [decide_eq_false h2, if_neg (by omega)]
  rcases hp with rfl | rfl
  · (refine G tt_ok pk128 ?_; repeat (refine G1 tt_ok pk128 ?_; intro _))
    rw [if_pos rfl]
    rw [wrap_id (show -9223372036854775808 ≤ id * 8 by omega) (by omega)]
    refine ke rfl rfl (part160 β a s (id * 8) 8) ?_
    unfold partV entA
    by_cases h3 : fairV a s = true ∧ 0 ≤ id * 8 ∧ (0 : Int) ≤ 8 ∧ 8 ≤ s ∧ id * 8 ≤ s - 8
    · rw [if_pos h3]
      (refine G tt_ok pk128 ?_; repeat (refine G1 tt_ok pk128 ?_; intro _))
      refine ke rfl rfl (holds29 β m (some ⟨g, 0, none⟩) B.length hn a s) ?_
      cases hh2 : holdsV B.length a s with
      | true =>
        rw [if_pos ⟨h3.1, rfl, by omega, h3.2.2.2.1, h3.2.2.2.2⟩]
        (refine G tt_ok pk128 ?_; repeat (refine G1 tt_ok pk128 ?_; intro _))
        have hfa := h3.1
        unfold fairV at hfa
        simp only [decide_eq_true_eq] at hfa
        have e : (((a + id * 8).toNat : Nat) : Int) = a + id * 8 := by omega
        exact CW.ret (fin_cells [_, _] ⟨(by first | exact ⟨_, _, _, _, 0, rfl, rfl, rfl, rfl⟩ | exact ⟨_, _, _, _, 1, rfl, rfl, rfl, rfl⟩ | exact ⟨_, _, _, _, 2, rfl, rfl, rfl, rfl⟩ | exact ⟨_, _, _, _, 3, rfl, rfl, rfl, rfl⟩ | exact ⟨_, _, _, _, 4, rfl, rfl, rfl, rfl⟩ | exact ⟨_, _, _, _, 5, rfl, rfl, rfl, rfl⟩ | exact ⟨_, _, _, _, 6, rfl, rfl, rfl, rfl⟩ | exact ⟨_, _, _, _, 7, rfl, rfl, rfl, rfl⟩ | exact ⟨_, _, _, _, 8, rfl, rfl, rfl, rfl⟩ | exact ⟨_, _, _, _, 9, rfl, rfl, rfl, rfl⟩ | exact ⟨_, _, _, _, 10, rfl, rfl, rfl, rfl⟩ | exact ⟨_, _, _, _, 11, rfl, rfl, rfl, rfl⟩ | exact ⟨_, _, _, _, 12, rfl, rfl, rfl, rfl⟩ | exact ⟨_, _, _, _, 13, rfl, rfl, rfl, rfl⟩ | exact ⟨_, _, _, _, 14, rfl, rfl, rfl, rfl⟩ | exact ⟨_, _, _, _, 15, rfl, rfl, rfl, rfl⟩ | exact ⟨_, _, _, _, 16, rfl, rfl, rfl, rfl⟩ | exact ⟨_, _, _, _, 17, rfl, rfl, rfl, rfl⟩ | exact ⟨_, _, _, _, 18, rfl, rfl, rfl, rfl⟩ | exact ⟨_, _, _, _, 19, rfl, rfl, rfl, rfl⟩ | exact ⟨_, _, _, _, 20, rfl, rfl, rfl, rfl⟩ | exact ⟨_, _, _, _, 21, rfl, rfl, rfl, rfl⟩ | exact ⟨_, _, _, _, 22, rfl, rfl, rfl, rfl⟩ | exact ⟨_, _, _, _, 23, rfl, rfl, rfl, rfl⟩), rfl, trivial⟩ (A := memA m g B) pk_ ⟨by show _ = Value.tuple #[.agg #[.int .i64 (((a + id * 8).toNat : Nat) : Int), .int .i64 8], .int .i64 0]; rw [e]; rfl, rfl⟩)
      | false =>
        rw [if_neg (fun hz => by have := hz.2.1; cases this)]
        (refine G tt_ok pk128 ?_; repeat (refine G1 tt_ok pk128 ?_; intro _))
        exact CW.ret (fin_cells [_, _] ⟨(by first | exact ⟨_, _, _, _, 0, rfl, rfl, rfl, rfl⟩ | exact ⟨_, _, _, _, 1, rfl, rfl, rfl, rfl⟩ | exact ⟨_, _, _, _, 2, rfl, rfl, rfl, rfl⟩ | exact ⟨_, _, _, _, 3, rfl, rfl, rfl, rfl⟩ | exact ⟨_, _, _, _, 4, rfl, rfl, rfl, rfl⟩ | exact ⟨_, _, _, _, 5, rfl, rfl, rfl, rfl⟩ | exact ⟨_, _, _, _, 6, rfl, rfl, rfl, rfl⟩ | exact ⟨_, _, _, _, 7, rfl, rfl, rfl, rfl⟩ | exact ⟨_, _, _, _, 8, rfl, rfl, rfl, rfl⟩ | exact ⟨_, _, _, _, 9, rfl, rfl, rfl, rfl⟩ | exact ⟨_, _, _, _, 10, rfl, rfl, rfl, rfl⟩ | exact ⟨_, _, _, _, 11, rfl, rfl, rfl, rfl⟩ | exact ⟨_, _, _, _, 12, rfl, rfl, rfl, rfl⟩ | exact ⟨_, _, _, _, 13, rfl, rfl, rfl, rfl⟩ | exact ⟨_, _, _, _, 14, rfl, rfl, rfl, rfl⟩ | exact ⟨_, _, _, _, 15, rfl, rfl, rfl, rfl⟩ | exact ⟨_, _, _, _, 16, rfl, rfl, rfl, rfl⟩ | exact ⟨_, _, _, _, 17, rfl, rfl, rfl, rfl⟩ | exact ⟨_, _, _, _, 18, rfl, rfl, rfl, rfl⟩ | exact ⟨_, _, _, _, 19, rfl, rfl, rfl, rfl⟩ | exact ⟨_, _, _, _, 20, rfl, rfl, rfl, rfl⟩ | exact ⟨_, _, _, _, 21, rfl, rfl, rfl, rfl⟩ | exact ⟨_, _, _, _, 22, rfl, rfl, rfl, rfl⟩ | exact ⟨_, _, _, _, 23, rfl, rfl, rfl, rfl⟩), rfl, trivial⟩ (A := memA m g B) pk_ ⟨rfl, rfl⟩)
    · rw [if_neg h3, if_neg (fun hz => h3 ⟨hz.1, by omega, by omega, hz.2.2.2.1, hz.2.2.2.2⟩)]
      (refine G tt_ok pk128 ?_; repeat (refine G1 tt_ok pk128 ?_; intro _))
      exact CW.ret (fin_cells [_, _] ⟨(by first | exact ⟨_, _, _, _, 0, rfl, rfl, rfl, rfl⟩ | exact ⟨_, _, _, _, 1, rfl, rfl, rfl, rfl⟩ | exact ⟨_, _, _, _, 2, rfl, rfl, rfl, rfl⟩ | exact ⟨_, _, _, _, 3, rfl, rfl, rfl, rfl⟩ | exact ⟨_, _, _, _, 4, rfl, rfl, rfl, rfl⟩ | exact ⟨_, _, _, _, 5, rfl, rfl, rfl, rfl⟩ | exact ⟨_, _, _, _, 6, rfl, rfl, rfl, rfl⟩ | exact ⟨_, _, _, _, 7, rfl, rfl, rfl, rfl⟩ | exact ⟨_, _, _, _, 8, rfl, rfl, rfl, rfl⟩ | exact ⟨_, _, _, _, 9, rfl, rfl, rfl, rfl⟩ | exact ⟨_, _, _, _, 10, rfl, rfl, rfl, rfl⟩ | exact ⟨_, _, _, _, 11, rfl, rfl, rfl, rfl⟩ | exact ⟨_, _, _, _, 12, rfl, rfl, rfl, rfl⟩ | exact ⟨_, _, _, _, 13, rfl, rfl, rfl, rfl⟩ | exact ⟨_, _, _, _, 14, rfl, rfl, rfl, rfl⟩ | exact ⟨_, _, _, _, 15, rfl, rfl, rfl, rfl⟩ | exact ⟨_, _, _, _, 16, rfl, rfl, rfl, rfl⟩ | exact ⟨_, _, _, _, 17, rfl, rfl, rfl, rfl⟩ | exact ⟨_, _, _, _, 18, rfl, rfl, rfl, rfl⟩ | exact ⟨_, _, _, _, 19, rfl, rfl, rfl, rfl⟩ | exact ⟨_, _, _, _, 20, rfl, rfl, rfl, rfl⟩ | exact ⟨_, _, _, _, 21, rfl, rfl, rfl, rfl⟩ | exact ⟨_, _, _, _, 22, rfl, rfl, rfl, rfl⟩ | exact ⟨_, _, _, _, 23, rfl, rfl, rfl, rfl⟩), rfl, trivial⟩ (A := memA m g B) pk_ ⟨rfl, rfl⟩)
  · (refine G tt_ok pk128 ?_; repeat (refine G1 tt_ok pk128 ?_; intro _))
    rw [if_neg (by omega), show IntKind.i64.wrap (Int.tdiv 32 8) = 4 from rfl, show IntKind.i64.wrap (IntKind.i64.wrap (id.tdiv 4) * 8) = id / 4 * 8 by rw [Int.tdiv_eq_ediv_of_nonneg (by omega), wrap_id (show -9223372036854775808 ≤ id / 4 by omega) (by omega), wrap_id (by omega) (by omega)]]
    refine ke rfl rfl (read91 β m g B hn hb a s (id / 4 * 8) 8) ?_
    have hx := memRd_lt hb a s (id / 4 * 8)
    generalize memRd B a s (id / 4 * 8) 8 = z at hx ⊢
    obtain ⟨x, e⟩ := z
    simp only at hx ⊢
    (refine G tt_ok pk128 ?_; repeat (refine G1 tt_ok pk128 ?_; intro _))
    by_cases h4 : e = 0
    · subst h4
      (refine G tt_ok pk128 ?_; repeat (refine G1 tt_ok pk128 ?_; intro _))
      rw [fdivN x 63 (by omega)]
      by_cases h5 : 2 ^ 63 ≤ x
      · rw [if_pos ⟨rfl, h5⟩, show (((x / 2 ^ 63 : Nat) : Int) == 0) = false by simp; omega]
        (refine G tt_ok pk128 ?_; repeat (refine G1 tt_ok pk128 ?_; intro _))
        rw [show IntKind.i64.wrap (IntKind.u64.wrap ((BitVec.ofInt IntKind.u64.bits (x : Int) &&& BitVec.ofInt IntKind.u64.bits 4294967295).toNat : Int)) = ((x % 2 ^ 32 : Nat) : Int) by rw [show (4294967295 : Int) = ((2 ^ 32 - 1 : Nat) : Int) from rfl, and_mod hx (by omega), wrap_id (by omega) (by omega)], show id.tmod 4 = id % 4 from Int.tmod_eq_emod_of_nonneg (by omega)]
        rw [wrap_id (show -9223372036854775808 ≤ (id % 4) * 8 by omega) (by omega)]
        refine ke rfl rfl (part160 β ((x % 2 ^ 32 : Nat) : Int) 32 ((id % 4) * 8) 8) ?_
        unfold partV entA
        by_cases h3 : fairV ((x % 2 ^ 32 : Nat) : Int) 32 = true ∧ 0 ≤ (id % 4) * 8 ∧ (0 : Int) ≤ 8 ∧ (8 : Int) ≤ 32 ∧ (id % 4) * 8 ≤ (32 : Int) - 8
        · rw [if_pos h3]
          (refine G tt_ok pk128 ?_; repeat (refine G1 tt_ok pk128 ?_; intro _))
          refine ke rfl rfl (holds29 β m (some ⟨g, 0, none⟩) B.length hn ((x % 2 ^ 32 : Nat) : Int) 32) ?_
          cases hh2 : holdsV B.length ((x % 2 ^ 32 : Nat) : Int) 32 with
          | true =>
            rw [if_pos ⟨h3.1, rfl, by omega, h3.2.2.2.1, h3.2.2.2.2⟩]
            (refine G tt_ok pk128 ?_; repeat (refine G1 tt_ok pk128 ?_; intro _))
            have hfa := h3.1
            unfold fairV at hfa
            simp only [decide_eq_true_eq] at hfa
            have e : (((((x % 2 ^ 32 : Nat) : Int) + (id % 4) * 8).toNat : Nat) : Int) = ((x % 2 ^ 32 : Nat) : Int) + (id % 4) * 8 := by omega
            exact CW.ret (fin_cells [_, _] ⟨(by first | exact ⟨_, _, _, _, 0, rfl, rfl, rfl, rfl⟩ | exact ⟨_, _, _, _, 1, rfl, rfl, rfl, rfl⟩ | exact ⟨_, _, _, _, 2, rfl, rfl, rfl, rfl⟩ | exact ⟨_, _, _, _, 3, rfl, rfl, rfl, rfl⟩ | exact ⟨_, _, _, _, 4, rfl, rfl, rfl, rfl⟩ | exact ⟨_, _, _, _, 5, rfl, rfl, rfl, rfl⟩ | exact ⟨_, _, _, _, 6, rfl, rfl, rfl, rfl⟩ | exact ⟨_, _, _, _, 7, rfl, rfl, rfl, rfl⟩ | exact ⟨_, _, _, _, 8, rfl, rfl, rfl, rfl⟩ | exact ⟨_, _, _, _, 9, rfl, rfl, rfl, rfl⟩ | exact ⟨_, _, _, _, 10, rfl, rfl, rfl, rfl⟩ | exact ⟨_, _, _, _, 11, rfl, rfl, rfl, rfl⟩ | exact ⟨_, _, _, _, 12, rfl, rfl, rfl, rfl⟩ | exact ⟨_, _, _, _, 13, rfl, rfl, rfl, rfl⟩ | exact ⟨_, _, _, _, 14, rfl, rfl, rfl, rfl⟩ | exact ⟨_, _, _, _, 15, rfl, rfl, rfl, rfl⟩ | exact ⟨_, _, _, _, 16, rfl, rfl, rfl, rfl⟩ | exact ⟨_, _, _, _, 17, rfl, rfl, rfl, rfl⟩ | exact ⟨_, _, _, _, 18, rfl, rfl, rfl, rfl⟩ | exact ⟨_, _, _, _, 19, rfl, rfl, rfl, rfl⟩ | exact ⟨_, _, _, _, 20, rfl, rfl, rfl, rfl⟩ | exact ⟨_, _, _, _, 21, rfl, rfl, rfl, rfl⟩ | exact ⟨_, _, _, _, 22, rfl, rfl, rfl, rfl⟩ | exact ⟨_, _, _, _, 23, rfl, rfl, rfl, rfl⟩), rfl, trivial⟩ (A := memA m g B) pk_ ⟨by show _ = Value.tuple #[.agg #[.int .i64 (((((x % 2 ^ 32 : Nat) : Int) + (id % 4) * 8).toNat : Nat) : Int), .int .i64 8], .int .i64 0]; rw [e]; rfl, rfl⟩)
          | false =>
            rw [if_neg (fun hz => by have := hz.2.1; cases this)]
            (refine G tt_ok pk128 ?_; repeat (refine G1 tt_ok pk128 ?_; intro _))
            exact CW.ret (fin_cells [_, _] ⟨(by first | exact ⟨_, _, _, _, 0, rfl, rfl, rfl, rfl⟩ | exact ⟨_, _, _, _, 1, rfl, rfl, rfl, rfl⟩ | exact ⟨_, _, _, _, 2, rfl, rfl, rfl, rfl⟩ | exact ⟨_, _, _, _, 3, rfl, rfl, rfl, rfl⟩ | exact ⟨_, _, _, _, 4, rfl, rfl, rfl, rfl⟩ | exact ⟨_, _, _, _, 5, rfl, rfl, rfl, rfl⟩ | exact ⟨_, _, _, _, 6, rfl, rfl, rfl, rfl⟩ | exact ⟨_, _, _, _, 7, rfl, rfl, rfl, rfl⟩ | exact ⟨_, _, _, _, 8, rfl, rfl, rfl, rfl⟩ | exact ⟨_, _, _, _, 9, rfl, rfl, rfl, rfl⟩ | exact ⟨_, _, _, _, 10, rfl, rfl, rfl, rfl⟩ | exact ⟨_, _, _, _, 11, rfl, rfl, rfl, rfl⟩ | exact ⟨_, _, _, _, 12, rfl, rfl, rfl, rfl⟩ | exact ⟨_, _, _, _, 13, rfl, rfl, rfl, rfl⟩ | exact ⟨_, _, _, _, 14, rfl, rfl, rfl, rfl⟩ | exact ⟨_, _, _, _, 15, rfl, rfl, rfl, rfl⟩ | exact ⟨_, _, _, _, 16, rfl, rfl, rfl, rfl⟩ | exact ⟨_, _, _, _, 17, rfl, rfl, rfl, rfl⟩ | exact ⟨_, _, _, _, 18, rfl, rfl, rfl, rfl⟩ | exact ⟨_, _, _, _, 19, rfl, rfl, rfl, rfl⟩ | exact ⟨_, _, _, _, 20, rfl, rfl, rfl, rfl⟩ | exact ⟨_, _, _, _, 21, rfl, rfl, rfl, rfl⟩ | exact ⟨_, _, _, _, 22, rfl, rfl, rfl, rfl⟩ | exact ⟨_, _, _, _, 23, rfl, rfl, rfl, rfl⟩), rfl, trivial⟩ (A := memA m g B) pk_ ⟨rfl, rfl⟩)
        · rw [if_neg h3, if_neg (fun hz => h3 ⟨hz.1, by omega, by omega, hz.2.2.2.1, hz.2.2.2.2⟩)]
          (refine G tt_ok pk128 ?_; repeat (refine G1 tt_ok pk128 ?_; intro _))
          exact CW.ret (fin_cells [_, _] ⟨(by first | exact ⟨_, _, _, _, 0, rfl, rfl, rfl, rfl⟩ | exact ⟨_, _, _, _, 1, rfl, rfl, rfl, rfl⟩ | exact ⟨_, _, _, _, 2, rfl, rfl, rfl, rfl⟩ | exact ⟨_, _, _, _, 3, rfl, rfl, rfl, rfl⟩ | exact ⟨_, _, _, _, 4, rfl, rfl, rfl, rfl⟩ | exact ⟨_, _, _, _, 5, rfl, rfl, rfl, rfl⟩ | exact ⟨_, _, _, _, 6, rfl, rfl, rfl, rfl⟩ | exact ⟨_, _, _, _, 7, rfl, rfl, rfl, rfl⟩ | exact ⟨_, _, _, _, 8, rfl, rfl, rfl, rfl⟩ | exact ⟨_, _, _, _, 9, rfl, rfl, rfl, rfl⟩ | exact ⟨_, _, _, _, 10, rfl, rfl, rfl, rfl⟩ | exact ⟨_, _, _, _, 11, rfl, rfl, rfl, rfl⟩ | exact ⟨_, _, _, _, 12, rfl, rfl, rfl, rfl⟩ | exact ⟨_, _, _, _, 13, rfl, rfl, rfl, rfl⟩ | exact ⟨_, _, _, _, 14, rfl, rfl, rfl, rfl⟩ | exact ⟨_, _, _, _, 15, rfl, rfl, rfl, rfl⟩ | exact ⟨_, _, _, _, 16, rfl, rfl, rfl, rfl⟩ | exact ⟨_, _, _, _, 17, rfl, rfl, rfl, rfl⟩ | exact ⟨_, _, _, _, 18, rfl, rfl, rfl, rfl⟩ | exact ⟨_, _, _, _, 19, rfl, rfl, rfl, rfl⟩ | exact ⟨_, _, _, _, 20, rfl, rfl, rfl, rfl⟩ | exact ⟨_, _, _, _, 21, rfl, rfl, rfl, rfl⟩ | exact ⟨_, _, _, _, 22, rfl, rfl, rfl, rfl⟩ | exact ⟨_, _, _, _, 23, rfl, rfl, rfl, rfl⟩), rfl, trivial⟩ (A := memA m g B) pk_ ⟨rfl, rfl⟩)
      · rw [if_neg (fun hz => h5 hz.2), show (((x / 2 ^ 63 : Nat) : Int) == 0) = true by simp; omega]
        (refine G tt_ok pk128 ?_; repeat (refine G1 tt_ok pk128 ?_; intro _))
        exact CW.ret (fin_cells [_, _] ⟨(by first | exact ⟨_, _, _, _, 0, rfl, rfl, rfl, rfl⟩ | exact ⟨_, _, _, _, 1, rfl, rfl, rfl, rfl⟩ | exact ⟨_, _, _, _, 2, rfl, rfl, rfl, rfl⟩ | exact ⟨_, _, _, _, 3, rfl, rfl, rfl, rfl⟩ | exact ⟨_, _, _, _, 4, rfl, rfl, rfl, rfl⟩ | exact ⟨_, _, _, _, 5, rfl, rfl, rfl, rfl⟩ | exact ⟨_, _, _, _, 6, rfl, rfl, rfl, rfl⟩ | exact ⟨_, _, _, _, 7, rfl, rfl, rfl, rfl⟩ | exact ⟨_, _, _, _, 8, rfl, rfl, rfl, rfl⟩ | exact ⟨_, _, _, _, 9, rfl, rfl, rfl, rfl⟩ | exact ⟨_, _, _, _, 10, rfl, rfl, rfl, rfl⟩ | exact ⟨_, _, _, _, 11, rfl, rfl, rfl, rfl⟩ | exact ⟨_, _, _, _, 12, rfl, rfl, rfl, rfl⟩ | exact ⟨_, _, _, _, 13, rfl, rfl, rfl, rfl⟩ | exact ⟨_, _, _, _, 14, rfl, rfl, rfl, rfl⟩ | exact ⟨_, _, _, _, 15, rfl, rfl, rfl, rfl⟩ | exact ⟨_, _, _, _, 16, rfl, rfl, rfl, rfl⟩ | exact ⟨_, _, _, _, 17, rfl, rfl, rfl, rfl⟩ | exact ⟨_, _, _, _, 18, rfl, rfl, rfl, rfl⟩ | exact ⟨_, _, _, _, 19, rfl, rfl, rfl, rfl⟩ | exact ⟨_, _, _, _, 20, rfl, rfl, rfl, rfl⟩ | exact ⟨_, _, _, _, 21, rfl, rfl, rfl, rfl⟩ | exact ⟨_, _, _, _, 22, rfl, rfl, rfl, rfl⟩ | exact ⟨_, _, _, _, 23, rfl, rfl, rfl, rfl⟩), rfl, trivial⟩ (A := memA m g B) pk_ ⟨rfl, rfl⟩)
    · rw [if_neg (fun hz => h4 hz.1), show (e != 0) = true by simp [h4]]
      (refine G tt_ok pk128 ?_; repeat (refine G1 tt_ok pk128 ?_; intro _))
      exact CW.ret (fin_cells [_, _] ⟨(by first | exact ⟨_, _, _, _, 0, rfl, rfl, rfl, rfl⟩ | exact ⟨_, _, _, _, 1, rfl, rfl, rfl, rfl⟩ | exact ⟨_, _, _, _, 2, rfl, rfl, rfl, rfl⟩ | exact ⟨_, _, _, _, 3, rfl, rfl, rfl, rfl⟩ | exact ⟨_, _, _, _, 4, rfl, rfl, rfl, rfl⟩ | exact ⟨_, _, _, _, 5, rfl, rfl, rfl, rfl⟩ | exact ⟨_, _, _, _, 6, rfl, rfl, rfl, rfl⟩ | exact ⟨_, _, _, _, 7, rfl, rfl, rfl, rfl⟩ | exact ⟨_, _, _, _, 8, rfl, rfl, rfl, rfl⟩ | exact ⟨_, _, _, _, 9, rfl, rfl, rfl, rfl⟩ | exact ⟨_, _, _, _, 10, rfl, rfl, rfl, rfl⟩ | exact ⟨_, _, _, _, 11, rfl, rfl, rfl, rfl⟩ | exact ⟨_, _, _, _, 12, rfl, rfl, rfl, rfl⟩ | exact ⟨_, _, _, _, 13, rfl, rfl, rfl, rfl⟩ | exact ⟨_, _, _, _, 14, rfl, rfl, rfl, rfl⟩ | exact ⟨_, _, _, _, 15, rfl, rfl, rfl, rfl⟩ | exact ⟨_, _, _, _, 16, rfl, rfl, rfl, rfl⟩ | exact ⟨_, _, _, _, 17, rfl, rfl, rfl, rfl⟩ | exact ⟨_, _, _, _, 18, rfl, rfl, rfl, rfl⟩ | exact ⟨_, _, _, _, 19, rfl, rfl, rfl, rfl⟩ | exact ⟨_, _, _, _, 20, rfl, rfl, rfl, rfl⟩ | exact ⟨_, _, _, _, 21, rfl, rfl, rfl, rfl⟩ | exact ⟨_, _, _, _, 22, rfl, rfl, rfl, rfl⟩ | exact ⟨_, _, _, _, 23, rfl, rfl, rfl, rfl⟩), rfl, trivial⟩ (A := memA m g B) pk_ ⟨rfl, rfl⟩)
end Go.Proofs.YthhfoppaaehepaaGreatDoor.Sl
namespace Go.Proofs.YthhfoppaaehepaaGreatDoor.Sl
open Go Go.RowKit Go.Proofs
set_option linter.unusedVariables false
set_option linter.unusedSimpArgs false
attribute [local irreducible] CW Tri OW
set_option maxRecDepth 10000
/-- A device, as its entry says: whether it is one, the bits of its events, where their table lies. -/
abbrev Dv := Bool × Int × Int
abbrev Rt := Int × Int × Bool
def okDv (d : Dv) : Prop := 0 ≤ d.2.1 ∧ d.2.1 ≤ 31 ∧ 0 ≤ d.2.2 ∧ d.2.2 ≤ 281474976710656
def evN (b : Int) : Int := ((2 ^ (b.toNat + 1) : Nat) : Int)
theorem evN_le {b : Int} (h1 : b ≤ 31) : 2 ≤ evN b ∧ evN b ≤ 4294967296 := by
  have h2 : 2 ^ (b.toNat + 1) ≤ 2 ^ 32 := Nat.pow_le_pow_right (by omega) (by omega)
  have h3 : 2 ^ 1 ≤ 2 ^ (b.toNat + 1) := Nat.pow_le_pow_right (by omega) (by omega)
  have e : (2 : Nat) ^ 32 = 4294967296 := rfl
  unfold evN; omega
theorem acc_slot {n A : Nat} (h : A + 8 ≤ n) : accV n A 8 0 8 = 0 := by
  have h1 : holdsV n A 8 = true := by simp [holdsV]; omega
  unfold accV
  rw [h1, if_pos rfl]
  rfl
theorem memRd_slot {B : List Nat} {A : Nat} (h : A + 8 ≤ B.length) : memRd B A 8 0 8 = (rdN B A 8, 0) := by
  unfold memRd
  rw [if_pos (acc_slot h)]
  simp
theorem memWr_slot {B : List Nat} {A : Nat} (h : A + 8 ≤ B.length) (v : Nat) : memWr B A 8 0 8 v = (wrN B A 8 v, 0) := by
  unfold memWr
  rw [if_pos (acc_slot h)]
  simp
theorem rd_slot (β : Base) (m g : Nat) (B : List Nat) (hn : B.length ≤ 1000000) (hb : byOk B) {A : Nat} (h : A + 8 ≤ B.length) :
    Tri Tryz.prog β 91 [.pointer (some ⟨m, 0, none⟩), .agg #[.int .i64 (A : Int), .int .i64 8], .int .i64 0, .int .i64 8] (memA m g B) (fun v L => v = .tuple #[.int .u64 (rdN B A 8 : Int), .int .i64 0] ∧ L = memA m g B) := by
  have := read91 β m g B hn hb A 8 0 8
  rw [memRd_slot h] at this; exact this
theorem wr_slot (β : Base) (m g : Nat) (B : List Nat) (hn : B.length ≤ 1000000) {A : Nat} (h : A + 8 ≤ B.length) (v : Nat) (hv : v < 2 ^ 64) :
    Tri Tryz.prog β 68 [.pointer (some ⟨m, 0, none⟩), .agg #[.int .i64 (A : Int), .int .i64 8], .int .i64 0, .int .i64 8, .int .u64 (v : Int)] (memA m g B) (fun u L => u = .int .i64 0 ∧ L = memA m g (wrN B A 8 v)) := by
  have := write68 β m g B hn A 8 0 8 v hv
  rw [memWr_slot h] at this; exact this
theorem rd8_lt {B : List Nat} (hb : byOk B) (A : Nat) : rdN B A 8 < 2 ^ 64 := by
  have := rdN_lt hb A 8
  have e : (256 : Nat) ^ 8 = 2 ^ 64 := rfl
  rw [e] at this; exact this
theorem flag98 (β : Base) (b : Bool) : Tri Tryz.prog β 98 [.bool b] [] (fun v L => v = .int .u64 (((if b then 2 ^ 63 else 0 : Nat)) : Int) ∧ L = []) := by
  refine Tri.intro tt_ok Tryz.func98 rfl rfl Tryz.ntmps98 rfl fun F => ?_
  cases b
  · (refine G tt_ok [] ?_; repeat (refine G1 tt_ok [] ?_; intro _))
    exact CW.ret (fin_ret rfl (Ent.dropAll _) ⟨rfl, rfl⟩)
  · (refine G tt_ok [] ?_; repeat (refine G1 tt_ok [] ?_; intro _))
    exact CW.ret (fin_ret rfl (Ent.dropAll _) ⟨rfl, rfl⟩)
theorem events76 (β : Base) (v : Bool) {b : Int} (a : Int) (h0 : 0 ≤ b) (h1 : b ≤ 31) : Tri Tryz.prog β 76 [.agg #[.bool v, .int .i64 b, .int .i64 a]] [] (fun v L => v = .int .i64 (evN b) ∧ L = []) := by
  refine Tri.intro tt_ok Tryz.func76 rfl rfl Tryz.ntmps76 rfl fun F => ?_
  (refine G tt_ok [] ?_; repeat (refine G1 tt_ok [] ?_; intro _))
  rw [show (if 0 < (if 31 < b then 31 else b) then (if 31 < b then 31 else b) else 0) = b by split <;> split <;> omega]
  have hle := (evN_le h1)
  refine SQ.shift tt_ok rfl rfl b.toNat (by omega) (v := evN b) (by
    rw [if_pos rfl, show min b.toNat IntKind.i64.bits = b.toNat from Nat.min_eq_left (by show b.toNat ≤ 64; omega)]
    have e : (2 : Int) * 2 ^ b.toNat = evN b := by unfold evN; rw [Nat.pow_succ]; simp; omega
    rw [e, wrap_id (by omega) (by omega)]) ?_
  (refine G tt_ok [] ?_; repeat (refine G1 tt_ok [] ?_; intro _))
  exact CW.ret (fin_ret rfl (Ent.dropAll _) ⟨rfl, rfl⟩)
def evA (n : Nat) (d : Dv) (ev : Int) : Option Nat × Int := if d.1 = false ∨ ev < 0 ∨ ev ≥ evN d.2.1 then (none, 182) else if holdsV n (d.2.2 + ev * 8) 8 = true then (some (d.2.2 + ev * 8).toNat, 0) else (none, 180)
theorem evA_some {n : Nat} {d : Dv} {ev : Int} {A : Nat} {e : Int} (hd : okDv d) (h : evA n d ev = (some A, e)) : e = 0 ∧ (A : Int) = d.2.2 + ev * 8 ∧ A + 8 ≤ n ∧ 0 ≤ ev ∧ ev < evN d.2.1 ∧ d.1 = true := by
  unfold evA at h
  split at h
  · cases h
  · split at h
    · rename_i h1 h2
      unfold holdsV at h2
      simp only [Bool.and_eq_true, decide_eq_true_eq] at h2
      simp only [Prod.mk.injEq, Option.some.injEq] at h
      have h3 : ¬ d.1 = false := fun h => h1 (.inl h)
      have h4 : ¬ ev < 0 := fun h => h1 (.inr (.inl h))
      have h5 : ¬ ev ≥ evN d.2.1 := fun h => h1 (.inr (.inr h))
      refine ⟨h.2.symm, by omega, by omega, by omega, by omega, by simpa using h3⟩
    · cases h
def evR (n : Nat) (d : Dv) (ev : Int) : Value := match evA n d ev with
  | (some A, e) => .tuple #[.agg #[.int .i64 (A : Int), .int .i64 8], .int .i64 e]
  | (none, e) => .tuple #[.agg #[.int .i64 0, .int .i64 0], .int .i64 e]
set_option maxHeartbeats 4000000 in
theorem event131 (β : Base) (m : Nat) (q : Option Addr) {n : Nat} (c : Nat) (hn : n ≤ 1000000) (d : Dv) (hd : okDv d) (ev : Int) : Tri Tryz.prog β 131 [.agg #[.bool d.1, .int .i64 d.2.1, .int .i64 d.2.2], .pointer (some ⟨m, 0, none⟩), .int .i64 ev] [pt m [.slice q n c]] (fun v L => v = evR n d ev ∧ L = [pt m [.slice q n c]]) := by
  obtain ⟨dv, b, a⟩ := d
  obtain ⟨hd1, hd2, hd3, hd4⟩ := hd
  simp only at hd1 hd2 hd3 hd4
  refine Tri.intro tt_ok Tryz.func131 rfl rfl Tryz.ntmps131 rfl fun F => ?_
  unfold evR evA
  simp only
  cases dv with
  | false =>
    (refine G tt_ok [] ?_; repeat (refine G1 tt_ok [] ?_; intro _))
    exact CW.ret (fin_cells [_, _] ⟨(by first | exact ⟨_, _, _, _, 0, rfl, rfl, rfl, rfl⟩ | exact ⟨_, _, _, _, 1, rfl, rfl, rfl, rfl⟩ | exact ⟨_, _, _, _, 2, rfl, rfl, rfl, rfl⟩ | exact ⟨_, _, _, _, 3, rfl, rfl, rfl, rfl⟩ | exact ⟨_, _, _, _, 4, rfl, rfl, rfl, rfl⟩ | exact ⟨_, _, _, _, 5, rfl, rfl, rfl, rfl⟩ | exact ⟨_, _, _, _, 6, rfl, rfl, rfl, rfl⟩ | exact ⟨_, _, _, _, 7, rfl, rfl, rfl, rfl⟩ | exact ⟨_, _, _, _, 8, rfl, rfl, rfl, rfl⟩ | exact ⟨_, _, _, _, 9, rfl, rfl, rfl, rfl⟩ | exact ⟨_, _, _, _, 10, rfl, rfl, rfl, rfl⟩ | exact ⟨_, _, _, _, 11, rfl, rfl, rfl, rfl⟩ | exact ⟨_, _, _, _, 12, rfl, rfl, rfl, rfl⟩ | exact ⟨_, _, _, _, 13, rfl, rfl, rfl, rfl⟩ | exact ⟨_, _, _, _, 14, rfl, rfl, rfl, rfl⟩ | exact ⟨_, _, _, _, 15, rfl, rfl, rfl, rfl⟩ | exact ⟨_, _, _, _, 16, rfl, rfl, rfl, rfl⟩ | exact ⟨_, _, _, _, 17, rfl, rfl, rfl, rfl⟩ | exact ⟨_, _, _, _, 18, rfl, rfl, rfl, rfl⟩ | exact ⟨_, _, _, _, 19, rfl, rfl, rfl, rfl⟩ | exact ⟨_, _, _, _, 20, rfl, rfl, rfl, rfl⟩ | exact ⟨_, _, _, _, 21, rfl, rfl, rfl, rfl⟩ | exact ⟨_, _, _, _, 22, rfl, rfl, rfl, rfl⟩ | exact ⟨_, _, _, _, 23, rfl, rfl, rfl, rfl⟩), rfl, trivial⟩ (A := [pt m [.slice q n c]]) pk_ ⟨rfl, rfl⟩)
  | true =>
    (refine G tt_ok [] ?_; repeat (refine G1 tt_ok [] ?_; intro _))
    by_cases h1 : ev < 0
    · rw [decide_eq_true h1, if_pos (Or.inr (Or.inl h1))]
      (refine G tt_ok [] ?_; repeat (refine G1 tt_ok [] ?_; intro _))
      exact CW.ret (fin_cells [_, _] ⟨(by first | exact ⟨_, _, _, _, 0, rfl, rfl, rfl, rfl⟩ | exact ⟨_, _, _, _, 1, rfl, rfl, rfl, rfl⟩ | exact ⟨_, _, _, _, 2, rfl, rfl, rfl, rfl⟩ | exact ⟨_, _, _, _, 3, rfl, rfl, rfl, rfl⟩ | exact ⟨_, _, _, _, 4, rfl, rfl, rfl, rfl⟩ | exact ⟨_, _, _, _, 5, rfl, rfl, rfl, rfl⟩ | exact ⟨_, _, _, _, 6, rfl, rfl, rfl, rfl⟩ | exact ⟨_, _, _, _, 7, rfl, rfl, rfl, rfl⟩ | exact ⟨_, _, _, _, 8, rfl, rfl, rfl, rfl⟩ | exact ⟨_, _, _, _, 9, rfl, rfl, rfl, rfl⟩ | exact ⟨_, _, _, _, 10, rfl, rfl, rfl, rfl⟩ | exact ⟨_, _, _, _, 11, rfl, rfl, rfl, rfl⟩ | exact ⟨_, _, _, _, 12, rfl, rfl, rfl, rfl⟩ | exact ⟨_, _, _, _, 13, rfl, rfl, rfl, rfl⟩ | exact ⟨_, _, _, _, 14, rfl, rfl, rfl, rfl⟩ | exact ⟨_, _, _, _, 15, rfl, rfl, rfl, rfl⟩ | exact ⟨_, _, _, _, 16, rfl, rfl, rfl, rfl⟩ | exact ⟨_, _, _, _, 17, rfl, rfl, rfl, rfl⟩ | exact ⟨_, _, _, _, 18, rfl, rfl, rfl, rfl⟩ | exact ⟨_, _, _, _, 19, rfl, rfl, rfl, rfl⟩ | exact ⟨_, _, _, _, 20, rfl, rfl, rfl, rfl⟩ | exact ⟨_, _, _, _, 21, rfl, rfl, rfl, rfl⟩ | exact ⟨_, _, _, _, 22, rfl, rfl, rfl, rfl⟩ | exact ⟨_, _, _, _, 23, rfl, rfl, rfl, rfl⟩), rfl, trivial⟩ (A := [pt m [.slice q n c]]) pk_ ⟨rfl, rfl⟩)
    rw [decide_eq_false h1]
    (refine G tt_ok [] ?_; repeat (refine G1 tt_ok [] ?_; intro _))
    refine ke rfl rfl (events76 β true a hd1 hd2) ?_
    (refine G tt_ok [] ?_; repeat (refine G1 tt_ok [] ?_; intro _))
    by_cases h2 : ev ≥ evN b
    · rw [decide_eq_true h2, if_pos (Or.inr (Or.inr h2))]
      (refine G tt_ok [] ?_; repeat (refine G1 tt_ok [] ?_; intro _))
      exact CW.ret (fin_cells [_, _] ⟨(by first | exact ⟨_, _, _, _, 0, rfl, rfl, rfl, rfl⟩ | exact ⟨_, _, _, _, 1, rfl, rfl, rfl, rfl⟩ | exact ⟨_, _, _, _, 2, rfl, rfl, rfl, rfl⟩ | exact ⟨_, _, _, _, 3, rfl, rfl, rfl, rfl⟩ | exact ⟨_, _, _, _, 4, rfl, rfl, rfl, rfl⟩ | exact ⟨_, _, _, _, 5, rfl, rfl, rfl, rfl⟩ | exact ⟨_, _, _, _, 6, rfl, rfl, rfl, rfl⟩ | exact ⟨_, _, _, _, 7, rfl, rfl, rfl, rfl⟩ | exact ⟨_, _, _, _, 8, rfl, rfl, rfl, rfl⟩ | exact ⟨_, _, _, _, 9, rfl, rfl, rfl, rfl⟩ | exact ⟨_, _, _, _, 10, rfl, rfl, rfl, rfl⟩ | exact ⟨_, _, _, _, 11, rfl, rfl, rfl, rfl⟩ | exact ⟨_, _, _, _, 12, rfl, rfl, rfl, rfl⟩ | exact ⟨_, _, _, _, 13, rfl, rfl, rfl, rfl⟩ | exact ⟨_, _, _, _, 14, rfl, rfl, rfl, rfl⟩ | exact ⟨_, _, _, _, 15, rfl, rfl, rfl, rfl⟩ | exact ⟨_, _, _, _, 16, rfl, rfl, rfl, rfl⟩ | exact ⟨_, _, _, _, 17, rfl, rfl, rfl, rfl⟩ | exact ⟨_, _, _, _, 18, rfl, rfl, rfl, rfl⟩ | exact ⟨_, _, _, _, 19, rfl, rfl, rfl, rfl⟩ | exact ⟨_, _, _, _, 20, rfl, rfl, rfl, rfl⟩ | exact ⟨_, _, _, _, 21, rfl, rfl, rfl, rfl⟩ | exact ⟨_, _, _, _, 22, rfl, rfl, rfl, rfl⟩ | exact ⟨_, _, _, _, 23, rfl, rfl, rfl, rfl⟩), rfl, trivial⟩ (A := [pt m [.slice q n c]]) pk_ ⟨rfl, rfl⟩)
    have hle := (evN_le hd2).2
    rw [decide_eq_false h2, if_neg (by rintro (h | h | h); cases h; exact h1 h; exact h2 h)]
    (refine G tt_ok [] ?_; repeat (refine G1 tt_ok [] ?_; intro _))
    rw [wrap_id (show -9223372036854775808 ≤ ev * 8 by omega) (by omega), wrap_id (show -9223372036854775808 ≤ a + ev * 8 by omega) (by omega)]
    refine ke rfl rfl (holds29 β m q c hn (a + ev * 8) 8) ?_
    cases h3 : holdsV n (a + ev * 8) 8 with
    | true =>
      (refine G tt_ok [] ?_; repeat (refine G1 tt_ok [] ?_; intro _))
      have e : (((a + ev * 8).toNat : Nat) : Int) = a + ev * 8 := by omega
      exact CW.ret (fin_cells [_, _] ⟨(by first | exact ⟨_, _, _, _, 0, rfl, rfl, rfl, rfl⟩ | exact ⟨_, _, _, _, 1, rfl, rfl, rfl, rfl⟩ | exact ⟨_, _, _, _, 2, rfl, rfl, rfl, rfl⟩ | exact ⟨_, _, _, _, 3, rfl, rfl, rfl, rfl⟩ | exact ⟨_, _, _, _, 4, rfl, rfl, rfl, rfl⟩ | exact ⟨_, _, _, _, 5, rfl, rfl, rfl, rfl⟩ | exact ⟨_, _, _, _, 6, rfl, rfl, rfl, rfl⟩ | exact ⟨_, _, _, _, 7, rfl, rfl, rfl, rfl⟩ | exact ⟨_, _, _, _, 8, rfl, rfl, rfl, rfl⟩ | exact ⟨_, _, _, _, 9, rfl, rfl, rfl, rfl⟩ | exact ⟨_, _, _, _, 10, rfl, rfl, rfl, rfl⟩ | exact ⟨_, _, _, _, 11, rfl, rfl, rfl, rfl⟩ | exact ⟨_, _, _, _, 12, rfl, rfl, rfl, rfl⟩ | exact ⟨_, _, _, _, 13, rfl, rfl, rfl, rfl⟩ | exact ⟨_, _, _, _, 14, rfl, rfl, rfl, rfl⟩ | exact ⟨_, _, _, _, 15, rfl, rfl, rfl, rfl⟩ | exact ⟨_, _, _, _, 16, rfl, rfl, rfl, rfl⟩ | exact ⟨_, _, _, _, 17, rfl, rfl, rfl, rfl⟩ | exact ⟨_, _, _, _, 18, rfl, rfl, rfl, rfl⟩ | exact ⟨_, _, _, _, 19, rfl, rfl, rfl, rfl⟩ | exact ⟨_, _, _, _, 20, rfl, rfl, rfl, rfl⟩ | exact ⟨_, _, _, _, 21, rfl, rfl, rfl, rfl⟩ | exact ⟨_, _, _, _, 22, rfl, rfl, rfl, rfl⟩ | exact ⟨_, _, _, _, 23, rfl, rfl, rfl, rfl⟩), rfl, trivial⟩ (A := [pt m [.slice q n c]]) pk_ ⟨by show _ = Value.tuple #[.agg #[.int .i64 (((a + ev * 8).toNat : Nat) : Int), .int .i64 8], .int .i64 0]; rw [e]; rfl, rfl⟩)
    | false =>
      (refine G tt_ok [] ?_; repeat (refine G1 tt_ok [] ?_; intro _))
      exact CW.ret (fin_cells [_, _] ⟨(by first | exact ⟨_, _, _, _, 0, rfl, rfl, rfl, rfl⟩ | exact ⟨_, _, _, _, 1, rfl, rfl, rfl, rfl⟩ | exact ⟨_, _, _, _, 2, rfl, rfl, rfl, rfl⟩ | exact ⟨_, _, _, _, 3, rfl, rfl, rfl, rfl⟩ | exact ⟨_, _, _, _, 4, rfl, rfl, rfl, rfl⟩ | exact ⟨_, _, _, _, 5, rfl, rfl, rfl, rfl⟩ | exact ⟨_, _, _, _, 6, rfl, rfl, rfl, rfl⟩ | exact ⟨_, _, _, _, 7, rfl, rfl, rfl, rfl⟩ | exact ⟨_, _, _, _, 8, rfl, rfl, rfl, rfl⟩ | exact ⟨_, _, _, _, 9, rfl, rfl, rfl, rfl⟩ | exact ⟨_, _, _, _, 10, rfl, rfl, rfl, rfl⟩ | exact ⟨_, _, _, _, 11, rfl, rfl, rfl, rfl⟩ | exact ⟨_, _, _, _, 12, rfl, rfl, rfl, rfl⟩ | exact ⟨_, _, _, _, 13, rfl, rfl, rfl, rfl⟩ | exact ⟨_, _, _, _, 14, rfl, rfl, rfl, rfl⟩ | exact ⟨_, _, _, _, 15, rfl, rfl, rfl, rfl⟩ | exact ⟨_, _, _, _, 16, rfl, rfl, rfl, rfl⟩ | exact ⟨_, _, _, _, 17, rfl, rfl, rfl, rfl⟩ | exact ⟨_, _, _, _, 18, rfl, rfl, rfl, rfl⟩ | exact ⟨_, _, _, _, 19, rfl, rfl, rfl, rfl⟩ | exact ⟨_, _, _, _, 20, rfl, rfl, rfl, rfl⟩ | exact ⟨_, _, _, _, 21, rfl, rfl, rfl, rfl⟩ | exact ⟨_, _, _, _, 22, rfl, rfl, rfl, rfl⟩ | exact ⟨_, _, _, _, 23, rfl, rfl, rfl, rfl⟩), rfl, trivial⟩ (A := [pt m [.slice q n c]]) pk_ ⟨rfl, rfl⟩)
def routeV (x : Nat) : Rt := if x < 2 ^ 63 then (0, 0, false) else (((x % 2 ^ 32 : Nat) : Int), ((x / 2 ^ 32 % 2 ^ 16 : Nat) : Int), true)
def routeN (c n : Int) : Nat := 2 ^ 63 + c.toNat * 2 ^ 32 + n.toNat
def devRt (B : List Nat) (d : Dv) (ev : Int) : Rt × Int := match evA B.length d ev with
  | (some A, _) => (routeV (rdN B A 8), 0)
  | (none, e) => ((0, 0, false), e)
def devSet (B : List Nat) (d : Dv) (ev : Int) (r : Rt) : List Nat × Int := match evA B.length d ev with
  | (some A, _) => if r.2.2 = false then (wrN B A 8 0, 0) else if 0 ≤ r.1 ∧ r.1 < 4294967296 ∧ 0 ≤ r.2.1 ∧ r.2.1 < 65536 then (wrN B A 8 (routeN r.2.1 r.1), 0) else (B, 1)
  | (none, e) => (B, e)
theorem evA_err {n : Nat} {d : Dv} {ev : Int} {e : Int} (h : evA n d ev = (none, e)) : e ≠ 0 := by
  unfold evA at h
  split at h
  · cases h; decide
  · split at h
    · cases h
    · cases h; decide
set_option maxHeartbeats 4000000 in
theorem route84 (β : Base) (m g : Nat) (B : List Nat) (hn : B.length ≤ 1000000) (hb : byOk B) (d : Dv) (hd : okDv d) (ev : Int) : Tri Tryz.prog β 84 [.agg #[.bool d.1, .int .i64 d.2.1, .int .i64 d.2.2], .pointer (some ⟨m, 0, none⟩), .int .i64 ev] (memA m g B)
    (fun v L => v = .tuple #[.agg #[.int .i64 (devRt B d ev).1.1, .int .i64 (devRt B d ev).1.2.1, .bool (devRt B d ev).1.2.2], .int .i64 (devRt B d ev).2] ∧ L = memA m g B) := by
  refine Tri.intro tt_ok Tryz.func84 rfl rfl Tryz.ntmps84 rfl fun F => ?_
  unfold devRt
  (refine G tt_ok [] ?_; repeat (refine G1 tt_ok [] ?_; intro _))
  have he := event131 β m (some ⟨g, 0, none⟩) B.length hn d hd ev
  unfold evR at he
  cases hA : evA B.length d ev with
  | mk A e =>
    rw [hA] at he
    cases A with
    | none =>
      have h0 := evA_err hA
      refine ke rfl rfl (he) ?_
      (refine G tt_ok [] ?_; repeat (refine G1 tt_ok [] ?_; intro _))
      rw [show (e != 0) = true by simp [h0]]
      (refine G tt_ok [] ?_; repeat (refine G1 tt_ok [] ?_; intro _))
      exact CW.ret (fin_cells [_, _] ⟨(by first | exact ⟨_, _, _, _, 0, rfl, rfl, rfl, rfl⟩ | exact ⟨_, _, _, _, 1, rfl, rfl, rfl, rfl⟩ | exact ⟨_, _, _, _, 2, rfl, rfl, rfl, rfl⟩ | exact ⟨_, _, _, _, 3, rfl, rfl, rfl, rfl⟩ | exact ⟨_, _, _, _, 4, rfl, rfl, rfl, rfl⟩ | exact ⟨_, _, _, _, 5, rfl, rfl, rfl, rfl⟩ | exact ⟨_, _, _, _, 6, rfl, rfl, rfl, rfl⟩ | exact ⟨_, _, _, _, 7, rfl, rfl, rfl, rfl⟩ | exact ⟨_, _, _, _, 8, rfl, rfl, rfl, rfl⟩ | exact ⟨_, _, _, _, 9, rfl, rfl, rfl, rfl⟩ | exact ⟨_, _, _, _, 10, rfl, rfl, rfl, rfl⟩ | exact ⟨_, _, _, _, 11, rfl, rfl, rfl, rfl⟩ | exact ⟨_, _, _, _, 12, rfl, rfl, rfl, rfl⟩ | exact ⟨_, _, _, _, 13, rfl, rfl, rfl, rfl⟩ | exact ⟨_, _, _, _, 14, rfl, rfl, rfl, rfl⟩ | exact ⟨_, _, _, _, 15, rfl, rfl, rfl, rfl⟩ | exact ⟨_, _, _, _, 16, rfl, rfl, rfl, rfl⟩ | exact ⟨_, _, _, _, 17, rfl, rfl, rfl, rfl⟩ | exact ⟨_, _, _, _, 18, rfl, rfl, rfl, rfl⟩ | exact ⟨_, _, _, _, 19, rfl, rfl, rfl, rfl⟩ | exact ⟨_, _, _, _, 20, rfl, rfl, rfl, rfl⟩ | exact ⟨_, _, _, _, 21, rfl, rfl, rfl, rfl⟩ | exact ⟨_, _, _, _, 22, rfl, rfl, rfl, rfl⟩ | exact ⟨_, _, _, _, 23, rfl, rfl, rfl, rfl⟩), rfl, trivial⟩ (A := memA m g B) pk_ ⟨rfl, rfl⟩)
    | some A =>
      obtain ⟨rfl, hA1, hA2, _⟩ := evA_some hd hA
      refine ke rfl rfl (he) ?_
      (refine G tt_ok [] ?_; repeat (refine G1 tt_ok [] ?_; intro _))
      refine ke rfl rfl (rd_slot β m g B hn hb hA2) ?_
      have hx := rd8_lt hb A
      simp only
      generalize rdN B A 8 = x at hx ⊢
      (refine G tt_ok [] ?_; repeat (refine G1 tt_ok [] ?_; intro _))
      rw [fdivN x 63 (by omega)]
      unfold routeV
      by_cases h5 : x < 2 ^ 63
      · rw [if_pos h5, show (((x / 2 ^ 63 : Nat) : Int) == 0) = true by simp; omega]
        (refine G tt_ok [] ?_; repeat (refine G1 tt_ok [] ?_; intro _))
        exact CW.ret (fin_cells [_, _] ⟨(by first | exact ⟨_, _, _, _, 0, rfl, rfl, rfl, rfl⟩ | exact ⟨_, _, _, _, 1, rfl, rfl, rfl, rfl⟩ | exact ⟨_, _, _, _, 2, rfl, rfl, rfl, rfl⟩ | exact ⟨_, _, _, _, 3, rfl, rfl, rfl, rfl⟩ | exact ⟨_, _, _, _, 4, rfl, rfl, rfl, rfl⟩ | exact ⟨_, _, _, _, 5, rfl, rfl, rfl, rfl⟩ | exact ⟨_, _, _, _, 6, rfl, rfl, rfl, rfl⟩ | exact ⟨_, _, _, _, 7, rfl, rfl, rfl, rfl⟩ | exact ⟨_, _, _, _, 8, rfl, rfl, rfl, rfl⟩ | exact ⟨_, _, _, _, 9, rfl, rfl, rfl, rfl⟩ | exact ⟨_, _, _, _, 10, rfl, rfl, rfl, rfl⟩ | exact ⟨_, _, _, _, 11, rfl, rfl, rfl, rfl⟩ | exact ⟨_, _, _, _, 12, rfl, rfl, rfl, rfl⟩ | exact ⟨_, _, _, _, 13, rfl, rfl, rfl, rfl⟩ | exact ⟨_, _, _, _, 14, rfl, rfl, rfl, rfl⟩ | exact ⟨_, _, _, _, 15, rfl, rfl, rfl, rfl⟩ | exact ⟨_, _, _, _, 16, rfl, rfl, rfl, rfl⟩ | exact ⟨_, _, _, _, 17, rfl, rfl, rfl, rfl⟩ | exact ⟨_, _, _, _, 18, rfl, rfl, rfl, rfl⟩ | exact ⟨_, _, _, _, 19, rfl, rfl, rfl, rfl⟩ | exact ⟨_, _, _, _, 20, rfl, rfl, rfl, rfl⟩ | exact ⟨_, _, _, _, 21, rfl, rfl, rfl, rfl⟩ | exact ⟨_, _, _, _, 22, rfl, rfl, rfl, rfl⟩ | exact ⟨_, _, _, _, 23, rfl, rfl, rfl, rfl⟩), rfl, trivial⟩ (A := memA m g B) pk_ ⟨rfl, rfl⟩)
      · rw [if_neg h5, show (((x / 2 ^ 63 : Nat) : Int) == 0) = false by simp; omega]
        (refine G tt_ok [] ?_; repeat (refine G1 tt_ok [] ?_; intro _))
        rw [show IntKind.i64.wrap (IntKind.u64.wrap ((BitVec.ofInt IntKind.u64.bits (x : Int) &&& BitVec.ofInt IntKind.u64.bits 4294967295).toNat : Int)) = ((x % 2 ^ 32 : Nat) : Int) by rw [show (4294967295 : Int) = ((2 ^ 32 - 1 : Nat) : Int) from rfl, and_mod hx (by omega), wrap_id (by omega) (by omega)],
          fdivN x 32 (by omega), show IntKind.i64.wrap (IntKind.u64.wrap ((BitVec.ofInt IntKind.u64.bits ((x / 2 ^ 32 : Nat) : Int) &&& BitVec.ofInt IntKind.u64.bits 65535).toNat : Int)) = ((x / 2 ^ 32 % 2 ^ 16 : Nat) : Int) by rw [show (65535 : Int) = ((2 ^ 16 - 1 : Nat) : Int) from rfl, and_mod (by omega) (by omega), wrap_id (by omega) (by omega)]]
        exact CW.ret (fin_cells [_, _] ⟨(by first | exact ⟨_, _, _, _, 0, rfl, rfl, rfl, rfl⟩ | exact ⟨_, _, _, _, 1, rfl, rfl, rfl, rfl⟩ | exact ⟨_, _, _, _, 2, rfl, rfl, rfl, rfl⟩ | exact ⟨_, _, _, _, 3, rfl, rfl, rfl, rfl⟩ | exact ⟨_, _, _, _, 4, rfl, rfl, rfl, rfl⟩ | exact ⟨_, _, _, _, 5, rfl, rfl, rfl, rfl⟩ | exact ⟨_, _, _, _, 6, rfl, rfl, rfl, rfl⟩ | exact ⟨_, _, _, _, 7, rfl, rfl, rfl, rfl⟩ | exact ⟨_, _, _, _, 8, rfl, rfl, rfl, rfl⟩ | exact ⟨_, _, _, _, 9, rfl, rfl, rfl, rfl⟩ | exact ⟨_, _, _, _, 10, rfl, rfl, rfl, rfl⟩ | exact ⟨_, _, _, _, 11, rfl, rfl, rfl, rfl⟩ | exact ⟨_, _, _, _, 12, rfl, rfl, rfl, rfl⟩ | exact ⟨_, _, _, _, 13, rfl, rfl, rfl, rfl⟩ | exact ⟨_, _, _, _, 14, rfl, rfl, rfl, rfl⟩ | exact ⟨_, _, _, _, 15, rfl, rfl, rfl, rfl⟩ | exact ⟨_, _, _, _, 16, rfl, rfl, rfl, rfl⟩ | exact ⟨_, _, _, _, 17, rfl, rfl, rfl, rfl⟩ | exact ⟨_, _, _, _, 18, rfl, rfl, rfl, rfl⟩ | exact ⟨_, _, _, _, 19, rfl, rfl, rfl, rfl⟩ | exact ⟨_, _, _, _, 20, rfl, rfl, rfl, rfl⟩ | exact ⟨_, _, _, _, 21, rfl, rfl, rfl, rfl⟩ | exact ⟨_, _, _, _, 22, rfl, rfl, rfl, rfl⟩ | exact ⟨_, _, _, _, 23, rfl, rfl, rfl, rfl⟩), rfl, trivial⟩ (A := memA m g B) pk_ ⟨rfl, rfl⟩)
end Go.Proofs.YthhfoppaaehepaaGreatDoor.Sl
namespace Go.Proofs.YthhfoppaaehepaaGreatDoor.Sl
open Go Go.RowKit Go.Proofs
set_option linter.unusedVariables false
set_option linter.unusedSimpArgs false
attribute [local irreducible] CW Tri OW
set_option maxRecDepth 10000
@[reducible] def pk87 : List (Nat × Plan) := [(9, [(0, 0, []), (1, 0, []), (3, 0, []), (4, 0, []), (5, 0, []), (6, 0, []), (8, 0, []), (9, 0, []), (10, 0, []), (2, 1, [1, 4, 9]), (7, 0, []), (11, 0, []), (12, 1, [1, 4, 9])])]
@[reducible] def pk75 : List (Nat × Plan) := []
theorem or_add {k q b : Nat} (hb : b < 2 ^ k) (hq : 2 ^ k * q + b < 2 ^ 64) : IntKind.u64.wrap ((BitVec.ofInt IntKind.u64.bits ((2 ^ k * q : Nat) : Int) ||| BitVec.ofInt IntKind.u64.bits (b : Int)).toNat : Int) = ((2 ^ k * q + b : Nat) : Int) := by
  rw [or64 (by omega) (by omega), Nat.two_pow_add_eq_or_of_lt hb]
theorem route_or {c n : Nat} (hc : c < 65536) (hn : n < 4294967296) : IntKind.u64.wrap ((BitVec.ofInt IntKind.u64.bits (IntKind.u64.wrap ((BitVec.ofInt IntKind.u64.bits ((2 ^ 63 : Nat) : Int) ||| BitVec.ofInt IntKind.u64.bits (IntKind.u64.wrap ((c : Int) * 2 ^ min 32 IntKind.u64.bits))).toNat : Int)) ||| BitVec.ofInt IntKind.u64.bits (n : Int)).toNat : Int) = ((routeN c n : Nat) : Int) := by
  have e1 : IntKind.u64.wrap ((c : Int) * 2 ^ min 32 IntKind.u64.bits) = ((c * 2 ^ 32 : Nat) : Int) := by
    rw [show (c : Int) * 2 ^ min 32 IntKind.u64.bits = ((c * 2 ^ 32 : Nat) : Int) by rw [show min 32 IntKind.u64.bits = 32 from rfl]; simp, wN (by omega)]
  rw [e1]
  have e2 := or_add (k := 63) (q := 1) (b := c * 2 ^ 32) (by omega) (by omega)
  rw [Nat.mul_one] at e2
  rw [e2]
  have e3 := or_add (k := 32) (q := 2 ^ 31 + c) (b := n) (by omega) (by omega)
  rw [show 2 ^ 32 * (2 ^ 31 + c) = 2 ^ 63 + c * 2 ^ 32 by omega] at e3
  rw [e3]
  unfold routeN
  simp
set_option maxHeartbeats 4000000 in
theorem setRoute87 (β : Base) (m g : Nat) (B : List Nat) (hn : B.length ≤ 1000000) (hb : byOk B) (d : Dv) (hd : okDv d) (ev : Int) (r : Rt) : Tri Tryz.prog β 87 [.agg #[.bool d.1, .int .i64 d.2.1, .int .i64 d.2.2], .pointer (some ⟨m, 0, none⟩), .int .i64 ev, .agg #[.int .i64 r.1, .int .i64 r.2.1, .bool r.2.2]] (memA m g B)
    (fun v L => v = .int .i64 (devSet B d ev r).2 ∧ L = memA m g (devSet B d ev r).1) := by
  refine Tri.intro tt_ok Tryz.func87 rfl rfl Tryz.ntmps87 rfl fun F => ?_
  obtain ⟨n, c, v⟩ := r
  unfold devSet
  simp only
  (refine G tt_ok pk87 ?_; repeat (refine G1 tt_ok pk87 ?_; intro _))
  have he := event131 β m (some ⟨g, 0, none⟩) B.length hn d hd ev
  unfold evR at he
  cases hA : evA B.length d ev with
  | mk A e =>
    rw [hA] at he
    cases A with
    | none =>
      have h0 := evA_err hA
      refine ke rfl rfl (he) ?_
      (refine G tt_ok pk87 ?_; repeat (refine G1 tt_ok pk87 ?_; intro _))
      rw [show (e != 0) = true by simp [h0]]
      (refine G tt_ok pk87 ?_; repeat (refine G1 tt_ok pk87 ?_; intro _))
      exact CW.ret (fin_ret rfl (A := memA m g B) pk_ ⟨rfl, rfl⟩)
    | some A =>
      obtain ⟨rfl, hA1, hA2, _⟩ := evA_some hd hA
      refine ke rfl rfl (he) ?_
      simp only
      cases v with
      | false =>
        (refine G tt_ok pk87 ?_; repeat (refine G1 tt_ok pk87 ?_; intro _))
        refine ke rfl rfl (wr_slot β m g B hn hA2 0 (by decide)) ?_
        (refine G tt_ok pk87 ?_; repeat (refine G1 tt_ok pk87 ?_; intro _))
        exact CW.ret (fin_ret rfl (A := memA m g (wrN B A 8 0)) pk_ ⟨rfl, rfl⟩)
      | true =>
        (refine G tt_ok pk87 ?_; repeat (refine G1 tt_ok pk87 ?_; intro _))
        rw [if_neg (by simp)]
        by_cases h1 : n < 0
        · rw [decide_eq_true h1, if_neg (by omega)]
          (refine G tt_ok pk87 ?_; repeat (refine G1 tt_ok pk87 ?_; intro _))
          exact CW.ret (fin_ret rfl (A := memA m g B) pk_ ⟨rfl, rfl⟩)
        rw [decide_eq_false h1]
        (refine G tt_ok pk87 ?_; repeat (refine G1 tt_ok pk87 ?_; intro _))
        by_cases h2 : n ≥ 4294967296
        · rw [decide_eq_true h2, if_neg (by omega)]
          (refine G tt_ok pk87 ?_; repeat (refine G1 tt_ok pk87 ?_; intro _))
          exact CW.ret (fin_ret rfl (A := memA m g B) pk_ ⟨rfl, rfl⟩)
        rw [decide_eq_false h2]
        (refine G tt_ok pk87 ?_; repeat (refine G1 tt_ok pk87 ?_; intro _))
        by_cases h3 : c < 0
        · rw [decide_eq_true h3, if_neg (by omega)]
          (refine G tt_ok pk87 ?_; repeat (refine G1 tt_ok pk87 ?_; intro _))
          exact CW.ret (fin_ret rfl (A := memA m g B) pk_ ⟨rfl, rfl⟩)
        rw [decide_eq_false h3]
        (refine G tt_ok pk87 ?_; repeat (refine G1 tt_ok pk87 ?_; intro _))
        by_cases h4 : c ≥ 65536
        · rw [decide_eq_true h4, if_neg (by omega)]
          (refine G tt_ok pk87 ?_; repeat (refine G1 tt_ok pk87 ?_; intro _))
          exact CW.ret (fin_ret rfl (A := memA m g B) pk_ ⟨rfl, rfl⟩)
        rw [decide_eq_false h4, if_pos (by omega)]
        (refine G tt_ok pk87 ?_; repeat (refine G1 tt_ok pk87 ?_; intro _))
        refine ke rfl rfl (flag98 β true) ?_
        (refine G tt_ok pk87 ?_; repeat (refine G1 tt_ok pk87 ?_; intro _))
        obtain ⟨N, rfl⟩ : ∃ N : Nat, n = (N : Int) := ⟨n.toNat, by omega⟩
        obtain ⟨C, rfl⟩ : ∃ C : Nat, c = (C : Int) := ⟨c.toNat, by omega⟩
        rw [if_pos rfl, wN (a := C) (by omega), wN (a := N) (by omega), route_or (by omega) (by omega)]
        have hlt : routeN C N < 2 ^ 64 := by unfold routeN; simp; omega
        refine ke rfl rfl (wr_slot β m g B hn hA2 (routeN C N) hlt) ?_
        (refine G tt_ok pk87 ?_; repeat (refine G1 tt_ok pk87 ?_; intro _))
        exact CW.ret (fin_ret rfl (A := memA m g (wrN B A 8 (routeN C N))) pk_ ⟨rfl, rfl⟩)
def devV (x : Nat) : Dv := if x < 2 ^ 63 then (false, 0, 0) else (true, ((x % 2 ^ 5 : Nat) : Int), ((x / 2 ^ 8 % 2 ^ 40 * 256 : Nat) : Int))
theorem devV_ok (x : Nat) : okDv (devV x) := by
  unfold devV okDv
  split <;> simp only <;> omega
def tabGet (B : List Nat) (a s p id : Int) : Dv × Int := match slotA B a s p id with
  | some A => (devV (rdN B A 8), 0)
  | none => ((false, 0, 0), 180)
set_option maxHeartbeats 4000000 in
theorem get75 (β : Base) (m g : Nat) (B : List Nat) (hn : B.length ≤ 1000000) (hb : byOk B) {a s p : Int} (hp : p = 0 ∨ p = 32) (hh : holdsV B.length a s = true) (id : Int) :
    Tri Tryz.prog β 75 [.agg #[.int .i64 a, .int .i64 s, .int .i64 p], .pointer (some ⟨m, 0, none⟩), .int .i64 id] (memA m g B)
      (fun v L => v = .tuple #[.agg #[.bool (tabGet B a s p id).1.1, .int .i64 (tabGet B a s p id).1.2.1, .int .i64 (tabGet B a s p id).1.2.2], .int .i64 (tabGet B a s p id).2] ∧ L = memA m g B) := by
  refine Tri.intro tt_ok Tryz.func75 rfl rfl Tryz.ntmps75 rfl fun F => ?_
  unfold tabGet
  have hs := slot128 β m g B hn hb hp hh id
  (refine G tt_ok pk75 ?_; repeat (refine G1 tt_ok pk75 ?_; intro _))
  cases hA : slotA B a s p id with
  | none =>
    rw [hA] at hs
    refine ke rfl rfl (hs) ?_
    (refine G tt_ok pk75 ?_; repeat (refine G1 tt_ok pk75 ?_; intro _))
    exact CW.ret (fin_cells [_, _] ⟨(by first | exact ⟨_, _, _, _, 0, rfl, rfl, rfl, rfl⟩ | exact ⟨_, _, _, _, 1, rfl, rfl, rfl, rfl⟩ | exact ⟨_, _, _, _, 2, rfl, rfl, rfl, rfl⟩ | exact ⟨_, _, _, _, 3, rfl, rfl, rfl, rfl⟩ | exact ⟨_, _, _, _, 4, rfl, rfl, rfl, rfl⟩ | exact ⟨_, _, _, _, 5, rfl, rfl, rfl, rfl⟩ | exact ⟨_, _, _, _, 6, rfl, rfl, rfl, rfl⟩ | exact ⟨_, _, _, _, 7, rfl, rfl, rfl, rfl⟩ | exact ⟨_, _, _, _, 8, rfl, rfl, rfl, rfl⟩ | exact ⟨_, _, _, _, 9, rfl, rfl, rfl, rfl⟩ | exact ⟨_, _, _, _, 10, rfl, rfl, rfl, rfl⟩ | exact ⟨_, _, _, _, 11, rfl, rfl, rfl, rfl⟩ | exact ⟨_, _, _, _, 12, rfl, rfl, rfl, rfl⟩ | exact ⟨_, _, _, _, 13, rfl, rfl, rfl, rfl⟩ | exact ⟨_, _, _, _, 14, rfl, rfl, rfl, rfl⟩ | exact ⟨_, _, _, _, 15, rfl, rfl, rfl, rfl⟩ | exact ⟨_, _, _, _, 16, rfl, rfl, rfl, rfl⟩ | exact ⟨_, _, _, _, 17, rfl, rfl, rfl, rfl⟩ | exact ⟨_, _, _, _, 18, rfl, rfl, rfl, rfl⟩ | exact ⟨_, _, _, _, 19, rfl, rfl, rfl, rfl⟩ | exact ⟨_, _, _, _, 20, rfl, rfl, rfl, rfl⟩ | exact ⟨_, _, _, _, 21, rfl, rfl, rfl, rfl⟩ | exact ⟨_, _, _, _, 22, rfl, rfl, rfl, rfl⟩ | exact ⟨_, _, _, _, 23, rfl, rfl, rfl, rfl⟩), rfl, trivial⟩ (A := memA m g B) pk_ ⟨rfl, rfl⟩)
  | some A =>
    rw [hA] at hs
    have hA2 := slotA_in hA
    refine ke rfl rfl (hs) ?_
    (refine G tt_ok pk75 ?_; repeat (refine G1 tt_ok pk75 ?_; intro _))
    refine ke rfl rfl (rd_slot β m g B hn hb hA2) ?_
    have hx := rd8_lt hb A
    simp only
    generalize rdN B A 8 = x at hx ⊢
    (refine G tt_ok pk75 ?_; repeat (refine G1 tt_ok pk75 ?_; intro _))
    rw [fdivN x 63 (by omega)]
    unfold devV
    by_cases h5 : x < 2 ^ 63
    · rw [if_pos h5, show (((x / 2 ^ 63 : Nat) : Int) == 0) = true by simp; omega]
      (refine G tt_ok pk75 ?_; repeat (refine G1 tt_ok pk75 ?_; intro _))
      exact CW.ret (fin_cells [_, _] ⟨(by first | exact ⟨_, _, _, _, 0, rfl, rfl, rfl, rfl⟩ | exact ⟨_, _, _, _, 1, rfl, rfl, rfl, rfl⟩ | exact ⟨_, _, _, _, 2, rfl, rfl, rfl, rfl⟩ | exact ⟨_, _, _, _, 3, rfl, rfl, rfl, rfl⟩ | exact ⟨_, _, _, _, 4, rfl, rfl, rfl, rfl⟩ | exact ⟨_, _, _, _, 5, rfl, rfl, rfl, rfl⟩ | exact ⟨_, _, _, _, 6, rfl, rfl, rfl, rfl⟩ | exact ⟨_, _, _, _, 7, rfl, rfl, rfl, rfl⟩ | exact ⟨_, _, _, _, 8, rfl, rfl, rfl, rfl⟩ | exact ⟨_, _, _, _, 9, rfl, rfl, rfl, rfl⟩ | exact ⟨_, _, _, _, 10, rfl, rfl, rfl, rfl⟩ | exact ⟨_, _, _, _, 11, rfl, rfl, rfl, rfl⟩ | exact ⟨_, _, _, _, 12, rfl, rfl, rfl, rfl⟩ | exact ⟨_, _, _, _, 13, rfl, rfl, rfl, rfl⟩ | exact ⟨_, _, _, _, 14, rfl, rfl, rfl, rfl⟩ | exact ⟨_, _, _, _, 15, rfl, rfl, rfl, rfl⟩ | exact ⟨_, _, _, _, 16, rfl, rfl, rfl, rfl⟩ | exact ⟨_, _, _, _, 17, rfl, rfl, rfl, rfl⟩ | exact ⟨_, _, _, _, 18, rfl, rfl, rfl, rfl⟩ | exact ⟨_, _, _, _, 19, rfl, rfl, rfl, rfl⟩ | exact ⟨_, _, _, _, 20, rfl, rfl, rfl, rfl⟩ | exact ⟨_, _, _, _, 21, rfl, rfl, rfl, rfl⟩ | exact ⟨_, _, _, _, 22, rfl, rfl, rfl, rfl⟩ | exact ⟨_, _, _, _, 23, rfl, rfl, rfl, rfl⟩), rfl, trivial⟩ (A := memA m g B) pk_ ⟨rfl, rfl⟩)
    · rw [if_neg h5, show (((x / 2 ^ 63 : Nat) : Int) == 0) = false by simp; omega]
      (refine G tt_ok pk75 ?_; repeat (refine G1 tt_ok pk75 ?_; intro _))
      rw [show IntKind.i64.wrap (IntKind.u64.wrap ((BitVec.ofInt IntKind.u64.bits (x : Int) &&& BitVec.ofInt IntKind.u64.bits 31).toNat : Int)) = ((x % 2 ^ 5 : Nat) : Int) by rw [show (31 : Int) = ((2 ^ 5 - 1 : Nat) : Int) from rfl, and_mod hx (by omega), wrap_id (by omega) (by omega)],
        fdivN x 8 (by omega), show IntKind.i64.wrap (IntKind.u64.wrap (IntKind.u64.wrap ((BitVec.ofInt IntKind.u64.bits ((x / 2 ^ 8 : Nat) : Int) &&& BitVec.ofInt IntKind.u64.bits 1099511627775).toNat : Int) * 2 ^ min 8 IntKind.u64.bits)) = ((x / 2 ^ 8 % 2 ^ 40 * 256 : Nat) : Int) by
          rw [show (1099511627775 : Int) = ((2 ^ 40 - 1 : Nat) : Int) from rfl, and_mod (by omega) (by omega), show (((x / 2 ^ 8 % 2 ^ 40 : Nat) : Int) * 2 ^ min 8 IntKind.u64.bits) = ((x / 2 ^ 8 % 2 ^ 40 * 256 : Nat) : Int) by rw [show min 8 IntKind.u64.bits = 8 from rfl]; simp, wN (by omega), wrap_id (by omega) (by omega)]]
      exact CW.ret (fin_cells [_, _] ⟨(by first | exact ⟨_, _, _, _, 0, rfl, rfl, rfl, rfl⟩ | exact ⟨_, _, _, _, 1, rfl, rfl, rfl, rfl⟩ | exact ⟨_, _, _, _, 2, rfl, rfl, rfl, rfl⟩ | exact ⟨_, _, _, _, 3, rfl, rfl, rfl, rfl⟩ | exact ⟨_, _, _, _, 4, rfl, rfl, rfl, rfl⟩ | exact ⟨_, _, _, _, 5, rfl, rfl, rfl, rfl⟩ | exact ⟨_, _, _, _, 6, rfl, rfl, rfl, rfl⟩ | exact ⟨_, _, _, _, 7, rfl, rfl, rfl, rfl⟩ | exact ⟨_, _, _, _, 8, rfl, rfl, rfl, rfl⟩ | exact ⟨_, _, _, _, 9, rfl, rfl, rfl, rfl⟩ | exact ⟨_, _, _, _, 10, rfl, rfl, rfl, rfl⟩ | exact ⟨_, _, _, _, 11, rfl, rfl, rfl, rfl⟩ | exact ⟨_, _, _, _, 12, rfl, rfl, rfl, rfl⟩ | exact ⟨_, _, _, _, 13, rfl, rfl, rfl, rfl⟩ | exact ⟨_, _, _, _, 14, rfl, rfl, rfl, rfl⟩ | exact ⟨_, _, _, _, 15, rfl, rfl, rfl, rfl⟩ | exact ⟨_, _, _, _, 16, rfl, rfl, rfl, rfl⟩ | exact ⟨_, _, _, _, 17, rfl, rfl, rfl, rfl⟩ | exact ⟨_, _, _, _, 18, rfl, rfl, rfl, rfl⟩ | exact ⟨_, _, _, _, 19, rfl, rfl, rfl, rfl⟩ | exact ⟨_, _, _, _, 20, rfl, rfl, rfl, rfl⟩ | exact ⟨_, _, _, _, 21, rfl, rfl, rfl, rfl⟩ | exact ⟨_, _, _, _, 22, rfl, rfl, rfl, rfl⟩ | exact ⟨_, _, _, _, 23, rfl, rfl, rfl, rfl⟩), rfl, trivial⟩ (A := memA m g B) pk_ ⟨rfl, rfl⟩)
end Go.Proofs.YthhfoppaaehepaaGreatDoor.Sl
namespace Go.Proofs.YthhfoppaaehepaaGreatDoor.Sl
open Go Go.RowKit Go.Proofs
set_option linter.unusedVariables false
set_option linter.unusedSimpArgs false
attribute [local irreducible] CW Tri OW
set_option maxRecDepth 10000
@[reducible] def pk81 : List (Nat × Plan) := [(9, [(0, 0, []), (1, 0, []), (3, 0, []), (4, 0, []), (5, 0, []), (7, 0, []), (8, 0, []), (9, 0, []), (2, 1, [1, 4, 8]), (6, 0, []), (10, 0, []), (11, 1, [1, 4, 8])])]
def devN (b a : Nat) : Nat := 2 ^ 63 + b + a
theorem dev_or {b j : Nat} (hb : b ≤ 31) (hj : j < 2 ^ 40) : IntKind.u64.wrap ((BitVec.ofInt IntKind.u64.bits (IntKind.u64.wrap ((BitVec.ofInt IntKind.u64.bits ((2 ^ 63 : Nat) : Int) ||| BitVec.ofInt IntKind.u64.bits (b : Int)).toNat : Int)) ||| BitVec.ofInt IntKind.u64.bits ((256 * j : Nat) : Int)).toNat : Int) = ((devN b (256 * j) : Nat) : Int) := by
  have e2 := or_add (k := 63) (q := 1) (b := b) (by omega) (by omega)
  rw [Nat.mul_one] at e2
  rw [e2, or64 (by omega) (by omega)]
  congr 1
  have h1 : 2 ^ 63 + b = 2 ^ 63 ||| b := by have := Nat.two_pow_add_eq_or_of_lt (i := 63) (b := b) (by omega) 1; rwa [Nat.mul_one] at this
  have h2 : 256 * j + b = 256 * j ||| b := Nat.two_pow_add_eq_or_of_lt (i := 8) (by omega) j
  have h3 : 2 ^ 63 + (256 * j + b) = 2 ^ 63 ||| (256 * j + b) := by have := Nat.two_pow_add_eq_or_of_lt (i := 63) (b := 256 * j + b) (by omega) 1; rwa [Nat.mul_one] at this
  rw [h1, Nat.or_assoc, Nat.or_comm b, ← h2, ← h3]
  unfold devN; omega
theorem and255 {a : Nat} (ha : a < 2 ^ 63) : IntKind.i64.wrap ((BitVec.ofInt IntKind.i64.bits (a : Int) &&& BitVec.ofInt IntKind.i64.bits 255).toNat : Int) = ((a % 256 : Nat) : Int) := by
  show IntKind.i64.wrap ((BitVec.ofInt 64 (a : Int) &&& BitVec.ofInt 64 ((255 : Nat) : Int)).toNat : Int) = _
  rw [BitVec.toNat_and, oN (by omega), oN (by omega), show (255 : Nat) = 2 ^ 8 - 1 from rfl, Nat.and_two_pow_sub_one_eq_mod, wrap_id (by omega) (by omega)]
/-- A device that may be written. -/
def okPut (d : Dv) : Prop := d.1 = true → 0 ≤ d.2.1 ∧ d.2.1 ≤ 31 ∧ ∃ j : Nat, j < 2 ^ 40 ∧ d.2.2 = ((256 * j : Nat) : Int)
def tabPut (B : List Nat) (a s p id : Int) (d : Dv) : List Nat × Int := match slotA B a s p id with
  | some A => (wrN B A 8 (if d.1 then devN d.2.1.toNat d.2.2.toNat else 0), 0)
  | none => (B, 180)
set_option maxHeartbeats 4000000 in
theorem put81 (β : Base) (m g : Nat) (B : List Nat) (hn : B.length ≤ 1000000) (hb : byOk B) {a s p : Int} (hp : p = 0 ∨ p = 32) (hh : holdsV B.length a s = true) (id : Int) (d : Dv) (hd : okPut d) :
    Tri Tryz.prog β 81 [.agg #[.int .i64 a, .int .i64 s, .int .i64 p], .pointer (some ⟨m, 0, none⟩), .int .i64 id, .agg #[.bool d.1, .int .i64 d.2.1, .int .i64 d.2.2]] (memA m g B)
      (fun v L => v = .int .i64 (tabPut B a s p id d).2 ∧ L = memA m g (tabPut B a s p id d).1) := by
  refine Tri.intro tt_ok Tryz.func81 rfl rfl Tryz.ntmps81 rfl fun F => ?_
  unfold tabPut
  have hs := slot128 β m g B hn hb hp hh id
  obtain ⟨dv, b, t⟩ := d
  simp only
  (refine G tt_ok pk81 ?_; repeat (refine G1 tt_ok pk81 ?_; intro _))
  cases hA : slotA B a s p id with
  | none =>
    rw [hA] at hs
    refine ke rfl rfl (hs) ?_
    (refine G tt_ok pk81 ?_; repeat (refine G1 tt_ok pk81 ?_; intro _))
    exact CW.ret (fin_ret rfl (A := memA m g B) pk_ ⟨rfl, rfl⟩)
  | some A =>
    rw [hA] at hs
    have hA2 := slotA_in hA
    refine ke rfl rfl (hs) ?_
    (refine G tt_ok pk81 ?_; repeat (refine G1 tt_ok pk81 ?_; intro _))
    cases dv with
    | false =>
      (refine G tt_ok pk81 ?_; repeat (refine G1 tt_ok pk81 ?_; intro _))
      refine ke rfl rfl (wr_slot β m g B hn hA2 0 (by decide)) ?_
      (refine G tt_ok pk81 ?_; repeat (refine G1 tt_ok pk81 ?_; intro _))
      exact CW.ret (fin_ret rfl (A := memA m g (wrN B A 8 0)) pk_ ⟨rfl, rfl⟩)
    | true =>
      obtain ⟨h0, h1, j, hj, hjt⟩ := hd rfl
      simp only at h0 h1 hjt
      subst hjt
      obtain ⟨b, rfl⟩ : ∃ B : Nat, b = (B : Int) := ⟨b.toNat, by omega⟩
      (refine G tt_ok pk81 ?_; repeat (refine G1 tt_ok pk81 ?_; intro _))
      rw [decide_eq_false (show ¬ (b : Int) < 0 by omega)]
      (refine G tt_ok pk81 ?_; repeat (refine G1 tt_ok pk81 ?_; intro _))
      rw [decide_eq_false (show ¬ (b : Int) > 31 by omega)]
      (refine G tt_ok pk81 ?_; repeat (refine G1 tt_ok pk81 ?_; intro _))
      rw [decide_eq_false (show ¬ ((256 * j : Nat) : Int) < 0 by omega)]
      (refine G tt_ok pk81 ?_; repeat (refine G1 tt_ok pk81 ?_; intro _))
      rw [and255 (a := 256 * j) (by omega), show (((256 * j % 256 : Nat) : Int) != 0) = false by simp]
      (refine G tt_ok pk81 ?_; repeat (refine G1 tt_ok pk81 ?_; intro _))
      rw [decide_eq_false (show ¬ ((256 * j : Nat) : Int) ≥ 281474976710656 by omega)]
      (refine G tt_ok pk81 ?_; repeat (refine G1 tt_ok pk81 ?_; intro _))
      refine ke rfl rfl (flag98 β true) ?_
      (refine G tt_ok pk81 ?_; repeat (refine G1 tt_ok pk81 ?_; intro _))
      rw [show (((if true = true then 2 ^ 63 else 0 : Nat)) : Int) = ((2 ^ 63 : Nat) : Int) from rfl, wN (a := b) (by omega), wN (a := 256 * j) (by omega), dev_or (by omega) hj]
      rw [if_pos rfl, Int.toNat_natCast, Int.toNat_natCast]
      have hlt : devN b (256 * j) < 2 ^ 64 := by unfold devN; omega
      refine ke rfl rfl (wr_slot β m g B hn hA2 (devN b (256 * j)) hlt) ?_
      (refine G tt_ok pk81 ?_; repeat (refine G1 tt_ok pk81 ?_; intro _))
      exact CW.ret (fin_ret rfl (A := memA m g (wrN B A 8 (devN b (256 * j)))) pk_ ⟨rfl, rfl⟩)
def targetV (B : List Nat) (a s coll : Int) : Int × Bool × Int := if coll < 0 ∨ 131072 ≤ coll then (0, false, 183) else if (memRd B a s (coll * 8) 8).2 ≠ 0 then (0, false, 183) else
  if (memRd B a s (coll * 8) 8).1 < 2 ^ 63 then (0, false, 0) else ((((memRd B a s (coll * 8) 8).1 % 2 ^ 16 : Nat) : Int), true, 0)
set_option maxHeartbeats 4000000 in
theorem target85 (β : Base) (m g : Nat) (B : List Nat) (hn : B.length ≤ 1000000) (hb : byOk B) (a s coll : Int) :
    Tri Tryz.prog β 85 [.pointer (some ⟨m, 0, none⟩), .agg #[.int .i64 a, .int .i64 s], .int .i64 coll] (memA m g B)
      (fun v L => v = .tuple #[.int .i64 (targetV B a s coll).1, .bool (targetV B a s coll).2.1, .int .i64 (targetV B a s coll).2.2] ∧ L = memA m g B) := by
  refine Tri.intro tt_ok Tryz.func85 rfl rfl Tryz.ntmps85 rfl fun F => ?_
  unfold targetV
  (refine G tt_ok [] ?_; repeat (refine G1 tt_ok [] ?_; intro _))
  by_cases h1 : coll < 0
  · rw [decide_eq_true h1, if_pos (Or.inl h1)]
    (refine G tt_ok [] ?_; repeat (refine G1 tt_ok [] ?_; intro _))
    exact CW.ret (fin_ret rfl (A := memA m g B) pk_ ⟨rfl, rfl⟩)
  rw [decide_eq_false h1]
  (refine G tt_ok [] ?_; repeat (refine G1 tt_ok [] ?_; intro _))
  by_cases h2 : coll ≥ 131072
  · rw [decide_eq_true h2, if_pos (Or.inr h2)]
    (refine G tt_ok [] ?_; repeat (refine G1 tt_ok [] ?_; intro _))
    exact CW.ret (fin_ret rfl (A := memA m g B) pk_ ⟨rfl, rfl⟩)
  rw [decide_eq_false h2, if_neg (by omega)]
  (refine G tt_ok [] ?_; repeat (refine G1 tt_ok [] ?_; intro _))
  rw [wrap_id (show -9223372036854775808 ≤ coll * 8 by omega) (by omega)]
  refine ke rfl rfl (read91 β m g B hn hb a s (coll * 8) 8) ?_
  have hx := memRd_lt hb a s (coll * 8)
  generalize memRd B a s (coll * 8) 8 = z at hx ⊢
  obtain ⟨x, e⟩ := z
  simp only at hx ⊢
  (refine G tt_ok [] ?_; repeat (refine G1 tt_ok [] ?_; intro _))
  by_cases h3 : e = 0
  · subst h3
    (refine G tt_ok [] ?_; repeat (refine G1 tt_ok [] ?_; intro _))
    rw [if_neg (by simp), fdivN x 63 (by omega)]
    by_cases h5 : x < 2 ^ 63
    · rw [if_pos h5, show (((x / 2 ^ 63 : Nat) : Int) == 0) = true by simp; omega]
      (refine G tt_ok [] ?_; repeat (refine G1 tt_ok [] ?_; intro _))
      exact CW.ret (fin_ret rfl (A := memA m g B) pk_ ⟨rfl, rfl⟩)
    · rw [if_neg h5, show (((x / 2 ^ 63 : Nat) : Int) == 0) = false by simp; omega]
      (refine G tt_ok [] ?_; repeat (refine G1 tt_ok [] ?_; intro _))
      rw [show IntKind.i64.wrap (IntKind.u64.wrap ((BitVec.ofInt IntKind.u64.bits (x : Int) &&& BitVec.ofInt IntKind.u64.bits 65535).toNat : Int)) = ((x % 2 ^ 16 : Nat) : Int) by rw [show (65535 : Int) = ((2 ^ 16 - 1 : Nat) : Int) from rfl, and_mod hx (by omega), wrap_id (by omega) (by omega)]]
      exact CW.ret (fin_ret rfl (A := memA m g B) pk_ ⟨rfl, rfl⟩)
  · rw [if_pos h3, show (e != 0) = true by simp [h3]]
    (refine G tt_ok [] ?_; repeat (refine G1 tt_ok [] ?_; intro _))
    exact CW.ret (fin_ret rfl (A := memA m g B) pk_ ⟨rfl, rfl⟩)
def setTg (B : List Nat) (a s coll t : Int) (is : Bool) : List Nat × Int := if coll < 0 ∨ 131072 ≤ coll then (B, 183) else if t < 0 ∨ 65536 ≤ t then (B, 1) else
  if (memWr B a s (coll * 8) 8 (if is then 2 ^ 63 + t.toNat else 0)).2 ≠ 0 then (B, 183) else ((memWr B a s (coll * 8) 8 (if is then 2 ^ 63 + t.toNat else 0)).1, 0)
set_option maxHeartbeats 4000000 in
theorem setTarget82 (β : Base) (m g : Nat) (B : List Nat) (hn : B.length ≤ 1000000) (a s coll t : Int) (is : Bool) :
    Tri Tryz.prog β 82 [.pointer (some ⟨m, 0, none⟩), .agg #[.int .i64 a, .int .i64 s], .int .i64 coll, .int .i64 t, .bool is] (memA m g B)
      (fun v L => v = .int .i64 (setTg B a s coll t is).2 ∧ L = memA m g (setTg B a s coll t is).1) := by
  refine Tri.intro tt_ok Tryz.func82 rfl rfl Tryz.ntmps82 rfl fun F => ?_
  unfold setTg
  (refine G tt_ok [] ?_; repeat (refine G1 tt_ok [] ?_; intro _))
  by_cases h1 : coll < 0
  · rw [decide_eq_true h1, if_pos (Or.inl h1)]
    (refine G tt_ok [] ?_; repeat (refine G1 tt_ok [] ?_; intro _))
    exact CW.ret (fin_ret rfl (A := memA m g B) pk_ ⟨rfl, rfl⟩)
  rw [decide_eq_false h1]
  (refine G tt_ok [] ?_; repeat (refine G1 tt_ok [] ?_; intro _))
  by_cases h2 : coll ≥ 131072
  · rw [decide_eq_true h2, if_pos (Or.inr h2)]
    (refine G tt_ok [] ?_; repeat (refine G1 tt_ok [] ?_; intro _))
    exact CW.ret (fin_ret rfl (A := memA m g B) pk_ ⟨rfl, rfl⟩)
  rw [decide_eq_false h2, if_neg (by omega)]
  (refine G tt_ok [] ?_; repeat (refine G1 tt_ok [] ?_; intro _))
  by_cases h3 : t < 0
  · rw [decide_eq_true h3, if_pos (Or.inl h3)]
    (refine G tt_ok [] ?_; repeat (refine G1 tt_ok [] ?_; intro _))
    exact CW.ret (fin_ret rfl (A := memA m g B) pk_ ⟨rfl, rfl⟩)
  rw [decide_eq_false h3]
  (refine G tt_ok [] ?_; repeat (refine G1 tt_ok [] ?_; intro _))
  by_cases h4 : t ≥ 65536
  · rw [decide_eq_true h4, if_pos (Or.inr h4)]
    (refine G tt_ok [] ?_; repeat (refine G1 tt_ok [] ?_; intro _))
    exact CW.ret (fin_ret rfl (A := memA m g B) pk_ ⟨rfl, rfl⟩)
  rw [decide_eq_false h4, if_neg (by omega)]
  obtain ⟨t, rfl⟩ : ∃ B : Nat, t = (B : Int) := ⟨t.toNat, by omega⟩
  have key : ∀ x : Nat, x < 2 ^ 64 → Tri Tryz.prog β 68 [.pointer (some ⟨m, 0, none⟩), .agg #[.int .i64 a, .int .i64 s], .int .i64 (coll * 8), .int .i64 8, .int .u64 (x : Int)] (memA m g B) (fun u L => u = .int .i64 (memWr B a s (coll * 8) 8 x).2 ∧ L = memA m g (memWr B a s (coll * 8) 8 x).1) := fun x hx => write68 β m g B hn a s (coll * 8) 8 x hx
  have hw := wrap_id (show -9223372036854775808 ≤ coll * 8 by omega) (by omega)
  have hbad : ∀ x : Nat, (memWr B a s (coll * 8) 8 x).2 ≠ 0 → (memWr B a s (coll * 8) 8 x).1 = B := fun x h => by
    unfold memWr at h ⊢
    split
    · rename_i h5; rw [if_pos h5] at h; exact absurd rfl h
    · rfl
  cases is with
  | true =>
    (refine G tt_ok [] ?_; repeat (refine G1 tt_ok [] ?_; intro _))
    refine ke rfl rfl (flag98 β true) ?_
    (refine G tt_ok [] ?_; repeat (refine G1 tt_ok [] ?_; intro _))
    have e2 := or_add (k := 63) (q := 1) (b := t) (by omega) (by omega)
    rw [Nat.mul_one] at e2
    rw [show (((if true = true then 2 ^ 63 else 0 : Nat)) : Int) = ((2 ^ 63 : Nat) : Int) from rfl, wN (a := t) (by omega), e2, hw]
    refine ke rfl rfl (key (2 ^ 63 + t) (by omega)) ?_
    have hb2 := hbad (2 ^ 63 + t)
    rw [if_pos rfl, Int.toNat_natCast]
    generalize memWr B a s (coll * 8) 8 (2 ^ 63 + t) = z at hb2 ⊢
    obtain ⟨B2, e⟩ := z
    simp only at hb2 ⊢
    (refine G tt_ok [] ?_; repeat (refine G1 tt_ok [] ?_; intro _))
    by_cases h6 : e = 0
    · subst h6
      rw [if_neg (by simp)]
      (refine G tt_ok [] ?_; repeat (refine G1 tt_ok [] ?_; intro _))
      exact CW.ret (fin_ret rfl (A := memA m g B2) pk_ ⟨rfl, rfl⟩)
    · rw [if_pos h6, show (e != 0) = true by simp [h6], hb2 h6]
      (refine G tt_ok [] ?_; repeat (refine G1 tt_ok [] ?_; intro _))
      exact CW.ret (fin_ret rfl (A := memA m g B) pk_ ⟨rfl, rfl⟩)
  | false =>
    (refine G tt_ok [] ?_; repeat (refine G1 tt_ok [] ?_; intro _))
    rw [hw]
    refine ke rfl rfl (key 0 (by decide)) ?_
    have hb2 := hbad 0
    simp only [Bool.false_eq_true, if_false]
    generalize memWr B a s (coll * 8) 8 0 = z at hb2 ⊢
    obtain ⟨B2, e⟩ := z
    simp only at hb2 ⊢
    (refine G tt_ok [] ?_; repeat (refine G1 tt_ok [] ?_; intro _))
    by_cases h6 : e = 0
    · subst h6
      rw [if_neg (by simp)]
      (refine G tt_ok [] ?_; repeat (refine G1 tt_ok [] ?_; intro _))
      exact CW.ret (fin_ret rfl (A := memA m g B2) pk_ ⟨rfl, rfl⟩)
    · rw [if_pos h6, show (e != 0) = true by simp [h6], hb2 h6]
      (refine G tt_ok [] ?_; repeat (refine G1 tt_ok [] ?_; intro _))
      exact CW.ret (fin_ret rfl (A := memA m g B) pk_ ⟨rfl, rfl⟩)
end Go.Proofs.YthhfoppaaehepaaGreatDoor.Sl
namespace Go.Proofs.YthhfoppaaehepaaGreatDoor.Sl
open Go Go.RowKit Go.Proofs
set_option linter.unusedVariables false
set_option linter.unusedSimpArgs false
attribute [local irreducible] CW Tri OW
set_option maxRecDepth 10000
@[reducible] def pk49 : List (Nat × Plan) := [(3, [(0, 0, []), (1, 0, []), (2, 0, []), (3, 0, []), (4, 0, []), (5, 0, []), (6, 0, []), (7, 0, []), (8, 0, []), (9, 0, []), (10, 0, []), (11, 0, []), (12, 0, []), (13, 0, [])])]
@[reducible] def pk18 : List (Nat × Plan) := [(1, [(0, 0, []), (2, 0, []), (3, 0, []), (4, 0, []), (5, 0, []), (1, 1, [0, 3, 5]), (6, 1, [0, 3, 5]), (7, 0, []), (8, 0, []), (9, 0, []), (10, 0, []), (11, 0, [])])]
@[reducible] def pk93 : List (Nat × Plan) := [(1, [(0, 0, []), (2, 0, []), (3, 0, []), (4, 0, []), (5, 0, []), (1, 1, [0, 3, 5]), (6, 1, [0, 3, 5]), (7, 0, []), (8, 0, []), (9, 0, []), (10, 0, []), (11, 0, [])])]
@[reducible] def pk19 : List (Nat × Plan) := [(3, [(0, 0, []), (1, 0, []), (2, 0, []), (3, 0, []), (5, 0, []), (6, 0, []), (7, 0, []), (8, 0, []), (4, 1, [3, 8]), (9, 1, [3, 8]), (10, 0, []), (11, 0, []), (12, 0, []), (13, 0, []), (14, 0, []), (15, 1, [])])]
theorem right103 (β : Base) : Tri Tryz.prog β 103 [.agg #[.int .i64 320, .int .i64 32]] [] (fun v L => v = .int .i64 0 ∧ L = []) := by
  refine Tri.intro tt_ok Tryz.func103 rfl rfl Tryz.ntmps103 rfl fun F => ?_
  (refine G tt_ok [] ?_; repeat (refine G1 tt_ok [] ?_; intro _))
  exact CW.ret (fin_ret rfl (Ent.dropAll _) ⟨rfl, rfl⟩)
theorem may92 (β : Base) {i : Nat} (hi : i < 10) : Tri Tryz.prog β 92 [.agg #[.int .i64 320, .int .i64 32], .int .i64 ((32 * i : Nat) : Int)] [] (fun v L => v = .bool true ∧ L = []) := by
  refine Tri.intro tt_ok Tryz.func92 rfl rfl Tryz.ntmps92 rfl fun F => ?_
  (refine G tt_ok [] ?_; repeat (refine G1 tt_ok [] ?_; intro _))
  refine ke rfl rfl (right103 β) ?_
  (refine G tt_ok [] ?_; repeat (refine G1 tt_ok [] ?_; intro _))
  rw [decide_eq_true (show ((32 * i : Nat) : Int) ≥ 0 by omega)]
  (refine G tt_ok [] ?_; repeat (refine G1 tt_ok [] ?_; intro _))
  rw [decide_eq_true (show ((32 * i : Nat) : Int) < 320 by omega)]
  (refine G tt_ok [] ?_; repeat (refine G1 tt_ok [] ?_; intro _))
  rw [show (((32 * i : Nat) : Int).tmod 32 == 0) = true by rw [Int.tmod_eq_emod_of_nonneg (by omega)]; simp]
  exact CW.ret (fin_ret rfl (Ent.dropAll _) ⟨rfl, rfl⟩)
theorem next50 (β : Base) {i : Nat} (hi : i < 10) : Tri Tryz.prog β 50 [.agg #[.int .i64 320, .int .i64 32], .int .i64 ((32 * i : Nat) : Int)] [] (fun v L => v = .tuple #[.int .i64 ((32 * ((i + 1) % 10) : Nat) : Int), .int .i64 0] ∧ L = []) := by
  refine Tri.intro tt_ok Tryz.func50 rfl rfl Tryz.ntmps50 rfl fun F => ?_
  (refine G tt_ok [] ?_; repeat (refine G1 tt_ok [] ?_; intro _))
  refine ke rfl rfl (may92 β hi) ?_
  (refine G tt_ok [] ?_; repeat (refine G1 tt_ok [] ?_; intro _))
  rw [wrap_id (show -9223372036854775808 ≤ ((32 * i : Nat) : Int) + 32 by omega) (by omega), show (((32 * i : Nat) : Int) + 32).tmod 320 = ((32 * ((i + 1) % 10) : Nat) : Int) by rw [Int.tmod_eq_emod_of_nonneg (by omega)]; omega]
  exact CW.ret (fin_ret rfl (Ent.dropAll _) ⟨rfl, rfl⟩)
/-- How many entries wait. -/
def lefN (i j : Nat) : Nat := (j + 10 - i) % 10
theorem left49 (β : Base) {i j : Nat} (hi : i < 10) (hj : j < 10) : Tri Tryz.prog β 49 [.agg #[.int .i64 320, .int .i64 32], .int .i64 ((32 * i : Nat) : Int), .int .i64 ((32 * j : Nat) : Int)] [] (fun v L => v = .tuple #[.int .i64 (lefN i j), .int .i64 0] ∧ L = []) := by
  refine Tri.intro tt_ok Tryz.func49 rfl rfl Tryz.ntmps49 rfl fun F => ?_
  (refine G tt_ok pk49 ?_; repeat (refine G1 tt_ok pk49 ?_; intro _))
  refine ke rfl rfl (may92 β hi) ?_
  (refine G tt_ok pk49 ?_; repeat (refine G1 tt_ok pk49 ?_; intro _))
  refine ke rfl rfl (may92 β hj) ?_
  (refine G tt_ok pk49 ?_; repeat (refine G1 tt_ok pk49 ?_; intro _))
  rw [wrap_id (show -9223372036854775808 ≤ ((32 * j : Nat) : Int) - ((32 * i : Nat) : Int) by omega) (by omega), wrap_id (show -9223372036854775808 ≤ ((32 * j : Nat) : Int) - ((32 * i : Nat) : Int) + 320 by omega) (by omega),
    show IntKind.i64.wrap (((((32 * j : Nat) : Int) - ((32 * i : Nat) : Int) + 320).tmod 320).tdiv 32) = (lefN i j : Int) by
      rw [Int.tmod_eq_emod_of_nonneg (by omega), Int.tdiv_eq_ediv_of_nonneg (by omega), wrap_id (by omega) (by omega)]; unfold lefN; omega]
  exact CW.ret (fin_ret rfl (Ent.dropAll _) ⟨rfl, rfl⟩)
theorem lefN_lt (i j : Nat) : lefN i j < 10 := by unfold lefN; omega
theorem room132 (β : Base) {i j : Nat} (hi : i < 10) (hj : j < 10) : Tri Tryz.prog β 132 [.agg #[.int .i64 320, .int .i64 32], .int .i64 ((32 * i : Nat) : Int), .int .i64 ((32 * j : Nat) : Int)] [] (fun v L => v = .tuple #[.int .i64 ((9 - lefN i j : Nat) : Int), .int .i64 0] ∧ L = []) := by
  have := lefN_lt i j
  refine Tri.intro tt_ok Tryz.func132 rfl rfl Tryz.ntmps132 rfl fun F => ?_
  (refine G tt_ok [] ?_; repeat (refine G1 tt_ok [] ?_; intro _))
  refine ke rfl rfl (left49 β hi hj) ?_
  (refine G tt_ok [] ?_; repeat (refine G1 tt_ok [] ?_; intro _))
  rw [show IntKind.i64.wrap (IntKind.i64.wrap (IntKind.i64.wrap (Int.tdiv 320 32) - 1) - (lefN i j : Int)) = ((9 - lefN i j : Nat) : Int) by
    rw [show IntKind.i64.wrap (IntKind.i64.wrap (Int.tdiv 320 32) - 1) = 9 from rfl, wrap_id (by omega) (by omega)]; omega]
  exact CW.ret (fin_ret rfl (Ent.dropAll _) ⟨rfl, rfl⟩)
theorem ring48 (β : Base) (i j : Nat) : Tri Tryz.prog β 48 [.agg #[.int .i64 128, .int .i64 320, .int .i64 ((32 * i : Nat) : Int), .int .i64 ((32 * j : Nat) : Int)]] [] (fun v L => v = .agg #[.int .i64 320, .int .i64 32] ∧ L = []) := by
  refine Tri.intro tt_ok Tryz.func48 rfl rfl Tryz.ntmps48 rfl fun F => ?_
  (refine G tt_ok [] ?_; repeat (refine G1 tt_ok [] ?_; intro _))
  exact CW.ret (fin_cells [_] ⟨(by first | exact ⟨_, _, _, _, 0, rfl, rfl, rfl, rfl⟩ | exact ⟨_, _, _, _, 1, rfl, rfl, rfl, rfl⟩ | exact ⟨_, _, _, _, 2, rfl, rfl, rfl, rfl⟩ | exact ⟨_, _, _, _, 3, rfl, rfl, rfl, rfl⟩ | exact ⟨_, _, _, _, 4, rfl, rfl, rfl, rfl⟩ | exact ⟨_, _, _, _, 5, rfl, rfl, rfl, rfl⟩ | exact ⟨_, _, _, _, 6, rfl, rfl, rfl, rfl⟩ | exact ⟨_, _, _, _, 7, rfl, rfl, rfl, rfl⟩ | exact ⟨_, _, _, _, 8, rfl, rfl, rfl, rfl⟩ | exact ⟨_, _, _, _, 9, rfl, rfl, rfl, rfl⟩ | exact ⟨_, _, _, _, 10, rfl, rfl, rfl, rfl⟩ | exact ⟨_, _, _, _, 11, rfl, rfl, rfl, rfl⟩ | exact ⟨_, _, _, _, 12, rfl, rfl, rfl, rfl⟩ | exact ⟨_, _, _, _, 13, rfl, rfl, rfl, rfl⟩ | exact ⟨_, _, _, _, 14, rfl, rfl, rfl, rfl⟩ | exact ⟨_, _, _, _, 15, rfl, rfl, rfl, rfl⟩ | exact ⟨_, _, _, _, 16, rfl, rfl, rfl, rfl⟩ | exact ⟨_, _, _, _, 17, rfl, rfl, rfl, rfl⟩ | exact ⟨_, _, _, _, 18, rfl, rfl, rfl, rfl⟩ | exact ⟨_, _, _, _, 19, rfl, rfl, rfl, rfl⟩ | exact ⟨_, _, _, _, 20, rfl, rfl, rfl, rfl⟩ | exact ⟨_, _, _, _, 21, rfl, rfl, rfl, rfl⟩ | exact ⟨_, _, _, _, 22, rfl, rfl, rfl, rfl⟩ | exact ⟨_, _, _, _, 23, rfl, rfl, rfl, rfl⟩), trivial⟩ (Ent.dropAll _) ⟨rfl, rfl⟩)
theorem left18 (β : Base) {i j : Nat} (hi : i < 10) (hj : j < 10) : Tri Tryz.prog β 18 [.agg #[.int .i64 128, .int .i64 320, .int .i64 ((32 * i : Nat) : Int), .int .i64 ((32 * j : Nat) : Int)]] [] (fun v L => v = .int .i64 (lefN i j) ∧ L = []) := by
  refine Tri.intro tt_ok Tryz.func18 rfl rfl Tryz.ntmps18 rfl fun F => ?_
  (refine G tt_ok pk18 ?_; repeat (refine G1 tt_ok pk18 ?_; intro _))
  refine ke rfl rfl (ring48 β i j) ?_
  (refine G tt_ok pk18 ?_; repeat (refine G1 tt_ok pk18 ?_; intro _))
  refine ke rfl rfl (left49 β hi hj) ?_
  (refine G tt_ok pk18 ?_; repeat (refine G1 tt_ok pk18 ?_; intro _))
  exact CW.ret (fin_ret rfl (Ent.dropAll _) ⟨rfl, rfl⟩)
theorem room93 (β : Base) {i j : Nat} (hi : i < 10) (hj : j < 10) : Tri Tryz.prog β 93 [.agg #[.int .i64 128, .int .i64 320, .int .i64 ((32 * i : Nat) : Int), .int .i64 ((32 * j : Nat) : Int)]] [] (fun v L => v = .int .i64 ((9 - lefN i j : Nat) : Int) ∧ L = []) := by
  refine Tri.intro tt_ok Tryz.func93 rfl rfl Tryz.ntmps93 rfl fun F => ?_
  (refine G tt_ok pk93 ?_; repeat (refine G1 tt_ok pk93 ?_; intro _))
  refine ke rfl rfl (ring48 β i j) ?_
  (refine G tt_ok pk93 ?_; repeat (refine G1 tt_ok pk93 ?_; intro _))
  refine ke rfl rfl (room132 β hi hj) ?_
  (refine G tt_ok pk93 ?_; repeat (refine G1 tt_ok pk93 ?_; intro _))
  exact CW.ret (fin_ret rfl (Ent.dropAll _) ⟨rfl, rfl⟩)
/-- A service's cells: its queue at 128 of ten places, devices at 0, collections at 64. -/
@[reducible] def itC (on st : Bool) (i j : Nat) (p : Int) : List Value := [.bool on, .bool st, .int .i64 128, .int .i64 320, .int .i64 ((32 * i : Nat) : Int), .int .i64 ((32 * j : Nat) : Int), .int .i64 0, .int .i64 64, .int .i64 p, .int .i64 64, .int .i64 64]
theorem pass19 (β : Base) (s : Nat) (on st : Bool) {i j : Nat} (p : Int) (hi : i < 10) (hj : j < 10) : Tri Tryz.prog β 19 [.pointer (some ⟨s, 2, none⟩)] [pt s (itC on st i j p)]
    (fun v L => v = .int .i64 (if lefN i j = 0 then 170 else 0) ∧ L = [pt s (itC on st (if lefN i j = 0 then i else (i + 1) % 10) j p)]) := by
  refine Tri.intro tt_ok Tryz.func19 rfl rfl Tryz.ntmps19 rfl fun F => ?_
  (refine G tt_ok pk19 ?_; repeat (refine G1 tt_ok pk19 ?_; intro _))
  refine ke rfl rfl (left18 β hi hj) ?_
  by_cases h : lefN i j = 0
  · rw [if_pos h, if_pos h, h]
    (refine G tt_ok pk19 ?_; repeat (refine G1 tt_ok pk19 ?_; intro _))
    exact CW.ret (fin_ret rfl pk_ ⟨rfl, rfl⟩)
  · rw [if_neg h, if_neg h]
    (refine G tt_ok pk19 ?_; repeat (refine G1 tt_ok pk19 ?_; intro _))
    rw [decide_eq_false (show ¬ (lefN i j : Int) < 1 by omega)]
    (refine G tt_ok pk19 ?_; repeat (refine G1 tt_ok pk19 ?_; intro _))
    refine ke rfl rfl (ring48 β i j) ?_
    (refine G tt_ok pk19 ?_; repeat (refine G1 tt_ok pk19 ?_; intro _))
    refine ke rfl rfl (next50 β hi) ?_
    (refine G tt_ok pk19 ?_; repeat (refine G1 tt_ok pk19 ?_; intro _))
    exact CW.ret (fin_ret rfl pk_ ⟨rfl, rfl⟩)
end Go.Proofs.YthhfoppaaehepaaGreatDoor.Sl
namespace Go.Proofs.YthhfoppaaehepaaGreatDoor.Sl
open Go Go.RowKit Go.Proofs
set_option linter.unusedVariables false
set_option linter.unusedSimpArgs false
attribute [local irreducible] CW Tri OW
set_option maxRecDepth 10000
/-- A command: what, device, event, number, collection, target, bits, address, valid. -/
abbrev Cm := Int × Int × Int × Int × Int × Int × Int × Int × Bool
@[reducible] def cmC (c : Cm) : List Value := [.int .i64 c.1, .int .i64 c.2.1, .int .i64 c.2.2.1, .int .i64 c.2.2.2.1, .int .i64 c.2.2.2.2.1, .int .i64 c.2.2.2.2.2.1, .int .i64 c.2.2.2.2.2.2.1, .int .i64 c.2.2.2.2.2.2.2.1, .bool c.2.2.2.2.2.2.2.2]
def knownV (o : Int) : Bool := o == 1 || o == 3 || o == 4 || o == 5 || o == 8 || o == 9 || o == 10 || o == 11 || o == 12 || o == 13 || o == 14 || o == 15
theorem known_cases {o : Int} (h : knownV o = true) : o = 1 ∨ o = 3 ∨ o = 4 ∨ o = 5 ∨ o = 8 ∨ o = 9 ∨ o = 10 ∨ o = 11 ∨ o = 12 ∨ o = 13 ∨ o = 14 ∨ o = 15 := by
  unfold knownV at h
  simp only [Bool.or_eq_true, beq_iff_eq] at h
  omega
theorem known72 (β : Base) (o : Int) : Tri Tryz.prog β 72 [.int .i64 o] [] (fun v L => v = .bool (knownV o) ∧ L = []) := by
  refine Tri.intro tt_ok Tryz.func72 rfl rfl Tryz.ntmps72 rfl fun F => ?_
  (repeat' (first | refine CW.seq ?_ | refine CW.region tt_ok rfl ?_ | refine CW.block ?_ | refine CW.skip ?_ | refine SQ.nil ?_ | refine SQ.pures1 tt_ok rfl ?_ | refine SQ.pure1 tt_ok rfl ?_ | refine SQ.new _ _ rfl rfl (fun _ => ?_) | refine SQ.ldA tt_ok rfl rfl (by repeat (first | exact .h | exact .q | apply At.t)) (by rfl) ?_ | refine SQ.stA tt_ok rfl rfl (by repeat (first | apply Up.h | apply Up.t)) (by rfl) (by rfl) (by exact trivial) ?_ | refine CW.cond_tt rfl ?_ | refine CW.cond_ff rfl ?_ | ((first | refine CW.cond rfl (fun hc => ?_) (fun hc => ?_) | refine SQ.gsplit rfl (fun hc => ?_) (fun hc => ?_)) <;> try (exfalso; simp_all; done))))
  all_goals
    refine CW.ret (fin_ret rfl (Ent.dropAll _) ⟨?_, rfl⟩)
    simp_all [packV]
    rw [Bool.eq_iff_iff]
    simp [knownV]
    try omega
/-- Where a field of a command stands: word, from, size; whether there is one. -/
def partV' (o : Int) : Nat → (Nat × Nat × Nat) × Bool
  | 0 => ((0, 32, 32), o != 9 && o != 13 && o != 14 && o != 5)
  | 1 => ((1, 0, 32), o == 10 || o == 11 || o == 1 || o == 3 || o == 4 || o == 12 || o == 15)
  | 2 => if o = 14 then ((3, 16, 16), true) else ((1, 32, 32), o == 10)
  | 3 => ((2, 0, 16), o == 9 || o == 10 || o == 11 || o == 1 || o == 13)
  | 4 => ((2, 16, 16), o == 9 || o == 14 || o == 5)
  | 5 => ((1, 0, 5), o == 8)
  | 6 => ((2, 8, 40), o == 8)
  | _ => ((2, 63, 1), o == 8 || o == 9)
def getF (c : Cm) : Nat → Int
  | 0 => c.2.1
  | 1 => c.2.2.1
  | 2 => c.2.2.2.1
  | 3 => c.2.2.2.2.1
  | 4 => c.2.2.2.2.2.1
  | 5 => c.2.2.2.2.2.2.1
  | 6 => c.2.2.2.2.2.2.2.1 / 256
  | _ => if c.2.2.2.2.2.2.2.2 then 1 else 0
set_option maxHeartbeats 8000000 in
theorem parted73 (β : Base) {o : Int} (ho : knownV o = true) {f : Nat} (hf : f < 8) : Tri Tryz.prog β 73 [.int .i64 o, .int .i64 f] [] (fun v L => v = .tuple #[.agg #[.int .i64 (partV' o f).1.1, .int .i64 (partV' o f).1.2.1, .int .i64 (partV' o f).1.2.2], .bool (partV' o f).2] ∧ L = []) := by
  refine Tri.intro tt_ok Tryz.func73 rfl rfl Tryz.ntmps73 rfl fun F => ?_
  match f, hf with
  | 0, _ | 1, _ | 2, _ | 3, _ | 4, _ | 5, _ | 6, _ | 7, _ =>
    rcases known_cases ho with rfl | rfl | rfl | rfl | rfl | rfl | rfl | rfl | rfl | rfl | rfl | rfl
    all_goals
      (refine G tt_ok [] ?_; repeat (refine G1 tt_ok [] ?_; intro _))
      exact CW.ret (fin_cells [_, _] ⟨(by first | exact ⟨_, _, _, _, 0, rfl, rfl, rfl, rfl⟩ | exact ⟨_, _, _, _, 1, rfl, rfl, rfl, rfl⟩ | exact ⟨_, _, _, _, 2, rfl, rfl, rfl, rfl⟩ | exact ⟨_, _, _, _, 3, rfl, rfl, rfl, rfl⟩ | exact ⟨_, _, _, _, 4, rfl, rfl, rfl, rfl⟩ | exact ⟨_, _, _, _, 5, rfl, rfl, rfl, rfl⟩ | exact ⟨_, _, _, _, 6, rfl, rfl, rfl, rfl⟩ | exact ⟨_, _, _, _, 7, rfl, rfl, rfl, rfl⟩ | exact ⟨_, _, _, _, 8, rfl, rfl, rfl, rfl⟩ | exact ⟨_, _, _, _, 9, rfl, rfl, rfl, rfl⟩ | exact ⟨_, _, _, _, 10, rfl, rfl, rfl, rfl⟩ | exact ⟨_, _, _, _, 11, rfl, rfl, rfl, rfl⟩ | exact ⟨_, _, _, _, 12, rfl, rfl, rfl, rfl⟩ | exact ⟨_, _, _, _, 13, rfl, rfl, rfl, rfl⟩ | exact ⟨_, _, _, _, 14, rfl, rfl, rfl, rfl⟩ | exact ⟨_, _, _, _, 15, rfl, rfl, rfl, rfl⟩ | exact ⟨_, _, _, _, 16, rfl, rfl, rfl, rfl⟩ | exact ⟨_, _, _, _, 17, rfl, rfl, rfl, rfl⟩ | exact ⟨_, _, _, _, 18, rfl, rfl, rfl, rfl⟩ | exact ⟨_, _, _, _, 19, rfl, rfl, rfl, rfl⟩ | exact ⟨_, _, _, _, 20, rfl, rfl, rfl, rfl⟩ | exact ⟨_, _, _, _, 21, rfl, rfl, rfl, rfl⟩ | exact ⟨_, _, _, _, 22, rfl, rfl, rfl, rfl⟩ | exact ⟨_, _, _, _, 23, rfl, rfl, rfl, rfl⟩), rfl, trivial⟩ (Ent.dropAll _) ⟨rfl, rfl⟩)
theorem get74 (β : Base) (c : Cm) {f : Nat} (hf : f < 8) : Tri Tryz.prog β 74 [.agg #[.int .i64 c.1, .int .i64 c.2.1, .int .i64 c.2.2.1, .int .i64 c.2.2.2.1, .int .i64 c.2.2.2.2.1, .int .i64 c.2.2.2.2.2.1, .int .i64 c.2.2.2.2.2.2.1, .int .i64 c.2.2.2.2.2.2.2.1, .bool c.2.2.2.2.2.2.2.2], .int .i64 f] [] (fun v L => v = .int .i64 (getF c f) ∧ L = []) := by
  obtain ⟨c0, c1, c2, c3, c4, c5, c6, c7, c8⟩ := c
  refine Tri.intro tt_ok Tryz.func74 rfl rfl Tryz.ntmps74 rfl fun F => ?_
  match f, hf with
  | 0, _ | 1, _ | 2, _ | 3, _ | 4, _ | 5, _ =>
    (refine G tt_ok [] ?_; repeat (refine G1 tt_ok [] ?_; intro _))
    exact CW.ret (fin_ret rfl (Ent.dropAll _) ⟨rfl, rfl⟩)
  | 6, _ =>
    (refine G tt_ok [] ?_; repeat (refine G1 tt_ok [] ?_; intro _))
    rw [show c7.fdiv (2 ^ min 8 IntKind.i64.bits) = c7 / 256 from Int.fdiv_eq_ediv_of_nonneg _ (by decide)]
    exact CW.ret (fin_ret rfl (Ent.dropAll _) ⟨rfl, rfl⟩)
  | 7, _ =>
    cases c8
    · (refine G tt_ok [] ?_; repeat (refine G1 tt_ok [] ?_; intro _))
      exact CW.ret (fin_ret rfl (Ent.dropAll _) ⟨rfl, rfl⟩)
    · (refine G tt_ok [] ?_; repeat (refine G1 tt_ok [] ?_; intro _))
      exact CW.ret (fin_ret rfl (Ent.dropAll _) ⟨rfl, rfl⟩)
end Go.Proofs.YthhfoppaaehepaaGreatDoor.Sl
namespace Go.Proofs.YthhfoppaaehepaaGreatDoor.Sl
open Go Go.RowKit Go.Proofs
set_option linter.unusedVariables false
set_option linter.unusedSimpArgs false
attribute [local irreducible] CW Tri OW
set_option maxRecDepth 10000
@[reducible] def pk32 : List (Nat × Plan) := [(12, [(0, 0, []), (1, 0, []), (2, 0, []), (3, 0, []), (4, 0, []), (5, 0, []), (6, 0, []), (7, 0, []), (8, 0, []), (9, 0, []), (10, 0, []), (11, 1, [])])]
@[reducible] def wC (x : Nat) : List Value := [.int .u64 (x : Int)]
theorem w_rd {W : List Nat} {k x : Nat} (h : W[k]? = some x) : rdv ti80 (W.flatMap wC) (0 + k * 1) = some (.int .u64 (x : Int)) :=
  rd_part (enc := wC) (sz := 1) (fun _ => rfl) h 0 (i := ti80) rfl (by decide) (by omega) (by decide)
theorem w_wr {W : List Nat} {k : Nat} (hk : k < W.length) (x : Nat) : wrv ti80 (W.flatMap wC) (0 + k * 1) (.int .u64 (x : Int)) = some ((W.set k x).flatMap wC) :=
  wr_enc (enc := wC) (sz := 1) (fun _ => rfl) (List.getElem?_eq_getElem hk) 0 (i := ti80) (by decide) rfl rfl (by omega)
theorem and_255 (a : Int) : IntKind.i64.wrap ((BitVec.ofInt IntKind.i64.bits a &&& BitVec.ofInt IntKind.i64.bits 255).toNat : Int) = a % 256 := by
  show IntKind.i64.wrap ((BitVec.ofInt 64 a &&& BitVec.ofInt 64 ((255 : Nat) : Int)).toNat : Int) = _
  rw [BitVec.toNat_and, oN (by omega), show (255 : Nat) = 2 ^ 8 - 1 from rfl, Nat.and_two_pow_sub_one_eq_mod, BitVec.toNat_ofInt, wrap_id (by omega) (by omega)]
  have : (2 : Nat) ^ 64 = 18446744073709551616 := rfl
  omega
def encS (c : Cm) (f : Nat) (W : List Nat) : Option (List Nat) := if ((partV' c.1 f).2 = false ∧ getF c f ≠ 0) ∨ getF c f < 0 ∨ getF c f ≥ ((2 ^ (partV' c.1 f).1.2.2 : Nat) : Int) then none else
  some (if (partV' c.1 f).2 then W.set (partV' c.1 f).1.1 (W.getD (partV' c.1 f).1.1 0 ||| (getF c f).toNat * 2 ^ (partV' c.1 f).1.2.1) else W)
def encL (c : Cm) : Nat → Option (List Nat)
  | 0 => some [c.1.toNat, 0, 0, 0]
  | f + 1 => match encL c f with
    | some W => encS c f W
    | none => none
def encV (c : Cm) : List Nat × Int := if knownV c.1 = true ∧ c.2.2.2.2.2.2.2.1 % 256 = 0 then (match encL c 8 with
  | some W => (W, 0)
  | none => ([0, 0, 0, 0], 160)) else ([0, 0, 0, 0], 160)
theorem part_ok' {o : Int} (ho : knownV o = true) {f : Nat} (hf : f < 8) : (partV' o f).1.1 < 4 ∧ (partV' o f).1.2.1 + (partV' o f).1.2.2 ≤ 64 ∧ (partV' o f).1.2.2 ≤ 40 := by
  match f, hf with
  | 0, _ | 1, _ | 2, _ | 3, _ | 4, _ | 5, _ | 6, _ | 7, _ => rcases known_cases ho with rfl | rfl | rfl | rfl | rfl | rfl | rfl | rfl | rfl | rfl | rfl | rfl <;> decide
theorem encL_none (c : Cm) {f : Nat} (h : encL c f = none) : ∀ k, encL c (f + k) = none
  | 0 => h
  | k + 1 => by rw [show f + (k + 1) = (f + k) + 1 from rfl]; unfold encL; rw [encL_none c h k]
set_option maxHeartbeats 8000000 in
theorem encode32 (β : Base) (c : Cm) : Tri Tryz.prog β 32 [.agg #[.int .i64 c.1, .int .i64 c.2.1, .int .i64 c.2.2.1, .int .i64 c.2.2.2.1, .int .i64 c.2.2.2.2.1, .int .i64 c.2.2.2.2.2.1, .int .i64 c.2.2.2.2.2.2.1, .int .i64 c.2.2.2.2.2.2.2.1, .bool c.2.2.2.2.2.2.2.2]] [] (fun v L => v = .tuple #[.agg #[.int .u64 ((encV c).1.getD 0 0 : Nat), .int .u64 ((encV c).1.getD 1 0 : Nat), .int .u64 ((encV c).1.getD 2 0 : Nat), .int .u64 ((encV c).1.getD 3 0 : Nat)], .int .i64 (encV c).2] ∧ L = []) := by
  refine Tri.intro tt_ok Tryz.func32 rfl rfl Tryz.ntmps32 rfl fun F => ?_
  unfold encV
  (refine G tt_ok pk32 ?_; repeat (refine G1 tt_ok pk32 ?_; intro _))
  refine SQ.bArr tt_ok rfl rfl ?_
  (refine G tt_ok pk32 ?_; repeat (refine G1 tt_ok pk32 ?_; intro _))
  refine ke rfl rfl (known72 β c.1) ?_
  cases hk : knownV c.1 with
  | false =>
    (refine G tt_ok pk32 ?_; repeat (refine G1 tt_ok pk32 ?_; intro _))
    refine SQ.bArr tt_ok rfl rfl ?_
    (refine G tt_ok pk32 ?_; repeat (refine G1 tt_ok pk32 ?_; intro _))
    exact CW.ret (fin_cells [_, _] ⟨(by first | exact ⟨_, _, _, _, 0, rfl, rfl, rfl, rfl⟩ | exact ⟨_, _, _, _, 1, rfl, rfl, rfl, rfl⟩ | exact ⟨_, _, _, _, 2, rfl, rfl, rfl, rfl⟩ | exact ⟨_, _, _, _, 3, rfl, rfl, rfl, rfl⟩ | exact ⟨_, _, _, _, 4, rfl, rfl, rfl, rfl⟩ | exact ⟨_, _, _, _, 5, rfl, rfl, rfl, rfl⟩ | exact ⟨_, _, _, _, 6, rfl, rfl, rfl, rfl⟩ | exact ⟨_, _, _, _, 7, rfl, rfl, rfl, rfl⟩ | exact ⟨_, _, _, _, 8, rfl, rfl, rfl, rfl⟩ | exact ⟨_, _, _, _, 9, rfl, rfl, rfl, rfl⟩ | exact ⟨_, _, _, _, 10, rfl, rfl, rfl, rfl⟩ | exact ⟨_, _, _, _, 11, rfl, rfl, rfl, rfl⟩ | exact ⟨_, _, _, _, 12, rfl, rfl, rfl, rfl⟩ | exact ⟨_, _, _, _, 13, rfl, rfl, rfl, rfl⟩ | exact ⟨_, _, _, _, 14, rfl, rfl, rfl, rfl⟩ | exact ⟨_, _, _, _, 15, rfl, rfl, rfl, rfl⟩ | exact ⟨_, _, _, _, 16, rfl, rfl, rfl, rfl⟩ | exact ⟨_, _, _, _, 17, rfl, rfl, rfl, rfl⟩ | exact ⟨_, _, _, _, 18, rfl, rfl, rfl, rfl⟩ | exact ⟨_, _, _, _, 19, rfl, rfl, rfl, rfl⟩ | exact ⟨_, _, _, _, 20, rfl, rfl, rfl, rfl⟩ | exact ⟨_, _, _, _, 21, rfl, rfl, rfl, rfl⟩ | exact ⟨_, _, _, _, 22, rfl, rfl, rfl, rfl⟩ | exact ⟨_, _, _, _, 23, rfl, rfl, rfl, rfl⟩), rfl, trivial⟩ (Ent.dropAll _) ⟨rfl, rfl⟩)
  | true =>
    (refine G tt_ok pk32 ?_; repeat (refine G1 tt_ok pk32 ?_; intro _))
    rw [and_255]
    by_cases ha : c.2.2.2.2.2.2.2.1 % 256 = 0
    · rw [if_pos ⟨rfl, ha⟩, show (c.2.2.2.2.2.2.2.1 % 256 != 0) = false by simp [ha]]
      (refine G tt_ok pk32 ?_; repeat (refine G1 tt_ok pk32 ?_; intro _))
      rename_i b1 b2 b4
      have hw0 : IntKind.u64.wrap c.1 = (c.1.toNat : Int) := by
        rcases known_cases hk with h | h | h | h | h | h | h | h | h | h | h | h <;> rw [h] <;> rfl
      rw [hw0]
      refine CW.loop (α := Nat × List Nat) (fun x => x.1 ≤ 8 ∧ encL c x.1 = some x.2 ∧ x.2.length = 4 ∧ ∀ y ∈ x.2, y < 2 ^ 64) (fun x => [(5, .int .i64 x.1), (4, .pointer (some ⟨b4, 0, none⟩)), (2, .pointer (some ⟨b2, 0, none⟩)), (1, .pointer (some ⟨b1, 0, none⟩))])
        (fun x => [pt b4 (x.2.flatMap wC), pt b2 [.int .u64 0, .int .u64 0, .int .u64 0, .int .u64 0], pt b1 (cmC c)]) (fun x => 8 - x.1) (0, [c.1.toNat, 0, 0, 0]) ⟨by simp, rfl, rfl, ?_⟩ ⟨rfl, rfl, rfl, rfl, trivial⟩ pk_ ?_
      · intro y hy
        have : c.1.toNat < 16 := by rcases known_cases hk with h | h | h | h | h | h | h | h | h | h | h | h <;> rw [h] <;> decide
        simp only [List.mem_cons, List.not_mem_nil, or_false] at hy
        omega
      rintro ⟨f, W⟩ ⟨hf, hE, hW, hlt64⟩
      simp only at hf hE hW hlt64 ⊢
      (refine G tt_ok pk32 ?_; repeat (refine G1 tt_ok pk32 ?_; intro _))
      by_cases hlt : f < 8
      · rw [decide_eq_true (show (f : Int) < 8 by omega)]
        have hwr : IntKind.i64.wrap ((f : Int) + 1) = ((f + 1 : Nat) : Int) := by rw [wrap_i64]; split <;> omega
        obtain ⟨g1, g2, g3⟩ := part_ok' hk hlt
        have hS : encL c (f + 1) = encS c f W := by show (match encL c f with | some W => encS c f W | none => none) = _; rw [hE]
        (refine G tt_ok pk32 ?_; repeat (refine G1 tt_ok pk32 ?_; intro _))
        refine ke rfl rfl (parted73 β hk hlt) ?_
        (refine G tt_ok pk32 ?_; repeat (refine G1 tt_ok pk32 ?_; intro _))
        refine ke rfl rfl (get74 β c hlt) ?_
        (refine G tt_ok pk32 ?_; repeat (refine G1 tt_ok pk32 ?_; intro _))
        unfold encS at hS
        generalize partV' c.1 f = pp at g1 g2 g3 hS ⊢
        obtain ⟨⟨wd, fr, sz⟩, has⟩ := pp
        generalize getF c f = n at hS ⊢
        simp only at g1 g2 g3 hS ⊢
        have h8 : encL c (f + 1) = none → encL c 8 = none := fun h => by have := encL_none c h (7 - f); rwa [show f + 1 + (7 - f) = 8 by omega] at this
        have hsh : IntKind.i64.wrap (1 * 2 ^ min sz IntKind.i64.bits) = ((2 ^ sz : Nat) : Int) := by
          rw [show min sz IntKind.i64.bits = sz from Nat.min_eq_left (by show sz ≤ 64; omega), Int.one_mul, show (2 : Int) ^ sz = ((2 ^ sz : Nat) : Int) by simp]
          have hK : 2 ^ sz ≤ 2 ^ 40 := Nat.pow_le_pow_right (by omega) g3
          have e40 : (2 : Nat) ^ 40 = 1099511627776 := rfl
          rw [e40] at hK
          generalize 2 ^ sz = K at hK ⊢
          exact wrap_id (by omega) (by omega)
        cases has with
        | false =>
          (refine G tt_ok pk32 ?_; repeat (refine G1 tt_ok pk32 ?_; intro _))
          by_cases hn0 : n = 0
          · subst hn0
            rw [if_neg (by have := Nat.two_pow_pos sz; rintro (h | h | h); exact h.2 rfl; omega; omega), if_neg (by simp)] at hS
            (refine G tt_ok pk32 ?_; repeat (refine G1 tt_ok pk32 ?_; intro _))
            rw [hsh, decide_eq_false (show ¬ (0 : Int) ≥ ((2 ^ sz : Nat) : Int) by have := Nat.two_pow_pos sz; omega)]
            (refine G tt_ok pk32 ?_; repeat (refine G1 tt_ok pk32 ?_; intro _))
            refine ⟨(f + 1, W), ⟨by simp; omega, hS, hW, hlt64⟩, by simp; omega, ⟨by rw [← hwr]; rfl, rfl, rfl, rfl, trivial⟩, pk_⟩
          · rw [if_pos (Or.inl ⟨rfl, hn0⟩)] at hS
            rw [show (n != 0) = true by simp [hn0], h8 hS]
            (refine G tt_ok pk32 ?_; repeat (refine G1 tt_ok pk32 ?_; intro _))
            refine SQ.bArr tt_ok rfl rfl ?_
            (refine G tt_ok pk32 ?_; repeat (refine G1 tt_ok pk32 ?_; intro _))
            exact CW.ret (fin_cells [_, _] ⟨(by first | exact ⟨_, _, _, _, 0, rfl, rfl, rfl, rfl⟩ | exact ⟨_, _, _, _, 1, rfl, rfl, rfl, rfl⟩ | exact ⟨_, _, _, _, 2, rfl, rfl, rfl, rfl⟩ | exact ⟨_, _, _, _, 3, rfl, rfl, rfl, rfl⟩ | exact ⟨_, _, _, _, 4, rfl, rfl, rfl, rfl⟩ | exact ⟨_, _, _, _, 5, rfl, rfl, rfl, rfl⟩ | exact ⟨_, _, _, _, 6, rfl, rfl, rfl, rfl⟩ | exact ⟨_, _, _, _, 7, rfl, rfl, rfl, rfl⟩ | exact ⟨_, _, _, _, 8, rfl, rfl, rfl, rfl⟩ | exact ⟨_, _, _, _, 9, rfl, rfl, rfl, rfl⟩ | exact ⟨_, _, _, _, 10, rfl, rfl, rfl, rfl⟩ | exact ⟨_, _, _, _, 11, rfl, rfl, rfl, rfl⟩ | exact ⟨_, _, _, _, 12, rfl, rfl, rfl, rfl⟩ | exact ⟨_, _, _, _, 13, rfl, rfl, rfl, rfl⟩ | exact ⟨_, _, _, _, 14, rfl, rfl, rfl, rfl⟩ | exact ⟨_, _, _, _, 15, rfl, rfl, rfl, rfl⟩ | exact ⟨_, _, _, _, 16, rfl, rfl, rfl, rfl⟩ | exact ⟨_, _, _, _, 17, rfl, rfl, rfl, rfl⟩ | exact ⟨_, _, _, _, 18, rfl, rfl, rfl, rfl⟩ | exact ⟨_, _, _, _, 19, rfl, rfl, rfl, rfl⟩ | exact ⟨_, _, _, _, 20, rfl, rfl, rfl, rfl⟩ | exact ⟨_, _, _, _, 21, rfl, rfl, rfl, rfl⟩ | exact ⟨_, _, _, _, 22, rfl, rfl, rfl, rfl⟩ | exact ⟨_, _, _, _, 23, rfl, rfl, rfl, rfl⟩), rfl, trivial⟩ (Ent.dropAll _) ⟨rfl, rfl⟩)
        | true =>
          (refine G tt_ok pk32 ?_; repeat (refine G1 tt_ok pk32 ?_; intro _))
          by_cases hn1 : n < 0
          · rw [if_pos (Or.inr (Or.inl hn1))] at hS
            rw [decide_eq_true hn1, h8 hS]
            (refine G tt_ok pk32 ?_; repeat (refine G1 tt_ok pk32 ?_; intro _))
            refine SQ.bArr tt_ok rfl rfl ?_
            (refine G tt_ok pk32 ?_; repeat (refine G1 tt_ok pk32 ?_; intro _))
            exact CW.ret (fin_cells [_, _] ⟨(by first | exact ⟨_, _, _, _, 0, rfl, rfl, rfl, rfl⟩ | exact ⟨_, _, _, _, 1, rfl, rfl, rfl, rfl⟩ | exact ⟨_, _, _, _, 2, rfl, rfl, rfl, rfl⟩ | exact ⟨_, _, _, _, 3, rfl, rfl, rfl, rfl⟩ | exact ⟨_, _, _, _, 4, rfl, rfl, rfl, rfl⟩ | exact ⟨_, _, _, _, 5, rfl, rfl, rfl, rfl⟩ | exact ⟨_, _, _, _, 6, rfl, rfl, rfl, rfl⟩ | exact ⟨_, _, _, _, 7, rfl, rfl, rfl, rfl⟩ | exact ⟨_, _, _, _, 8, rfl, rfl, rfl, rfl⟩ | exact ⟨_, _, _, _, 9, rfl, rfl, rfl, rfl⟩ | exact ⟨_, _, _, _, 10, rfl, rfl, rfl, rfl⟩ | exact ⟨_, _, _, _, 11, rfl, rfl, rfl, rfl⟩ | exact ⟨_, _, _, _, 12, rfl, rfl, rfl, rfl⟩ | exact ⟨_, _, _, _, 13, rfl, rfl, rfl, rfl⟩ | exact ⟨_, _, _, _, 14, rfl, rfl, rfl, rfl⟩ | exact ⟨_, _, _, _, 15, rfl, rfl, rfl, rfl⟩ | exact ⟨_, _, _, _, 16, rfl, rfl, rfl, rfl⟩ | exact ⟨_, _, _, _, 17, rfl, rfl, rfl, rfl⟩ | exact ⟨_, _, _, _, 18, rfl, rfl, rfl, rfl⟩ | exact ⟨_, _, _, _, 19, rfl, rfl, rfl, rfl⟩ | exact ⟨_, _, _, _, 20, rfl, rfl, rfl, rfl⟩ | exact ⟨_, _, _, _, 21, rfl, rfl, rfl, rfl⟩ | exact ⟨_, _, _, _, 22, rfl, rfl, rfl, rfl⟩ | exact ⟨_, _, _, _, 23, rfl, rfl, rfl, rfl⟩), rfl, trivial⟩ (Ent.dropAll _) ⟨rfl, rfl⟩)
          rw [decide_eq_false hn1]
          (refine G tt_ok pk32 ?_; repeat (refine G1 tt_ok pk32 ?_; intro _))
          rw [hsh]
          by_cases hn2 : n ≥ ((2 ^ sz : Nat) : Int)
          · rw [if_pos (Or.inr (Or.inr hn2))] at hS
            rw [decide_eq_true hn2, h8 hS]
            (refine G tt_ok pk32 ?_; repeat (refine G1 tt_ok pk32 ?_; intro _))
            refine SQ.bArr tt_ok rfl rfl ?_
            (refine G tt_ok pk32 ?_; repeat (refine G1 tt_ok pk32 ?_; intro _))
            exact CW.ret (fin_cells [_, _] ⟨(by first | exact ⟨_, _, _, _, 0, rfl, rfl, rfl, rfl⟩ | exact ⟨_, _, _, _, 1, rfl, rfl, rfl, rfl⟩ | exact ⟨_, _, _, _, 2, rfl, rfl, rfl, rfl⟩ | exact ⟨_, _, _, _, 3, rfl, rfl, rfl, rfl⟩ | exact ⟨_, _, _, _, 4, rfl, rfl, rfl, rfl⟩ | exact ⟨_, _, _, _, 5, rfl, rfl, rfl, rfl⟩ | exact ⟨_, _, _, _, 6, rfl, rfl, rfl, rfl⟩ | exact ⟨_, _, _, _, 7, rfl, rfl, rfl, rfl⟩ | exact ⟨_, _, _, _, 8, rfl, rfl, rfl, rfl⟩ | exact ⟨_, _, _, _, 9, rfl, rfl, rfl, rfl⟩ | exact ⟨_, _, _, _, 10, rfl, rfl, rfl, rfl⟩ | exact ⟨_, _, _, _, 11, rfl, rfl, rfl, rfl⟩ | exact ⟨_, _, _, _, 12, rfl, rfl, rfl, rfl⟩ | exact ⟨_, _, _, _, 13, rfl, rfl, rfl, rfl⟩ | exact ⟨_, _, _, _, 14, rfl, rfl, rfl, rfl⟩ | exact ⟨_, _, _, _, 15, rfl, rfl, rfl, rfl⟩ | exact ⟨_, _, _, _, 16, rfl, rfl, rfl, rfl⟩ | exact ⟨_, _, _, _, 17, rfl, rfl, rfl, rfl⟩ | exact ⟨_, _, _, _, 18, rfl, rfl, rfl, rfl⟩ | exact ⟨_, _, _, _, 19, rfl, rfl, rfl, rfl⟩ | exact ⟨_, _, _, _, 20, rfl, rfl, rfl, rfl⟩ | exact ⟨_, _, _, _, 21, rfl, rfl, rfl, rfl⟩ | exact ⟨_, _, _, _, 22, rfl, rfl, rfl, rfl⟩ | exact ⟨_, _, _, _, 23, rfl, rfl, rfl, rfl⟩), rfl, trivial⟩ (Ent.dropAll _) ⟨rfl, rfl⟩)
          rw [if_neg (by rintro (h | h | h); cases h.1; exact hn1 h; exact hn2 h), if_pos rfl] at hS
          rw [decide_eq_false hn2]
          obtain ⟨n, rfl⟩ : ∃ B : Nat, n = (B : Int) := ⟨n.toNat, by omega⟩
          have hnl : n < 2 ^ sz := by omega
          have hpl : n * 2 ^ fr < 2 ^ 64 := by
            have h1 : n * 2 ^ fr < 2 ^ sz * 2 ^ fr := Nat.mul_lt_mul_of_pos_right hnl (Nat.two_pow_pos fr)
            rw [← Nat.pow_add] at h1
            exact Nat.lt_of_lt_of_le h1 (Nat.pow_le_pow_right (by omega) (by omega))
          have hn64 : n < 2 ^ 64 := Nat.lt_of_lt_of_le hnl (Nat.pow_le_pow_right (by omega) (by omega))
          obtain ⟨x, hx⟩ : ∃ x, W[wd]? = some x := ⟨_, List.getElem?_eq_getElem (by omega)⟩
          have hx64 := hlt64 x (List.mem_of_getElem? hx)
          rw [show W.getD wd 0 = x by rw [List.getD_eq_getElem?_getD, hx]; rfl, Int.toNat_natCast] at hS
          (refine G tt_ok pk32 ?_; repeat (refine G1 tt_ok pk32 ?_; intro _))
          refine SQ.idx tt_ok rfl rfl wd rfl g1 (o' := 0 + wd * 1) rfl ?_
          (refine G tt_ok pk32 ?_; repeat (refine G1 tt_ok pk32 ?_; intro _))
          (refine SQ.ldA tt_ok rfl rfl (by repeat (first | exact .h | exact .q | apply At.t)) (w_rd hx) ?_)
          (refine G tt_ok pk32 ?_; repeat (refine G1 tt_ok pk32 ?_; intro _))
          rw [wN hn64, show IntKind.u64.wrap ((n : Int) * 2 ^ min fr IntKind.u64.bits) = ((n * 2 ^ fr : Nat) : Int) by
            rw [show min fr IntKind.u64.bits = fr from Nat.min_eq_left (by show fr ≤ 64; omega), show (n : Int) * 2 ^ fr = ((n * 2 ^ fr : Nat) : Int) by simp, wN hpl]]
          rw [or64 hx64 hpl]
          refine SQ.idx tt_ok rfl rfl wd rfl g1 (o' := 0 + wd * 1) rfl ?_
          (refine G tt_ok pk32 ?_; repeat (refine G1 tt_ok pk32 ?_; intro _))
          (refine SQ.stA tt_ok rfl rfl (by repeat (first | apply Up.h | apply Up.t)) (by rfl) (w_wr (show wd < W.length by omega) _) (by repeat (first | exact trivial | refine ⟨trivial, ?_⟩ | refine ⟨wk (by repeat (first | exact .h | exact .q | apply At.t)) (w_rd hx), ?_⟩ | refine ⟨wk (by repeat (first | exact .h | exact .q | apply At.t)) (by rfl), ?_⟩)) ?_)
          (refine G tt_ok pk32 ?_; repeat (refine G1 tt_ok pk32 ?_; intro _))
          refine ⟨(f + 1, W.set wd (x ||| n * 2 ^ fr)), ⟨by simp; omega, hS, by simp [hW], fun y hy => ?_⟩, by simp; omega, ⟨by rw [← hwr]; rfl, rfl, rfl, rfl, trivial⟩, pk_⟩
          rcases List.mem_or_eq_of_mem_set hy with h | rfl
          · exact hlt64 y h
          · exact Nat.or_lt_two_pow hx64 hpl
      · rw [decide_eq_false (show ¬ (f : Int) < 8 by omega)]
        (refine G tt_ok pk32 ?_; repeat (refine G1 tt_ok pk32 ?_; intro _))
        refine CW.exit ?_
        (refine G tt_ok pk32 ?_; repeat (refine G1 tt_ok pk32 ?_; intro _))
        obtain rfl : f = 8 := by omega
        rw [hE]
        match W, hW with
        | [w0, w1, w2, w3], _ =>
          (refine G tt_ok pk32 ?_; repeat (refine G1 tt_ok pk32 ?_; intro _))
          exact CW.ret (fin_cells [_, _] ⟨(by first | exact ⟨_, _, _, _, 0, rfl, rfl, rfl, rfl⟩ | exact ⟨_, _, _, _, 1, rfl, rfl, rfl, rfl⟩ | exact ⟨_, _, _, _, 2, rfl, rfl, rfl, rfl⟩ | exact ⟨_, _, _, _, 3, rfl, rfl, rfl, rfl⟩ | exact ⟨_, _, _, _, 4, rfl, rfl, rfl, rfl⟩ | exact ⟨_, _, _, _, 5, rfl, rfl, rfl, rfl⟩ | exact ⟨_, _, _, _, 6, rfl, rfl, rfl, rfl⟩ | exact ⟨_, _, _, _, 7, rfl, rfl, rfl, rfl⟩ | exact ⟨_, _, _, _, 8, rfl, rfl, rfl, rfl⟩ | exact ⟨_, _, _, _, 9, rfl, rfl, rfl, rfl⟩ | exact ⟨_, _, _, _, 10, rfl, rfl, rfl, rfl⟩ | exact ⟨_, _, _, _, 11, rfl, rfl, rfl, rfl⟩ | exact ⟨_, _, _, _, 12, rfl, rfl, rfl, rfl⟩ | exact ⟨_, _, _, _, 13, rfl, rfl, rfl, rfl⟩ | exact ⟨_, _, _, _, 14, rfl, rfl, rfl, rfl⟩ | exact ⟨_, _, _, _, 15, rfl, rfl, rfl, rfl⟩ | exact ⟨_, _, _, _, 16, rfl, rfl, rfl, rfl⟩ | exact ⟨_, _, _, _, 17, rfl, rfl, rfl, rfl⟩ | exact ⟨_, _, _, _, 18, rfl, rfl, rfl, rfl⟩ | exact ⟨_, _, _, _, 19, rfl, rfl, rfl, rfl⟩ | exact ⟨_, _, _, _, 20, rfl, rfl, rfl, rfl⟩ | exact ⟨_, _, _, _, 21, rfl, rfl, rfl, rfl⟩ | exact ⟨_, _, _, _, 22, rfl, rfl, rfl, rfl⟩ | exact ⟨_, _, _, _, 23, rfl, rfl, rfl, rfl⟩), rfl, trivial⟩ (Ent.dropAll _) ⟨rfl, rfl⟩)
    · rw [if_neg (fun h => ha h.2), show (c.2.2.2.2.2.2.2.1 % 256 != 0) = true by simp [ha]]
      (refine G tt_ok pk32 ?_; repeat (refine G1 tt_ok pk32 ?_; intro _))
      refine SQ.bArr tt_ok rfl rfl ?_
      (refine G tt_ok pk32 ?_; repeat (refine G1 tt_ok pk32 ?_; intro _))
      exact CW.ret (fin_cells [_, _] ⟨(by first | exact ⟨_, _, _, _, 0, rfl, rfl, rfl, rfl⟩ | exact ⟨_, _, _, _, 1, rfl, rfl, rfl, rfl⟩ | exact ⟨_, _, _, _, 2, rfl, rfl, rfl, rfl⟩ | exact ⟨_, _, _, _, 3, rfl, rfl, rfl, rfl⟩ | exact ⟨_, _, _, _, 4, rfl, rfl, rfl, rfl⟩ | exact ⟨_, _, _, _, 5, rfl, rfl, rfl, rfl⟩ | exact ⟨_, _, _, _, 6, rfl, rfl, rfl, rfl⟩ | exact ⟨_, _, _, _, 7, rfl, rfl, rfl, rfl⟩ | exact ⟨_, _, _, _, 8, rfl, rfl, rfl, rfl⟩ | exact ⟨_, _, _, _, 9, rfl, rfl, rfl, rfl⟩ | exact ⟨_, _, _, _, 10, rfl, rfl, rfl, rfl⟩ | exact ⟨_, _, _, _, 11, rfl, rfl, rfl, rfl⟩ | exact ⟨_, _, _, _, 12, rfl, rfl, rfl, rfl⟩ | exact ⟨_, _, _, _, 13, rfl, rfl, rfl, rfl⟩ | exact ⟨_, _, _, _, 14, rfl, rfl, rfl, rfl⟩ | exact ⟨_, _, _, _, 15, rfl, rfl, rfl, rfl⟩ | exact ⟨_, _, _, _, 16, rfl, rfl, rfl, rfl⟩ | exact ⟨_, _, _, _, 17, rfl, rfl, rfl, rfl⟩ | exact ⟨_, _, _, _, 18, rfl, rfl, rfl, rfl⟩ | exact ⟨_, _, _, _, 19, rfl, rfl, rfl, rfl⟩ | exact ⟨_, _, _, _, 20, rfl, rfl, rfl, rfl⟩ | exact ⟨_, _, _, _, 21, rfl, rfl, rfl, rfl⟩ | exact ⟨_, _, _, _, 22, rfl, rfl, rfl, rfl⟩ | exact ⟨_, _, _, _, 23, rfl, rfl, rfl, rfl⟩), rfl, trivial⟩ (Ent.dropAll _) ⟨rfl, rfl⟩)
end Go.Proofs.YthhfoppaaehepaaGreatDoor.Sl
namespace Go.Proofs.YthhfoppaaehepaaGreatDoor.Sl
open Go Go.RowKit Go.Proofs
set_option linter.unusedVariables false
set_option linter.unusedSimpArgs false
attribute [local irreducible] CW Tri OW
set_option maxRecDepth 10000
theorem unknown_ne {o : Int} (h : knownV o = false) : (o == 1) = false ∧ (o == 3) = false ∧ (o == 4) = false ∧ (o == 5) = false ∧ (o == 8) = false ∧ (o == 9) = false ∧ (o == 10) = false ∧ (o == 11) = false ∧ (o == 12) = false ∧ (o == 13) = false ∧ (o == 14) = false ∧ (o == 15) = false := by
  unfold knownV at h
  simp only [Bool.or_eq_false_iff] at h
  simp [h]
set_option maxHeartbeats 8000000 in
theorem partU (β : Base) {o : Int} (ho : knownV o = false) {f : Nat} (hf : f < 8) : Tri Tryz.prog β 73 [.int .i64 o, .int .i64 f] [] (fun v L => v = .tuple #[.agg #[.int .i64 (partV' o f).1.1, .int .i64 (partV' o f).1.2.1, .int .i64 (partV' o f).1.2.2], .bool (partV' o f).2] ∧ L = []) := by
  obtain ⟨h1, h3, h4, h5, h8, h9, h10, h11, h12, h13, h14, h15⟩ := unknown_ne ho
  have e14 : o ≠ 14 := by simpa using h14
  refine Tri.intro tt_ok Tryz.func73 rfl rfl Tryz.ntmps73 rfl fun F => ?_
  match f, hf with
  | 0, _ | 1, _ | 2, _ | 3, _ | 4, _ | 5, _ | 6, _ | 7, _ =>
    (refine G tt_ok [] ?_; repeat (refine G1 tt_ok [] ?_; intro _))
    iterate 8 (try simp only [h1, h3, h4, h5, h8, h9, h10, h11, h12, h13, h14, h15, bne, Bool.not_false]; (refine G tt_ok [] ?_; repeat (refine G1 tt_ok [] ?_; intro _)))
    refine CW.ret (fin_cells [_, _] ⟨(by first | exact ⟨_, _, _, _, 0, rfl, rfl, rfl, rfl⟩ | exact ⟨_, _, _, _, 1, rfl, rfl, rfl, rfl⟩ | exact ⟨_, _, _, _, 2, rfl, rfl, rfl, rfl⟩ | exact ⟨_, _, _, _, 3, rfl, rfl, rfl, rfl⟩ | exact ⟨_, _, _, _, 4, rfl, rfl, rfl, rfl⟩ | exact ⟨_, _, _, _, 5, rfl, rfl, rfl, rfl⟩ | exact ⟨_, _, _, _, 6, rfl, rfl, rfl, rfl⟩ | exact ⟨_, _, _, _, 7, rfl, rfl, rfl, rfl⟩ | exact ⟨_, _, _, _, 8, rfl, rfl, rfl, rfl⟩ | exact ⟨_, _, _, _, 9, rfl, rfl, rfl, rfl⟩ | exact ⟨_, _, _, _, 10, rfl, rfl, rfl, rfl⟩ | exact ⟨_, _, _, _, 11, rfl, rfl, rfl, rfl⟩ | exact ⟨_, _, _, _, 12, rfl, rfl, rfl, rfl⟩ | exact ⟨_, _, _, _, 13, rfl, rfl, rfl, rfl⟩ | exact ⟨_, _, _, _, 14, rfl, rfl, rfl, rfl⟩ | exact ⟨_, _, _, _, 15, rfl, rfl, rfl, rfl⟩ | exact ⟨_, _, _, _, 16, rfl, rfl, rfl, rfl⟩ | exact ⟨_, _, _, _, 17, rfl, rfl, rfl, rfl⟩ | exact ⟨_, _, _, _, 18, rfl, rfl, rfl, rfl⟩ | exact ⟨_, _, _, _, 19, rfl, rfl, rfl, rfl⟩ | exact ⟨_, _, _, _, 20, rfl, rfl, rfl, rfl⟩ | exact ⟨_, _, _, _, 21, rfl, rfl, rfl, rfl⟩ | exact ⟨_, _, _, _, 22, rfl, rfl, rfl, rfl⟩ | exact ⟨_, _, _, _, 23, rfl, rfl, rfl, rfl⟩), rfl, trivial⟩ (Ent.dropAll _) ⟨?_, rfl⟩)
    simp [partV', h1, h3, h4, h5, h8, h9, h10, h11, h12, h13, h14, h15, e14, bne]
    all_goals rfl
theorem parted (β : Base) (o : Int) {f : Nat} (hf : f < 8) : Tri Tryz.prog β 73 [.int .i64 o, .int .i64 f] [] (fun v L => v = .tuple #[.agg #[.int .i64 (partV' o f).1.1, .int .i64 (partV' o f).1.2.1, .int .i64 (partV' o f).1.2.2], .bool (partV' o f).2] ∧ L = []) := by
  cases h : knownV o with
  | true => exact parted73 β h hf
  | false => exact partU β h hf
theorem part_any (o : Int) {f : Nat} (hf : f < 8) : (partV' o f).1.1 < 4 ∧ (partV' o f).1.2.1 + (partV' o f).1.2.2 ≤ 64 ∧ (partV' o f).1.2.2 ≤ 40 := by
  match f, hf with
  | 0, _ | 1, _ | 3, _ | 4, _ | 5, _ | 6, _ | 7, _ => exact ⟨by simp [partV'], by simp [partV'], by simp [partV']⟩
  | 2, _ => show (if o = 14 then _ else _ : (Nat × Nat × Nat) × Bool).1.1 < 4 ∧ _; unfold partV'; by_cases h : o = 14 <;> simp [h]
/-- A field of a command, set. -/
def putF (c : Cm) (f : Nat) (n : Int) : Cm := match f with
  | 0 => (c.1, n, c.2.2)
  | 1 => (c.1, c.2.1, n, c.2.2.2)
  | 2 => (c.1, c.2.1, c.2.2.1, n, c.2.2.2.2)
  | 3 => (c.1, c.2.1, c.2.2.1, c.2.2.2.1, n, c.2.2.2.2.2)
  | 4 => (c.1, c.2.1, c.2.2.1, c.2.2.2.1, c.2.2.2.2.1, n, c.2.2.2.2.2.2)
  | 5 => (c.1, c.2.1, c.2.2.1, c.2.2.2.1, c.2.2.2.2.1, c.2.2.2.2.2.1, n, c.2.2.2.2.2.2.2)
  | 6 => (c.1, c.2.1, c.2.2.1, c.2.2.2.1, c.2.2.2.2.1, c.2.2.2.2.2.1, c.2.2.2.2.2.2.1, n * 256, c.2.2.2.2.2.2.2.2)
  | _ => (c.1, c.2.1, c.2.2.1, c.2.2.2.1, c.2.2.2.2.1, c.2.2.2.2.2.1, c.2.2.2.2.2.2.1, c.2.2.2.2.2.2.2.1, n == 1)
theorem put161 (β : Base) (b : Nat) (c : Cm) {f : Nat} (hf : f < 8) {n : Int} (h0 : 0 ≤ n) (h1 : n < 1099511627776) : Tri Tryz.prog β 161 [.pointer (some ⟨b, 0, none⟩), .int .i64 f, .int .i64 n] [pt b (cmC c)] (fun v L => v = .tuple #[] ∧ L = [pt b (cmC (putF c f n))]) := by
  obtain ⟨c0, c1, c2, c3, c4, c5, c6, c7, c8⟩ := c
  refine Tri.intro tt_ok Tryz.func161 rfl rfl Tryz.ntmps161 rfl fun F => ?_
  match f, hf with
  | 0, _ | 1, _ | 2, _ | 3, _ | 4, _ | 5, _ | 7, _ =>
    (refine G tt_ok [] ?_; repeat (refine G1 tt_ok [] ?_; intro _))
    exact fin_normal (vs := []) rfl pk_ ⟨rfl, rfl⟩
  | 6, _ =>
    (refine G tt_ok [] ?_; repeat (refine G1 tt_ok [] ?_; intro _))
    rw [show IntKind.i64.wrap (n * 2 ^ min 8 IntKind.i64.bits) = n * 256 by
      rw [show (2 : Int) ^ min 8 IntKind.i64.bits = 256 from rfl]; exact wrap_id (by omega) (by omega)]
    (refine G tt_ok [] ?_; repeat (refine G1 tt_ok [] ?_; intro _))
    exact fin_normal (vs := []) rfl pk_ ⟨rfl, rfl⟩
end Go.Proofs.YthhfoppaaehepaaGreatDoor.Sl
namespace Go.Proofs.YthhfoppaaehepaaGreatDoor.Sl
open Go Go.RowKit Go.Proofs
set_option linter.unusedVariables false
set_option linter.unusedSimpArgs false
attribute [local irreducible] CW Tri OW
set_option maxRecDepth 10000
@[reducible] def pk134 : List (Nat × Plan) := [(7, [(0, 0, []), (1, 0, []), (2, 0, []), (3, 0, []), (4, 0, []), (5, 0, []), (6, 0, []), (7, 0, []), (8, 0, []), (9, 0, []), (10, 0, []), (11, 0, []), (12, 0, []), (13, 0, []), (14, 1, [2, 4, 6, 9])])]
@[reducible] def cm0 : Cm := (0, 0, 0, 0, 0, 0, 0, 0, false)
def decS (W : List Nat) (f : Nat) (c : Cm) : Cm := if (partV' c.1 f).2 then putF c f ((W.getD (partV' c.1 f).1.1 0 / 2 ^ (partV' c.1 f).1.2.1 % 2 ^ (partV' c.1 f).1.2.2 : Nat) : Int) else c
def decL (W : List Nat) : Nat → Cm
  | 0 => ((W.getD 0 0 % 256 : Nat), 0, 0, 0, 0, 0, 0, 0, false)
  | f + 1 => decS W f (decL W f)
def decOk (W : List Nat) (c : Cm) : Prop := (encV c).2 = 0 ∧ (encV c).1.getD 0 0 = W.getD 0 0 ∧ (encV c).1.getD 1 0 = W.getD 1 0 ∧ (encV c).1.getD 2 0 = W.getD 2 0 ∧ (encV c).1.getD 3 0 = W.getD 3 0
instance (W : List Nat) (c : Cm) : Decidable (decOk W c) := by unfold decOk; infer_instance
def decV (W : List Nat) : Cm × Int := if decOk W (decL W 8) then (decL W 8, 0) else (cm0, 160)
theorem and255u {a : Nat} (ha : a < 2 ^ 64) : IntKind.u64.wrap ((BitVec.ofInt IntKind.u64.bits (a : Int) &&& BitVec.ofInt IntKind.u64.bits 255).toNat : Int) = ((a % 256 : Nat) : Int) := and_mod (k := 8) ha (by omega)
theorem mask_ {sz : Nat} (h : sz ≤ 40) : IntKind.u64.wrap (IntKind.u64.wrap (1 * 2 ^ min sz IntKind.u64.bits) - 1) = ((2 ^ sz - 1 : Nat) : Int) := by
  rw [show min sz IntKind.u64.bits = sz from Nat.min_eq_left (by show sz ≤ 64; omega), Int.one_mul, show (2 : Int) ^ sz = ((2 ^ sz : Nat) : Int) by simp]
  have hK : 2 ^ sz ≤ 2 ^ 40 := Nat.pow_le_pow_right (by omega) h
  have h1 := Nat.one_le_two_pow (n := sz)
  have e40 : (2 : Nat) ^ 40 = 1099511627776 := rfl
  rw [e40] at hK
  generalize 2 ^ sz = K at hK h1 ⊢
  rw [wN (by omega), show (K : Int) - 1 = ((K - 1 : Nat) : Int) by omega, wN (by omega)]
set_option maxHeartbeats 8000000 in
theorem decode134 (β : Base) {w0 w1 w2 w3 : Nat} (h0 : w0 < 2 ^ 64) (h1 : w1 < 2 ^ 64) (h2 : w2 < 2 ^ 64) (h3 : w3 < 2 ^ 64) : Tri Tryz.prog β 134 [.agg #[.int .u64 w0, .int .u64 w1, .int .u64 w2, .int .u64 w3]] []
    (fun v L => v = .tuple #[.agg (cmC (decV [w0, w1, w2, w3]).1).toArray, .int .i64 (decV [w0, w1, w2, w3]).2] ∧ L = []) := by
  refine Tri.intro tt_ok Tryz.func134 rfl rfl Tryz.ntmps134 rfl fun F => ?_
  unfold decV
  (refine G tt_ok pk134 ?_; repeat (refine G1 tt_ok pk134 ?_; intro _))
  refine SQ.idx tt_ok rfl rfl 0 rfl (by decide) (o' := 0) rfl ?_
  (refine G tt_ok pk134 ?_; repeat (refine G1 tt_ok pk134 ?_; intro _))
  rw [and255u h0]
  (refine G tt_ok pk134 ?_; repeat (refine G1 tt_ok pk134 ?_; intro _))
  rw [wrap_id (show -9223372036854775808 ≤ ((w0 % 256 : Nat) : Int) by omega) (by omega)]
  (refine G tt_ok pk134 ?_; repeat (refine G1 tt_ok pk134 ?_; intro _))
  rename_i b1 b2 b4
  generalize hW : [w0, w1, w2, w3] = W
  have hlen : W.length = 4 := by rw [← hW]; rfl
  have h64 : ∀ y ∈ W, y < 2 ^ 64 := by
    intro y hy
    rw [← hW] at hy
    simp only [List.mem_cons, List.not_mem_nil, or_false] at hy
    rcases hy with rfl | rfl | rfl | rfl <;> assumption
  refine CW.loop (α := Nat) (fun f => f ≤ 8) (fun f => [(5, .int .i64 f), (4, .pointer (some ⟨b4, 0, none⟩)), (2, .pointer (some ⟨b2, 0, none⟩)), (1, .pointer (some ⟨b1, 0, none⟩))])
    (fun f => [pt b1 (W.flatMap wC), pt b2 (cmC cm0), pt b4 (cmC (decL W f))]) (fun f => 8 - f) 0 (by omega) ⟨rfl, rfl, rfl, rfl, trivial⟩ (by rw [← hW]; exact pk_) ?_
  intro f hf
  (refine G tt_ok pk134 ?_; repeat (refine G1 tt_ok pk134 ?_; intro _))
  by_cases hlt : f < 8
  · rw [decide_eq_true (show (f : Int) < 8 by omega)]
    have hwr : IntKind.i64.wrap ((f : Int) + 1) = ((f + 1 : Nat) : Int) := by rw [wrap_i64]; split <;> omega
    have hS : decL W (f + 1) = decS W f (decL W f) := rfl
    generalize decL W f = c at hS ⊢
    obtain ⟨g1, g2, g3⟩ := part_any c.1 hlt
    (refine G tt_ok pk134 ?_; repeat (refine G1 tt_ok pk134 ?_; intro _))
    refine ke rfl rfl (parted β c.1 hlt) ?_
    (refine G tt_ok pk134 ?_; repeat (refine G1 tt_ok pk134 ?_; intro _))
    unfold decS at hS
    generalize partV' c.1 f = pp at g1 g2 g3 hS ⊢
    obtain ⟨⟨wd, fr, sz⟩, has⟩ := pp
    simp only at g1 g2 g3 hS ⊢
    cases has with
    | false =>
      simp only [Bool.false_eq_true, if_false] at hS
      (refine G tt_ok pk134 ?_; repeat (refine G1 tt_ok pk134 ?_; intro _))
      exact ⟨f + 1, by omega, by omega, ⟨by rw [← hwr]; rfl, rfl, rfl, rfl, trivial⟩, by rw [hS]; exact pk_⟩
    | true =>
      simp only [if_true] at hS
      obtain ⟨x, hx⟩ : ∃ x, W[wd]? = some x := ⟨_, List.getElem?_eq_getElem (by omega)⟩
      have hx64 := h64 x (List.mem_of_getElem? hx)
      rw [show W.getD wd 0 = x by rw [List.getD_eq_getElem?_getD, hx]; rfl] at hS
      (refine G tt_ok pk134 ?_; repeat (refine G1 tt_ok pk134 ?_; intro _))
      refine SQ.idx tt_ok rfl rfl wd rfl g1 (o' := 0 + wd * 1) rfl ?_
      (refine G tt_ok pk134 ?_; repeat (refine G1 tt_ok pk134 ?_; intro _))
      (refine SQ.ldA tt_ok rfl rfl (by repeat (first | exact .h | exact .q | apply At.t)) (w_rd hx) ?_)
      (refine G tt_ok pk134 ?_; repeat (refine G1 tt_ok pk134 ?_; intro _))
      have hp : x / 2 ^ fr % 2 ^ sz < 1099511627776 := by
        have h1 : x / 2 ^ fr % 2 ^ sz < 2 ^ sz := Nat.mod_lt _ (Nat.two_pow_pos sz)
        have h2 : 2 ^ sz ≤ 2 ^ 40 := Nat.pow_le_pow_right (by omega) g3
        exact Nat.lt_of_lt_of_le h1 (by simpa using h2)
      rw [fdivN x fr (by omega), mask_ g3, and_mod (Nat.lt_of_le_of_lt (Nat.div_le_self _ _) hx64) (by omega)]
      generalize x / 2 ^ fr % 2 ^ sz = n at hS hp ⊢
      rw [wrap_id (show -9223372036854775808 ≤ (n : Int) by omega) (by omega)]
      (refine G tt_ok pk134 ?_; repeat (refine G1 tt_ok pk134 ?_; intro _))
      (refine SQ.callA rfl rfl (put161 β b4 c hlt (show 0 ≤ (n : Int) by omega) (by omega)) (by repeat (first | exact .n | exact Rm.h | exact Rm.of own_row | exact Rm.of row_close0 | apply Tk.c | apply Rm.t)) ?_; rintro _ _ ⟨rfl, rfl⟩; refine ⟨(by repeat (first | exact trivial | refine ⟨trivial, ?_⟩ | refine ⟨wk (by repeat (first | exact .h | exact .q | apply At.t)) (w_rd hx), ?_⟩ | refine ⟨wk (by repeat (first | exact .h | exact .q | apply At.t)) (by rfl), ?_⟩)), ?_⟩)
      (refine G tt_ok pk134 ?_; repeat (refine G1 tt_ok pk134 ?_; intro _))
      exact ⟨f + 1, by omega, by omega, ⟨by rw [← hwr]; rfl, rfl, rfl, rfl, trivial⟩, by rw [hS]; exact pk_⟩
  · rw [decide_eq_false (show ¬ (f : Int) < 8 by omega)]
    (refine G tt_ok pk134 ?_; repeat (refine G1 tt_ok pk134 ?_; intro _))
    refine CW.exit ?_
    (refine G tt_ok pk134 ?_; repeat (refine G1 tt_ok pk134 ?_; intro _))
    obtain rfl : f = 8 := by omega
    generalize decL W 8 = c
    refine ke rfl rfl (encode32 β c) ?_
    (refine G tt_ok pk134 ?_; repeat (refine G1 tt_ok pk134 ?_; intro _))
    subst hW
    have hd : decOk [w0, w1, w2, w3] c ↔ (encV c).2 = 0 ∧ (encV c).1.getD 0 0 = w0 ∧ (encV c).1.getD 1 0 = w1 ∧ (encV c).1.getD 2 0 = w2 ∧ (encV c).1.getD 3 0 = w3 := Iff.rfl
    generalize (encV c).1.getD 0 0 = E0 at hd ⊢
    generalize (encV c).1.getD 1 0 = E1 at hd ⊢
    generalize (encV c).1.getD 2 0 = E2 at hd ⊢
    generalize (encV c).1.getD 3 0 = E3 at hd ⊢
    by_cases he : (encV c).2 = 0
    · rw [show ((encV c).2 != 0) = false by simp [he]]
      (refine G tt_ok pk134 ?_; repeat (refine G1 tt_ok pk134 ?_; intro _))
      by_cases hw : E0 = w0 ∧ E1 = w1 ∧ E2 = w2 ∧ E3 = w3
      · rw [if_pos (hd.2 ⟨he, hw⟩)]
        obtain ⟨rfl, rfl, rfl, rfl⟩ := hw
        refine SQ.eqa tt_ok rfl rfl (by kernel_rfl) false (by simp) ?_
        (refine G tt_ok pk134 ?_; repeat (refine G1 tt_ok pk134 ?_; intro _))
        exact CW.ret (fin_cells [_, _] ⟨(by first | exact ⟨_, _, _, _, 0, rfl, rfl, rfl, rfl⟩ | exact ⟨_, _, _, _, 1, rfl, rfl, rfl, rfl⟩ | exact ⟨_, _, _, _, 2, rfl, rfl, rfl, rfl⟩ | exact ⟨_, _, _, _, 3, rfl, rfl, rfl, rfl⟩ | exact ⟨_, _, _, _, 4, rfl, rfl, rfl, rfl⟩ | exact ⟨_, _, _, _, 5, rfl, rfl, rfl, rfl⟩ | exact ⟨_, _, _, _, 6, rfl, rfl, rfl, rfl⟩ | exact ⟨_, _, _, _, 7, rfl, rfl, rfl, rfl⟩ | exact ⟨_, _, _, _, 8, rfl, rfl, rfl, rfl⟩ | exact ⟨_, _, _, _, 9, rfl, rfl, rfl, rfl⟩ | exact ⟨_, _, _, _, 10, rfl, rfl, rfl, rfl⟩ | exact ⟨_, _, _, _, 11, rfl, rfl, rfl, rfl⟩ | exact ⟨_, _, _, _, 12, rfl, rfl, rfl, rfl⟩ | exact ⟨_, _, _, _, 13, rfl, rfl, rfl, rfl⟩ | exact ⟨_, _, _, _, 14, rfl, rfl, rfl, rfl⟩ | exact ⟨_, _, _, _, 15, rfl, rfl, rfl, rfl⟩ | exact ⟨_, _, _, _, 16, rfl, rfl, rfl, rfl⟩ | exact ⟨_, _, _, _, 17, rfl, rfl, rfl, rfl⟩ | exact ⟨_, _, _, _, 18, rfl, rfl, rfl, rfl⟩ | exact ⟨_, _, _, _, 19, rfl, rfl, rfl, rfl⟩ | exact ⟨_, _, _, _, 20, rfl, rfl, rfl, rfl⟩ | exact ⟨_, _, _, _, 21, rfl, rfl, rfl, rfl⟩ | exact ⟨_, _, _, _, 22, rfl, rfl, rfl, rfl⟩ | exact ⟨_, _, _, _, 23, rfl, rfl, rfl, rfl⟩), rfl, trivial⟩ (Ent.dropAll _) ⟨rfl, rfl⟩)
      · rw [if_neg (fun h => hw (hd.1 h).2)]
        refine SQ.eqa tt_ok rfl rfl (by kernel_rfl) true (by simp; omega) ?_
        (refine G tt_ok pk134 ?_; repeat (refine G1 tt_ok pk134 ?_; intro _))
        exact CW.ret (fin_cells [_, _] ⟨(by first | exact ⟨_, _, _, _, 0, rfl, rfl, rfl, rfl⟩ | exact ⟨_, _, _, _, 1, rfl, rfl, rfl, rfl⟩ | exact ⟨_, _, _, _, 2, rfl, rfl, rfl, rfl⟩ | exact ⟨_, _, _, _, 3, rfl, rfl, rfl, rfl⟩ | exact ⟨_, _, _, _, 4, rfl, rfl, rfl, rfl⟩ | exact ⟨_, _, _, _, 5, rfl, rfl, rfl, rfl⟩ | exact ⟨_, _, _, _, 6, rfl, rfl, rfl, rfl⟩ | exact ⟨_, _, _, _, 7, rfl, rfl, rfl, rfl⟩ | exact ⟨_, _, _, _, 8, rfl, rfl, rfl, rfl⟩ | exact ⟨_, _, _, _, 9, rfl, rfl, rfl, rfl⟩ | exact ⟨_, _, _, _, 10, rfl, rfl, rfl, rfl⟩ | exact ⟨_, _, _, _, 11, rfl, rfl, rfl, rfl⟩ | exact ⟨_, _, _, _, 12, rfl, rfl, rfl, rfl⟩ | exact ⟨_, _, _, _, 13, rfl, rfl, rfl, rfl⟩ | exact ⟨_, _, _, _, 14, rfl, rfl, rfl, rfl⟩ | exact ⟨_, _, _, _, 15, rfl, rfl, rfl, rfl⟩ | exact ⟨_, _, _, _, 16, rfl, rfl, rfl, rfl⟩ | exact ⟨_, _, _, _, 17, rfl, rfl, rfl, rfl⟩ | exact ⟨_, _, _, _, 18, rfl, rfl, rfl, rfl⟩ | exact ⟨_, _, _, _, 19, rfl, rfl, rfl, rfl⟩ | exact ⟨_, _, _, _, 20, rfl, rfl, rfl, rfl⟩ | exact ⟨_, _, _, _, 21, rfl, rfl, rfl, rfl⟩ | exact ⟨_, _, _, _, 22, rfl, rfl, rfl, rfl⟩ | exact ⟨_, _, _, _, 23, rfl, rfl, rfl, rfl⟩), rfl, trivial⟩ (Ent.dropAll _) ⟨rfl, rfl⟩)
    · rw [show ((encV c).2 != 0) = true by simp [he], if_neg (fun h => he (hd.1 h).1)]
      (refine G tt_ok pk134 ?_; repeat (refine G1 tt_ok pk134 ?_; intro _))
      exact CW.ret (fin_cells [_, _] ⟨(by first | exact ⟨_, _, _, _, 0, rfl, rfl, rfl, rfl⟩ | exact ⟨_, _, _, _, 1, rfl, rfl, rfl, rfl⟩ | exact ⟨_, _, _, _, 2, rfl, rfl, rfl, rfl⟩ | exact ⟨_, _, _, _, 3, rfl, rfl, rfl, rfl⟩ | exact ⟨_, _, _, _, 4, rfl, rfl, rfl, rfl⟩ | exact ⟨_, _, _, _, 5, rfl, rfl, rfl, rfl⟩ | exact ⟨_, _, _, _, 6, rfl, rfl, rfl, rfl⟩ | exact ⟨_, _, _, _, 7, rfl, rfl, rfl, rfl⟩ | exact ⟨_, _, _, _, 8, rfl, rfl, rfl, rfl⟩ | exact ⟨_, _, _, _, 9, rfl, rfl, rfl, rfl⟩ | exact ⟨_, _, _, _, 10, rfl, rfl, rfl, rfl⟩ | exact ⟨_, _, _, _, 11, rfl, rfl, rfl, rfl⟩ | exact ⟨_, _, _, _, 12, rfl, rfl, rfl, rfl⟩ | exact ⟨_, _, _, _, 13, rfl, rfl, rfl, rfl⟩ | exact ⟨_, _, _, _, 14, rfl, rfl, rfl, rfl⟩ | exact ⟨_, _, _, _, 15, rfl, rfl, rfl, rfl⟩ | exact ⟨_, _, _, _, 16, rfl, rfl, rfl, rfl⟩ | exact ⟨_, _, _, _, 17, rfl, rfl, rfl, rfl⟩ | exact ⟨_, _, _, _, 18, rfl, rfl, rfl, rfl⟩ | exact ⟨_, _, _, _, 19, rfl, rfl, rfl, rfl⟩ | exact ⟨_, _, _, _, 20, rfl, rfl, rfl, rfl⟩ | exact ⟨_, _, _, _, 21, rfl, rfl, rfl, rfl⟩ | exact ⟨_, _, _, _, 22, rfl, rfl, rfl, rfl⟩ | exact ⟨_, _, _, _, 23, rfl, rfl, rfl, rfl⟩), rfl, trivial⟩ (Ent.dropAll _) ⟨rfl, rfl⟩)
end Go.Proofs.YthhfoppaaehepaaGreatDoor.Sl
namespace Go.Proofs.YthhfoppaaehepaaGreatDoor.Sl
open Go Go.RowKit Go.Proofs
set_option linter.unusedVariables false
set_option linter.unusedSimpArgs false
attribute [local irreducible] CW Tri OW
set_option maxRecDepth 10000
@[reducible] def pk94 : List (Nat × Plan) := []
theorem encL_ok {c : Cm} (hk : knownV c.1 = true) : ∀ {f : Nat} {W : List Nat}, f ≤ 8 → encL c f = some W → W.length = 4 ∧ ∀ y ∈ W, y < 2 ^ 64
  | 0, W, _, h => by
    simp only [encL, Option.some.injEq] at h
    subst h
    refine ⟨rfl, fun y hy => ?_⟩
    have : c.1.toNat < 16 := by rcases known_cases hk with h | h | h | h | h | h | h | h | h | h | h | h <;> rw [h] <;> decide
    simp only [List.mem_cons, List.not_mem_nil, or_false] at hy
    omega
  | f + 1, W, hf, h => by
    unfold encL at h
    cases hE : encL c f with
    | none => rw [hE] at h; cases h
    | some V =>
      obtain ⟨hl, h64⟩ := encL_ok hk (by omega) hE
      rw [hE] at h
      obtain ⟨g1, g2, g3⟩ := part_ok' hk (show f < 8 by omega)
      simp only [encS] at h
      split at h
      · cases h
      · rename_i hn
        simp only [Option.some.injEq] at h
        subst h
        split
        · refine ⟨by simp [hl], fun y hy => ?_⟩
          rcases List.mem_or_eq_of_mem_set hy with h | rfl
          · exact h64 y h
          · have hx : V.getD (partV' c.1 f).1.1 0 < 2 ^ 64 := by
              rw [List.getD_eq_getElem?_getD, List.getElem?_eq_getElem (by omega)]
              exact h64 _ (List.getElem_mem _)
            refine Nat.or_lt_two_pow hx ?_
            have hnl : (getF c f).toNat < 2 ^ (partV' c.1 f).1.2.2 := by omega
            have h1 := Nat.mul_lt_mul_of_pos_right hnl (Nat.two_pow_pos (partV' c.1 f).1.2.1)
            rw [← Nat.pow_add] at h1
            exact Nat.lt_of_lt_of_le h1 (Nat.pow_le_pow_right (by omega) (by omega))
        · exact ⟨hl, h64⟩
theorem encV_ok (c : Cm) : (encV c).1.length = 4 ∧ ∀ y ∈ (encV c).1, y < 2 ^ 64 := by
  have z : ([0, 0, 0, 0] : List Nat).length = 4 ∧ ∀ y ∈ ([0, 0, 0, 0] : List Nat), y < 2 ^ 64 := ⟨rfl, by decide⟩
  unfold encV
  split
  · rename_i h
    split
    · rename_i W hW
      exact encL_ok h.1 (Nat.le_refl _) hW
    · exact z
  · exact z
theorem enc_lt (c : Cm) (k : Nat) : (encV c).1.getD k 0 < 2 ^ 64 := by
  obtain ⟨-, h⟩ := encV_ok c
  rw [List.getD_eq_getElem?_getD]
  by_cases hk : k < (encV c).1.length
  · rw [List.getElem?_eq_getElem hk]
    exact h _ (List.getElem_mem _)
  · rw [List.getElem?_eq_none (by omega)]
    decide
theorem acc_q {n : Nat} (hn : n = 4096) {j k : Nat} (hj : j < 10) (hk : k < 4) {o : Int} (ho : o = ((32 * j + 8 * k : Nat) : Int)) : accV n 128 320 o 8 = 0 := by
  subst hn ho
  have h1 : holdsV 4096 128 320 = true := by decide
  unfold accV mayV
  rw [if_pos h1, if_neg (by simp), if_neg (by rw [Int.tmod_eq_emod_of_nonneg (by omega)]; omega), wrap_id (by omega) (by omega), if_neg (by omega)]
/-- A place of the queue, written. -/
def stW (B : List Nat) (j : Nat) (E : List Nat) : Nat → List Nat
  | 0 => B
  | k + 1 => wrN (stW B j E k) (128 + 32 * j + 8 * k) 8 (E.getD k 0)
theorem stW_len {B : List Nat} {j : Nat} {E : List Nat} (hB : B.length = 4096) (hj : j < 10) : ∀ {k : Nat}, k ≤ 4 → (stW B j E k).length = 4096
  | 0, _ => hB
  | k + 1, h => by
    unfold stW
    rw [wrN_len _ (by rw [stW_len hB hj (by omega)]; omega), stW_len hB hj (by omega)]
theorem stW_ok {B : List Nat} {j : Nat} {E : List Nat} (hB : byOk B) : ∀ {k : Nat}, byOk (stW B j E k)
  | 0 => hB
  | k + 1 => wrN_ok _ _ _ (stW_ok hB)
set_option maxHeartbeats 4000000 in
theorem store94 (β : Base) (m g : Nat) (B : List Nat) (hB : B.length = 4096) {j : Nat} (hj : j < 10) (c : Cm) : Tri Tryz.prog β 94 [.pointer (some ⟨m, 0, none⟩), .agg #[.int .i64 128, .int .i64 320], .int .i64 ((32 * j : Nat) : Int), .agg #[.int .i64 c.1, .int .i64 c.2.1, .int .i64 c.2.2.1, .int .i64 c.2.2.2.1, .int .i64 c.2.2.2.2.1, .int .i64 c.2.2.2.2.2.1, .int .i64 c.2.2.2.2.2.2.1, .int .i64 c.2.2.2.2.2.2.2.1, .bool c.2.2.2.2.2.2.2.2]] (memA m g B)
    (fun v L => v = .int .i64 (encV c).2 ∧ L = memA m g (if (encV c).2 = 0 then stW B j (encV c).1 4 else B)) := by
  refine Tri.intro tt_ok Tryz.func94 rfl rfl Tryz.ntmps94 rfl fun F => ?_
  (refine G tt_ok pk94 ?_; repeat (refine G1 tt_ok pk94 ?_; intro _))
  refine ke rfl rfl (encode32 β c) ?_
  (refine G tt_ok pk94 ?_; repeat (refine G1 tt_ok pk94 ?_; intro _))
  by_cases he : (encV c).2 = 0
  · rw [show ((encV c).2 != 0) = false by simp [he], if_pos he, he]
    (refine G tt_ok pk94 ?_; repeat (refine G1 tt_ok pk94 ?_; intro _))
    refine ke rfl rfl (may133 β 320 ((32 * j : Nat) : Int) 8) ?_
    have hm : mayV 320 ((32 * j : Nat) : Int) 8 = 0 := by
      have := acc_q (n := 4096) rfl hj (show 0 < 4 by omega) (o := ((32 * j : Nat) : Int)) (by omega)
      unfold accV at this
      rwa [if_pos (by decide)] at this
    rw [hm]
    (refine G tt_ok pk94 ?_; repeat (refine G1 tt_ok pk94 ?_; intro _))
    rw [decide_eq_false (show ¬ ((32 * j : Nat) : Int) > IntKind.i64.wrap (320 - 32) by rw [wrap_id (by omega) (by omega)]; omega)]
    (refine G tt_ok pk94 ?_; repeat (refine G1 tt_ok pk94 ?_; intro _))
    unfold memA
    refine ke rfl rfl (holds29 β m (some ⟨g, 0, none⟩) B.length (show B.length ≤ 1000000 by omega) 128 320) ?_
    rw [show holdsV B.length 128 320 = true by rw [hB]; decide]
    (refine G tt_ok pk94 ?_; repeat (refine G1 tt_ok pk94 ?_; intro _))
    rename_i b5 b7 b9
    have e0 := enc_lt c
    refine CW.loop (α := Nat) (fun k => k ≤ 4) (fun k => [(42, .int .i64 k), (41, .agg #[.int .u64 ((encV c).1.getD 0 0 : Nat), .int .u64 ((encV c).1.getD 1 0 : Nat), .int .u64 ((encV c).1.getD 2 0 : Nat), .int .u64 ((encV c).1.getD 3 0 : Nat)]), (5, .pointer (some ⟨b5, 0, none⟩)), (2, .int .i64 ((32 * j : Nat) : Int)), (0, .pointer (some ⟨m, 0, none⟩)), (8, .int .i64 0)])
      (fun k => pt b5 [.int .i64 128, .int .i64 320] :: memA m g (stW B j (encV c).1 k)) (fun k => 4 - k) 0 (by omega) ⟨rfl, rfl, rfl, rfl, rfl, rfl, trivial⟩ (by unfold memA; exact pk_) ?_
    intro k hk
    have hl := stW_len (E := (encV c).1) hB hj hk
    (refine G tt_ok pk94 ?_; repeat (refine G1 tt_ok pk94 ?_; intro _))
    by_cases hlt : k < 4
    · rw [decide_eq_true (show (k : Int) < 4 by omega)]
      have hwr : IntKind.i64.wrap ((k : Int) + 1) = ((k + 1 : Nat) : Int) := by rw [wrap_i64]; split <;> omega
      have hst : stW B j (encV c).1 (k + 1) = wrN (stW B j (encV c).1 k) (128 + 32 * j + 8 * k) 8 ((encV c).1.getD k 0) := rfl
      (refine G tt_ok pk94 ?_; repeat (refine G1 tt_ok pk94 ?_; intro _))
      refine SQ.ix tt_ok rfl rfl k rfl hlt (v := .int .u64 ((encV c).1.getD k 0 : Nat)) (by match k, hlt with | 0, _ | 1, _ | 2, _ | 3, _ => rfl) ?_
      (refine G tt_ok pk94 ?_; repeat (refine G1 tt_ok pk94 ?_; intro _))
      rw [show IntKind.i64.wrap (8 * (k : Int)) = ((8 * k : Nat) : Int) by rw [wrap_id (by omega) (by omega)]; omega]
      rw [show IntKind.i64.wrap (((32 * j : Nat) : Int) + ((8 * k : Nat) : Int)) = ((32 * j + 8 * k : Nat) : Int) by rw [wrap_id (by omega) (by omega)]; omega]
      have hw : memWr (stW B j (encV c).1 k) 128 320 ((32 * j + 8 * k : Nat) : Int) 8 ((encV c).1.getD k 0) = (stW B j (encV c).1 (k + 1), 0) := by
        unfold memWr
        rw [if_pos (acc_q hl hj hlt rfl), hst, show (128 + ((32 * j + 8 * k : Nat) : Int)).toNat = 128 + 32 * j + 8 * k by omega]
        rfl
      refine ke rfl rfl (write68 β m g (stW B j (encV c).1 k) (by omega) 128 320 ((32 * j + 8 * k : Nat) : Int) 8 ((encV c).1.getD k 0) (e0 k)) ?_
      rw [hw]
      (refine G tt_ok pk94 ?_; repeat (refine G1 tt_ok pk94 ?_; intro _))
      exact ⟨k + 1, by omega, by omega, ⟨by rw [← hwr]; rfl, rfl, rfl, rfl, rfl, rfl, trivial⟩, pk_⟩
    · rw [decide_eq_false (show ¬ (k : Int) < 4 by omega)]
      (refine G tt_ok pk94 ?_; repeat (refine G1 tt_ok pk94 ?_; intro _))
      refine CW.exit ?_
      (refine G tt_ok pk94 ?_; repeat (refine G1 tt_ok pk94 ?_; intro _))
      obtain rfl : k = 4 := by omega
      exact CW.ret (fin_ret rfl pk_ ⟨rfl, rfl⟩)
  · rw [show ((encV c).2 != 0) = true by simp [he], if_neg he]
    (refine G tt_ok pk94 ?_; repeat (refine G1 tt_ok pk94 ?_; intro _))
    exact CW.ret (fin_ret rfl pk_ ⟨rfl, rfl⟩)
end Go.Proofs.YthhfoppaaehepaaGreatDoor.Sl
namespace Go.Proofs.YthhfoppaaehepaaGreatDoor.Sl
open Go Go.RowKit Go.Proofs
set_option linter.unusedVariables false
set_option linter.unusedSimpArgs false
attribute [local irreducible] CW Tri OW
set_option maxRecDepth 10000
@[reducible] def pk95 : List (Nat × Plan) := []
/-- A place of the queue, read: its k-th word. -/
def ldK (B : List Nat) (j k : Nat) : Nat := rdN B (128 + 32 * j + 8 * k) 8
def ldW (B : List Nat) (j : Nat) : List Nat := [ldK B j 0, ldK B j 1, ldK B j 2, ldK B j 3]
def ldP (B : List Nat) (j : Nat) : Nat → List Nat
  | 0 => [0, 0, 0, 0]
  | 1 => [ldK B j 0, 0, 0, 0]
  | 2 => [ldK B j 0, ldK B j 1, 0, 0]
  | 3 => [ldK B j 0, ldK B j 1, ldK B j 2, 0]
  | _ => ldW B j
theorem ldK_lt {B : List Nat} (hb : byOk B) (j k : Nat) : ldK B j k < 2 ^ 64 := rdN_lt hb _ 8
set_option maxHeartbeats 4000000 in
theorem load95 (β : Base) (m g : Nat) (B : List Nat) (hB : B.length = 4096) (hb : byOk B) {j : Nat} (hj : j < 10) : Tri Tryz.prog β 95 [.pointer (some ⟨m, 0, none⟩), .agg #[.int .i64 128, .int .i64 320], .int .i64 ((32 * j : Nat) : Int)] (memA m g B)
    (fun v L => v = .tuple #[.agg (cmC (decV (ldW B j)).1).toArray, .int .i64 (decV (ldW B j)).2] ∧ L = memA m g B) := by
  refine Tri.intro tt_ok Tryz.func95 rfl rfl Tryz.ntmps95 rfl fun F => ?_
  (refine G tt_ok pk95 ?_; repeat (refine G1 tt_ok pk95 ?_; intro _))
  try refine SQ.bArr tt_ok rfl rfl ?_
  (refine G tt_ok pk95 ?_; repeat (refine G1 tt_ok pk95 ?_; intro _))
  rename_i b4 b6 b8
  refine CW.loop (α := Nat) (fun k => k ≤ 4) (fun k => [(12, .int .i64 k), (8, .pointer (some ⟨b8, 0, none⟩)), (6, .pointer (some ⟨b6, 0, none⟩)), (4, .pointer (some ⟨b4, 0, none⟩)), (2, .int .i64 ((32 * j : Nat) : Int)), (0, .pointer (some ⟨m, 0, none⟩))])
    (fun k => pt b8 ((ldP B j k).flatMap wC) :: pt b6 (cmC cm0) :: pt b4 [.int .i64 128, .int .i64 320] :: memA m g B) (fun k => 4 - k) 0 (by omega) ⟨rfl, rfl, rfl, rfl, rfl, rfl, trivial⟩ pk_ ?_
  intro k hk
  (refine G tt_ok pk95 ?_; repeat (refine G1 tt_ok pk95 ?_; intro _))
  by_cases hlt : k < 4
  · rw [decide_eq_true (show (k : Int) < 4 by omega)]
    have hwr : IntKind.i64.wrap ((k : Int) + 1) = ((k + 1 : Nat) : Int) := by rw [wrap_i64]; split <;> omega
    (refine G tt_ok pk95 ?_; repeat (refine G1 tt_ok pk95 ?_; intro _))
    rw [show IntKind.i64.wrap (8 * (k : Int)) = ((8 * k : Nat) : Int) by rw [wrap_id (by omega) (by omega)]; omega]
    rw [show IntKind.i64.wrap (((32 * j : Nat) : Int) + ((8 * k : Nat) : Int)) = ((32 * j + 8 * k : Nat) : Int) by rw [wrap_id (by omega) (by omega)]; omega]
    have hw : memRd B 128 320 ((32 * j + 8 * k : Nat) : Int) 8 = (ldK B j k, 0) := by
      unfold memRd
      rw [if_pos (acc_q hB hj hlt rfl), show (128 + ((32 * j + 8 * k : Nat) : Int)).toNat = 128 + 32 * j + 8 * k by omega]
      rfl
    refine ke rfl rfl (read91 β m g B (by omega) hb 128 320 ((32 * j + 8 * k : Nat) : Int) 8) ?_
    rw [hw]
    (refine G tt_ok pk95 ?_; repeat (refine G1 tt_ok pk95 ?_; intro _))
    refine SQ.idx tt_ok rfl rfl k rfl hlt (o' := 0 + k * 1) rfl ?_
    (refine G tt_ok pk95 ?_; repeat (refine G1 tt_ok pk95 ?_; intro _))
    have hln : (ldP B j k).length = 4 := by match k, hlt with | 0, _ | 1, _ | 2, _ | 3, _ => rfl
    have hst : (ldP B j k).set k (ldK B j k) = ldP B j (k + 1) := by match k, hlt with | 0, _ | 1, _ | 2, _ | 3, _ => rfl
    (refine SQ.stA tt_ok rfl rfl (by repeat (first | apply Up.h | apply Up.t)) (by rfl) (w_wr (show k < (ldP B j k).length by omega) _) (by repeat (first | exact trivial | refine ⟨trivial, ?_⟩ | refine ⟨wk (by repeat (first | exact .h | exact .q | apply At.t)) (by rfl), ?_⟩)) ?_)
    (refine G tt_ok pk95 ?_; repeat (refine G1 tt_ok pk95 ?_; intro _))
    rw [hst]
    exact ⟨k + 1, by omega, by omega, ⟨by rw [← hwr]; rfl, rfl, rfl, rfl, rfl, rfl, trivial⟩, pk_⟩
  · rw [decide_eq_false (show ¬ (k : Int) < 4 by omega)]
    (refine G tt_ok pk95 ?_; repeat (refine G1 tt_ok pk95 ?_; intro _))
    refine CW.exit ?_
    (refine G tt_ok pk95 ?_; repeat (refine G1 tt_ok pk95 ?_; intro _))
    obtain rfl : k = 4 := by omega
    unfold ldP ldW
    (refine G tt_ok pk95 ?_; repeat (refine G1 tt_ok pk95 ?_; intro _))
    refine ke rfl rfl (decode134 β (ldK_lt hb j 0) (ldK_lt hb j 1) (ldK_lt hb j 2) (ldK_lt hb j 3)) ?_
    (refine G tt_ok pk95 ?_; repeat (refine G1 tt_ok pk95 ?_; intro _))
    exact CW.ret (fin_cells [_, _] ⟨(by first | exact ⟨_, _, _, _, 0, rfl, rfl, rfl, rfl⟩ | exact ⟨_, _, _, _, 1, rfl, rfl, rfl, rfl⟩ | exact ⟨_, _, _, _, 2, rfl, rfl, rfl, rfl⟩ | exact ⟨_, _, _, _, 3, rfl, rfl, rfl, rfl⟩ | exact ⟨_, _, _, _, 4, rfl, rfl, rfl, rfl⟩ | exact ⟨_, _, _, _, 5, rfl, rfl, rfl, rfl⟩ | exact ⟨_, _, _, _, 6, rfl, rfl, rfl, rfl⟩ | exact ⟨_, _, _, _, 7, rfl, rfl, rfl, rfl⟩ | exact ⟨_, _, _, _, 8, rfl, rfl, rfl, rfl⟩ | exact ⟨_, _, _, _, 9, rfl, rfl, rfl, rfl⟩ | exact ⟨_, _, _, _, 10, rfl, rfl, rfl, rfl⟩ | exact ⟨_, _, _, _, 11, rfl, rfl, rfl, rfl⟩ | exact ⟨_, _, _, _, 12, rfl, rfl, rfl, rfl⟩ | exact ⟨_, _, _, _, 13, rfl, rfl, rfl, rfl⟩ | exact ⟨_, _, _, _, 14, rfl, rfl, rfl, rfl⟩ | exact ⟨_, _, _, _, 15, rfl, rfl, rfl, rfl⟩ | exact ⟨_, _, _, _, 16, rfl, rfl, rfl, rfl⟩ | exact ⟨_, _, _, _, 17, rfl, rfl, rfl, rfl⟩ | exact ⟨_, _, _, _, 18, rfl, rfl, rfl, rfl⟩ | exact ⟨_, _, _, _, 19, rfl, rfl, rfl, rfl⟩ | exact ⟨_, _, _, _, 20, rfl, rfl, rfl, rfl⟩ | exact ⟨_, _, _, _, 21, rfl, rfl, rfl, rfl⟩ | exact ⟨_, _, _, _, 22, rfl, rfl, rfl, rfl⟩ | exact ⟨_, _, _, _, 23, rfl, rfl, rfl, rfl⟩), rfl, trivial⟩ pk_ ⟨rfl, rfl⟩)
end Go.Proofs.YthhfoppaaehepaaGreatDoor.Sl
namespace Go.Proofs.YthhfoppaaehepaaGreatDoor.Sl
open Go Go.RowKit Go.Proofs
set_option linter.unusedVariables false
set_option linter.unusedSimpArgs false
attribute [local irreducible] CW Tri OW
set_option maxRecDepth 10000
@[reducible] def pk51 : List (Nat × Plan) := [(3, [(0, 0, []), (1, 0, []), (2, 0, []), (3, 0, []), (4, 0, []), (5, 0, []), (6, 0, []), (7, 0, []), (8, 0, []), (9, 0, []), (10, 1, [4, 8, 9]), (11, 0, [])]), (6, [(0, 0, []), (1, 0, []), (2, 0, []), (3, 0, []), (5, 0, []), (6, 0, []), (7, 0, []), (8, 0, []), (4, 1, [3, 8]), (9, 1, [3, 8]), (10, 0, []), (11, 0, []), (12, 0, []), (13, 0, []), (14, 0, []), (15, 1, [])])]
@[reducible] def pk52 : List (Nat × Plan) := []
@[reducible] def pk56 : List (Nat × Plan) := []
/-- A command is put: the memory, where the next one goes, what is told. -/
def putV (B : List Nat) (i j : Nat) (c : Cm) : List Nat × Nat × Int := if lefN i j = 9 then (B, j, 2) else if (encV c).2 = 0 then (stW B j (encV c).1 4, (j + 1) % 10, 0) else (B, j, (encV c).2)
theorem putV_in {B : List Nat} {i j : Nat} {c : Cm} (hB : B.length = 4096) (hb : byOk B) (hj : j < 10) : (putV B i j c).1.length = 4096 ∧ byOk (putV B i j c).1 ∧ (putV B i j c).2.1 < 10 := by
  unfold putV
  split
  · exact ⟨hB, hb, hj⟩
  · split
    · exact ⟨stW_len hB hj (by omega), stW_ok hb, Nat.mod_lt _ (by omega)⟩
    · exact ⟨hB, hb, hj⟩
set_option maxHeartbeats 4000000 in
theorem put51 (β : Base) (m g s : Nat) (B : List Nat) (hB : B.length = 4096) (on st : Bool) {i j : Nat} (p : Int) (hi : i < 10) (hj : j < 10) (c : Cm) : Tri Tryz.prog β 51 [.pointer (some ⟨s, 2, none⟩), .pointer (some ⟨m, 0, none⟩), .agg #[.int .i64 c.1, .int .i64 c.2.1, .int .i64 c.2.2.1, .int .i64 c.2.2.2.1, .int .i64 c.2.2.2.2.1, .int .i64 c.2.2.2.2.2.1, .int .i64 c.2.2.2.2.2.2.1, .int .i64 c.2.2.2.2.2.2.2.1, .bool c.2.2.2.2.2.2.2.2]] (pt s (itC on st i j p) :: memA m g B)
    (fun v L => v = .int .i64 (putV B i j c).2.2 ∧ L = pt s (itC on st i (putV B i j c).2.1 p) :: memA m g (putV B i j c).1) := by
  refine Tri.intro tt_ok Tryz.func51 rfl rfl Tryz.ntmps51 rfl fun F => ?_
  unfold putV
  have hl := lefN_lt i j
  (refine G tt_ok pk51 ?_; repeat (refine G1 tt_ok pk51 ?_; intro _))
  refine ke rfl rfl (room93 β hi hj) ?_
  by_cases h : lefN i j = 9
  · rw [if_pos h, h]
    (refine G tt_ok pk51 ?_; repeat (refine G1 tt_ok pk51 ?_; intro _))
    exact CW.ret (fin_ret rfl pk_ ⟨rfl, rfl⟩)
  · rw [if_neg h]
    (refine G tt_ok pk51 ?_; repeat (refine G1 tt_ok pk51 ?_; intro _))
    rw [decide_eq_false (show ¬ (((9 - lefN i j : Nat) : Int) < 1) by omega)]
    (refine G tt_ok pk51 ?_; repeat (refine G1 tt_ok pk51 ?_; intro _))
    refine ke rfl rfl (store94 β m g B hB hj c) ?_
    (refine G tt_ok pk51 ?_; repeat (refine G1 tt_ok pk51 ?_; intro _))
    by_cases he : (encV c).2 = 0
    · rw [show ((encV c).2 != 0) = false by simp [he], if_pos he, if_pos he]
      (refine G tt_ok pk51 ?_; repeat (refine G1 tt_ok pk51 ?_; intro _))
      refine ke rfl rfl (ring48 β i j) ?_
      (refine G tt_ok pk51 ?_; repeat (refine G1 tt_ok pk51 ?_; intro _))
      refine ke rfl rfl (next50 β hj) ?_
      (refine G tt_ok pk51 ?_; repeat (refine G1 tt_ok pk51 ?_; intro _))
      exact CW.ret (fin_ret rfl pk_ ⟨rfl, rfl⟩)
    · rw [show ((encV c).2 != 0) = true by simp [he], if_neg he, if_neg he]
      (refine G tt_ok pk51 ?_; repeat (refine G1 tt_ok pk51 ?_; intro _))
      exact CW.ret (fin_ret rfl pk_ ⟨rfl, rfl⟩)
/-- The next command, and what is told of it. -/
def headV (B : List Nat) (i j : Nat) : Cm × Int := if lefN i j = 0 then (cm0, 170) else decV (ldW B i)
set_option maxHeartbeats 4000000 in
theorem head52 (β : Base) (m g : Nat) (B : List Nat) (hB : B.length = 4096) (hb : byOk B) {i j : Nat} (hi : i < 10) (hj : j < 10) : Tri Tryz.prog β 52 [.agg #[.int .i64 128, .int .i64 320, .int .i64 ((32 * i : Nat) : Int), .int .i64 ((32 * j : Nat) : Int)], .pointer (some ⟨m, 0, none⟩)] (memA m g B)
    (fun v L => v = .tuple #[.agg (cmC (headV B i j).1).toArray, .int .i64 (headV B i j).2] ∧ L = memA m g B) := by
  refine Tri.intro tt_ok Tryz.func52 rfl rfl Tryz.ntmps52 rfl fun F => ?_
  unfold headV
  (refine G tt_ok pk52 ?_; repeat (refine G1 tt_ok pk52 ?_; intro _))
  refine ke rfl rfl (left18 β hi hj) ?_
  by_cases h : lefN i j = 0
  · rw [if_pos h, h]
    (refine G tt_ok pk52 ?_; repeat (refine G1 tt_ok pk52 ?_; intro _))
    exact CW.ret (fin_cells [_, _] ⟨(by first | exact ⟨_, _, _, _, 0, rfl, rfl, rfl, rfl⟩ | exact ⟨_, _, _, _, 1, rfl, rfl, rfl, rfl⟩ | exact ⟨_, _, _, _, 2, rfl, rfl, rfl, rfl⟩ | exact ⟨_, _, _, _, 3, rfl, rfl, rfl, rfl⟩ | exact ⟨_, _, _, _, 4, rfl, rfl, rfl, rfl⟩ | exact ⟨_, _, _, _, 5, rfl, rfl, rfl, rfl⟩ | exact ⟨_, _, _, _, 6, rfl, rfl, rfl, rfl⟩ | exact ⟨_, _, _, _, 7, rfl, rfl, rfl, rfl⟩ | exact ⟨_, _, _, _, 8, rfl, rfl, rfl, rfl⟩ | exact ⟨_, _, _, _, 9, rfl, rfl, rfl, rfl⟩ | exact ⟨_, _, _, _, 10, rfl, rfl, rfl, rfl⟩ | exact ⟨_, _, _, _, 11, rfl, rfl, rfl, rfl⟩ | exact ⟨_, _, _, _, 12, rfl, rfl, rfl, rfl⟩ | exact ⟨_, _, _, _, 13, rfl, rfl, rfl, rfl⟩ | exact ⟨_, _, _, _, 14, rfl, rfl, rfl, rfl⟩ | exact ⟨_, _, _, _, 15, rfl, rfl, rfl, rfl⟩ | exact ⟨_, _, _, _, 16, rfl, rfl, rfl, rfl⟩ | exact ⟨_, _, _, _, 17, rfl, rfl, rfl, rfl⟩ | exact ⟨_, _, _, _, 18, rfl, rfl, rfl, rfl⟩ | exact ⟨_, _, _, _, 19, rfl, rfl, rfl, rfl⟩ | exact ⟨_, _, _, _, 20, rfl, rfl, rfl, rfl⟩ | exact ⟨_, _, _, _, 21, rfl, rfl, rfl, rfl⟩ | exact ⟨_, _, _, _, 22, rfl, rfl, rfl, rfl⟩ | exact ⟨_, _, _, _, 23, rfl, rfl, rfl, rfl⟩), rfl, trivial⟩ pk_ ⟨rfl, rfl⟩)
  · rw [if_neg h]
    (refine G tt_ok pk52 ?_; repeat (refine G1 tt_ok pk52 ?_; intro _))
    rw [decide_eq_false (show ¬ (lefN i j : Int) < 1 by omega)]
    (refine G tt_ok pk52 ?_; repeat (refine G1 tt_ok pk52 ?_; intro _))
    refine ke rfl rfl (load95 β m g B hB hb hi) ?_
    (refine G tt_ok pk52 ?_; repeat (refine G1 tt_ok pk52 ?_; intro _))
    exact CW.ret (fin_cells [_, _] ⟨(by first | exact ⟨_, _, _, _, 0, rfl, rfl, rfl, rfl⟩ | exact ⟨_, _, _, _, 1, rfl, rfl, rfl, rfl⟩ | exact ⟨_, _, _, _, 2, rfl, rfl, rfl, rfl⟩ | exact ⟨_, _, _, _, 3, rfl, rfl, rfl, rfl⟩ | exact ⟨_, _, _, _, 4, rfl, rfl, rfl, rfl⟩ | exact ⟨_, _, _, _, 5, rfl, rfl, rfl, rfl⟩ | exact ⟨_, _, _, _, 6, rfl, rfl, rfl, rfl⟩ | exact ⟨_, _, _, _, 7, rfl, rfl, rfl, rfl⟩ | exact ⟨_, _, _, _, 8, rfl, rfl, rfl, rfl⟩ | exact ⟨_, _, _, _, 9, rfl, rfl, rfl, rfl⟩ | exact ⟨_, _, _, _, 10, rfl, rfl, rfl, rfl⟩ | exact ⟨_, _, _, _, 11, rfl, rfl, rfl, rfl⟩ | exact ⟨_, _, _, _, 12, rfl, rfl, rfl, rfl⟩ | exact ⟨_, _, _, _, 13, rfl, rfl, rfl, rfl⟩ | exact ⟨_, _, _, _, 14, rfl, rfl, rfl, rfl⟩ | exact ⟨_, _, _, _, 15, rfl, rfl, rfl, rfl⟩ | exact ⟨_, _, _, _, 16, rfl, rfl, rfl, rfl⟩ | exact ⟨_, _, _, _, 17, rfl, rfl, rfl, rfl⟩ | exact ⟨_, _, _, _, 18, rfl, rfl, rfl, rfl⟩ | exact ⟨_, _, _, _, 19, rfl, rfl, rfl, rfl⟩ | exact ⟨_, _, _, _, 20, rfl, rfl, rfl, rfl⟩ | exact ⟨_, _, _, _, 21, rfl, rfl, rfl, rfl⟩ | exact ⟨_, _, _, _, 22, rfl, rfl, rfl, rfl⟩ | exact ⟨_, _, _, _, 23, rfl, rfl, rfl, rfl⟩), rfl, trivial⟩ pk_ ⟨rfl, rfl⟩)
theorem new56 (β : Base) : Tri Tryz.prog β 56 [.agg #[.int .i64 128, .int .i64 320]] [] (fun v L => v = .tuple #[.agg #[.int .i64 128, .int .i64 320, .int .i64 0, .int .i64 0], .int .i64 0] ∧ L = []) := by
  refine Tri.intro tt_ok Tryz.func56 rfl rfl Tryz.ntmps56 rfl fun F => ?_
  (refine G tt_ok pk56 ?_; repeat (refine G1 tt_ok pk56 ?_; intro _))
  refine ke rfl rfl (ring48 β 0 0) ?_
  (refine G tt_ok pk56 ?_; repeat (refine G1 tt_ok pk56 ?_; intro _))
  refine ke rfl rfl (right103 β) ?_
  (refine G tt_ok pk56 ?_; repeat (refine G1 tt_ok pk56 ?_; intro _))
  exact CW.ret (fin_cells [_, _] ⟨(by first | exact ⟨_, _, _, _, 0, rfl, rfl, rfl, rfl⟩ | exact ⟨_, _, _, _, 1, rfl, rfl, rfl, rfl⟩ | exact ⟨_, _, _, _, 2, rfl, rfl, rfl, rfl⟩ | exact ⟨_, _, _, _, 3, rfl, rfl, rfl, rfl⟩ | exact ⟨_, _, _, _, 4, rfl, rfl, rfl, rfl⟩ | exact ⟨_, _, _, _, 5, rfl, rfl, rfl, rfl⟩ | exact ⟨_, _, _, _, 6, rfl, rfl, rfl, rfl⟩ | exact ⟨_, _, _, _, 7, rfl, rfl, rfl, rfl⟩ | exact ⟨_, _, _, _, 8, rfl, rfl, rfl, rfl⟩ | exact ⟨_, _, _, _, 9, rfl, rfl, rfl, rfl⟩ | exact ⟨_, _, _, _, 10, rfl, rfl, rfl, rfl⟩ | exact ⟨_, _, _, _, 11, rfl, rfl, rfl, rfl⟩ | exact ⟨_, _, _, _, 12, rfl, rfl, rfl, rfl⟩ | exact ⟨_, _, _, _, 13, rfl, rfl, rfl, rfl⟩ | exact ⟨_, _, _, _, 14, rfl, rfl, rfl, rfl⟩ | exact ⟨_, _, _, _, 15, rfl, rfl, rfl, rfl⟩ | exact ⟨_, _, _, _, 16, rfl, rfl, rfl, rfl⟩ | exact ⟨_, _, _, _, 17, rfl, rfl, rfl, rfl⟩ | exact ⟨_, _, _, _, 18, rfl, rfl, rfl, rfl⟩ | exact ⟨_, _, _, _, 19, rfl, rfl, rfl, rfl⟩ | exact ⟨_, _, _, _, 20, rfl, rfl, rfl, rfl⟩ | exact ⟨_, _, _, _, 21, rfl, rfl, rfl, rfl⟩ | exact ⟨_, _, _, _, 22, rfl, rfl, rfl, rfl⟩ | exact ⟨_, _, _, _, 23, rfl, rfl, rfl, rfl⟩), rfl, trivial⟩ (Ent.dropAll _) ⟨rfl, rfl⟩)
end Go.Proofs.YthhfoppaaehepaaGreatDoor.Sl
namespace Go.Proofs.YthhfoppaaehepaaGreatDoor.Sl
open Go Go.RowKit Go.Proofs
set_option linter.unusedVariables false
set_option linter.unusedSimpArgs false
attribute [local irreducible] CW Tri OW
set_option maxRecDepth 10000
@[reducible] def pk45 : List (Nat × Plan) := [(1, [(0, 0, []), (1, 0, []), (2, 0, []), (3, 0, []), (4, 0, []), (5, 0, []), (6, 0, []), (7, 0, []), (8, 0, []), (9, 0, []), (10, 0, []), (11, 0, []), (12, 0, []), (13, 0, []), (14, 0, [])])]
@[reducible] def pk47 : List (Nat × Plan) := []
@[reducible] def pk106 : List (Nat × Plan) := []
/-- A collection's cells: the k-th one, enabled or not, what it was told lies in row r, its waiting ones in the set S. -/
@[reducible] def lpC (k : Nat) (on : Bool) (r S : Nat) : List Value := [.int .i64 ((20 + 16 * k : Nat) : Int), .bool on, .int .i64 480, .int .i64 64, .int .i64 ((560 + 16 * k : Nat) : Int), .int .i64 8, .slice (some ⟨r, 0, none⟩) (20 + 16 * k) (20 + 16 * k), .pointer (some ⟨S, 0, none⟩)]
def idxV (k : Nat) (n : Int) : Bool := decide (n ≥ 8192) && decide (IntKind.i64.wrap (n - 8192) < ((20 + 16 * k : Nat) : Int))
theorem index45 (β : Base) (p k : Nat) (on : Bool) (r S : Nat) (n : Int) : Tri Tryz.prog β 45 [.pointer (some ⟨p, 0, none⟩), .int .i64 n] [pt p (lpC k on r S)]
    (fun v L => v = .tuple #[.int .i64 (IntKind.i64.wrap (n - 8192)), .bool (idxV k n)] ∧ L = [pt p (lpC k on r S)]) := by
  refine Tri.intro tt_ok Tryz.func45 rfl rfl Tryz.ntmps45 rfl fun F => ?_
  unfold idxV
  (refine G tt_ok pk45 ?_; repeat (refine G1 tt_ok pk45 ?_; intro _))
  by_cases h : n ≥ 8192
  · rw [decide_eq_true h]
    (refine G tt_ok pk45 ?_; repeat (refine G1 tt_ok pk45 ?_; intro _))
    exact CW.ret (fin_ret rfl pk_ ⟨by simp; rfl, rfl⟩)
  · rw [decide_eq_false h]
    (refine G tt_ok pk45 ?_; repeat (refine G1 tt_ok pk45 ?_; intro _))
    exact CW.ret (fin_ret rfl pk_ ⟨rfl, rfl⟩)
theorem acc_p {n : Nat} (hn : n = 4096) {k i : Nat} (hk : k < 3) (hi : i < 64) : accV n ((560 + 16 * k : Nat) : Int) 8 ((i / 8 : Nat) : Int) 1 = 0 := by
  subst hn
  have h1 : holdsV 4096 ((560 + 16 * k : Nat) : Int) 8 = true := by
    unfold holdsV
    simp
    omega
  unfold accV mayV
  rw [if_pos h1, if_neg (by simp), if_neg (by simp), wrap_id (by omega) (by omega), if_neg (by omega)]
/-- A bit of a collection's room for the waiting. -/
def byP (B : List Nat) (k i : Nat) : Nat := rdN B (560 + 16 * k + i / 8) 1
def bitP (B : List Nat) (k i : Nat) : Bool := byP B k i / 2 ^ (i % 8) % 2 == 1
theorem byP_lt {B : List Nat} (hb : byOk B) (k i : Nat) : byP B k i < 256 := by exact rdN_lt hb (560 + 16 * k + i / 8) 1
theorem rd_p {B : List Nat} (hB : B.length = 4096) {k i : Nat} (hk : k < 3) (hi : i < 64) : memRd B ((560 + 16 * k : Nat) : Int) 8 ((i / 8 : Nat) : Int) 1 = (byP B k i, 0) := by
  unfold memRd
  rw [if_pos (acc_p hB hk hi)]
  rfl
theorem rd_p1 {B : List Nat} (hB : B.length = 4096) {k i : Nat} (hk : k < 3) (hi : i < 64) : (memRd B ((560 + 16 * k : Nat) : Int) 8 ((i / 8 : Nat) : Int) 1).1 = byP B k i := by rw [rd_p hB hk hi]
theorem rd_p2 {B : List Nat} (hB : B.length = 4096) {k i : Nat} (hk : k < 3) (hi : i < 64) : (memRd B ((560 + 16 * k : Nat) : Int) 8 ((i / 8 : Nat) : Int) 1).2 = 0 := by rw [rd_p hB hk hi]
theorem and1u {a : Nat} (ha : a < 2 ^ 64) : IntKind.u64.wrap ((BitVec.ofInt IntKind.u64.bits (a : Int) &&& BitVec.ofInt IntKind.u64.bits 1).toNat : Int) = ((a % 2 : Nat) : Int) := and_mod (k := 1) ha (by omega)
theorem beq1 (x : Nat) : ((x : Int) == 1) = (x == 1) := by rw [Bool.eq_iff_iff]; simp; omega
theorem stored47 (β : Base) (p m g : Nat) {k : Nat} (hk : k < 3) (on : Bool) (r S : Nat) (B : List Nat) (hB : B.length = 4096) (hb : byOk B) {i : Nat} (hi : i < 64) : Tri Tryz.prog β 47 [.pointer (some ⟨p, 0, none⟩), .pointer (some ⟨m, 0, none⟩), .int .i64 i] (pt p (lpC k on r S) :: memA m g B)
    (fun v L => v = .bool (bitP B k i) ∧ L = pt p (lpC k on r S) :: memA m g B) := by
  refine Tri.intro tt_ok Tryz.func47 rfl rfl Tryz.ntmps47 rfl fun F => ?_
  have h256 := byP_lt hb k i
  (refine G tt_ok pk47 ?_; repeat (refine G1 tt_ok pk47 ?_; intro _))
  rw [show IntKind.i64.wrap ((i : Int).tdiv 8) = ((i / 8 : Nat) : Int) by rw [Int.tdiv_eq_ediv_of_nonneg (by omega), wrap_id (by omega) (by omega)]; omega]
  refine ke rfl rfl (read91 β m g B (by omega) hb ((560 + 16 * k : Nat) : Int) 8 ((i / 8 : Nat) : Int) 1) ?_
  rw [rd_p1 hB hk hi, rd_p2 hB hk hi]
  (refine G tt_ok pk47 ?_; repeat (refine G1 tt_ok pk47 ?_; intro _))
  rw [show (i : Int).tmod 8 = ((i % 8 : Nat) : Int) by rw [Int.tmod_eq_emod_of_nonneg (by omega)]; omega]
  (refine G tt_ok pk47 ?_; repeat (refine G1 tt_ok pk47 ?_; intro _))
  rw [fdivN (byP B k i) (i % 8) (by omega), and1u (Nat.lt_of_le_of_lt (Nat.div_le_self _ _) (by omega)), beq1]
  exact CW.ret (fin_ret rfl pk_ ⟨rfl, rfl⟩)
/-- a without the bits of b. -/
def andNotN (a b : Nat) : Nat := (BitVec.ofNat 64 a &&& ~~~BitVec.ofNat 64 b).toNat
theorem andNotN_lt (a b : Nat) : andNotN a b < 2 ^ 64 := BitVec.isLt _
theorem andNotN_bit {a b j : Nat} (hj : j < 64) : (andNotN a b).testBit j = (a.testBit j && !b.testBit j) := by
  unfold andNotN
  rw [← BitVec.getLsbD, BitVec.getLsbD_and, BitVec.getLsbD_not, BitVec.getLsbD_ofNat, BitVec.getLsbD_ofNat]
  simp [hj]
theorem oN' (a : Nat) : BitVec.ofInt 64 (a : Int) = BitVec.ofNat 64 a := by
  apply BitVec.eq_of_toNat_eq
  rw [BitVec.toNat_ofInt, BitVec.toNat_ofNat]
  have : (2 : Nat) ^ 64 = 18446744073709551616 := rfl
  omega
theorem andNot64 (a b : Nat) : IntKind.u64.wrap ((BitVec.ofInt IntKind.u64.bits (a : Int) &&& ~~~BitVec.ofInt IntKind.u64.bits (b : Int)).toNat : Int) = ((andNotN a b : Nat) : Int) := by
  show IntKind.u64.wrap ((BitVec.ofInt 64 (a : Int) &&& ~~~BitVec.ofInt 64 (b : Int)).toNat : Int) = _
  rw [oN', oN']
  exact wN (andNotN_lt a b)
theorem one_shl {r : Nat} (h : r < 64) : IntKind.u64.wrap (1 * 2 ^ min r IntKind.u64.bits) = ((2 ^ r : Nat) : Int) := by
  rw [show min r IntKind.u64.bits = r from Nat.min_eq_left (by show r ≤ 64; omega), Int.one_mul, show (2 : Int) ^ r = ((2 ^ r : Nat) : Int) by simp]
  exact wN (Nat.pow_lt_pow_right (by omega) h)
def bitN (y r : Nat) (v : Bool) : Nat := if v then andNotN y (2 ^ r) ||| 2 ^ r else andNotN y (2 ^ r)
theorem bitN_lt (y : Nat) {r : Nat} (hr : r < 64) (v : Bool) : bitN y r v < 2 ^ 64 := by
  unfold bitN
  split
  · exact Nat.or_lt_two_pow (andNotN_lt _ _) (Nat.pow_lt_pow_right (by omega) hr)
  · exact andNotN_lt _ _
theorem bitN_bit (y : Nat) {r j : Nat} (hr : r < 64) (hj : j < 64) (v : Bool) : (bitN y r v).testBit j = if j = r then v else y.testBit j := by
  unfold bitN
  by_cases h : j = r
  · subst h
    cases v <;> simp [andNotN_bit hj]
  · have h' : r ≠ j := fun e => h e.symm
    cases v <;> simp [andNotN_bit hj, h, Nat.testBit_two_pow, h']
/-- A bit of a collection's room, written. -/
def stP (B : List Nat) (k i : Nat) (v : Bool) : List Nat := wrN B (560 + 16 * k + i / 8) 1 (bitN (byP B k i) (i % 8) v)
theorem stP_len {B : List Nat} (hB : B.length = 4096) {k i : Nat} (hk : k < 3) (hi : i < 64) (v : Bool) : (stP B k i v).length = 4096 := by
  unfold stP
  rw [wrN_len _ (by omega), hB]
theorem stP_ok {B : List Nat} (hb : byOk B) (k i : Nat) (v : Bool) : byOk (stP B k i v) := wrN_ok _ _ _ hb
theorem wr_p {B : List Nat} (hB : B.length = 4096) {k i : Nat} (hk : k < 3) (hi : i < 64) (x : Nat) : memWr B ((560 + 16 * k : Nat) : Int) 8 ((i / 8 : Nat) : Int) 1 x = (wrN B (560 + 16 * k + i / 8) 1 x, 0) := by
  unfold memWr
  rw [if_pos (acc_p hB hk hi)]
  rfl
set_option maxHeartbeats 4000000 in
theorem store106 (β : Base) (p m g : Nat) {k : Nat} (hk : k < 3) (on : Bool) (r S : Nat) (B : List Nat) (hB : B.length = 4096) (hb : byOk B) {i : Nat} (hi : i < 64) (v : Bool) : Tri Tryz.prog β 106 [.pointer (some ⟨p, 0, none⟩), .pointer (some ⟨m, 0, none⟩), .int .i64 i, .bool v] (pt p (lpC k on r S) :: memA m g B)
    (fun u L => u = .tuple #[] ∧ L = pt p (lpC k on r S) :: memA m g (stP B k i v)) := by
  refine Tri.intro tt_ok Tryz.func106 rfl rfl Tryz.ntmps106 rfl fun F => ?_
  have h256 := byP_lt hb k i
  have h8 : 2 ^ (i % 8) < 2 ^ 64 := Nat.pow_lt_pow_right (by omega) (by omega)
  have hq : IntKind.i64.wrap ((i : Int).tdiv 8) = ((i / 8 : Nat) : Int) := by rw [Int.tdiv_eq_ediv_of_nonneg (by omega), wrap_id (by omega) (by omega)]; omega
  have hr : (i : Int).tmod 8 = ((i % 8 : Nat) : Int) := by rw [Int.tmod_eq_emod_of_nonneg (by omega)]; omega
  (refine G tt_ok pk106 ?_; repeat (refine G1 tt_ok pk106 ?_; intro _))
  rw [hq]
  refine ke rfl rfl (read91 β m g B (by omega) hb ((560 + 16 * k : Nat) : Int) 8 ((i / 8 : Nat) : Int) 1) ?_
  rw [rd_p1 hB hk hi, rd_p2 hB hk hi]
  (refine G tt_ok pk106 ?_; repeat (refine G1 tt_ok pk106 ?_; intro _))
  rw [hr]
  (refine G tt_ok pk106 ?_; repeat (refine G1 tt_ok pk106 ?_; intro _))
  rw [one_shl (show i % 8 < 64 by omega), andNot64]
  cases v with
  | false =>
    rw [show andNotN (byP B k i) (2 ^ (i % 8)) = bitN (byP B k i) (i % 8) false from rfl]
    (refine G tt_ok pk106 ?_; repeat (refine G1 tt_ok pk106 ?_; intro _))
    rw [hq]
    refine ke rfl rfl (write68 β m g B (by omega) ((560 + 16 * k : Nat) : Int) 8 ((i / 8 : Nat) : Int) 1 (bitN (byP B k i) (i % 8) false) (bitN_lt _ (by omega) _)) ?_
    rw [wr_p hB hk hi]
    (refine G tt_ok pk106 ?_; repeat (refine G1 tt_ok pk106 ?_; intro _))
    exact fin_normal (vs := []) rfl pk_ ⟨rfl, rfl⟩
  | true =>
    (refine G tt_ok pk106 ?_; repeat (refine G1 tt_ok pk106 ?_; intro _))
    rw [hr]
    (refine G tt_ok pk106 ?_; repeat (refine G1 tt_ok pk106 ?_; intro _))
    rw [one_shl (show i % 8 < 64 by omega), or64 (andNotN_lt _ _) h8, hq, show (andNotN (byP B k i) (2 ^ (i % 8)) ||| 2 ^ (i % 8)) = bitN (byP B k i) (i % 8) true from rfl]
    (refine G tt_ok pk106 ?_; repeat (refine G1 tt_ok pk106 ?_; intro _))
    refine ke rfl rfl (write68 β m g B (by omega) ((560 + 16 * k : Nat) : Int) 8 ((i / 8 : Nat) : Int) 1 (bitN (byP B k i) (i % 8) true) (bitN_lt _ (by omega) _)) ?_
    rw [wr_p hB hk hi]
    (refine G tt_ok pk106 ?_; repeat (refine G1 tt_ok pk106 ?_; intro _))
    exact fin_normal (vs := []) rfl pk_ ⟨rfl, rfl⟩
end Go.Proofs.YthhfoppaaehepaaGreatDoor.Sl
namespace Go.Proofs.YthhfoppaaehepaaGreatDoor.Sl
open Go Go.RowKit Go.Proofs
set_option linter.unusedVariables false
set_option linter.unusedSimpArgs false
attribute [local irreducible] CW Tri OW
set_option maxRecDepth 10000
@[reducible] def pk46 : List (Nat × Plan) := []
@[reducible] def pk127 : List (Nat × Plan) := []
/-- A set in row S: its words U (one at most). -/
def rowO (q : Option Addr) (c : Nat) : List Nat → Atom
  | [] => own 80 1 (.slice q 0 c) 0 []
  | y :: r => rowA q (r.length + 1) ((y :: r).flatMap wC)
def setL (S : Nat) (q : Option Addr) (c : Nat) (U : List Nat) : List Atom := [pt S [.slice q U.length c], rowO q c U]
def hasS (U : List Nat) (i : Nat) : Bool := match U with
  | [] => false
  | y :: _ => y / 2 ^ i % 2 == 1
def setOk (U : List Nat) : Prop := U.length ≤ 1 ∧ ∀ y ∈ U, y < 2 ^ 64
theorem sh_i {i : Nat} (hi : i < 64) : i % ((2 : Int) ^ IntKind.u64.bits).natAbs % 64 = i := by
  rw [show ((2 : Int) ^ IntKind.u64.bits).natAbs = 18446744073709551616 from rfl, Nat.mod_eq_of_lt (show i < 18446744073709551616 by omega), Nat.mod_eq_of_lt hi]
set_option maxHeartbeats 4000000 in
theorem has46 (β : Base) (S : Nat) (q : Option Addr) (c : Nat) {U : List Nat} (hU : setOk U) {i : Nat} (hi : i < 64) : Tri Tryz.prog β 46 [.pointer (some ⟨S, 0, none⟩), .int .i64 i] (setL S q c U) (fun v L => v = .bool (hasS U i) ∧ L = setL S q c U) := by
  refine Tri.intro tt_ok Tryz.func46 rfl rfl Tryz.ntmps46 rfl fun F => ?_
  unfold setL
  (refine G tt_ok pk46 ?_; repeat (refine G1 tt_ok pk46 ?_; intro _))
  rw [decide_eq_true (show (i : Int) ≥ 0 by omega)]
  match U, hU with
  | [], _ =>
    (refine G tt_ok pk46 ?_; repeat (refine G1 tt_ok pk46 ?_; intro _))
    exact CW.ret (fin_ret rfl pk_ ⟨rfl, rfl⟩)
  | [y], hU =>
    have hy : y < 2 ^ 64 := hU.2 y (by simp)
    unfold rowO
    (refine G tt_ok pk46 ?_; repeat (refine G1 tt_ok pk46 ?_; intro _))
    rw [show IntKind.i64.wrap (64 * (([y] : List Nat).length : Int)) = 64 from rfl, decide_eq_true (show (i : Int) < 64 by omega)]
    (refine G tt_ok pk46 ?_; repeat (refine G1 tt_ok pk46 ?_; intro _))
    rw [show IntKind.i64.wrap ((i : Int).tdiv 64) = ((0 : Nat) : Int) by rw [Int.tdiv_eq_ediv_of_nonneg (by omega), wrap_id (by omega) (by omega)]; omega]
    (refine SQ.idxR tt_ok rfl rfl (by repeat (first | exact .h | apply AtR.t)) (0) (rfl) (by show 0 < 1; omega) rfl ?_)
    (refine G tt_ok pk46 ?_; repeat (refine G1 tt_ok pk46 ?_; intro _))
    (refine SQ.ldR tt_ok rfl rfl (by repeat (first | exact .h | apply AtR.t)) (by show 0 < 1; omega) (fun X => rfl) ?_)
    (refine G tt_ok pk46 ?_; repeat (refine G1 tt_ok pk46 ?_; intro _))
    rw [sh_i hi]
    rw [fdivN y i (by omega), and1u (Nat.lt_of_le_of_lt (Nat.div_le_self _ _) hy), beq1]
    exact CW.ret (fin_ret rfl pk_ ⟨rfl, rfl⟩)
theorem w_wr1 (y x : Nat) (X : List Value) : wrv ti80 (([y] : List Nat).flatMap wC ++ X) (0 + 0 * ti80.size) (.int .u64 (x : Int)) = some (([x] : List Nat).flatMap wC ++ X) := rfl
def putS (U : List Nat) (i : Nat) : List Nat := if hasS U i then U else match U with
  | [] => [2 ^ i]
  | y :: r => (y ||| 2 ^ i) :: r
def takeS (U : List Nat) (i : Nat) : List Nat := if hasS U i then (match U with
  | [] => []
  | y :: r => andNotN y (2 ^ i) :: r) else U
set_option maxHeartbeats 4000000 in
theorem take127 (β : Base) (S : Nat) (q : Option Addr) (c : Nat) {U : List Nat} (hU : setOk U) {i : Nat} (hi : i < 64) : Tri Tryz.prog β 127 [.pointer (some ⟨S, 0, none⟩), .int .i64 i] (setL S q c U) (fun v L => v = .bool (hasS U i) ∧ L = setL S q c (takeS U i)) := by
  refine Tri.intro tt_ok Tryz.func127 rfl rfl Tryz.ntmps127 rfl fun F => ?_
  (refine G tt_ok pk127 ?_; repeat (refine G1 tt_ok pk127 ?_; intro _))
  refine ke rfl rfl (has46 β S q c hU hi) ?_
  unfold takeS
  cases h : hasS U i with
  | false =>
    (refine G tt_ok pk127 ?_; repeat (refine G1 tt_ok pk127 ?_; intro _))
    exact CW.ret (fin_ret rfl pk_ ⟨rfl, rfl⟩)
  | true =>
    match U, hU, h with
    | [y], hU, h =>
      unfold setL rowO
      (refine G tt_ok pk127 ?_; repeat (refine G1 tt_ok pk127 ?_; intro _))
      rw [show IntKind.i64.wrap ((i : Int).tdiv 64) = ((0 : Nat) : Int) by rw [Int.tdiv_eq_ediv_of_nonneg (by omega), wrap_id (by omega) (by omega)]; omega]
      (refine SQ.idxR tt_ok rfl rfl (by repeat (first | exact .h | apply AtR.t)) (0) (rfl) (by show 0 < 1; omega) rfl ?_)
      (refine G tt_ok pk127 ?_; repeat (refine G1 tt_ok pk127 ?_; intro _))
      (refine SQ.ldR tt_ok rfl rfl (by repeat (first | exact .h | apply AtR.t)) (by show 0 < 1; omega) (fun X => rfl) ?_)
      (refine G tt_ok pk127 ?_; repeat (refine G1 tt_ok pk127 ?_; intro _))
      rw [sh_i hi, one_shl hi, andNot64]
      (refine SQ.idxR tt_ok rfl rfl (by repeat (first | exact .h | apply AtR.t)) (0) (rfl) (by show 0 < 1; omega) rfl ?_)
      (refine G tt_ok pk127 ?_; repeat (refine G1 tt_ok pk127 ?_; intro _))
      (refine SQ.stR tt_ok rfl rfl (by repeat (first | exact .h | apply UpR.t)) (by show 0 < 1; omega) (by rfl) (w_wr1 y (andNotN y (2 ^ i))) (by repeat (first | exact trivial | refine ⟨trivial, ?_⟩ | refine ⟨wk (by repeat (first | exact .h | exact .q | apply At.t)) (by rfl), ?_⟩)) ?_)
      (refine G tt_ok pk127 ?_; repeat (refine G1 tt_ok pk127 ?_; intro _))
      exact CW.ret (fin_ret rfl pk_ ⟨rfl, rfl⟩)
end Go.Proofs.YthhfoppaaehepaaGreatDoor.Sl
namespace Go.Proofs.YthhfoppaaehepaaGreatDoor.Sl
open Go Go.RowKit Go.Proofs
set_option linter.unusedVariables false
set_option linter.unusedSimpArgs false
attribute [local irreducible] CW Tri OW
set_option maxRecDepth 10000
@[reducible] def pk105 : List (Nat × Plan) := []
theorem putS_ok {U : List Nat} (h : setOk U) {i : Nat} (hi : i < 64) : setOk (putS U i) := by
  have h2 : 2 ^ i < 2 ^ 64 := Nat.pow_lt_pow_right (by omega) hi
  unfold putS
  split
  · exact h
  · match U, h with
    | [], _ => exact ⟨by simp, by simpa using h2⟩
    | [y], h => exact ⟨by simp, by simpa using Nat.or_lt_two_pow (h.2 y (by simp)) h2⟩
theorem takeS_ok {U : List Nat} (h : setOk U) (i : Nat) : setOk (takeS U i) := by
  unfold takeS
  split
  · match U, h with
    | [], h => exact h
    | [y], h => exact ⟨by simp, by simpa using andNotN_lt y (2 ^ i)⟩
  · exact h
theorem has_putS {U : List Nat} (h : setOk U) {i j : Nat} (hi : i < 64) (hj : j < 64) : hasS (putS U i) j = (decide (j = i) || hasS U j) := by
  have e : ∀ y, hasS [y] j = y.testBit j := fun y => by simp [hasS, Nat.testBit_eq_decide_div_mod_eq]; rfl
  unfold putS
  split
  · rename_i h1
    by_cases hji : j = i
    · subst hji; simp [h1]
    · simp [hji]
  · match U, h with
    | [], _ =>
      simp only
      rw [e, Nat.testBit_two_pow]
      simp [hasS, eq_comm]
    | [y], _ =>
      simp only
      rw [e, e, Nat.testBit_or, Nat.testBit_two_pow, Bool.or_comm]
      simp [eq_comm]
theorem has_takeS {U : List Nat} (h : setOk U) {i j : Nat} (hi : i < 64) (hj : j < 64) : hasS (takeS U i) j = (!decide (j = i) && hasS U j) := by
  have e : ∀ y, hasS [y] j = y.testBit j := fun y => by simp [hasS, Nat.testBit_eq_decide_div_mod_eq]; rfl
  unfold takeS
  split
  · match U, h with
    | [], _ => simp [hasS]
    | [y], _ =>
      simp only
      rw [e, e, andNotN_bit hj, Nat.testBit_two_pow, Bool.and_comm]
      simp [eq_comm]
  · rename_i h1
    by_cases hji : j = i
    · subst hji; simpa using h1
    · simp [hji]
set_option maxHeartbeats 4000000 in
theorem put105 (β : Base) (S : Nat) (q : Option Addr) (c : Nat) {U : List Nat} (hU : setOk U) {i : Nat} (hi : i < 64) : Tri Tryz.prog β 105 [.pointer (some ⟨S, 0, none⟩), .int .i64 i] (setL S q c U) (fun v L => ∃ q' c', v = .bool (!hasS U i) ∧ L = setL S q' c' (putS U i)) := by
  refine Tri.intro tt_ok Tryz.func105 rfl rfl Tryz.ntmps105 rfl fun F => ?_
  have hq : IntKind.i64.wrap ((i : Int).tdiv 64) = ((0 : Nat) : Int) := by rw [Int.tdiv_eq_ediv_of_nonneg (by omega), wrap_id (by omega) (by omega)]; omega
  (refine G tt_ok pk105 ?_; repeat (refine G1 tt_ok pk105 ?_; intro _))
  rw [decide_eq_false (show ¬ (i : Int) < 0 by omega)]
  (refine G tt_ok pk105 ?_; repeat (refine G1 tt_ok pk105 ?_; intro _))
  rw [decide_eq_false (show ¬ (i : Int) ≥ 16384 by omega)]
  (refine G tt_ok pk105 ?_; repeat (refine G1 tt_ok pk105 ?_; intro _))
  refine ke rfl rfl (has46 β S q c hU hi) ?_
  unfold putS
  cases h : hasS U i with
  | true =>
    (refine G tt_ok pk105 ?_; repeat (refine G1 tt_ok pk105 ?_; intro _))
    exact CW.ret (fin_ret rfl pk_ ⟨_, _, rfl, rfl⟩)
  | false =>
    (refine G tt_ok pk105 ?_; repeat (refine G1 tt_ok pk105 ?_; intro _))
    refine CW.loop (α := List Nat × Option Addr × Nat) (fun x => x.1 = U ∨ (U = [] ∧ x.1 = [0])) (fun x => [(0, .pointer (some ⟨S, 0, none⟩)), (1, .int .i64 i)]) (fun x => setL S x.2.1 x.2.2 x.1) (fun x => 1 - x.1.length) (U, q, c) (.inl rfl) ⟨rfl, rfl, trivial⟩ pk_ ?_
    rintro ⟨V, q1, c1⟩ hV
    simp only at hV ⊢
    unfold setL
    (refine G tt_ok pk105 ?_; repeat (refine G1 tt_ok pk105 ?_; intro _))
    rw [hq]
    match V, hV with
    | [], hV =>
      have hU0 : U = [] := by rcases hV with h | h; exact h.symm; cases h.2
      unfold rowO
      rw [decide_eq_true (show ((([] : List Nat).length : Nat) : Int) ≤ ((0 : Nat) : Int) by simp)]
      (refine G tt_ok pk105 ?_; repeat (refine G1 tt_ok pk105 ?_; intro _))
      (refine SQ.built tt_ok rfl rfl (fun _ => w_ ?_))
      (refine G tt_ok pk105 ?_; repeat (refine G1 tt_ok pk105 ?_; intro _))
      rw [show ([] : List Nat).length = 0 from rfl]
      (refine SQ.appA tt_ok rfl rfl (by repeat (first | exact Rm.h | apply Rm.t)) (by repeat (first | exact .h | exact .q | apply At.t)) ([.int .u64 0]) rfl rfl rfl (scal_eq rfl) (by omega) (by show 1 * 8 ≤ _; omega) (fun q2 c2 => w_ ?_))
      (refine G tt_ok pk105 ?_; repeat (refine G1 tt_ok pk105 ?_; intro _))
      refine ⟨([0], q2, c2), .inr ⟨hU0, rfl⟩, by simp, ⟨rfl, rfl, trivial⟩, ?_⟩
      exact pk_
    | [y], hV =>
      unfold rowO
      rw [decide_eq_false (show ¬ ((([y] : List Nat).length : Nat) : Int) ≤ ((0 : Nat) : Int) by simp)]
      (refine G tt_ok pk105 ?_; repeat (refine G1 tt_ok pk105 ?_; intro _))
      refine CW.exit ?_
      (refine G tt_ok pk105 ?_; repeat (refine G1 tt_ok pk105 ?_; intro _))
      have hy : y < 2 ^ 64 := by
        rcases hV with h | h
        · exact hU.2 y (by rw [← h]; simp)
        · have := h.2; simp only [List.cons.injEq, and_true] at this; omega
      rw [hq]
      (refine SQ.idxR tt_ok rfl rfl (by repeat (first | exact .h | apply AtR.t)) (0) (rfl) (by show 0 < 1; omega) rfl ?_)
      (refine G tt_ok pk105 ?_; repeat (refine G1 tt_ok pk105 ?_; intro _))
      (refine SQ.ldR tt_ok rfl rfl (by repeat (first | exact .h | apply AtR.t)) (by show 0 < 1; omega) (fun X => rfl) ?_)
      (refine G tt_ok pk105 ?_; repeat (refine G1 tt_ok pk105 ?_; intro _))
      rw [sh_i hi, one_shl hi, or64 hy (Nat.pow_lt_pow_right (by omega) hi)]
      (refine SQ.idxR tt_ok rfl rfl (by repeat (first | exact .h | apply AtR.t)) (0) (rfl) (by show 0 < 1; omega) rfl ?_)
      (refine G tt_ok pk105 ?_; repeat (refine G1 tt_ok pk105 ?_; intro _))
      generalize hz : y ||| 2 ^ i = z
      (refine SQ.stR tt_ok rfl rfl (by repeat (first | exact .h | apply UpR.t)) (by show 0 < 1; omega) (by rfl) (w_wr1 y z) (by repeat (first | exact trivial | refine ⟨trivial, ?_⟩ | refine ⟨wk (by repeat (first | exact .h | exact .q | apply At.t)) (by rfl), ?_⟩)) ?_)
      (refine G tt_ok pk105 ?_; repeat (refine G1 tt_ok pk105 ?_; intro _))
      refine CW.ret (fin_ret rfl (A := setL S q1 c1 [z]) (by unfold setL rowO; exact pk_) ⟨q1, c1, rfl, ?_⟩)
      rcases hV with h | ⟨h, h0⟩
      · subst h; simp [hz]; rfl
      · subst h
        simp only [List.cons.injEq, and_true] at h0
        subst h0
        simp [← hz]
        rfl
    | y :: z :: r, hV =>
      exfalso
      rcases hV with h | h
      · have := hU.1; rw [← h] at this; simp at this
      · cases h.2
end Go.Proofs.YthhfoppaaehepaaGreatDoor.Sl
namespace Go.Proofs.YthhfoppaaehepaaGreatDoor.Sl
open Go Go.RowKit Go.Proofs
set_option linter.unusedVariables false
set_option linter.unusedSimpArgs false
attribute [local irreducible] CW Tri OW
set_option maxRecDepth 10000
@[reducible] def pk104 : List (Nat × Plan) := []
@[reducible] def pk17 : List (Nat × Plan) := []
theorem of104 (β : Base) : Tri Tryz.prog β 104 [.slice none 0 0] [] (fun v L => ∃ S, v = .pointer (some ⟨S, 0, none⟩) ∧ L = setL S none 0 []) := by
  refine Tri.intro tt_ok Tryz.func104 rfl rfl Tryz.ntmps104 rfl fun F => ?_
  (refine G tt_ok pk104 ?_; repeat (refine G1 tt_ok pk104 ?_; intro _))
  rename_i S
  refine CW.loop (α := Nat) (fun k => k = 0) (fun k => [(10, .int .i64 0), (9, .int .i64 0), (3, .pointer (some ⟨S, 0, none⟩))]) (fun k => [pt S [.slice none 0 0]]) (fun k => 0) 0 rfl ⟨rfl, rfl, rfl, trivial⟩ pk_ ?_
  intro k hk
  (refine G tt_ok pk104 ?_; repeat (refine G1 tt_ok pk104 ?_; intro _))
  refine CW.exit ?_
  (refine G tt_ok pk104 ?_; repeat (refine G1 tt_ok pk104 ?_; intro _))
  refine CW.ret (fin_ret rfl (A := setL S none 0 []) ?_ ⟨S, rfl, rfl⟩)
  unfold setL rowO
  exact (own_nil 80 1).trans pk_
/-- Whether a number waits. -/
def hasL (k : Nat) (on : Bool) (U B : List Nat) (n : Int) : Bool := idxV k n && (if on then hasS U (n - 8192).toNat else bitP B k (n - 8192).toNat)
theorem idx_in {k : Nat} {n : Int} (hk : k < 3) (hn : n ≤ 9223372036854775807) (h : idxV k n = true) : ∃ i : Nat, i < 20 + 16 * k ∧ i < 64 ∧ n = ((8192 + i : Nat) : Int) ∧ IntKind.i64.wrap (n - 8192) = (i : Int) ∧ (n - 8192).toNat = i := by
  unfold idxV at h
  simp only [Bool.and_eq_true, decide_eq_true_eq] at h
  rw [wrap_id (by omega) (by omega)] at h
  exact ⟨(n - 8192).toNat, by omega, by omega, by omega, by rw [wrap_id (by omega) (by omega)]; omega, rfl⟩
/-- A collection whose waiting ones are U, and the memory. -/
def colA (p r S : Nat) (q : Option Addr) (c k : Nat) (on : Bool) (U : List Nat) : List Atom := pt p (lpC k on r S) :: setL S q c U
set_option maxHeartbeats 4000000 in
theorem has17 (β : Base) (p r S m g : Nat) (q : Option Addr) (c : Nat) {k : Nat} (hk : k < 3) (on : Bool) {U : List Nat} (hU : setOk U) (B : List Nat) (hB : B.length = 4096) (hb : byOk B) {n : Int} (hn : n ≤ 9223372036854775807) :
    Tri Tryz.prog β 17 [.pointer (some ⟨p, 0, none⟩), .pointer (some ⟨m, 0, none⟩), .int .i64 n] (colA p r S q c k on U ++ memA m g B) (fun v L => v = .bool (hasL k on U B n) ∧ L = colA p r S q c k on U ++ memA m g B) := by
  refine Tri.intro tt_ok Tryz.func17 rfl rfl Tryz.ntmps17 rfl fun F => ?_
  unfold hasL colA
  (refine G tt_ok pk17 ?_; repeat (refine G1 tt_ok pk17 ?_; intro _))
  refine ke rfl rfl (index45 β p k on r S n) ?_
  cases h : idxV k n with
  | false =>
    (refine G tt_ok pk17 ?_; repeat (refine G1 tt_ok pk17 ?_; intro _))
    exact CW.ret (fin_ret rfl pk_ ⟨rfl, rfl⟩)
  | true =>
    obtain ⟨i, hi, hi64, e1, e2, e3⟩ := idx_in hk hn h
    rw [e2, e3]
    cases on with
    | true =>
      (refine G tt_ok pk17 ?_; repeat (refine G1 tt_ok pk17 ?_; intro _))
      refine ke rfl rfl (has46 β S q c hU hi64) ?_
      cases hasS U i <;> (
        (refine G tt_ok pk17 ?_; repeat (refine G1 tt_ok pk17 ?_; intro _))
        exact CW.ret (fin_ret rfl pk_ ⟨rfl, rfl⟩))
    | false =>
      (refine G tt_ok pk17 ?_; repeat (refine G1 tt_ok pk17 ?_; intro _))
      refine ke rfl rfl (stored47 β p m g hk false r S B hB hb hi64) ?_
      (refine G tt_ok pk17 ?_; repeat (refine G1 tt_ok pk17 ?_; intro _))
      exact CW.ret (fin_ret rfl pk_ ⟨by simp; rfl, rfl⟩)
end Go.Proofs.YthhfoppaaehepaaGreatDoor.Sl
namespace Go.Proofs.YthhfoppaaehepaaGreatDoor.Sl
open Go Go.RowKit Go.Proofs
set_option linter.unusedVariables false
set_option linter.unusedSimpArgs false
attribute [local irreducible] CW Tri OW
set_option maxRecDepth 10000
@[reducible] def pk89 : List (Nat × Plan) := []
@[reducible] def pk86 : List (Nat × Plan) := []
/-- A number begins or ends to wait: the set, the memory. -/
def setLV (k : Nat) (on : Bool) (U B : List Nat) (n : Int) (v : Bool) : List Nat × List Nat := if idxV k n then (if on then (if v then putS U (n - 8192).toNat else takeS U (n - 8192).toNat, B) else (U, stP B k (n - 8192).toNat v)) else (U, B)
theorem setLV_ok {k : Nat} (hk : k < 3) (on : Bool) {U B : List Nat} (hU : setOk U) (hB : B.length = 4096) (hb : byOk B) {n : Int} (hn : n ≤ 9223372036854775807) (v : Bool) : setOk (setLV k on U B n v).1 ∧ (setLV k on U B n v).2.length = 4096 ∧ byOk (setLV k on U B n v).2 := by
  unfold setLV
  split
  · rename_i h
    obtain ⟨i, hi, hi64, e1, e2, e3⟩ := idx_in hk hn h
    rw [e3]
    cases on with
    | true => cases v <;> exact ⟨by first | exact takeS_ok hU i | exact putS_ok hU hi64, hB, hb⟩
    | false => exact ⟨hU, stP_len hB hk hi64 v, stP_ok hb k i v⟩
  · exact ⟨hU, hB, hb⟩
set_option maxHeartbeats 4000000 in
theorem set89 (β : Base) (p r S m g : Nat) (q : Option Addr) (c : Nat) {k : Nat} (hk : k < 3) (on : Bool) {U : List Nat} (hU : setOk U) (B : List Nat) (hB : B.length = 4096) (hb : byOk B) {n : Int} (hn : n ≤ 9223372036854775807) (v : Bool) :
    Tri Tryz.prog β 89 [.pointer (some ⟨p, 0, none⟩), .pointer (some ⟨m, 0, none⟩), .int .i64 n, .bool v] (colA p r S q c k on U ++ memA m g B)
      (fun u L => ∃ q' c', u = .tuple #[.bool (hasL k on U B n), .int .i64 (if idxV k n then 0 else 150)] ∧ L = colA p r S q' c' k on (setLV k on U B n v).1 ++ memA m g (setLV k on U B n v).2) := by
  refine Tri.intro tt_ok Tryz.func89 rfl rfl Tryz.ntmps89 rfl fun F => ?_
  unfold setLV
  (refine G tt_ok pk89 ?_; repeat (refine G1 tt_ok pk89 ?_; intro _))
  have e0 : colA p r S q c k on U = pt p (lpC k on r S) :: setL S q c U := rfl
  rw [e0]
  refine ke rfl rfl (index45 β p k on r S n) ?_
  cases h : idxV k n with
  | false =>
    (refine G tt_ok pk89 ?_; repeat (refine G1 tt_ok pk89 ?_; intro _))
    refine CW.ret (fin_ret rfl (A := colA p r S q c k on U ++ memA m g B) (by rw [e0]; exact pk_) ⟨q, c, by simp [hasL, h]; rfl, rfl⟩)
  | true =>
    obtain ⟨i, hi, hi64, e1, e2, e3⟩ := idx_in hk hn h
    rw [e2, e3]
    (refine G tt_ok pk89 ?_; repeat (refine G1 tt_ok pk89 ?_; intro _))
    have hh := has17 β p r S m g q c hk on hU B hB hb hn
    rw [e0] at hh
    refine ke rfl rfl (hh) ?_
    cases on with
    | true =>
      (refine G tt_ok pk89 ?_; repeat (refine G1 tt_ok pk89 ?_; intro _))
      cases v with
      | true =>
        (refine G tt_ok pk89 ?_; repeat (refine G1 tt_ok pk89 ?_; intro _))
        (refine ka rfl rfl (put105 β S q c hU hi64) ?_; rintro _ _ ⟨q', c', rfl, rfl⟩; refine w_ ?_)
        (refine G tt_ok pk89 ?_; repeat (refine G1 tt_ok pk89 ?_; intro _))
        exact CW.ret (fin_ret rfl (A := colA p r S q' c' k true (putS U i) ++ memA m g B) (by unfold colA; exact pk_) ⟨q', c', rfl, rfl⟩)
      | false =>
        (refine G tt_ok pk89 ?_; repeat (refine G1 tt_ok pk89 ?_; intro _))
        refine ke rfl rfl (take127 β S q c hU hi64) ?_
        (refine G tt_ok pk89 ?_; repeat (refine G1 tt_ok pk89 ?_; intro _))
        exact CW.ret (fin_ret rfl (A := colA p r S q c k true (takeS U i) ++ memA m g B) (by unfold colA; exact pk_) ⟨q, c, rfl, rfl⟩)
    | false =>
      (refine G tt_ok pk89 ?_; repeat (refine G1 tt_ok pk89 ?_; intro _))
      refine ke rfl rfl (store106 β p m g hk false r S B hB hb hi64 v) ?_
      (refine G tt_ok pk89 ?_; repeat (refine G1 tt_ok pk89 ?_; intro _))
      exact CW.ret (fin_ret rfl (A := colA p r S q c k false U ++ memA m g (stP B k i v)) (by unfold colA; exact pk_) ⟨q, c, rfl, rfl⟩)
/-- What a collection was told of its numbers, told again. -/
def invV (k : Nat) (C B : List Nat) (n : Int) : List Nat := if idxV k n then C.set (n - 8192).toNat (rdN B (480 + (n - 8192).toNat) 1) else C
theorem acc_c {n : Nat} (hn : n = 4096) {i : Nat} (hi : i < 64) : accV n 480 64 (i : Int) 1 = 0 := by
  subst hn
  have h1 : holdsV 4096 480 64 = true := by decide
  unfold accV mayV
  rw [if_pos h1, if_neg (by simp), if_neg (by simp), wrap_id (by omega) (by omega), if_neg (by omega)]
set_option maxHeartbeats 4000000 in
theorem inv86 (β : Base) (p r S m g : Nat) {k : Nat} (hk : k < 3) (on : Bool) (C : List Nat) (hC : C.length = 20 + 16 * k) (B : List Nat) (hB : B.length = 4096) (hb : byOk B) {n : Int} (hn : n ≤ 9223372036854775807) :
    Tri Tryz.prog β 86 [.pointer (some ⟨p, 0, none⟩), .pointer (some ⟨m, 0, none⟩), .int .i64 n] (pt p (lpC k on r S) :: pt r (bys C) :: memA m g B)
      (fun u L => u = .int .i64 (if idxV k n then 0 else 150) ∧ L = pt p (lpC k on r S) :: pt r (bys (invV k C B n)) :: memA m g B) := by
  refine Tri.intro tt_ok Tryz.func86 rfl rfl Tryz.ntmps86 rfl fun F => ?_
  unfold invV
  (refine G tt_ok pk86 ?_; repeat (refine G1 tt_ok pk86 ?_; intro _))
  refine ke rfl rfl (index45 β p k on r S n) ?_
  cases h : idxV k n with
  | false =>
    (refine G tt_ok pk86 ?_; repeat (refine G1 tt_ok pk86 ?_; intro _))
    exact CW.ret (fin_ret rfl pk_ ⟨rfl, rfl⟩)
  | true =>
    obtain ⟨i, hi, hi64, e1, e2, e3⟩ := idx_in hk hn h
    rw [e2, e3]
    (refine G tt_ok pk86 ?_; repeat (refine G1 tt_ok pk86 ?_; intro _))
    have hr : memRd B 480 64 (i : Int) 1 = (rdN B (480 + i) 1, 0) := by
      unfold memRd
      rw [if_pos (acc_c hB hi64)]
      rfl
    have hx : rdN B (480 + i) 1 < 256 := rdN_lt hb _ 1
    refine ke rfl rfl (read91 β m g B (by omega) hb 480 64 (i : Int) 1) ?_
    rw [hr]
    (refine G tt_ok pk86 ?_; repeat (refine G1 tt_ok pk86 ?_; intro _))
    refine SQ.idx tt_ok rfl rfl i rfl hi (o' := 0 + i * 1) rfl ?_
    (refine G tt_ok pk86 ?_; repeat (refine G1 tt_ok pk86 ?_; intro _))
    generalize rdN B (480 + i) 1 = x at hx ⊢
    rw [show IntKind.u8.wrap (x : Int) = (x : Int) by unfold IntKind.wrap; simp [IntKind.signed, IntKind.bits]; omega]
    (refine SQ.stA tt_ok rfl rfl (by repeat (first | apply Up.h | apply Up.t)) (by rfl) (bys_wr (show i < C.length by omega) x) (by repeat (first | exact trivial | refine ⟨trivial, ?_⟩ | refine ⟨wk (by repeat (first | exact .h | exact .q | apply At.t)) (by rfl), ?_⟩)) ?_)
    (refine G tt_ok pk86 ?_; repeat (refine G1 tt_ok pk86 ?_; intro _))
    exact CW.ret (fin_ret rfl pk_ ⟨rfl, rfl⟩)
end Go.Proofs.YthhfoppaaehepaaGreatDoor.Sl
namespace Go.Proofs.YthhfoppaaehepaaGreatDoor.Sl
open Go Go.RowKit Go.Proofs
set_option linter.unusedVariables false
set_option linter.unusedSimpArgs false
attribute [local irreducible] CW Tri OW
set_option maxRecDepth 10000
@[reducible] def pk41 : List (Nat × Plan) := []
@[reducible] def pk59 : List (Nat × Plan) := []
def invK (k : Nat) (C B : List Nat) : Nat → List Nat
  | 0 => C
  | j + 1 => invV k (invK k C B j) B ((8192 + j : Nat) : Int)
theorem invK_len (k : Nat) (C B : List Nat) : ∀ j, (invK k C B j).length = C.length
  | 0 => rfl
  | j + 1 => by
    unfold invK invV
    split <;> simp [invK_len k C B j]
set_option maxHeartbeats 4000000 in
theorem invAll41 (β : Base) (p r S m g : Nat) {k : Nat} (hk : k < 3) (on : Bool) (C : List Nat) (hC : C.length = 20 + 16 * k) (B : List Nat) (hB : B.length = 4096) (hb : byOk B) :
    Tri Tryz.prog β 41 [.pointer (some ⟨p, 0, none⟩), .pointer (some ⟨m, 0, none⟩)] (pt p (lpC k on r S) :: pt r (bys C) :: memA m g B)
      (fun u L => u = .tuple #[] ∧ L = pt p (lpC k on r S) :: pt r (bys (invK k C B (20 + 16 * k))) :: memA m g B) := by
  refine Tri.intro tt_ok Tryz.func41 rfl rfl Tryz.ntmps41 rfl fun F => ?_
  (refine G tt_ok pk41 ?_; repeat (refine G1 tt_ok pk41 ?_; intro _))
  refine CW.loop (α := Nat) (fun j => j ≤ 20 + 16 * k) (fun j => [(9, .int .i64 j), (8, .int .i64 ((20 + 16 * k : Nat) : Int)), (1, .pointer (some ⟨m, 0, none⟩)), (0, .pointer (some ⟨p, 0, none⟩))])
    (fun j => pt p (lpC k on r S) :: pt r (bys (invK k C B j)) :: memA m g B) (fun j => 20 + 16 * k - j) 0 (by omega) ⟨rfl, rfl, rfl, rfl, trivial⟩ pk_ ?_
  intro j hj
  (refine G tt_ok pk41 ?_; repeat (refine G1 tt_ok pk41 ?_; intro _))
  by_cases hlt : j < 20 + 16 * k
  · rw [decide_eq_true (show (j : Int) < ((20 + 16 * k : Nat) : Int) by omega)]
    have hwr : IntKind.i64.wrap ((j : Int) + 1) = ((j + 1 : Nat) : Int) := by rw [wrap_i64]; split <;> omega
    (refine G tt_ok pk41 ?_; repeat (refine G1 tt_ok pk41 ?_; intro _))
    rw [show IntKind.i64.wrap (8192 + (j : Int)) = ((8192 + j : Nat) : Int) by rw [wrap_id (by omega) (by omega)]; omega]
    refine ke rfl rfl (inv86 β p r S m g hk on (invK k C B j) (by rw [invK_len]; exact hC) B hB hb (n := ((8192 + j : Nat) : Int)) (by omega)) ?_
    (refine G tt_ok pk41 ?_; repeat (refine G1 tt_ok pk41 ?_; intro _))
    exact ⟨j + 1, by omega, by omega, ⟨by rw [← hwr]; rfl, rfl, rfl, rfl, trivial⟩, pk_⟩
  · rw [decide_eq_false (show ¬ (j : Int) < ((20 + 16 * k : Nat) : Int) by omega)]
    (refine G tt_ok pk41 ?_; repeat (refine G1 tt_ok pk41 ?_; intro _))
    refine CW.exit ?_
    (refine G tt_ok pk41 ?_; repeat (refine G1 tt_ok pk41 ?_; intro _))
    obtain rfl : j = 20 + 16 * k := by omega
    exact fin_normal (vs := []) rfl pk_ ⟨rfl, rfl⟩
def enK (k : Nat) (U B : List Nat) : Nat → List Nat × List Nat
  | 0 => (U, B)
  | j + 1 => if bitP (enK k U B j).2 k j then (putS (enK k U B j).1 j, stP (enK k U B j).2 k j false) else enK k U B j
theorem enK_ok {k : Nat} (hk : k < 3) {U B : List Nat} (hU : setOk U) (hB : B.length = 4096) (hb : byOk B) : ∀ {j}, j ≤ 20 + 16 * k → setOk (enK k U B j).1 ∧ (enK k U B j).2.length = 4096 ∧ byOk (enK k U B j).2
  | 0, _ => ⟨hU, hB, hb⟩
  | j + 1, hj => by
    obtain ⟨h1, h2, h3⟩ := enK_ok hk hU hB hb (j := j) (by omega)
    unfold enK
    split
    · exact ⟨putS_ok h1 (by omega), stP_len h2 hk (by omega) _, stP_ok h3 _ _ _⟩
    · exact ⟨h1, h2, h3⟩
/-- A collection is enabled: what waits, what it was told, the memory. -/
def enV (k : Nat) (on : Bool) (U C B : List Nat) : List Nat × List Nat × List Nat := if on then (U, C, B) else ((enK k U B (20 + 16 * k)).1, invK k C (enK k U B (20 + 16 * k)).2 (20 + 16 * k), (enK k U B (20 + 16 * k)).2)
set_option maxHeartbeats 4000000 in
theorem enable59 (β : Base) (p r S m g : Nat) (q : Option Addr) (c : Nat) {k : Nat} (hk : k < 3) (on : Bool) {U : List Nat} (hU : setOk U) (C : List Nat) (hC : C.length = 20 + 16 * k) (B : List Nat) (hB : B.length = 4096) (hb : byOk B) :
    Tri Tryz.prog β 59 [.pointer (some ⟨p, 0, none⟩), .pointer (some ⟨m, 0, none⟩)] (colA p r S q c k on U ++ (pt r (bys C) :: memA m g B))
      (fun u L => ∃ q' c', u = .tuple #[] ∧ L = colA p r S q' c' k true (enV k on U C B).1 ++ (pt r (bys (enV k on U C B).2.1) :: memA m g (enV k on U C B).2.2)) := by
  refine Tri.intro tt_ok Tryz.func59 rfl rfl Tryz.ntmps59 rfl fun F => ?_
  have e0 : ∀ q c on U, colA p r S q c k on U = pt p (lpC k on r S) :: setL S q c U := fun _ _ _ _ => rfl
  unfold enV
  rw [e0]
  cases on with
  | true =>
    (refine G tt_ok pk59 ?_; repeat (refine G1 tt_ok pk59 ?_; intro _))
    exact CW.ret (fin_ret (vs := []) rfl (A := colA p r S q c k true U ++ (pt r (bys C) :: memA m g B)) (by rw [e0]; exact pk_) ⟨q, c, rfl, rfl⟩)
  | false =>
    (refine G tt_ok pk59 ?_; repeat (refine G1 tt_ok pk59 ?_; intro _))
    refine CW.loop (α := Nat × Option Addr × Nat) (fun x => x.1 ≤ 20 + 16 * k) (fun x => [(16, .int .i64 x.1), (15, .int .i64 ((20 + 16 * k : Nat) : Int)), (1, .pointer (some ⟨m, 0, none⟩)), (0, .pointer (some ⟨p, 0, none⟩))])
      (fun x => pt p (lpC k true r S) :: setL S x.2.1 x.2.2 (enK k U B x.1).1 ++ (pt r (bys C) :: memA m g (enK k U B x.1).2)) (fun x => 20 + 16 * k - x.1) (0, q, c) (by simp) ⟨rfl, rfl, rfl, rfl, trivial⟩ pk_ ?_
    rintro ⟨j, q1, c1⟩ hj
    simp only at hj ⊢
    obtain ⟨h1, h2, h3⟩ := enK_ok hk hU hB hb hj
    have hE : enK k U B (j + 1) = if bitP (enK k U B j).2 k j then (putS (enK k U B j).1 j, stP (enK k U B j).2 k j false) else enK k U B j := rfl
    (refine G tt_ok pk59 ?_; repeat (refine G1 tt_ok pk59 ?_; intro _))
    by_cases hlt : j < 20 + 16 * k
    · rw [decide_eq_true (show (j : Int) < ((20 + 16 * k : Nat) : Int) by omega)]
      have hwr : IntKind.i64.wrap ((j : Int) + 1) = ((j + 1 : Nat) : Int) := by rw [wrap_i64]; split <;> omega
      (refine G tt_ok pk59 ?_; repeat (refine G1 tt_ok pk59 ?_; intro _))
      refine ke rfl rfl (stored47 β p m g hk true r S (enK k U B j).2 h2 h3 (show j < 64 by omega)) ?_
      cases hbit : bitP (enK k U B j).2 k j with
      | true =>
        rw [hbit, if_pos rfl] at hE
        (refine G tt_ok pk59 ?_; repeat (refine G1 tt_ok pk59 ?_; intro _))
        (refine ka rfl rfl (put105 β S q1 c1 h1 (show j < 64 by omega)) ?_; rintro _ _ ⟨q2, c2, rfl, rfl⟩; refine w_ ?_)
        (refine G tt_ok pk59 ?_; repeat (refine G1 tt_ok pk59 ?_; intro _))
        refine ke rfl rfl (store106 β p m g hk true r S (enK k U B j).2 h2 h3 (show j < 64 by omega) false) ?_
        (refine G tt_ok pk59 ?_; repeat (refine G1 tt_ok pk59 ?_; intro _))
        exact ⟨(j + 1, q2, c2), by simp; omega, by simp; omega, ⟨by rw [← hwr]; rfl, rfl, rfl, rfl, trivial⟩, by rw [hE]; exact pk_⟩
      | false =>
        rw [hbit, if_neg (by simp)] at hE
        (refine G tt_ok pk59 ?_; repeat (refine G1 tt_ok pk59 ?_; intro _))
        exact ⟨(j + 1, q1, c1), by simp; omega, by simp; omega, ⟨by rw [← hwr]; rfl, rfl, rfl, rfl, trivial⟩, by rw [hE]; exact pk_⟩
    · rw [decide_eq_false (show ¬ (j : Int) < ((20 + 16 * k : Nat) : Int) by omega)]
      (refine G tt_ok pk59 ?_; repeat (refine G1 tt_ok pk59 ?_; intro _))
      refine CW.exit ?_
      (refine G tt_ok pk59 ?_; repeat (refine G1 tt_ok pk59 ?_; intro _))
      obtain rfl : j = 20 + 16 * k := by omega
      refine ke rfl rfl (invAll41 β p r S m g hk true C hC (enK k U B (20 + 16 * k)).2 h2 h3) ?_
      (refine G tt_ok pk59 ?_; repeat (refine G1 tt_ok pk59 ?_; intro _))
      exact fin_normal (vs := []) rfl (A := colA p r S q1 c1 k true (enK k U B (20 + 16 * k)).1 ++ (pt r (bys (invK k C (enK k U B (20 + 16 * k)).2 (20 + 16 * k))) :: memA m g (enK k U B (20 + 16 * k)).2)) (by rw [e0]; exact pk_) ⟨q1, c1, rfl, rfl⟩
end Go.Proofs.YthhfoppaaehepaaGreatDoor.Sl
namespace Go.Proofs.YthhfoppaaehepaaGreatDoor.Sl
open Go Go.RowKit Go.Proofs
set_option linter.unusedVariables false
set_option linter.unusedSimpArgs false
attribute [local irreducible] CW Tri OW
set_option maxRecDepth 10000
@[reducible] def pk83 : List (Nat × Plan) := []
@[reducible] def pk44 : List (Nat × Plan) := []
theorem tabGet_ok (B : List Nat) (a s p id : Int) : okDv (tabGet B a s p id).1 := by
  unfold tabGet
  split
  · exact devV_ok _
  · exact ⟨by simp, by simp, by simp, by simp⟩
def deviceV (B : List Nat) (p id : Int) : Dv × Int := ((tabGet B 0 64 p id).1, if (tabGet B 0 64 p id).2 = 0 ∧ (tabGet B 0 64 p id).1.1 = false then 181 else (tabGet B 0 64 p id).2)
set_option maxHeartbeats 4000000 in
theorem device83 (β : Base) (s m g : Nat) (B : List Nat) (hB : B.length = 4096) (hb : byOk B) (on st : Bool) (i j : Nat) {p : Int} (hp : p = 0 ∨ p = 32) (id : Int) : Tri Tryz.prog β 83 [.pointer (some ⟨s, 0, none⟩), .pointer (some ⟨m, 0, none⟩), .int .i64 id] (pt s (itC on st i j p) :: memA m g B)
    (fun v L => v = .tuple #[.agg #[.bool (deviceV B p id).1.1, .int .i64 (deviceV B p id).1.2.1, .int .i64 (deviceV B p id).1.2.2], .int .i64 (deviceV B p id).2] ∧ L = pt s (itC on st i j p) :: memA m g B) := by
  refine Tri.intro tt_ok Tryz.func83 rfl rfl Tryz.ntmps83 rfl fun F => ?_
  unfold deviceV
  have hh : holdsV B.length 0 64 = true := by rw [hB]; decide
  (refine G tt_ok pk83 ?_; repeat (refine G1 tt_ok pk83 ?_; intro _))
  refine ke rfl rfl (get75 β m g B (by omega) hb hp hh id) ?_
  generalize tabGet B 0 64 p id = x
  obtain ⟨⟨d0, d1, d2⟩, e⟩ := x
  simp only
  (refine G tt_ok pk83 ?_; repeat (refine G1 tt_ok pk83 ?_; intro _))
  by_cases he : e = 0
  · subst he
    (refine G tt_ok pk83 ?_; repeat (refine G1 tt_ok pk83 ?_; intro _))
    cases d0 <;> (
      (refine G tt_ok pk83 ?_; repeat (refine G1 tt_ok pk83 ?_; intro _))
      exact CW.ret (fin_cells [_, _] ⟨(by first | exact ⟨_, _, _, _, 0, rfl, rfl, rfl, rfl⟩ | exact ⟨_, _, _, _, 1, rfl, rfl, rfl, rfl⟩ | exact ⟨_, _, _, _, 2, rfl, rfl, rfl, rfl⟩ | exact ⟨_, _, _, _, 3, rfl, rfl, rfl, rfl⟩ | exact ⟨_, _, _, _, 4, rfl, rfl, rfl, rfl⟩ | exact ⟨_, _, _, _, 5, rfl, rfl, rfl, rfl⟩ | exact ⟨_, _, _, _, 6, rfl, rfl, rfl, rfl⟩ | exact ⟨_, _, _, _, 7, rfl, rfl, rfl, rfl⟩ | exact ⟨_, _, _, _, 8, rfl, rfl, rfl, rfl⟩ | exact ⟨_, _, _, _, 9, rfl, rfl, rfl, rfl⟩ | exact ⟨_, _, _, _, 10, rfl, rfl, rfl, rfl⟩ | exact ⟨_, _, _, _, 11, rfl, rfl, rfl, rfl⟩ | exact ⟨_, _, _, _, 12, rfl, rfl, rfl, rfl⟩ | exact ⟨_, _, _, _, 13, rfl, rfl, rfl, rfl⟩ | exact ⟨_, _, _, _, 14, rfl, rfl, rfl, rfl⟩ | exact ⟨_, _, _, _, 15, rfl, rfl, rfl, rfl⟩ | exact ⟨_, _, _, _, 16, rfl, rfl, rfl, rfl⟩ | exact ⟨_, _, _, _, 17, rfl, rfl, rfl, rfl⟩ | exact ⟨_, _, _, _, 18, rfl, rfl, rfl, rfl⟩ | exact ⟨_, _, _, _, 19, rfl, rfl, rfl, rfl⟩ | exact ⟨_, _, _, _, 20, rfl, rfl, rfl, rfl⟩ | exact ⟨_, _, _, _, 21, rfl, rfl, rfl, rfl⟩ | exact ⟨_, _, _, _, 22, rfl, rfl, rfl, rfl⟩ | exact ⟨_, _, _, _, 23, rfl, rfl, rfl, rfl⟩), rfl, trivial⟩ pk_ ⟨by simp; rfl, rfl⟩))
  · rw [show (e == 0) = false by simp [he], if_neg (fun h => he h.1)]
    (refine G tt_ok pk83 ?_; repeat (refine G1 tt_ok pk83 ?_; intro _))
    exact CW.ret (fin_cells [_, _] ⟨(by first | exact ⟨_, _, _, _, 0, rfl, rfl, rfl, rfl⟩ | exact ⟨_, _, _, _, 1, rfl, rfl, rfl, rfl⟩ | exact ⟨_, _, _, _, 2, rfl, rfl, rfl, rfl⟩ | exact ⟨_, _, _, _, 3, rfl, rfl, rfl, rfl⟩ | exact ⟨_, _, _, _, 4, rfl, rfl, rfl, rfl⟩ | exact ⟨_, _, _, _, 5, rfl, rfl, rfl, rfl⟩ | exact ⟨_, _, _, _, 6, rfl, rfl, rfl, rfl⟩ | exact ⟨_, _, _, _, 7, rfl, rfl, rfl, rfl⟩ | exact ⟨_, _, _, _, 8, rfl, rfl, rfl, rfl⟩ | exact ⟨_, _, _, _, 9, rfl, rfl, rfl, rfl⟩ | exact ⟨_, _, _, _, 10, rfl, rfl, rfl, rfl⟩ | exact ⟨_, _, _, _, 11, rfl, rfl, rfl, rfl⟩ | exact ⟨_, _, _, _, 12, rfl, rfl, rfl, rfl⟩ | exact ⟨_, _, _, _, 13, rfl, rfl, rfl, rfl⟩ | exact ⟨_, _, _, _, 14, rfl, rfl, rfl, rfl⟩ | exact ⟨_, _, _, _, 15, rfl, rfl, rfl, rfl⟩ | exact ⟨_, _, _, _, 16, rfl, rfl, rfl, rfl⟩ | exact ⟨_, _, _, _, 17, rfl, rfl, rfl, rfl⟩ | exact ⟨_, _, _, _, 18, rfl, rfl, rfl, rfl⟩ | exact ⟨_, _, _, _, 19, rfl, rfl, rfl, rfl⟩ | exact ⟨_, _, _, _, 20, rfl, rfl, rfl, rfl⟩ | exact ⟨_, _, _, _, 21, rfl, rfl, rfl, rfl⟩ | exact ⟨_, _, _, _, 22, rfl, rfl, rfl, rfl⟩ | exact ⟨_, _, _, _, 23, rfl, rfl, rfl, rfl⟩), rfl, trivial⟩ pk_ ⟨rfl, rfl⟩)
def targetW (B : List Nat) (c : Int) : Int × Int := ((targetV B 64 64 c).1, if (targetV B 64 64 c).2.2 = 0 ∧ (targetV B 64 64 c).2.1 = false then 183 else (targetV B 64 64 c).2.2)
set_option maxHeartbeats 4000000 in
theorem target44 (β : Base) (s m g : Nat) (B : List Nat) (hB : B.length = 4096) (hb : byOk B) (on st : Bool) (i j : Nat) (p : Int) (c : Int) : Tri Tryz.prog β 44 [.pointer (some ⟨s, 0, none⟩), .pointer (some ⟨m, 0, none⟩), .int .i64 c] (pt s (itC on st i j p) :: memA m g B)
    (fun v L => v = .tuple #[.int .i64 (targetW B c).1, .int .i64 (targetW B c).2] ∧ L = pt s (itC on st i j p) :: memA m g B) := by
  refine Tri.intro tt_ok Tryz.func44 rfl rfl Tryz.ntmps44 rfl fun F => ?_
  unfold targetW
  (refine G tt_ok pk44 ?_; repeat (refine G1 tt_ok pk44 ?_; intro _))
  refine ke rfl rfl (target85 β m g B (by omega) hb 64 64 c) ?_
  generalize targetV B 64 64 c = x
  obtain ⟨t, is, e⟩ := x
  simp only
  (refine G tt_ok pk44 ?_; repeat (refine G1 tt_ok pk44 ?_; intro _))
  by_cases he : e = 0
  · subst he
    (refine G tt_ok pk44 ?_; repeat (refine G1 tt_ok pk44 ?_; intro _))
    cases is <;> (
      (refine G tt_ok pk44 ?_; repeat (refine G1 tt_ok pk44 ?_; intro _))
      exact CW.ret (fin_ret rfl pk_ ⟨by simp; rfl, rfl⟩))
  · rw [show (e == 0) = false by simp [he], if_neg (fun h => he h.1)]
    (refine G tt_ok pk44 ?_; repeat (refine G1 tt_ok pk44 ?_; intro _))
    exact CW.ret (fin_ret rfl pk_ ⟨rfl, rfl⟩)
end Go.Proofs.YthhfoppaaehepaaGreatDoor.Sl
