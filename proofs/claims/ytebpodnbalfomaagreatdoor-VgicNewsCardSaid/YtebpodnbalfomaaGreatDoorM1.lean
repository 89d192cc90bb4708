/-
  Part 1 of the proof: contracts of the code's functions, and what is plain.
-/
import Derived.Test.YtebpodnbalfomaaGreatDoorL4
import Derived.Test.YtebpodnbalfomaaGreatDoorProg
import Derived.Test.YtebpodnbalfomaaGreatDoorL9
namespace Go.Proofs.YtebpodnbalfomaaGreatDoor.Sl
open Go Go.RowKit Go.Proofs
set_option linter.unusedVariables false
/-- The types that the texts of this seat ask. -/
def ti2 : TI := { desc := .int .i64, size := 1, bytes := 8, zero := .int .i64 0, places := [] }
def ti3 : TI := { desc := .int .i64, size := 1, bytes := 8, zero := .int .i64 0, places := [] }
def ti4 : TI := { desc := .bool, size := 1, bytes := 1, zero := .bool false, places := [] }
def ti5 : TI := { desc := .int .u8, size := 1, bytes := 1, zero := .int .u8 0, places := [] }
def ti9 : TI := { desc := .string, size := 1, bytes := 16, zero := .string ByteArray.empty, places := [] }
def ti21 : TI := { desc := .int .i32, size := 1, bytes := 4, zero := .int .i32 0, places := [] }
def ti22 : TI := { desc := .slice 81, size := 1, bytes := 24, zero := .slice none 0 0, places := [] }
def ti23 : TI := { desc := .func #[] #[4] false, size := 1, bytes := 8, zero := .nilFunc, places := [] }
def ti24 : TI := { desc := .pointer 51, size := 1, bytes := 8, zero := .pointer none, places := [] }
def ti27 : TI := { desc := .slice 34, size := 1, bytes := 24, zero := .slice none 0 0, places := [] }
def ti31 : TI := { desc := .func #[71] #[] false, size := 1, bytes := 8, zero := .nilFunc, places := [] }
def ti33 : TI := { desc := .struct #[{ name := "ID", type := 3, offset := 0, embedded := false, tag := "", pkgPath := "", byteOffset := 0 }, { name := "Priority", type := 3, offset := 1, embedded := false, tag := "", pkgPath := "", byteOffset := 8 }, { name := "Group", type := 3, offset := 2, embedded := false, tag := "", pkgPath := "", byteOffset := 16 }, { name := "Is", type := 4, offset := 3, embedded := false, tag := "", pkgPath := "", byteOffset := 24 }], size := 4, bytes := 32, zero := .agg #[.int .i64 0, .int .i64 0, .int .i64 0, .bool false], places := [(0, 1), (1, 1), (2, 1), (3, 1)] }
def ti34 : TI := { desc := .struct #[{ name := "ID", type := 3, offset := 0, embedded := false, tag := "", pkgPath := "", byteOffset := 0 }, { name := "Priority", type := 3, offset := 1, embedded := false, tag := "", pkgPath := "", byteOffset := 8 }, { name := "Group", type := 3, offset := 2, embedded := false, tag := "", pkgPath := "", byteOffset := 16 }, { name := "Is", type := 4, offset := 3, embedded := false, tag := "", pkgPath := "", byteOffset := 24 }], size := 4, bytes := 32, zero := .agg #[.int .i64 0, .int .i64 0, .int .i64 0, .bool false], places := [(0, 1), (1, 1), (2, 1), (3, 1)] }
def ti36 : TI := { desc := .func #[3] #[4] false, size := 1, bytes := 8, zero := .nilFunc, places := [] }
def ti39 : TI := { desc := .int .i64, size := 1, bytes := 8, zero := .int .i64 0, places := [] }
def ti41 : TI := { desc := .int .i64, size := 1, bytes := 8, zero := .int .i64 0, places := [] }
def ti44 : TI := { desc := .int .u64, size := 1, bytes := 8, zero := .int .u64 0, places := [] }
def ti45 : TI := { desc := .int .u64, size := 1, bytes := 8, zero := .int .u64 0, places := [] }
def ti47 : TI := { desc := .pointer 124, size := 1, bytes := 8, zero := .pointer none, places := [] }
def ti48 : TI := { desc := .slice 5, size := 1, bytes := 24, zero := .slice none 0 0, places := [] }
def ti49 : TI := { desc := .slice 113, size := 1, bytes := 24, zero := .slice none 0 0, places := [] }
def ti50 : TI := { desc := .struct #[{ name := "Dist", type := 47, offset := 0, embedded := true, tag := "", pkgPath := "", byteOffset := 0 }, { name := "config", type := 48, offset := 1, embedded := false, tag := "", pkgPath := "crier/vgic", byteOffset := 8 }, { name := "sides", type := 49, offset := 2, embedded := false, tag := "", pkgPath := "crier/vgic", byteOffset := 32 }], size := 3, bytes := 56, zero := .agg #[.pointer none, .slice none 0 0, .slice none 0 0], places := [(0, 1), (1, 1), (2, 1)] }
def ti51 : TI := { desc := .struct #[{ name := "Dist", type := 47, offset := 0, embedded := true, tag := "", pkgPath := "", byteOffset := 0 }, { name := "config", type := 48, offset := 1, embedded := false, tag := "", pkgPath := "crier/vgic", byteOffset := 8 }, { name := "sides", type := 49, offset := 2, embedded := false, tag := "", pkgPath := "crier/vgic", byteOffset := 32 }], size := 3, bytes := 56, zero := .agg #[.pointer none, .slice none 0 0, .slice none 0 0], places := [(0, 1), (1, 1), (2, 1)] }
def ti54 : TI := { desc := .slice 4, size := 1, bytes := 24, zero := .slice none 0 0, places := [] }
def ti60 : TI := { desc := .int .i64, size := 1, bytes := 8, zero := .int .i64 0, places := [] }
def ti62 : TI := { desc := .array 2 3, size := 2, bytes := 16, zero := .agg #[.int .i64 0, .int .i64 0], places := [] }
def ti63 : TI := { desc := .array 2 4, size := 2, bytes := 2, zero := .agg #[.bool false, .bool false], places := [] }
def ti64 : TI := { desc := .int .u32, size := 1, bytes := 4, zero := .int .u32 0, places := [] }
def ti65 : TI := { desc := .array 2 64, size := 2, bytes := 8, zero := .agg #[.int .u32 0, .int .u32 0], places := [] }
def ti66 : TI := { desc := .struct #[{ name := "Bits", type := 65, offset := 0, embedded := false, tag := "", pkgPath := "", byteOffset := 0 }], size := 2, bytes := 8, zero := .agg #[.int .u32 0, .int .u32 0], places := [(0, 2)] }
def ti67 : TI := { desc := .struct #[{ name := "Bits", type := 65, offset := 0, embedded := false, tag := "", pkgPath := "", byteOffset := 0 }], size := 2, bytes := 8, zero := .agg #[.int .u32 0, .int .u32 0], places := [(0, 2)] }
def ti68 : TI := { desc := .struct #[{ name := "Mask", type := 3, offset := 0, embedded := false, tag := "", pkgPath := "", byteOffset := 0 }, { name := "Point", type := 62, offset := 1, embedded := false, tag := "", pkgPath := "", byteOffset := 8 }, { name := "On", type := 63, offset := 3, embedded := false, tag := "", pkgPath := "", byteOffset := 24 }, { name := "Split", type := 4, offset := 5, embedded := false, tag := "", pkgPath := "", byteOffset := 26 }, { name := "Runs", type := 67, offset := 6, embedded := false, tag := "", pkgPath := "", byteOffset := 28 }], size := 8, bytes := 40, zero := .agg #[.int .i64 0, .int .i64 0, .int .i64 0, .bool false, .bool false, .bool false, .int .u32 0, .int .u32 0], places := [(0, 1), (1, 2), (3, 2), (5, 1), (6, 2)] }
def ti69 : TI := { desc := .struct #[{ name := "Mask", type := 3, offset := 0, embedded := false, tag := "", pkgPath := "", byteOffset := 0 }, { name := "Point", type := 62, offset := 1, embedded := false, tag := "", pkgPath := "", byteOffset := 8 }, { name := "On", type := 63, offset := 3, embedded := false, tag := "", pkgPath := "", byteOffset := 24 }, { name := "Split", type := 4, offset := 5, embedded := false, tag := "", pkgPath := "", byteOffset := 26 }, { name := "Runs", type := 67, offset := 6, embedded := false, tag := "", pkgPath := "", byteOffset := 28 }], size := 8, bytes := 40, zero := .agg #[.int .i64 0, .int .i64 0, .int .i64 0, .bool false, .bool false, .bool false, .int .u32 0, .int .u32 0], places := [(0, 1), (1, 2), (3, 2), (5, 1), (6, 2)] }
def ti71 : TI := { desc := .func #[34] #[4] false, size := 1, bytes := 8, zero := .nilFunc, places := [] }
def ti75 : TI := { desc := .int .i64, size := 1, bytes := 8, zero := .int .i64 0, places := [] }
def ti76 : TI := { desc := .struct #[{ name := "Edge", type := 4, offset := 0, embedded := false, tag := "", pkgPath := "", byteOffset := 0 }, { name := "Line", type := 4, offset := 1, embedded := false, tag := "", pkgPath := "", byteOffset := 1 }, { name := "Latch", type := 4, offset := 2, embedded := false, tag := "", pkgPath := "", byteOffset := 2 }, { name := "Active", type := 4, offset := 3, embedded := false, tag := "", pkgPath := "", byteOffset := 3 }], size := 4, bytes := 4, zero := .agg #[.bool false, .bool false, .bool false, .bool false], places := [(0, 1), (1, 1), (2, 1), (3, 1)] }
def ti77 : TI := { desc := .struct #[{ name := "Edge", type := 4, offset := 0, embedded := false, tag := "", pkgPath := "", byteOffset := 0 }, { name := "Line", type := 4, offset := 1, embedded := false, tag := "", pkgPath := "", byteOffset := 1 }, { name := "Latch", type := 4, offset := 2, embedded := false, tag := "", pkgPath := "", byteOffset := 2 }, { name := "Active", type := 4, offset := 3, embedded := false, tag := "", pkgPath := "", byteOffset := 3 }], size := 4, bytes := 4, zero := .agg #[.bool false, .bool false, .bool false, .bool false], places := [(0, 1), (1, 1), (2, 1), (3, 1)] }
def ti78 : TI := { desc := .struct #[{ name := "Do", type := 3, offset := 0, embedded := false, tag := "", pkgPath := "", byteOffset := 0 }, { name := "Off", type := 3, offset := 1, embedded := false, tag := "", pkgPath := "", byteOffset := 8 }, { name := "K", type := 3, offset := 2, embedded := false, tag := "", pkgPath := "", byteOffset := 16 }, { name := "ID", type := 3, offset := 3, embedded := false, tag := "", pkgPath := "", byteOffset := 24 }, { name := "V", type := 44, offset := 4, embedded := false, tag := "", pkgPath := "", byteOffset := 32 }, { name := "A", type := 75, offset := 5, embedded := false, tag := "", pkgPath := "", byteOffset := 40 }, { name := "S", type := 77, offset := 6, embedded := false, tag := "", pkgPath := "", byteOffset := 48 }, { name := "High", type := 4, offset := 10, embedded := false, tag := "", pkgPath := "", byteOffset := 52 }], size := 11, bytes := 56, zero := .agg #[.int .i64 0, .int .i64 0, .int .i64 0, .int .i64 0, .int .u64 0, .int .i64 0, .bool false, .bool false, .bool false, .bool false, .bool false], places := [(0, 1), (1, 1), (2, 1), (3, 1), (4, 1), (5, 1), (6, 4), (10, 1)] }
def ti79 : TI := { desc := .struct #[{ name := "Do", type := 3, offset := 0, embedded := false, tag := "", pkgPath := "", byteOffset := 0 }, { name := "Off", type := 3, offset := 1, embedded := false, tag := "", pkgPath := "", byteOffset := 8 }, { name := "K", type := 3, offset := 2, embedded := false, tag := "", pkgPath := "", byteOffset := 16 }, { name := "ID", type := 3, offset := 3, embedded := false, tag := "", pkgPath := "", byteOffset := 24 }, { name := "V", type := 44, offset := 4, embedded := false, tag := "", pkgPath := "", byteOffset := 32 }, { name := "A", type := 75, offset := 5, embedded := false, tag := "", pkgPath := "", byteOffset := 40 }, { name := "S", type := 77, offset := 6, embedded := false, tag := "", pkgPath := "", byteOffset := 48 }, { name := "High", type := 4, offset := 10, embedded := false, tag := "", pkgPath := "", byteOffset := 52 }], size := 11, bytes := 56, zero := .agg #[.int .i64 0, .int .i64 0, .int .i64 0, .int .i64 0, .int .u64 0, .int .i64 0, .bool false, .bool false, .bool false, .bool false, .bool false], places := [(0, 1), (1, 1), (2, 1), (3, 1), (4, 1), (5, 1), (6, 4), (10, 1)] }
def ti80 : TI := { desc := .struct #[{ name := "Do", type := 3, offset := 0, embedded := false, tag := "", pkgPath := "", byteOffset := 0 }, { name := "V", type := 3, offset := 1, embedded := false, tag := "", pkgPath := "", byteOffset := 8 }, { name := "W", type := 3, offset := 2, embedded := false, tag := "", pkgPath := "", byteOffset := 16 }, { name := "ID", type := 3, offset := 3, embedded := false, tag := "", pkgPath := "", byteOffset := 24 }, { name := "Off", type := 3, offset := 4, embedded := false, tag := "", pkgPath := "", byteOffset := 32 }, { name := "Reg", type := 60, offset := 5, embedded := false, tag := "", pkgPath := "", byteOffset := 40 }, { name := "X", type := 44, offset := 6, embedded := false, tag := "", pkgPath := "", byteOffset := 48 }, { name := "High", type := 4, offset := 7, embedded := false, tag := "", pkgPath := "", byteOffset := 56 }, { name := "D", type := 79, offset := 8, embedded := false, tag := "", pkgPath := "", byteOffset := 64 }], size := 19, bytes := 120, zero := .agg #[.int .i64 0, .int .i64 0, .int .i64 0, .int .i64 0, .int .i64 0, .int .i64 0, .int .u64 0, .bool false, .int .i64 0, .int .i64 0, .int .i64 0, .int .i64 0, .int .u64 0, .int .i64 0, .bool false, .bool false, .bool false, .bool false, .bool false], places := [(0, 1), (1, 1), (2, 1), (3, 1), (4, 1), (5, 1), (6, 1), (7, 1), (8, 11)] }
def ti81 : TI := { desc := .struct #[{ name := "Do", type := 3, offset := 0, embedded := false, tag := "", pkgPath := "", byteOffset := 0 }, { name := "V", type := 3, offset := 1, embedded := false, tag := "", pkgPath := "", byteOffset := 8 }, { name := "W", type := 3, offset := 2, embedded := false, tag := "", pkgPath := "", byteOffset := 16 }, { name := "ID", type := 3, offset := 3, embedded := false, tag := "", pkgPath := "", byteOffset := 24 }, { name := "Off", type := 3, offset := 4, embedded := false, tag := "", pkgPath := "", byteOffset := 32 }, { name := "Reg", type := 60, offset := 5, embedded := false, tag := "", pkgPath := "", byteOffset := 40 }, { name := "X", type := 44, offset := 6, embedded := false, tag := "", pkgPath := "", byteOffset := 48 }, { name := "High", type := 4, offset := 7, embedded := false, tag := "", pkgPath := "", byteOffset := 56 }, { name := "D", type := 79, offset := 8, embedded := false, tag := "", pkgPath := "", byteOffset := 64 }], size := 19, bytes := 120, zero := .agg #[.int .i64 0, .int .i64 0, .int .i64 0, .int .i64 0, .int .i64 0, .int .i64 0, .int .u64 0, .bool false, .int .i64 0, .int .i64 0, .int .i64 0, .int .i64 0, .int .u64 0, .int .i64 0, .bool false, .bool false, .bool false, .bool false, .bool false], places := [(0, 1), (1, 1), (2, 1), (3, 1), (4, 1), (5, 1), (6, 1), (7, 1), (8, 11)] }
def ti82 : TI := { desc := .slice 3, size := 1, bytes := 24, zero := .slice none 0 0, places := [] }
def ti84 : TI := { desc := .func #[36] #[] false, size := 1, bytes := 8, zero := .nilFunc, places := [] }
def ti85 : TI := { desc := .func #[36] #[] false, size := 1, bytes := 8, zero := .nilFunc, places := [] }
def ti86 : TI := { desc := .func #[3] #[85] false, size := 1, bytes := 8, zero := .nilFunc, places := [] }
def ti94 : TI := { desc := .pointer 165, size := 1, bytes := 8, zero := .pointer none, places := [] }
def ti105 : TI := { desc := .func #[34, 34] #[3] false, size := 1, bytes := 8, zero := .nilFunc, places := [] }
def ti107 : TI := { desc := .func #[187] #[] false, size := 1, bytes := 8, zero := .nilFunc, places := [] }
def ti109 : TI := { desc := .struct #[{ name := "Irq", type := 77, offset := 0, embedded := true, tag := "", pkgPath := "", byteOffset := 0 }, { name := "Enabled", type := 4, offset := 4, embedded := false, tag := "", pkgPath := "", byteOffset := 4 }, { name := "Group", type := 3, offset := 5, embedded := false, tag := "", pkgPath := "", byteOffset := 8 }, { name := "Priority", type := 3, offset := 6, embedded := false, tag := "", pkgPath := "", byteOffset := 16 }], size := 7, bytes := 24, zero := .agg #[.bool false, .bool false, .bool false, .bool false, .bool false, .int .i64 0, .int .i64 0], places := [(0, 4), (4, 1), (5, 1), (6, 1)] }
def ti110 : TI := { desc := .struct #[{ name := "Irq", type := 77, offset := 0, embedded := true, tag := "", pkgPath := "", byteOffset := 0 }, { name := "Enabled", type := 4, offset := 4, embedded := false, tag := "", pkgPath := "", byteOffset := 4 }, { name := "Group", type := 3, offset := 5, embedded := false, tag := "", pkgPath := "", byteOffset := 8 }, { name := "Priority", type := 3, offset := 6, embedded := false, tag := "", pkgPath := "", byteOffset := 16 }], size := 7, bytes := 24, zero := .agg #[.bool false, .bool false, .bool false, .bool false, .bool false, .int .i64 0, .int .i64 0], places := [(0, 4), (4, 1), (5, 1), (6, 1)] }
def ti111 : TI := { desc := .pointer 208, size := 1, bytes := 8, zero := .pointer none, places := [] }
def ti112 : TI := { desc := .struct #[{ name := "face", type := 69, offset := 0, embedded := false, tag := "", pkgPath := "crier/vgic", byteOffset := 0 }, { name := "waits", type := 111, offset := 8, embedded := false, tag := "", pkgPath := "crier/vgic", byteOffset := 40 }, { name := "on", type := 4, offset := 9, embedded := false, tag := "", pkgPath := "crier/vgic", byteOffset := 48 }, { name := "prop", type := 44, offset := 10, embedded := false, tag := "", pkgPath := "crier/vgic", byteOffset := 56 }, { name := "pend", type := 44, offset := 11, embedded := false, tag := "", pkgPath := "crier/vgic", byteOffset := 64 }], size := 12, bytes := 72, zero := .agg #[.int .i64 0, .int .i64 0, .int .i64 0, .bool false, .bool false, .bool false, .int .u32 0, .int .u32 0, .pointer none, .bool false, .int .u64 0, .int .u64 0], places := [(0, 8), (8, 1), (9, 1), (10, 1), (11, 1)] }
def ti113 : TI := { desc := .struct #[{ name := "face", type := 69, offset := 0, embedded := false, tag := "", pkgPath := "crier/vgic", byteOffset := 0 }, { name := "waits", type := 111, offset := 8, embedded := false, tag := "", pkgPath := "crier/vgic", byteOffset := 40 }, { name := "on", type := 4, offset := 9, embedded := false, tag := "", pkgPath := "crier/vgic", byteOffset := 48 }, { name := "prop", type := 44, offset := 10, embedded := false, tag := "", pkgPath := "crier/vgic", byteOffset := 56 }, { name := "pend", type := 44, offset := 11, embedded := false, tag := "", pkgPath := "crier/vgic", byteOffset := 64 }], size := 12, bytes := 72, zero := .agg #[.int .i64 0, .int .i64 0, .int .i64 0, .bool false, .bool false, .bool false, .int .u32 0, .int .u32 0, .pointer none, .bool false, .int .u64 0, .int .u64 0], places := [(0, 8), (8, 1), (9, 1), (10, 1), (11, 1)] }
def ti115 : TI := { desc := .struct #[{ name := "Reg", type := 41, offset := 0, embedded := false, tag := "", pkgPath := "", byteOffset := 0 }, { name := "First", type := 3, offset := 1, embedded := false, tag := "", pkgPath := "", byteOffset := 8 }, { name := "Count", type := 3, offset := 2, embedded := false, tag := "", pkgPath := "", byteOffset := 16 }], size := 3, bytes := 24, zero := .agg #[.int .i64 0, .int .i64 0, .int .i64 0], places := [(0, 1), (1, 1), (2, 1)] }
def ti116 : TI := { desc := .struct #[{ name := "Reg", type := 41, offset := 0, embedded := false, tag := "", pkgPath := "", byteOffset := 0 }, { name := "First", type := 3, offset := 1, embedded := false, tag := "", pkgPath := "", byteOffset := 8 }, { name := "Count", type := 3, offset := 2, embedded := false, tag := "", pkgPath := "", byteOffset := 16 }], size := 3, bytes := 24, zero := .agg #[.int .i64 0, .int .i64 0, .int .i64 0], places := [(0, 1), (1, 1), (2, 1)] }
def ti119 : TI := { desc := .pointer 113, size := 1, bytes := 8, zero := .pointer none, places := [] }
def ti121 : TI := { desc := .pointer 197, size := 1, bytes := 8, zero := .pointer none, places := [] }
def ti122 : TI := { desc := .slice 139, size := 1, bytes := 24, zero := .slice none 0 0, places := [] }
def ti123 : TI := { desc := .struct #[{ name := "on", type := 63, offset := 0, embedded := false, tag := "", pkgPath := "crier/dist", byteOffset := 0 }, { name := "spis", type := 121, offset := 2, embedded := false, tag := "", pkgPath := "crier/dist", byteOffset := 8 }, { name := "cores", type := 122, offset := 3, embedded := false, tag := "", pkgPath := "crier/dist", byteOffset := 16 }], size := 4, bytes := 40, zero := .agg #[.bool false, .bool false, .pointer none, .slice none 0 0], places := [(0, 2), (2, 1), (3, 1)] }
def ti124 : TI := { desc := .struct #[{ name := "on", type := 63, offset := 0, embedded := false, tag := "", pkgPath := "crier/dist", byteOffset := 0 }, { name := "spis", type := 121, offset := 2, embedded := false, tag := "", pkgPath := "crier/dist", byteOffset := 8 }, { name := "cores", type := 122, offset := 3, embedded := false, tag := "", pkgPath := "crier/dist", byteOffset := 16 }], size := 4, bytes := 40, zero := .agg #[.bool false, .bool false, .pointer none, .slice none 0 0], places := [(0, 2), (2, 1), (3, 1)] }
def ti125 : TI := { desc := .struct #[{ name := "Core", type := 3, offset := 0, embedded := false, tag := "", pkgPath := "", byteOffset := 0 }, { name := "Any", type := 4, offset := 1, embedded := false, tag := "", pkgPath := "", byteOffset := 8 }], size := 2, bytes := 16, zero := .agg #[.int .i64 0, .bool false], places := [(0, 1), (1, 1)] }
def ti126 : TI := { desc := .struct #[{ name := "Core", type := 3, offset := 0, embedded := false, tag := "", pkgPath := "", byteOffset := 0 }, { name := "Any", type := 4, offset := 1, embedded := false, tag := "", pkgPath := "", byteOffset := 8 }], size := 2, bytes := 16, zero := .agg #[.int .i64 0, .bool false], places := [(0, 1), (1, 1)] }
def ti127 : TI := { desc := .struct #[{ name := "Line", type := 110, offset := 0, embedded := true, tag := "", pkgPath := "", byteOffset := 0 }, { name := "Extra", type := 126, offset := 7, embedded := false, tag := "", pkgPath := "", byteOffset := 24 }], size := 9, bytes := 40, zero := .agg #[.bool false, .bool false, .bool false, .bool false, .bool false, .int .i64 0, .int .i64 0, .int .i64 0, .bool false], places := [(0, 7), (7, 2)] }
def ti128 : TI := { desc := .struct #[{ name := "Line", type := 110, offset := 0, embedded := true, tag := "", pkgPath := "", byteOffset := 0 }, { name := "Extra", type := 126, offset := 7, embedded := false, tag := "", pkgPath := "", byteOffset := 24 }], size := 9, bytes := 40, zero := .agg #[.bool false, .bool false, .bool false, .bool false, .bool false, .int .i64 0, .int .i64 0, .int .i64 0, .bool false], places := [(0, 7), (7, 2)] }
def ti137 : TI := { desc := .pointer 275, size := 1, bytes := 8, zero := .pointer none, places := [] }
def ti138 : TI := { desc := .struct #[{ name := "own", type := 137, offset := 0, embedded := false, tag := "", pkgPath := "crier/dist", byteOffset := 0 }, { name := "asleep", type := 4, offset := 1, embedded := false, tag := "", pkgPath := "crier/dist", byteOffset := 8 }], size := 2, bytes := 16, zero := .agg #[.pointer none, .bool false], places := [(0, 1), (1, 1)] }
def ti139 : TI := { desc := .struct #[{ name := "own", type := 137, offset := 0, embedded := false, tag := "", pkgPath := "crier/dist", byteOffset := 0 }, { name := "asleep", type := 4, offset := 1, embedded := false, tag := "", pkgPath := "crier/dist", byteOffset := 8 }], size := 2, bytes := 16, zero := .agg #[.pointer none, .bool false], places := [(0, 1), (1, 1)] }
def ti140 : TI := { desc := .pointer 69, size := 1, bytes := 8, zero := .pointer none, places := [] }
def ti152 : TI := { desc := .func #[3, 3] #[4] false, size := 1, bytes := 8, zero := .nilFunc, places := [] }
def ti158 : TI := { desc := .pointer 236, size := 1, bytes := 8, zero := .pointer none, places := [] }
def ti161 : TI := { desc := .slice 172, size := 1, bytes := 24, zero := .slice none 0 0, places := [] }
def ti162 : TI := { desc := .slice 82, size := 1, bytes := 24, zero := .slice none 0 0, places := [] }
def ti163 : TI := { desc := .slice 44, size := 1, bytes := 24, zero := .slice none 0 0, places := [] }
def ti164 : TI := { desc := .struct #[{ name := "D", type := 158, offset := 0, embedded := false, tag := "", pkgPath := "", byteOffset := 0 }, { name := "Faces", type := 161, offset := 1, embedded := false, tag := "", pkgPath := "", byteOffset := 8 }, { name := "Config", type := 48, offset := 2, embedded := false, tag := "", pkgPath := "", byteOffset := 32 }, { name := "Waits", type := 162, offset := 3, embedded := false, tag := "", pkgPath := "", byteOffset := 56 }, { name := "On", type := 54, offset := 4, embedded := false, tag := "", pkgPath := "", byteOffset := 80 }, { name := "Prop", type := 163, offset := 5, embedded := false, tag := "", pkgPath := "", byteOffset := 104 }, { name := "Pend", type := 163, offset := 6, embedded := false, tag := "", pkgPath := "", byteOffset := 128 }], size := 7, bytes := 152, zero := .agg #[.pointer none, .slice none 0 0, .slice none 0 0, .slice none 0 0, .slice none 0 0, .slice none 0 0, .slice none 0 0], places := [(0, 1), (1, 1), (2, 1), (3, 1), (4, 1), (5, 1), (6, 1)] }
def ti165 : TI := { desc := .struct #[{ name := "D", type := 158, offset := 0, embedded := false, tag := "", pkgPath := "", byteOffset := 0 }, { name := "Faces", type := 161, offset := 1, embedded := false, tag := "", pkgPath := "", byteOffset := 8 }, { name := "Config", type := 48, offset := 2, embedded := false, tag := "", pkgPath := "", byteOffset := 32 }, { name := "Waits", type := 162, offset := 3, embedded := false, tag := "", pkgPath := "", byteOffset := 56 }, { name := "On", type := 54, offset := 4, embedded := false, tag := "", pkgPath := "", byteOffset := 80 }, { name := "Prop", type := 163, offset := 5, embedded := false, tag := "", pkgPath := "", byteOffset := 104 }, { name := "Pend", type := 163, offset := 6, embedded := false, tag := "", pkgPath := "", byteOffset := 128 }], size := 7, bytes := 152, zero := .agg #[.pointer none, .slice none 0 0, .slice none 0 0, .slice none 0 0, .slice none 0 0, .slice none 0 0, .slice none 0 0], places := [(0, 1), (1, 1), (2, 1), (3, 1), (4, 1), (5, 1), (6, 1)] }
def ti168 : TI := { desc := .array 64 4, size := 64, bytes := 64, zero := .agg #[.bool false, .bool false, .bool false, .bool false, .bool false, .bool false, .bool false, .bool false, .bool false, .bool false, .bool false, .bool false, .bool false, .bool false, .bool false, .bool false, .bool false, .bool false, .bool false, .bool false, .bool false, .bool false, .bool false, .bool false, .bool false, .bool false, .bool false, .bool false, .bool false, .bool false, .bool false, .bool false, .bool false, .bool false, .bool false, .bool false, .bool false, .bool false, .bool false, .bool false, .bool false, .bool false, .bool false, .bool false, .bool false, .bool false, .bool false, .bool false, .bool false, .bool false, .bool false, .bool false, .bool false, .bool false, .bool false, .bool false, .bool false, .bool false, .bool false, .bool false, .bool false, .bool false, .bool false, .bool false], places := [] }
def ti169 : TI := { desc := .struct #[{ name := "Runs", type := 168, offset := 0, embedded := false, tag := "", pkgPath := "", byteOffset := 0 }], size := 64, bytes := 64, zero := .agg #[.bool false, .bool false, .bool false, .bool false, .bool false, .bool false, .bool false, .bool false, .bool false, .bool false, .bool false, .bool false, .bool false, .bool false, .bool false, .bool false, .bool false, .bool false, .bool false, .bool false, .bool false, .bool false, .bool false, .bool false, .bool false, .bool false, .bool false, .bool false, .bool false, .bool false, .bool false, .bool false, .bool false, .bool false, .bool false, .bool false, .bool false, .bool false, .bool false, .bool false, .bool false, .bool false, .bool false, .bool false, .bool false, .bool false, .bool false, .bool false, .bool false, .bool false, .bool false, .bool false, .bool false, .bool false, .bool false, .bool false, .bool false, .bool false, .bool false, .bool false, .bool false, .bool false, .bool false, .bool false], places := [(0, 64)] }
def ti170 : TI := { desc := .struct #[{ name := "Runs", type := 168, offset := 0, embedded := false, tag := "", pkgPath := "", byteOffset := 0 }], size := 64, bytes := 64, zero := .agg #[.bool false, .bool false, .bool false, .bool false, .bool false, .bool false, .bool false, .bool false, .bool false, .bool false, .bool false, .bool false, .bool false, .bool false, .bool false, .bool false, .bool false, .bool false, .bool false, .bool false, .bool false, .bool false, .bool false, .bool false, .bool false, .bool false, .bool false, .bool false, .bool false, .bool false, .bool false, .bool false, .bool false, .bool false, .bool false, .bool false, .bool false, .bool false, .bool false, .bool false, .bool false, .bool false, .bool false, .bool false, .bool false, .bool false, .bool false, .bool false, .bool false, .bool false, .bool false, .bool false, .bool false, .bool false, .bool false, .bool false, .bool false, .bool false, .bool false, .bool false, .bool false, .bool false, .bool false, .bool false], places := [(0, 64)] }
def ti171 : TI := { desc := .struct #[{ name := "Mask", type := 3, offset := 0, embedded := false, tag := "", pkgPath := "", byteOffset := 0 }, { name := "Point", type := 62, offset := 1, embedded := false, tag := "", pkgPath := "", byteOffset := 8 }, { name := "On", type := 63, offset := 3, embedded := false, tag := "", pkgPath := "", byteOffset := 24 }, { name := "Split", type := 4, offset := 5, embedded := false, tag := "", pkgPath := "", byteOffset := 26 }, { name := "Runs", type := 170, offset := 6, embedded := false, tag := "", pkgPath := "", byteOffset := 27 }], size := 70, bytes := 96, zero := .agg #[.int .i64 0, .int .i64 0, .int .i64 0, .bool false, .bool false, .bool false, .bool false, .bool false, .bool false, .bool false, .bool false, .bool false, .bool false, .bool false, .bool false, .bool false, .bool false, .bool false, .bool false, .bool false, .bool false, .bool false, .bool false, .bool false, .bool false, .bool false, .bool false, .bool false, .bool false, .bool false, .bool false, .bool false, .bool false, .bool false, .bool false, .bool false, .bool false, .bool false, .bool false, .bool false, .bool false, .bool false, .bool false, .bool false, .bool false, .bool false, .bool false, .bool false, .bool false, .bool false, .bool false, .bool false, .bool false, .bool false, .bool false, .bool false, .bool false, .bool false, .bool false, .bool false, .bool false, .bool false, .bool false, .bool false, .bool false, .bool false, .bool false, .bool false, .bool false, .bool false], places := [(0, 1), (1, 2), (3, 2), (5, 1), (6, 64)] }
def ti172 : TI := { desc := .struct #[{ name := "Mask", type := 3, offset := 0, embedded := false, tag := "", pkgPath := "", byteOffset := 0 }, { name := "Point", type := 62, offset := 1, embedded := false, tag := "", pkgPath := "", byteOffset := 8 }, { name := "On", type := 63, offset := 3, embedded := false, tag := "", pkgPath := "", byteOffset := 24 }, { name := "Split", type := 4, offset := 5, embedded := false, tag := "", pkgPath := "", byteOffset := 26 }, { name := "Runs", type := 170, offset := 6, embedded := false, tag := "", pkgPath := "", byteOffset := 27 }], size := 70, bytes := 96, zero := .agg #[.int .i64 0, .int .i64 0, .int .i64 0, .bool false, .bool false, .bool false, .bool false, .bool false, .bool false, .bool false, .bool false, .bool false, .bool false, .bool false, .bool false, .bool false, .bool false, .bool false, .bool false, .bool false, .bool false, .bool false, .bool false, .bool false, .bool false, .bool false, .bool false, .bool false, .bool false, .bool false, .bool false, .bool false, .bool false, .bool false, .bool false, .bool false, .bool false, .bool false, .bool false, .bool false, .bool false, .bool false, .bool false, .bool false, .bool false, .bool false, .bool false, .bool false, .bool false, .bool false, .bool false, .bool false, .bool false, .bool false, .bool false, .bool false, .bool false, .bool false, .bool false, .bool false, .bool false, .bool false, .bool false, .bool false, .bool false, .bool false, .bool false, .bool false, .bool false, .bool false], places := [(0, 1), (1, 2), (3, 2), (5, 1), (6, 64)] }
def ti178 : TI := { desc := .int .i64, size := 1, bytes := 8, zero := .int .i64 0, places := [] }
def ti179 : TI := { desc := .struct #[{ name := "State", type := 178, offset := 0, embedded := false, tag := "", pkgPath := "", byteOffset := 0 }, { name := "Number", type := 3, offset := 1, embedded := false, tag := "", pkgPath := "", byteOffset := 8 }, { name := "Priority", type := 3, offset := 2, embedded := false, tag := "", pkgPath := "", byteOffset := 16 }, { name := "Group", type := 3, offset := 3, embedded := false, tag := "", pkgPath := "", byteOffset := 24 }, { name := "Hard", type := 4, offset := 4, embedded := false, tag := "", pkgPath := "", byteOffset := 32 }, { name := "Machine", type := 3, offset := 5, embedded := false, tag := "", pkgPath := "", byteOffset := 40 }, { name := "Tell", type := 4, offset := 6, embedded := false, tag := "", pkgPath := "", byteOffset := 48 }], size := 7, bytes := 56, zero := .agg #[.int .i64 0, .int .i64 0, .int .i64 0, .int .i64 0, .bool false, .int .i64 0, .bool false], places := [(0, 1), (1, 1), (2, 1), (3, 1), (4, 1), (5, 1), (6, 1)] }
def ti180 : TI := { desc := .struct #[{ name := "State", type := 178, offset := 0, embedded := false, tag := "", pkgPath := "", byteOffset := 0 }, { name := "Number", type := 3, offset := 1, embedded := false, tag := "", pkgPath := "", byteOffset := 8 }, { name := "Priority", type := 3, offset := 2, embedded := false, tag := "", pkgPath := "", byteOffset := 16 }, { name := "Group", type := 3, offset := 3, embedded := false, tag := "", pkgPath := "", byteOffset := 24 }, { name := "Hard", type := 4, offset := 4, embedded := false, tag := "", pkgPath := "", byteOffset := 32 }, { name := "Machine", type := 3, offset := 5, embedded := false, tag := "", pkgPath := "", byteOffset := 40 }, { name := "Tell", type := 4, offset := 6, embedded := false, tag := "", pkgPath := "", byteOffset := 48 }], size := 7, bytes := 56, zero := .agg #[.int .i64 0, .int .i64 0, .int .i64 0, .int .i64 0, .bool false, .int .i64 0, .bool false], places := [(0, 1), (1, 1), (2, 1), (3, 1), (4, 1), (5, 1), (6, 1)] }
def ti187 : TI := { desc := .func #[3, 110] #[4] false, size := 1, bytes := 8, zero := .nilFunc, places := [] }
def ti190 : TI := { desc := .slice 265, size := 1, bytes := 24, zero := .slice none 0 0, places := [] }
def ti193 : TI := { desc := .struct #[], size := 0, bytes := 0, zero := .agg #[], places := [] }
def ti194 : TI := { desc := .struct #[], size := 0, bytes := 0, zero := .agg #[], places := [] }
def ti195 : TI := { desc := .slice 128, size := 1, bytes := 24, zero := .slice none 0 0, places := [] }
def ti196 : TI := { desc := .struct #[{ name := "first", type := 3, offset := 0, embedded := false, tag := "", pkgPath := "crier/bank", byteOffset := 0 }, { name := "entries", type := 195, offset := 1, embedded := false, tag := "", pkgPath := "crier/bank", byteOffset := 8 }], size := 2, bytes := 32, zero := .agg #[.int .i64 0, .slice none 0 0], places := [(0, 1), (1, 1)] }
def ti197 : TI := { desc := .struct #[{ name := "first", type := 3, offset := 0, embedded := false, tag := "", pkgPath := "crier/bank", byteOffset := 0 }, { name := "entries", type := 195, offset := 1, embedded := false, tag := "", pkgPath := "crier/bank", byteOffset := 8 }], size := 2, bytes := 32, zero := .agg #[.int .i64 0, .slice none 0 0], places := [(0, 1), (1, 1)] }
def ti203 : TI := { desc := .func #[272] #[] false, size := 1, bytes := 8, zero := .nilFunc, places := [] }
def ti207 : TI := { desc := .struct #[{ name := "words", type := 163, offset := 0, embedded := false, tag := "", pkgPath := "crier/sets", byteOffset := 0 }], size := 1, bytes := 24, zero := .agg #[.slice none 0 0], places := [(0, 1)] }
def ti208 : TI := { desc := .struct #[{ name := "words", type := 163, offset := 0, embedded := false, tag := "", pkgPath := "crier/sets", byteOffset := 0 }], size := 1, bytes := 24, zero := .agg #[.slice none 0 0], places := [(0, 1)] }
def ti213 : TI := { desc := .struct #[{ name := "ID", type := 3, offset := 0, embedded := false, tag := "", pkgPath := "", byteOffset := 0 }, { name := "All", type := 4, offset := 1, embedded := false, tag := "", pkgPath := "", byteOffset := 8 }, { name := "Targets", type := 3, offset := 2, embedded := false, tag := "", pkgPath := "", byteOffset := 16 }, { name := "Odd", type := 4, offset := 3, embedded := false, tag := "", pkgPath := "", byteOffset := 24 }], size := 4, bytes := 32, zero := .agg #[.int .i64 0, .bool false, .int .i64 0, .bool false], places := [(0, 1), (1, 1), (2, 1), (3, 1)] }
def ti214 : TI := { desc := .struct #[{ name := "ID", type := 3, offset := 0, embedded := false, tag := "", pkgPath := "", byteOffset := 0 }, { name := "All", type := 4, offset := 1, embedded := false, tag := "", pkgPath := "", byteOffset := 8 }, { name := "Targets", type := 3, offset := 2, embedded := false, tag := "", pkgPath := "", byteOffset := 16 }, { name := "Odd", type := 4, offset := 3, embedded := false, tag := "", pkgPath := "", byteOffset := 24 }], size := 4, bytes := 32, zero := .agg #[.int .i64 0, .bool false, .int .i64 0, .bool false], places := [(0, 1), (1, 1), (2, 1), (3, 1)] }
def ti217 : TI := { desc := .struct #[{ name := "Line", type := 110, offset := 0, embedded := true, tag := "", pkgPath := "", byteOffset := 0 }, { name := "Extra", type := 194, offset := 7, embedded := false, tag := "", pkgPath := "", byteOffset := 24 }], size := 7, bytes := 32, zero := .agg #[.bool false, .bool false, .bool false, .bool false, .bool false, .int .i64 0, .int .i64 0], places := [(0, 7), (7, 0)] }
def ti218 : TI := { desc := .struct #[{ name := "Line", type := 110, offset := 0, embedded := true, tag := "", pkgPath := "", byteOffset := 0 }, { name := "Extra", type := 194, offset := 7, embedded := false, tag := "", pkgPath := "", byteOffset := 24 }], size := 7, bytes := 32, zero := .agg #[.bool false, .bool false, .bool false, .bool false, .bool false, .int .i64 0, .int .i64 0], places := [(0, 7), (7, 0)] }
def ti224 : TI := { desc := .func #[152] #[] false, size := 1, bytes := 8, zero := .nilFunc, places := [] }
def ti227 : TI := { desc := .func #[279] #[] false, size := 1, bytes := 8, zero := .nilFunc, places := [] }
def ti233 : TI := { desc := .pointer 283, size := 1, bytes := 8, zero := .pointer none, places := [] }
def ti234 : TI := { desc := .slice 233, size := 1, bytes := 24, zero := .slice none 0 0, places := [] }
def ti235 : TI := { desc := .struct #[{ name := "On", type := 63, offset := 0, embedded := false, tag := "", pkgPath := "", byteOffset := 0 }, { name := "Shared", type := 233, offset := 2, embedded := false, tag := "", pkgPath := "", byteOffset := 8 }, { name := "Core", type := 82, offset := 3, embedded := false, tag := "", pkgPath := "", byteOffset := 16 }, { name := "Any", type := 54, offset := 4, embedded := false, tag := "", pkgPath := "", byteOffset := 40 }, { name := "Own", type := 234, offset := 5, embedded := false, tag := "", pkgPath := "", byteOffset := 64 }, { name := "Sleep", type := 54, offset := 6, embedded := false, tag := "", pkgPath := "", byteOffset := 88 }], size := 7, bytes := 112, zero := .agg #[.bool false, .bool false, .pointer none, .slice none 0 0, .slice none 0 0, .slice none 0 0, .slice none 0 0], places := [(0, 2), (2, 1), (3, 1), (4, 1), (5, 1), (6, 1)] }
def ti236 : TI := { desc := .struct #[{ name := "On", type := 63, offset := 0, embedded := false, tag := "", pkgPath := "", byteOffset := 0 }, { name := "Shared", type := 233, offset := 2, embedded := false, tag := "", pkgPath := "", byteOffset := 8 }, { name := "Core", type := 82, offset := 3, embedded := false, tag := "", pkgPath := "", byteOffset := 16 }, { name := "Any", type := 54, offset := 4, embedded := false, tag := "", pkgPath := "", byteOffset := 40 }, { name := "Own", type := 234, offset := 5, embedded := false, tag := "", pkgPath := "", byteOffset := 64 }, { name := "Sleep", type := 54, offset := 6, embedded := false, tag := "", pkgPath := "", byteOffset := 88 }], size := 7, bytes := 112, zero := .agg #[.bool false, .bool false, .pointer none, .slice none 0 0, .slice none 0 0, .slice none 0 0, .slice none 0 0], places := [(0, 2), (2, 1), (3, 1), (4, 1), (5, 1), (6, 1)] }
def ti256 : TI := { desc := .int .i64, size := 1, bytes := 8, zero := .int .i64 0, places := [] }
def ti264 : TI := { desc := .struct #[{ name := "from", type := 3, offset := 0, embedded := false, tag := "", pkgPath := "crier/regs", byteOffset := 0 }, { name := "to", type := 3, offset := 1, embedded := false, tag := "", pkgPath := "crier/regs", byteOffset := 8 }, { name := "width", type := 3, offset := 2, embedded := false, tag := "", pkgPath := "crier/regs", byteOffset := 16 }, { name := "reg", type := 41, offset := 3, embedded := false, tag := "", pkgPath := "crier/regs", byteOffset := 24 }, { name := "first", type := 3, offset := 4, embedded := false, tag := "", pkgPath := "crier/regs", byteOffset := 32 }, { name := "num", type := 3, offset := 5, embedded := false, tag := "", pkgPath := "crier/regs", byteOffset := 40 }, { name := "den", type := 3, offset := 6, embedded := false, tag := "", pkgPath := "crier/regs", byteOffset := 48 }], size := 7, bytes := 56, zero := .agg #[.int .i64 0, .int .i64 0, .int .i64 0, .int .i64 0, .int .i64 0, .int .i64 0, .int .i64 0], places := [(0, 1), (1, 1), (2, 1), (3, 1), (4, 1), (5, 1), (6, 1)] }
def ti265 : TI := { desc := .struct #[{ name := "from", type := 3, offset := 0, embedded := false, tag := "", pkgPath := "crier/regs", byteOffset := 0 }, { name := "to", type := 3, offset := 1, embedded := false, tag := "", pkgPath := "crier/regs", byteOffset := 8 }, { name := "width", type := 3, offset := 2, embedded := false, tag := "", pkgPath := "crier/regs", byteOffset := 16 }, { name := "reg", type := 41, offset := 3, embedded := false, tag := "", pkgPath := "crier/regs", byteOffset := 24 }, { name := "first", type := 3, offset := 4, embedded := false, tag := "", pkgPath := "crier/regs", byteOffset := 32 }, { name := "num", type := 3, offset := 5, embedded := false, tag := "", pkgPath := "crier/regs", byteOffset := 40 }, { name := "den", type := 3, offset := 6, embedded := false, tag := "", pkgPath := "crier/regs", byteOffset := 48 }], size := 7, bytes := 56, zero := .agg #[.int .i64 0, .int .i64 0, .int .i64 0, .int .i64 0, .int .i64 0, .int .i64 0, .int .i64 0], places := [(0, 1), (1, 1), (2, 1), (3, 1), (4, 1), (5, 1), (6, 1)] }
def ti272 : TI := { desc := .func #[3, 128] #[4] false, size := 1, bytes := 8, zero := .nilFunc, places := [] }
def ti273 : TI := { desc := .slice 218, size := 1, bytes := 24, zero := .slice none 0 0, places := [] }
def ti274 : TI := { desc := .struct #[{ name := "first", type := 3, offset := 0, embedded := false, tag := "", pkgPath := "crier/bank", byteOffset := 0 }, { name := "entries", type := 273, offset := 1, embedded := false, tag := "", pkgPath := "crier/bank", byteOffset := 8 }], size := 2, bytes := 32, zero := .agg #[.int .i64 0, .slice none 0 0], places := [(0, 1), (1, 1)] }
def ti275 : TI := { desc := .struct #[{ name := "first", type := 3, offset := 0, embedded := false, tag := "", pkgPath := "crier/bank", byteOffset := 0 }, { name := "entries", type := 273, offset := 1, embedded := false, tag := "", pkgPath := "crier/bank", byteOffset := 8 }], size := 2, bytes := 32, zero := .agg #[.int .i64 0, .slice none 0 0], places := [(0, 1), (1, 1)] }
def ti276 : TI := { desc := .pointer 218, size := 1, bytes := 8, zero := .pointer none, places := [] }
def ti279 : TI := { desc := .func #[3, 218] #[4] false, size := 1, bytes := 8, zero := .nilFunc, places := [] }
def ti280 : TI := { desc := .slice 110, size := 1, bytes := 24, zero := .slice none 0 0, places := [] }
def ti281 : TI := { desc := .slice 9, size := 1, bytes := 24, zero := .slice none 0 0, places := [] }
def ti282 : TI := { desc := .struct #[{ name := "First", type := 3, offset := 0, embedded := false, tag := "", pkgPath := "", byteOffset := 0 }, { name := "Lines", type := 280, offset := 1, embedded := false, tag := "", pkgPath := "", byteOffset := 8 }, { name := "Extras", type := 281, offset := 2, embedded := false, tag := "", pkgPath := "", byteOffset := 32 }], size := 3, bytes := 56, zero := .agg #[.int .i64 0, .slice none 0 0, .slice none 0 0], places := [(0, 1), (1, 1), (2, 1)] }
def ti283 : TI := { desc := .struct #[{ name := "First", type := 3, offset := 0, embedded := false, tag := "", pkgPath := "", byteOffset := 0 }, { name := "Lines", type := 280, offset := 1, embedded := false, tag := "", pkgPath := "", byteOffset := 8 }, { name := "Extras", type := 281, offset := 2, embedded := false, tag := "", pkgPath := "", byteOffset := 32 }], size := 3, bytes := 56, zero := .agg #[.int .i64 0, .slice none 0 0, .slice none 0 0], places := [(0, 1), (1, 1), (2, 1)] }
def ti287 : TI := { desc := .slice 306, size := 1, bytes := 24, zero := .slice none 0 0, places := [] }
def ti297 : TI := { desc := .int .u64, size := 1, bytes := 8, zero := .int .u64 0, places := [] }
def ti301 : TI := { desc := .pointer 3, size := 1, bytes := 8, zero := .pointer none, places := [] }
def ti303 : TI := { desc := .pointer 128, size := 1, bytes := 8, zero := .pointer none, places := [] }
def ti304 : TI := { desc := .array 64 5, size := 64, bytes := 64, zero := .agg #[.int .u8 0, .int .u8 0, .int .u8 0, .int .u8 0, .int .u8 0, .int .u8 0, .int .u8 0, .int .u8 0, .int .u8 0, .int .u8 0, .int .u8 0, .int .u8 0, .int .u8 0, .int .u8 0, .int .u8 0, .int .u8 0, .int .u8 0, .int .u8 0, .int .u8 0, .int .u8 0, .int .u8 0, .int .u8 0, .int .u8 0, .int .u8 0, .int .u8 0, .int .u8 0, .int .u8 0, .int .u8 0, .int .u8 0, .int .u8 0, .int .u8 0, .int .u8 0, .int .u8 0, .int .u8 0, .int .u8 0, .int .u8 0, .int .u8 0, .int .u8 0, .int .u8 0, .int .u8 0, .int .u8 0, .int .u8 0, .int .u8 0, .int .u8 0, .int .u8 0, .int .u8 0, .int .u8 0, .int .u8 0, .int .u8 0, .int .u8 0, .int .u8 0, .int .u8 0, .int .u8 0, .int .u8 0, .int .u8 0, .int .u8 0, .int .u8 0, .int .u8 0, .int .u8 0, .int .u8 0, .int .u8 0, .int .u8 0, .int .u8 0, .int .u8 0], places := [] }
def ti305 : TI := { desc := .struct #[{ name := "from", type := 3, offset := 0, embedded := false, tag := "", pkgPath := "crier/crierref10", byteOffset := 0 }, { name := "to", type := 3, offset := 1, embedded := false, tag := "", pkgPath := "crier/crierref10", byteOffset := 8 }, { name := "width", type := 3, offset := 2, embedded := false, tag := "", pkgPath := "crier/crierref10", byteOffset := 16 }, { name := "reg", type := 41, offset := 3, embedded := false, tag := "", pkgPath := "crier/crierref10", byteOffset := 24 }, { name := "first", type := 3, offset := 4, embedded := false, tag := "", pkgPath := "crier/crierref10", byteOffset := 32 }, { name := "of", type := 3, offset := 5, embedded := false, tag := "", pkgPath := "crier/crierref10", byteOffset := 40 }, { name := "per", type := 3, offset := 6, embedded := false, tag := "", pkgPath := "crier/crierref10", byteOffset := 48 }], size := 7, bytes := 56, zero := .agg #[.int .i64 0, .int .i64 0, .int .i64 0, .int .i64 0, .int .i64 0, .int .i64 0, .int .i64 0], places := [(0, 1), (1, 1), (2, 1), (3, 1), (4, 1), (5, 1), (6, 1)] }
def ti306 : TI := { desc := .struct #[{ name := "from", type := 3, offset := 0, embedded := false, tag := "", pkgPath := "crier/crierref10", byteOffset := 0 }, { name := "to", type := 3, offset := 1, embedded := false, tag := "", pkgPath := "crier/crierref10", byteOffset := 8 }, { name := "width", type := 3, offset := 2, embedded := false, tag := "", pkgPath := "crier/crierref10", byteOffset := 16 }, { name := "reg", type := 41, offset := 3, embedded := false, tag := "", pkgPath := "crier/crierref10", byteOffset := 24 }, { name := "first", type := 3, offset := 4, embedded := false, tag := "", pkgPath := "crier/crierref10", byteOffset := 32 }, { name := "of", type := 3, offset := 5, embedded := false, tag := "", pkgPath := "crier/crierref10", byteOffset := 40 }, { name := "per", type := 3, offset := 6, embedded := false, tag := "", pkgPath := "crier/crierref10", byteOffset := 48 }], size := 7, bytes := 56, zero := .agg #[.int .i64 0, .int .i64 0, .int .i64 0, .int .i64 0, .int .i64 0, .int .i64 0, .int .i64 0], places := [(0, 1), (1, 1), (2, 1), (3, 1), (4, 1), (5, 1), (6, 1)] }
def ti309 : TI := { desc := .pointer 297, size := 1, bytes := 8, zero := .pointer none, places := [] }
def ti311 : TI := { desc := .slice 41, size := 1, bytes := 24, zero := .slice none 0 0, places := [] }
def tt : TT := [(2, ti2), (3, ti3), (4, ti4), (5, ti5), (9, ti9), (21, ti21), (22, ti22), (23, ti23), (24, ti24), (27, ti27), (31, ti31), (33, ti33), (34, ti34), (36, ti36), (39, ti39), (41, ti41), (44, ti44), (45, ti45), (47, ti47), (48, ti48), (49, ti49), (50, ti50), (51, ti51), (54, ti54), (60, ti60), (62, ti62), (63, ti63), (64, ti64), (65, ti65), (66, ti66), (67, ti67), (68, ti68), (69, ti69), (71, ti71), (75, ti75), (76, ti76), (77, ti77), (78, ti78), (79, ti79), (80, ti80), (81, ti81), (82, ti82), (84, ti84), (85, ti85), (86, ti86), (94, ti94), (105, ti105), (107, ti107), (109, ti109), (110, ti110), (111, ti111), (112, ti112), (113, ti113), (115, ti115), (116, ti116), (119, ti119), (121, ti121), (122, ti122), (123, ti123), (124, ti124), (125, ti125), (126, ti126), (127, ti127), (128, ti128), (137, ti137), (138, ti138), (139, ti139), (140, ti140), (152, ti152), (158, ti158), (161, ti161), (162, ti162), (163, ti163), (164, ti164), (165, ti165), (168, ti168), (169, ti169), (170, ti170), (171, ti171), (172, ti172), (178, ti178), (179, ti179), (180, ti180), (187, ti187), (190, ti190), (193, ti193), (194, ti194), (195, ti195), (196, ti196), (197, ti197), (203, ti203), (207, ti207), (208, ti208), (213, ti213), (214, ti214), (217, ti217), (218, ti218), (224, ti224), (227, ti227), (233, ti233), (234, ti234), (235, ti235), (236, ti236), (256, ti256), (264, ti264), (265, ti265), (272, ti272), (273, ti273), (274, ti274), (275, ti275), (276, ti276), (279, ti279), (280, ti280), (281, ti281), (282, ti282), (283, ti283), (287, ti287), (297, ti297), (301, ti301), (303, ti303), (304, ti304), (305, ti305), (306, ti306), (309, ti309), (311, ti311)]
theorem ti2_ok : TIok Tryz.prog 2 ti2 := ⟨⟨by kernel_rfl, by kernel_rfl⟩, by kernel_rfl⟩
theorem ti3_ok : TIok Tryz.prog 3 ti3 := ⟨⟨by kernel_rfl, by kernel_rfl⟩, by kernel_rfl⟩
theorem ti4_ok : TIok Tryz.prog 4 ti4 := ⟨⟨by kernel_rfl, by kernel_rfl⟩, by kernel_rfl⟩
theorem ti5_ok : TIok Tryz.prog 5 ti5 := ⟨⟨by kernel_rfl, by kernel_rfl⟩, by kernel_rfl⟩
theorem ti9_ok : TIok Tryz.prog 9 ti9 := ⟨⟨by kernel_rfl, by kernel_rfl⟩, by kernel_rfl⟩
theorem ti21_ok : TIok Tryz.prog 21 ti21 := ⟨⟨by kernel_rfl, by kernel_rfl⟩, by kernel_rfl⟩
theorem ti22_ok : TIok Tryz.prog 22 ti22 := ⟨⟨by kernel_rfl, by kernel_rfl⟩, by kernel_rfl⟩
theorem ti23_ok : TIok Tryz.prog 23 ti23 := ⟨⟨by kernel_rfl, by kernel_rfl⟩, by kernel_rfl⟩
theorem ti24_ok : TIok Tryz.prog 24 ti24 := ⟨⟨by kernel_rfl, by kernel_rfl⟩, by kernel_rfl⟩
theorem ti27_ok : TIok Tryz.prog 27 ti27 := ⟨⟨by kernel_rfl, by kernel_rfl⟩, by kernel_rfl⟩
theorem ti31_ok : TIok Tryz.prog 31 ti31 := ⟨⟨by kernel_rfl, by kernel_rfl⟩, by kernel_rfl⟩
theorem ti33_ok : TIok Tryz.prog 33 ti33 := ⟨⟨by kernel_rfl, by kernel_rfl⟩, by kernel_rfl⟩
theorem ti34_ok : TIok Tryz.prog 34 ti34 := ⟨⟨by kernel_rfl, by kernel_rfl⟩, by kernel_rfl⟩
theorem ti36_ok : TIok Tryz.prog 36 ti36 := ⟨⟨by kernel_rfl, by kernel_rfl⟩, by kernel_rfl⟩
theorem ti39_ok : TIok Tryz.prog 39 ti39 := ⟨⟨by kernel_rfl, by kernel_rfl⟩, by kernel_rfl⟩
theorem ti41_ok : TIok Tryz.prog 41 ti41 := ⟨⟨by kernel_rfl, by kernel_rfl⟩, by kernel_rfl⟩
theorem ti44_ok : TIok Tryz.prog 44 ti44 := ⟨⟨by kernel_rfl, by kernel_rfl⟩, by kernel_rfl⟩
theorem ti45_ok : TIok Tryz.prog 45 ti45 := ⟨⟨by kernel_rfl, by kernel_rfl⟩, by kernel_rfl⟩
theorem ti47_ok : TIok Tryz.prog 47 ti47 := ⟨⟨by kernel_rfl, by kernel_rfl⟩, by kernel_rfl⟩
theorem ti48_ok : TIok Tryz.prog 48 ti48 := ⟨⟨by kernel_rfl, by kernel_rfl⟩, by kernel_rfl⟩
theorem ti49_ok : TIok Tryz.prog 49 ti49 := ⟨⟨by kernel_rfl, by kernel_rfl⟩, by kernel_rfl⟩
theorem ti50_ok : TIok Tryz.prog 50 ti50 := ⟨⟨by kernel_rfl, by kernel_rfl⟩, by kernel_rfl⟩
theorem ti51_ok : TIok Tryz.prog 51 ti51 := ⟨⟨by kernel_rfl, by kernel_rfl⟩, by kernel_rfl⟩
theorem ti54_ok : TIok Tryz.prog 54 ti54 := ⟨⟨by kernel_rfl, by kernel_rfl⟩, by kernel_rfl⟩
theorem ti60_ok : TIok Tryz.prog 60 ti60 := ⟨⟨by kernel_rfl, by kernel_rfl⟩, by kernel_rfl⟩
theorem ti62_ok : TIok Tryz.prog 62 ti62 := ⟨⟨by kernel_rfl, by kernel_rfl⟩, by kernel_rfl⟩
theorem ti63_ok : TIok Tryz.prog 63 ti63 := ⟨⟨by kernel_rfl, by kernel_rfl⟩, by kernel_rfl⟩
theorem ti64_ok : TIok Tryz.prog 64 ti64 := ⟨⟨by kernel_rfl, by kernel_rfl⟩, by kernel_rfl⟩
theorem ti65_ok : TIok Tryz.prog 65 ti65 := ⟨⟨by kernel_rfl, by kernel_rfl⟩, by kernel_rfl⟩
theorem ti66_ok : TIok Tryz.prog 66 ti66 := ⟨⟨by kernel_rfl, by kernel_rfl⟩, by kernel_rfl⟩
theorem ti67_ok : TIok Tryz.prog 67 ti67 := ⟨⟨by kernel_rfl, by kernel_rfl⟩, by kernel_rfl⟩
theorem ti68_ok : TIok Tryz.prog 68 ti68 := ⟨⟨by kernel_rfl, by kernel_rfl⟩, by kernel_rfl⟩
theorem ti69_ok : TIok Tryz.prog 69 ti69 := ⟨⟨by kernel_rfl, by kernel_rfl⟩, by kernel_rfl⟩
theorem ti71_ok : TIok Tryz.prog 71 ti71 := ⟨⟨by kernel_rfl, by kernel_rfl⟩, by kernel_rfl⟩
theorem ti75_ok : TIok Tryz.prog 75 ti75 := ⟨⟨by kernel_rfl, by kernel_rfl⟩, by kernel_rfl⟩
theorem ti76_ok : TIok Tryz.prog 76 ti76 := ⟨⟨by kernel_rfl, by kernel_rfl⟩, by kernel_rfl⟩
theorem ti77_ok : TIok Tryz.prog 77 ti77 := ⟨⟨by kernel_rfl, by kernel_rfl⟩, by kernel_rfl⟩
theorem ti78_ok : TIok Tryz.prog 78 ti78 := ⟨⟨by kernel_rfl, by kernel_rfl⟩, by kernel_rfl⟩
theorem ti79_ok : TIok Tryz.prog 79 ti79 := ⟨⟨by kernel_rfl, by kernel_rfl⟩, by kernel_rfl⟩
theorem ti80_ok : TIok Tryz.prog 80 ti80 := ⟨⟨by kernel_rfl, by kernel_rfl⟩, by kernel_rfl⟩
theorem ti81_ok : TIok Tryz.prog 81 ti81 := ⟨⟨by kernel_rfl, by kernel_rfl⟩, by kernel_rfl⟩
theorem ti82_ok : TIok Tryz.prog 82 ti82 := ⟨⟨by kernel_rfl, by kernel_rfl⟩, by kernel_rfl⟩
theorem ti84_ok : TIok Tryz.prog 84 ti84 := ⟨⟨by kernel_rfl, by kernel_rfl⟩, by kernel_rfl⟩
theorem ti85_ok : TIok Tryz.prog 85 ti85 := ⟨⟨by kernel_rfl, by kernel_rfl⟩, by kernel_rfl⟩
theorem ti86_ok : TIok Tryz.prog 86 ti86 := ⟨⟨by kernel_rfl, by kernel_rfl⟩, by kernel_rfl⟩
theorem ti94_ok : TIok Tryz.prog 94 ti94 := ⟨⟨by kernel_rfl, by kernel_rfl⟩, by kernel_rfl⟩
theorem ti105_ok : TIok Tryz.prog 105 ti105 := ⟨⟨by kernel_rfl, by kernel_rfl⟩, by kernel_rfl⟩
theorem ti107_ok : TIok Tryz.prog 107 ti107 := ⟨⟨by kernel_rfl, by kernel_rfl⟩, by kernel_rfl⟩
theorem ti109_ok : TIok Tryz.prog 109 ti109 := ⟨⟨by kernel_rfl, by kernel_rfl⟩, by kernel_rfl⟩
theorem ti110_ok : TIok Tryz.prog 110 ti110 := ⟨⟨by kernel_rfl, by kernel_rfl⟩, by kernel_rfl⟩
theorem ti111_ok : TIok Tryz.prog 111 ti111 := ⟨⟨by kernel_rfl, by kernel_rfl⟩, by kernel_rfl⟩
theorem ti112_ok : TIok Tryz.prog 112 ti112 := ⟨⟨by kernel_rfl, by kernel_rfl⟩, by kernel_rfl⟩
theorem ti113_ok : TIok Tryz.prog 113 ti113 := ⟨⟨by kernel_rfl, by kernel_rfl⟩, by kernel_rfl⟩
theorem ti115_ok : TIok Tryz.prog 115 ti115 := ⟨⟨by kernel_rfl, by kernel_rfl⟩, by kernel_rfl⟩
theorem ti116_ok : TIok Tryz.prog 116 ti116 := ⟨⟨by kernel_rfl, by kernel_rfl⟩, by kernel_rfl⟩
theorem ti119_ok : TIok Tryz.prog 119 ti119 := ⟨⟨by kernel_rfl, by kernel_rfl⟩, by kernel_rfl⟩
theorem ti121_ok : TIok Tryz.prog 121 ti121 := ⟨⟨by kernel_rfl, by kernel_rfl⟩, by kernel_rfl⟩
theorem ti122_ok : TIok Tryz.prog 122 ti122 := ⟨⟨by kernel_rfl, by kernel_rfl⟩, by kernel_rfl⟩
theorem ti123_ok : TIok Tryz.prog 123 ti123 := ⟨⟨by kernel_rfl, by kernel_rfl⟩, by kernel_rfl⟩
theorem ti124_ok : TIok Tryz.prog 124 ti124 := ⟨⟨by kernel_rfl, by kernel_rfl⟩, by kernel_rfl⟩
theorem ti125_ok : TIok Tryz.prog 125 ti125 := ⟨⟨by kernel_rfl, by kernel_rfl⟩, by kernel_rfl⟩
theorem ti126_ok : TIok Tryz.prog 126 ti126 := ⟨⟨by kernel_rfl, by kernel_rfl⟩, by kernel_rfl⟩
theorem ti127_ok : TIok Tryz.prog 127 ti127 := ⟨⟨by kernel_rfl, by kernel_rfl⟩, by kernel_rfl⟩
theorem ti128_ok : TIok Tryz.prog 128 ti128 := ⟨⟨by kernel_rfl, by kernel_rfl⟩, by kernel_rfl⟩
theorem ti137_ok : TIok Tryz.prog 137 ti137 := ⟨⟨by kernel_rfl, by kernel_rfl⟩, by kernel_rfl⟩
theorem ti138_ok : TIok Tryz.prog 138 ti138 := ⟨⟨by kernel_rfl, by kernel_rfl⟩, by kernel_rfl⟩
theorem ti139_ok : TIok Tryz.prog 139 ti139 := ⟨⟨by kernel_rfl, by kernel_rfl⟩, by kernel_rfl⟩
theorem ti140_ok : TIok Tryz.prog 140 ti140 := ⟨⟨by kernel_rfl, by kernel_rfl⟩, by kernel_rfl⟩
theorem ti152_ok : TIok Tryz.prog 152 ti152 := ⟨⟨by kernel_rfl, by kernel_rfl⟩, by kernel_rfl⟩
theorem ti158_ok : TIok Tryz.prog 158 ti158 := ⟨⟨by kernel_rfl, by kernel_rfl⟩, by kernel_rfl⟩
theorem ti161_ok : TIok Tryz.prog 161 ti161 := ⟨⟨by kernel_rfl, by kernel_rfl⟩, by kernel_rfl⟩
theorem ti162_ok : TIok Tryz.prog 162 ti162 := ⟨⟨by kernel_rfl, by kernel_rfl⟩, by kernel_rfl⟩
theorem ti163_ok : TIok Tryz.prog 163 ti163 := ⟨⟨by kernel_rfl, by kernel_rfl⟩, by kernel_rfl⟩
theorem ti164_ok : TIok Tryz.prog 164 ti164 := ⟨⟨by kernel_rfl, by kernel_rfl⟩, by kernel_rfl⟩
theorem ti165_ok : TIok Tryz.prog 165 ti165 := ⟨⟨by kernel_rfl, by kernel_rfl⟩, by kernel_rfl⟩
theorem ti168_ok : TIok Tryz.prog 168 ti168 := ⟨⟨by kernel_rfl, by kernel_rfl⟩, by kernel_rfl⟩
theorem ti169_ok : TIok Tryz.prog 169 ti169 := ⟨⟨by kernel_rfl, by kernel_rfl⟩, by kernel_rfl⟩
theorem ti170_ok : TIok Tryz.prog 170 ti170 := ⟨⟨by kernel_rfl, by kernel_rfl⟩, by kernel_rfl⟩
theorem ti171_ok : TIok Tryz.prog 171 ti171 := ⟨⟨by kernel_rfl, by kernel_rfl⟩, by kernel_rfl⟩
theorem ti172_ok : TIok Tryz.prog 172 ti172 := ⟨⟨by kernel_rfl, by kernel_rfl⟩, by kernel_rfl⟩
theorem ti178_ok : TIok Tryz.prog 178 ti178 := ⟨⟨by kernel_rfl, by kernel_rfl⟩, by kernel_rfl⟩
theorem ti179_ok : TIok Tryz.prog 179 ti179 := ⟨⟨by kernel_rfl, by kernel_rfl⟩, by kernel_rfl⟩
theorem ti180_ok : TIok Tryz.prog 180 ti180 := ⟨⟨by kernel_rfl, by kernel_rfl⟩, by kernel_rfl⟩
theorem ti187_ok : TIok Tryz.prog 187 ti187 := ⟨⟨by kernel_rfl, by kernel_rfl⟩, by kernel_rfl⟩
theorem ti190_ok : TIok Tryz.prog 190 ti190 := ⟨⟨by kernel_rfl, by kernel_rfl⟩, by kernel_rfl⟩
theorem ti193_ok : TIok Tryz.prog 193 ti193 := ⟨⟨by kernel_rfl, by kernel_rfl⟩, by kernel_rfl⟩
theorem ti194_ok : TIok Tryz.prog 194 ti194 := ⟨⟨by kernel_rfl, by kernel_rfl⟩, by kernel_rfl⟩
theorem ti195_ok : TIok Tryz.prog 195 ti195 := ⟨⟨by kernel_rfl, by kernel_rfl⟩, by kernel_rfl⟩
theorem ti196_ok : TIok Tryz.prog 196 ti196 := ⟨⟨by kernel_rfl, by kernel_rfl⟩, by kernel_rfl⟩
theorem ti197_ok : TIok Tryz.prog 197 ti197 := ⟨⟨by kernel_rfl, by kernel_rfl⟩, by kernel_rfl⟩
theorem ti203_ok : TIok Tryz.prog 203 ti203 := ⟨⟨by kernel_rfl, by kernel_rfl⟩, by kernel_rfl⟩
theorem ti207_ok : TIok Tryz.prog 207 ti207 := ⟨⟨by kernel_rfl, by kernel_rfl⟩, by kernel_rfl⟩
theorem ti208_ok : TIok Tryz.prog 208 ti208 := ⟨⟨by kernel_rfl, by kernel_rfl⟩, by kernel_rfl⟩
theorem ti213_ok : TIok Tryz.prog 213 ti213 := ⟨⟨by kernel_rfl, by kernel_rfl⟩, by kernel_rfl⟩
theorem ti214_ok : TIok Tryz.prog 214 ti214 := ⟨⟨by kernel_rfl, by kernel_rfl⟩, by kernel_rfl⟩
theorem ti217_ok : TIok Tryz.prog 217 ti217 := ⟨⟨by kernel_rfl, by kernel_rfl⟩, by kernel_rfl⟩
theorem ti218_ok : TIok Tryz.prog 218 ti218 := ⟨⟨by kernel_rfl, by kernel_rfl⟩, by kernel_rfl⟩
theorem ti224_ok : TIok Tryz.prog 224 ti224 := ⟨⟨by kernel_rfl, by kernel_rfl⟩, by kernel_rfl⟩
theorem ti227_ok : TIok Tryz.prog 227 ti227 := ⟨⟨by kernel_rfl, by kernel_rfl⟩, by kernel_rfl⟩
theorem ti233_ok : TIok Tryz.prog 233 ti233 := ⟨⟨by kernel_rfl, by kernel_rfl⟩, by kernel_rfl⟩
theorem ti234_ok : TIok Tryz.prog 234 ti234 := ⟨⟨by kernel_rfl, by kernel_rfl⟩, by kernel_rfl⟩
theorem ti235_ok : TIok Tryz.prog 235 ti235 := ⟨⟨by kernel_rfl, by kernel_rfl⟩, by kernel_rfl⟩
theorem ti236_ok : TIok Tryz.prog 236 ti236 := ⟨⟨by kernel_rfl, by kernel_rfl⟩, by kernel_rfl⟩
theorem ti256_ok : TIok Tryz.prog 256 ti256 := ⟨⟨by kernel_rfl, by kernel_rfl⟩, by kernel_rfl⟩
theorem ti264_ok : TIok Tryz.prog 264 ti264 := ⟨⟨by kernel_rfl, by kernel_rfl⟩, by kernel_rfl⟩
theorem ti265_ok : TIok Tryz.prog 265 ti265 := ⟨⟨by kernel_rfl, by kernel_rfl⟩, by kernel_rfl⟩
theorem ti272_ok : TIok Tryz.prog 272 ti272 := ⟨⟨by kernel_rfl, by kernel_rfl⟩, by kernel_rfl⟩
theorem ti273_ok : TIok Tryz.prog 273 ti273 := ⟨⟨by kernel_rfl, by kernel_rfl⟩, by kernel_rfl⟩
theorem ti274_ok : TIok Tryz.prog 274 ti274 := ⟨⟨by kernel_rfl, by kernel_rfl⟩, by kernel_rfl⟩
theorem ti275_ok : TIok Tryz.prog 275 ti275 := ⟨⟨by kernel_rfl, by kernel_rfl⟩, by kernel_rfl⟩
theorem ti276_ok : TIok Tryz.prog 276 ti276 := ⟨⟨by kernel_rfl, by kernel_rfl⟩, by kernel_rfl⟩
theorem ti279_ok : TIok Tryz.prog 279 ti279 := ⟨⟨by kernel_rfl, by kernel_rfl⟩, by kernel_rfl⟩
theorem ti280_ok : TIok Tryz.prog 280 ti280 := ⟨⟨by kernel_rfl, by kernel_rfl⟩, by kernel_rfl⟩
theorem ti281_ok : TIok Tryz.prog 281 ti281 := ⟨⟨by kernel_rfl, by kernel_rfl⟩, by kernel_rfl⟩
theorem ti282_ok : TIok Tryz.prog 282 ti282 := ⟨⟨by kernel_rfl, by kernel_rfl⟩, by kernel_rfl⟩
theorem ti283_ok : TIok Tryz.prog 283 ti283 := ⟨⟨by kernel_rfl, by kernel_rfl⟩, by kernel_rfl⟩
theorem ti287_ok : TIok Tryz.prog 287 ti287 := ⟨⟨by kernel_rfl, by kernel_rfl⟩, by kernel_rfl⟩
theorem ti297_ok : TIok Tryz.prog 297 ti297 := ⟨⟨by kernel_rfl, by kernel_rfl⟩, by kernel_rfl⟩
theorem ti301_ok : TIok Tryz.prog 301 ti301 := ⟨⟨by kernel_rfl, by kernel_rfl⟩, by kernel_rfl⟩
theorem ti303_ok : TIok Tryz.prog 303 ti303 := ⟨⟨by kernel_rfl, by kernel_rfl⟩, by kernel_rfl⟩
theorem ti304_ok : TIok Tryz.prog 304 ti304 := ⟨⟨by kernel_rfl, by kernel_rfl⟩, by kernel_rfl⟩
theorem ti305_ok : TIok Tryz.prog 305 ti305 := ⟨⟨by kernel_rfl, by kernel_rfl⟩, by kernel_rfl⟩
theorem ti306_ok : TIok Tryz.prog 306 ti306 := ⟨⟨by kernel_rfl, by kernel_rfl⟩, by kernel_rfl⟩
theorem ti309_ok : TIok Tryz.prog 309 ti309 := ⟨⟨by kernel_rfl, by kernel_rfl⟩, by kernel_rfl⟩
theorem ti311_ok : TIok Tryz.prog 311 ti311 := ⟨⟨by kernel_rfl, by kernel_rfl⟩, by kernel_rfl⟩
theorem tt_ok : TTok Tryz.prog tt := ⟨ti2_ok, ti3_ok, ti4_ok, ti5_ok, ti9_ok, ti21_ok, ti22_ok, ti23_ok, ti24_ok, ti27_ok, ti31_ok, ti33_ok, ti34_ok, ti36_ok, ti39_ok, ti41_ok, ti44_ok, ti45_ok, ti47_ok, ti48_ok, ti49_ok, ti50_ok, ti51_ok, ti54_ok, ti60_ok, ti62_ok, ti63_ok, ti64_ok, ti65_ok, ti66_ok, ti67_ok, ti68_ok, ti69_ok, ti71_ok, ti75_ok, ti76_ok, ti77_ok, ti78_ok, ti79_ok, ti80_ok, ti81_ok, ti82_ok, ti84_ok, ti85_ok, ti86_ok, ti94_ok, ti105_ok, ti107_ok, ti109_ok, ti110_ok, ti111_ok, ti112_ok, ti113_ok, ti115_ok, ti116_ok, ti119_ok, ti121_ok, ti122_ok, ti123_ok, ti124_ok, ti125_ok, ti126_ok, ti127_ok, ti128_ok, ti137_ok, ti138_ok, ti139_ok, ti140_ok, ti152_ok, ti158_ok, ti161_ok, ti162_ok, ti163_ok, ti164_ok, ti165_ok, ti168_ok, ti169_ok, ti170_ok, ti171_ok, ti172_ok, ti178_ok, ti179_ok, ti180_ok, ti187_ok, ti190_ok, ti193_ok, ti194_ok, ti195_ok, ti196_ok, ti197_ok, ti203_ok, ti207_ok, ti208_ok, ti213_ok, ti214_ok, ti217_ok, ti218_ok, ti224_ok, ti227_ok, ti233_ok, ti234_ok, ti235_ok, ti236_ok, ti256_ok, ti264_ok, ti265_ok, ti272_ok, ti273_ok, ti274_ok, ti275_ok, ti276_ok, ti279_ok, ti280_ok, ti281_ok, ti282_ok, ti283_ok, ti287_ok, ti297_ok, ti301_ok, ti303_ok, ti304_ok, ti305_ok, ti306_ok, ti309_ok, ti311_ok, trivial⟩
end Go.Proofs.YtebpodnbalfomaaGreatDoor.Sl
namespace Go.Proofs.YtebpodnbalfomaaGreatDoor.Sl
open Go Go.RowKit Go.Proofs
set_option linter.unusedVariables false
set_option linter.unusedSimpArgs false
attribute [local irreducible] CW Tri OW
set_option maxRecDepth 10000
@[reducible] def pk192 : List (Nat × Plan) := []
@[reducible] def pk115 : List (Nat × Plan) := []
@[reducible] def pk195 : List (Nat × Plan) := []
@[reducible] def pl122_0 : Plan := [(0, 0, []), (1, 0, []), (2, 0, []), (3, 1, [1]), (4, 1, [1]), (5, 0, []), (6, 1, [])]
-- part Fa
/-- An interrupt's state: Edge, Line, Latch, Active. -/
abbrev Iq := Bool × Bool × Bool × Bool
@[reducible] def iqC (i : Iq) : List Value := [.bool i.1, .bool i.2.1, .bool i.2.2.1, .bool i.2.2.2]
def pendI (i : Iq) : Bool := i.2.2.1 || (!i.1 && i.2.1)
def readyI (i : Iq) : Bool := pendI i && !i.2.2.2
def stepI (i : Iq) (x : Int) : Iq :=
  if x = 1 then (i.1, true, i.2.2.1 || (i.1 && !i.2.1), i.2.2.2) else if x = 2 then (i.1, false, i.2.2.1, i.2.2.2) else if x = 3 then (i.1, i.2.1, true, i.2.2.2) else if x = 4 then (i.1, i.2.1, false, i.2.2.2)
  else if x = 5 then (if readyI i then (i.1, i.2.1, false, true) else i) else if x = 6 then (i.1, i.2.1, i.2.2.1, false) else if x = 7 then (i.1, i.2.1, i.2.2.1, true) else if x = 8 then (true, i.2.1, i.2.2.1, i.2.2.2) else if x = 9 then (false, i.2.1, i.2.2.1, i.2.2.2) else i
theorem pending47 (β : Base) (e l t a : Bool) : Tri Tryz.prog β 192 [.agg #[.bool e, .bool l, .bool t, .bool a]] [] (fun v L => v = .bool (pendI (e, l, t, a)) ∧ L = []) := by
  refine Tri.intro tt_ok Tryz.func192 rfl rfl Tryz.ntmps192 rfl fun F => ?_
  cases t
  · cases e
    · (refine G tt_ok pk192 ?_; repeat (refine G1 tt_ok pk192 ?_; intro _))
      refine CW.ret (fin_ret rfl (Ent.dropAll _) ?_)
      exact ⟨by simp [packV, pendI], rfl⟩
    · (refine G tt_ok pk192 ?_; repeat (refine G1 tt_ok pk192 ?_; intro _))
      refine CW.ret (fin_ret rfl (Ent.dropAll _) ?_)
      exact ⟨by simp [packV, pendI], rfl⟩
  · (refine G tt_ok pk192 ?_; repeat (refine G1 tt_ok pk192 ?_; intro _))
    refine CW.ret (fin_ret rfl (Ent.dropAll _) ?_)
    exact ⟨by simp [packV, pendI], rfl⟩
theorem ready60 (β : Base) (e l t a : Bool) : Tri Tryz.prog β 115 [.agg #[.bool e, .bool l, .bool t, .bool a]] [] (fun v L => v = .bool (readyI (e, l, t, a)) ∧ L = []) := by
  refine Tri.intro tt_ok Tryz.func115 rfl rfl Tryz.ntmps115 rfl fun F => ?_
  (refine G tt_ok pk115 ?_; repeat (refine G1 tt_ok pk115 ?_; intro _))
  (refine SQ.call rfl rfl (pending47 β e l t a) [] rfl ?_; rintro _ _ ⟨rfl, rfl⟩; refine w_ ?_)
  unfold readyI
  generalize pendI (e, l, t, a) = p
  cases p
  · (refine G tt_ok pk115 ?_; repeat (refine G1 tt_ok pk115 ?_; intro _))
    refine CW.ret (fin_ret rfl (Ent.dropAll _) ?_)
    exact ⟨by simp [packV], rfl⟩
  · (refine G tt_ok pk115 ?_; repeat (refine G1 tt_ok pk115 ?_; intro _))
    refine CW.ret (fin_ret rfl (Ent.dropAll _) ?_)
    exact ⟨by simp [packV], rfl⟩
theorem step48 (β : Base) (e l t a : Bool) (x : Int) : Tri Tryz.prog β 195 [.agg #[.bool e, .bool l, .bool t, .bool a], .int .i64 x] [] (fun v L => v = .agg (iqC (stepI (e, l, t, a) x)).toArray ∧ L = []) := by
  refine Tri.intro tt_ok Tryz.func195 rfl rfl Tryz.ntmps195 rfl fun F => ?_
  (refine G tt_ok pk195 ?_; repeat (refine G1 tt_ok pk195 ?_; intro _))
  generalize h1 : (x == 1) = c1
  cases c1
  · (refine G tt_ok pk195 ?_; repeat (refine G1 tt_ok pk195 ?_; intro _))
    generalize h2 : (x == 2) = c2
    cases c2
    · (refine G tt_ok pk195 ?_; repeat (refine G1 tt_ok pk195 ?_; intro _))
      generalize h3 : (x == 3) = c3
      cases c3
      · (refine G tt_ok pk195 ?_; repeat (refine G1 tt_ok pk195 ?_; intro _))
        generalize h4 : (x == 4) = c4
        cases c4
        · (refine G tt_ok pk195 ?_; repeat (refine G1 tt_ok pk195 ?_; intro _))
          generalize h5 : (x == 5) = c5
          cases c5
          · (refine G tt_ok pk195 ?_; repeat (refine G1 tt_ok pk195 ?_; intro _))
            generalize h6 : (x == 6) = c6
            cases c6
            · (refine G tt_ok pk195 ?_; repeat (refine G1 tt_ok pk195 ?_; intro _))
              generalize h7 : (x == 7) = c7
              cases c7
              · (refine G tt_ok pk195 ?_; repeat (refine G1 tt_ok pk195 ?_; intro _))
                generalize h8 : (x == 8) = c8
                cases c8
                · (refine G tt_ok pk195 ?_; repeat (refine G1 tt_ok pk195 ?_; intro _))
                  generalize h9 : (x == 9) = c9
                  cases c9
                  · (refine G tt_ok pk195 ?_; repeat (refine G1 tt_ok pk195 ?_; intro _))
                    refine CW.ret (fin_cells [_] ⟨⟨_, _, _, _, 0, rfl, rfl, rfl, rfl⟩, trivial⟩ (Ent.dropAll _) ?_)
                    refine ⟨?_, rfl⟩
                    simp only [beq_eq_false_iff_ne, ne_eq] at h1 h2 h3 h4 h5 h6 h7 h8 h9
                    simp [packV, stepI, iqC, h1, h2, h3, h4, h5, h6, h7, h8, h9]
                  · (refine G tt_ok pk195 ?_; repeat (refine G1 tt_ok pk195 ?_; intro _))
                    refine CW.ret (fin_cells [_] ⟨⟨_, _, _, _, 0, rfl, rfl, rfl, rfl⟩, trivial⟩ (Ent.dropAll _) ?_)
                    refine ⟨?_, rfl⟩
                    obtain rfl : x = 9 := by simpa using h9
                    simp [packV, stepI, iqC]
                · (refine G tt_ok pk195 ?_; repeat (refine G1 tt_ok pk195 ?_; intro _))
                  refine CW.ret (fin_cells [_] ⟨⟨_, _, _, _, 0, rfl, rfl, rfl, rfl⟩, trivial⟩ (Ent.dropAll _) ?_)
                  refine ⟨?_, rfl⟩
                  obtain rfl : x = 8 := by simpa using h8
                  simp [packV, stepI, iqC]
              · (refine G tt_ok pk195 ?_; repeat (refine G1 tt_ok pk195 ?_; intro _))
                refine CW.ret (fin_cells [_] ⟨⟨_, _, _, _, 0, rfl, rfl, rfl, rfl⟩, trivial⟩ (Ent.dropAll _) ?_)
                refine ⟨?_, rfl⟩
                obtain rfl : x = 7 := by simpa using h7
                simp [packV, stepI, iqC]
            · (refine G tt_ok pk195 ?_; repeat (refine G1 tt_ok pk195 ?_; intro _))
              refine CW.ret (fin_cells [_] ⟨⟨_, _, _, _, 0, rfl, rfl, rfl, rfl⟩, trivial⟩ (Ent.dropAll _) ?_)
              refine ⟨?_, rfl⟩
              obtain rfl : x = 6 := by simpa using h6
              simp [packV, stepI, iqC]
          · (refine G tt_ok pk195 ?_; repeat (refine G1 tt_ok pk195 ?_; intro _))
            (refine SQ.call rfl rfl (ready60 β e l t a) [] rfl ?_; rintro _ _ ⟨rfl, rfl⟩; refine w_ ?_)
            generalize hr : readyI (e, l, t, a) = rr
            cases rr
            · (refine G tt_ok pk195 ?_; repeat (refine G1 tt_ok pk195 ?_; intro _))
              refine CW.ret (fin_cells [_] ⟨⟨_, _, _, _, 0, rfl, rfl, rfl, rfl⟩, trivial⟩ (Ent.dropAll _) ?_)
              refine ⟨?_, rfl⟩
              obtain rfl : x = 5 := by simpa using h5
              simp [packV, stepI, iqC, hr]
            · (refine G tt_ok pk195 ?_; repeat (refine G1 tt_ok pk195 ?_; intro _))
              refine CW.ret (fin_cells [_] ⟨⟨_, _, _, _, 0, rfl, rfl, rfl, rfl⟩, trivial⟩ (Ent.dropAll _) ?_)
              refine ⟨?_, rfl⟩
              obtain rfl : x = 5 := by simpa using h5
              simp [packV, stepI, iqC, hr]
        · (refine G tt_ok pk195 ?_; repeat (refine G1 tt_ok pk195 ?_; intro _))
          refine CW.ret (fin_cells [_] ⟨⟨_, _, _, _, 0, rfl, rfl, rfl, rfl⟩, trivial⟩ (Ent.dropAll _) ?_)
          refine ⟨?_, rfl⟩
          obtain rfl : x = 4 := by simpa using h4
          simp [packV, stepI, iqC]
      · (refine G tt_ok pk195 ?_; repeat (refine G1 tt_ok pk195 ?_; intro _))
        refine CW.ret (fin_cells [_] ⟨⟨_, _, _, _, 0, rfl, rfl, rfl, rfl⟩, trivial⟩ (Ent.dropAll _) ?_)
        refine ⟨?_, rfl⟩
        obtain rfl : x = 3 := by simpa using h3
        simp [packV, stepI, iqC]
    · (refine G tt_ok pk195 ?_; repeat (refine G1 tt_ok pk195 ?_; intro _))
      refine CW.ret (fin_cells [_] ⟨⟨_, _, _, _, 0, rfl, rfl, rfl, rfl⟩, trivial⟩ (Ent.dropAll _) ?_)
      refine ⟨?_, rfl⟩
      obtain rfl : x = 2 := by simpa using h2
      simp [packV, stepI, iqC]
  · cases t
    · cases e
      · (refine G tt_ok pk195 ?_; repeat (refine G1 tt_ok pk195 ?_; intro _))
        refine CW.ret (fin_cells [_] ⟨⟨_, _, _, _, 0, rfl, rfl, rfl, rfl⟩, trivial⟩ (Ent.dropAll _) ?_)
        refine ⟨?_, rfl⟩
        obtain rfl : x = 1 := by simpa using h1
        simp [packV, stepI, iqC]
      · (refine G tt_ok pk195 ?_; repeat (refine G1 tt_ok pk195 ?_; intro _))
        refine CW.ret (fin_cells [_] ⟨⟨_, _, _, _, 0, rfl, rfl, rfl, rfl⟩, trivial⟩ (Ent.dropAll _) ?_)
        refine ⟨?_, rfl⟩
        obtain rfl : x = 1 := by simpa using h1
        simp [packV, stepI, iqC]
    · (refine G tt_ok pk195 ?_; repeat (refine G1 tt_ok pk195 ?_; intro _))
      refine CW.ret (fin_cells [_] ⟨⟨_, _, _, _, 0, rfl, rfl, rfl, rfl⟩, trivial⟩ (Ent.dropAll _) ?_)
      refine ⟨?_, rfl⟩
      obtain rfl : x = 1 := by simpa using h1
      simp [packV, stepI, iqC]
theorem real50 (β : Base) (p : Int) : Tri Tryz.prog β 48 [.int .i64 p] [] (fun v L => v = .int .i64 (IntKind.i64.wrap (BitVec.ofInt 64 p &&& BitVec.ofInt 64 248).toNat) ∧ L = []) := by
  refine Tri.intro tt_ok Tryz.func48 rfl rfl Tryz.ntmps48 rfl fun F => ?_
  refine G tt_ok [] ?_
  exact CW.ret (fin_ret rfl (Ent.dropAll _) ⟨rfl, rfl⟩)
theorem bit46 (β : Base) (b : Bool) : Tri Tryz.prog β 201 [.bool b] [] (fun v L => v = .int .u64 (if b then 1 else 0) ∧ L = []) := by
  refine Tri.intro tt_ok Tryz.func201 rfl rfl Tryz.ntmps201 rfl fun F => ?_
  cases b
  · refine G tt_ok [] ?_
    exact CW.ret (fin_ret rfl (Ent.dropAll _) ⟨rfl, rfl⟩)
  · refine G tt_ok [] ?_
    exact CW.ret (fin_ret rfl (Ent.dropAll _) ⟨rfl, rfl⟩)
theorem one57 (β : Base) (b : Bool) : Tri Tryz.prog β 253 [.bool b] [] (fun v L => v = .int .u64 (if b then 1 else 0) ∧ L = []) := by
  refine Tri.intro tt_ok Tryz.func253 rfl rfl Tryz.ntmps253 rfl fun F => ?_
  cases b
  · refine G tt_ok [] ?_
    exact CW.ret (fin_ret rfl (Ent.dropAll _) ⟨rfl, rfl⟩)
  · refine G tt_ok [] ?_
    exact CW.ret (fin_ret rfl (Ent.dropAll _) ⟨rfl, rfl⟩)
-- part Fb
def actsV (r : Int) : Int := if r = 7 then 3 else if r = 8 then 4 else if r = 9 then 7 else if r = 10 then 6 else 0
theorem acts49 (β : Base) (r : Int) : Tri Tryz.prog β 196 [.int .i64 r] [] (fun v L => v = .int .i64 (actsV r) ∧ L = []) := by
  refine Tri.intro tt_ok Tryz.func196 rfl rfl Tryz.ntmps196 rfl fun F => ?_
  (repeat' (first | refine CW.seq ?_ | refine CW.region tt_ok rfl ?_ | refine CW.block ?_ | refine CW.skip ?_ | refine SQ.nil ?_ | refine SQ.pures1 tt_ok rfl ?_ | refine SQ.pure1 tt_ok rfl ?_ | refine SQ.new _ _ rfl rfl (fun _ => ?_) | refine SQ.ldA tt_ok rfl rfl (by repeat (first | exact .h | exact .q | apply At.t)) (by rfl) ?_ | refine SQ.stA tt_ok rfl rfl (by repeat (first | apply Up.h | apply Up.t)) (by rfl) (by rfl) (by exact trivial) ?_ | refine CW.cond_tt rfl ?_ | refine CW.cond_ff rfl ?_ | ((first | refine CW.cond rfl (fun hc => ?_) (fun hc => ?_) | refine SQ.gsplit rfl (fun hc => ?_) (fun hc => ?_)) <;> try (exfalso; simp_all; done))))
  all_goals (refine CW.ret (fin_ret rfl (Ent.dropAll _) ⟨?_, rfl⟩); simp_all [packV, actsV])
theorem edge51 (β : Base) (x : Int) : Tri Tryz.prog β 197 [.int .u64 x] [] (fun v L => v = .int .i64 (if IntKind.u64.wrap (BitVec.ofInt IntKind.u64.bits x &&& BitVec.ofInt IntKind.u64.bits 2).toNat = 2 then 8 else 9) ∧ L = []) := by
  refine Tri.intro tt_ok Tryz.func197 rfl rfl Tryz.ntmps197 rfl fun F => ?_
  (repeat' (first | refine CW.seq ?_ | refine CW.region tt_ok rfl ?_ | refine CW.block ?_ | refine CW.skip ?_ | refine SQ.nil ?_ | refine SQ.pures1 tt_ok rfl ?_ | refine SQ.pure1 tt_ok rfl ?_ | refine SQ.new _ _ rfl rfl (fun _ => ?_) | refine SQ.ldA tt_ok rfl rfl (by repeat (first | exact .h | exact .q | apply At.t)) (by rfl) ?_ | refine SQ.stA tt_ok rfl rfl (by repeat (first | apply Up.h | apply Up.t)) (by rfl) (by rfl) (by exact trivial) ?_ | refine CW.cond_tt rfl ?_ | refine CW.cond_ff rfl ?_ | ((first | refine CW.cond rfl (fun hc => ?_) (fun hc => ?_) | refine SQ.gsplit rfl (fun hc => ?_) (fun hc => ?_)) <;> try (exfalso; simp_all; done))))
  all_goals (refine CW.ret (fin_ret rfl (Ent.dropAll _) ⟨?_, rfl⟩))
  · simp only [beq_iff_eq] at hc; simp only [packV]; rw [if_pos hc]
  · simp only [beq_eq_false_iff_ne, ne_eq] at hc; simp only [packV]; rw [if_neg hc]
def bitsV (r : Int) : Int := if r = 11 then 8 else if r = 12 then 2 else if r = 13 then 63 else 1
theorem bits45 (β : Base) (r f c : Int) : Tri Tryz.prog β 198 [.agg #[.int .i64 r, .int .i64 f, .int .i64 c]] [] (fun v L => v = .int .i64 (bitsV r) ∧ L = []) := by
  refine Tri.intro tt_ok Tryz.func198 rfl rfl Tryz.ntmps198 rfl fun F => ?_
  (repeat' (first | refine CW.seq ?_ | refine CW.region tt_ok rfl ?_ | refine CW.block ?_ | refine CW.skip ?_ | refine SQ.nil ?_ | refine SQ.pures1 tt_ok rfl ?_ | refine SQ.pure1 tt_ok rfl ?_ | refine SQ.new _ _ rfl rfl (fun _ => ?_) | refine SQ.ldA tt_ok rfl rfl (by repeat (first | exact .h | exact .q | apply At.t)) (by rfl) ?_ | refine SQ.stA tt_ok rfl rfl (by repeat (first | apply Up.h | apply Up.t)) (by rfl) (by rfl) (by exact trivial) ?_ | refine CW.cond_tt rfl ?_ | refine CW.cond_ff rfl ?_ | ((first | refine CW.cond rfl (fun hc => ?_) (fun hc => ?_) | refine SQ.gsplit rfl (fun hc => ?_) (fun hc => ?_)) <;> try (exfalso; simp_all; done))))
  all_goals (refine CW.ret (fin_ret rfl (Ent.dropAll _) ⟨?_, rfl⟩); simp_all [packV, bitsV])
theorem wide56 (β : Base) (r : Int) : Tri Tryz.prog β 252 [.int .i64 r] [] (fun v L => v = .int .i64 (bitsV r) ∧ L = []) := by
  refine Tri.intro tt_ok Tryz.func252 rfl rfl Tryz.ntmps252 rfl fun F => ?_
  (repeat' (first | refine CW.seq ?_ | refine CW.region tt_ok rfl ?_ | refine CW.block ?_ | refine CW.skip ?_ | refine SQ.nil ?_ | refine SQ.pures1 tt_ok rfl ?_ | refine SQ.pure1 tt_ok rfl ?_ | refine SQ.new _ _ rfl rfl (fun _ => ?_) | refine SQ.ldA tt_ok rfl rfl (by repeat (first | exact .h | exact .q | apply At.t)) (by rfl) ?_ | refine SQ.stA tt_ok rfl rfl (by repeat (first | apply Up.h | apply Up.t)) (by rfl) (by rfl) (by exact trivial) ?_ | refine CW.cond_tt rfl ?_ | refine CW.cond_ff rfl ?_ | ((first | refine CW.cond rfl (fun hc => ?_) (fun hc => ?_) | refine SQ.gsplit rfl (fun hc => ?_) (fun hc => ?_)) <;> try (exfalso; simp_all; done))))
  all_goals (refine CW.ret (fin_ret rfl (Ent.dropAll _) ⟨?_, rfl⟩); simp_all [packV, bitsV])
/-- An interrupt: its state, Enabled, Group, Priority. -/
abbrev Ln := Iq × Bool × Int × Int
@[reducible] def lnC (l : Ln) : List Value := [.bool l.1.1, .bool l.1.2.1, .bool l.1.2.2.1, .bool l.1.2.2.2, .bool l.2.1, .int .i64 l.2.2.1, .int .i64 l.2.2.2]
def b2 (b : Bool) : Int := if b then 1 else 0
def showsV (l : Ln) (r : Int) : Int :=
  if r = 4 then IntKind.u64.wrap l.2.2.1 else if r = 5 ∨ r = 6 then b2 l.2.1 else if r = 7 ∨ r = 8 then b2 (pendI l.1) else if r = 9 ∨ r = 10 then b2 l.1.2.2.2
  else if r = 11 then IntKind.u64.wrap l.2.2.2 else if r = 12 then IntKind.u64.wrap (2 * b2 l.1.1) else 0
theorem shows27 (β : Base) (e l t a en : Bool) (g p r : Int) : Tri Tryz.prog β 127 [.agg #[.bool e, .bool l, .bool t, .bool a, .bool en, .int .i64 g, .int .i64 p], .int .i64 r] [] (fun v L => v = .int .u64 (showsV ((e, l, t, a), en, g, p) r) ∧ L = []) := by
  refine Tri.intro tt_ok Tryz.func127 rfl rfl Tryz.ntmps127 rfl fun F => ?_
  (repeat' (first | refine CW.seq ?_ | refine CW.region tt_ok rfl ?_ | refine CW.block ?_ | refine CW.skip ?_ | refine SQ.nil ?_ | refine SQ.pures1 tt_ok rfl ?_ | refine SQ.pure1 tt_ok rfl ?_ | refine SQ.new _ _ rfl rfl (fun _ => ?_) | refine SQ.ldA tt_ok rfl rfl (by repeat (first | exact .h | exact .q | apply At.t)) (by rfl) ?_ | refine SQ.stA tt_ok rfl rfl (by repeat (first | apply Up.h | apply Up.t)) (by rfl) (by rfl) (by exact trivial) ?_ | refine CW.cond_tt rfl ?_ | refine CW.cond_ff rfl ?_ | (refine SQ.callA rfl rfl (bit46 β _) (by repeat (first | exact .n | exact Rm.h | exact Rm.of own_row | exact Rm.of row_close0 | apply Tk.c | apply Rm.t)) ?_; rintro _ _ ⟨rfl, rfl⟩; refine ⟨(by exact trivial), ?_⟩) | (refine SQ.callA rfl rfl (pending47 β _ _ _ _) (by repeat (first | exact .n | exact Rm.h | exact Rm.of own_row | exact Rm.of row_close0 | apply Tk.c | apply Rm.t)) ?_; rintro _ _ ⟨rfl, rfl⟩; refine ⟨(by exact trivial), ?_⟩) | ((first | refine CW.cond rfl (fun hc => ?_) (fun hc => ?_) | refine SQ.gsplit rfl (fun hc => ?_) (fun hc => ?_)) <;> try (exfalso; simp_all; done))))
  all_goals (refine CW.ret (fin_ret rfl (Ent.dropAll _) ⟨?_, rfl⟩); simp_all [packV, showsV, b2])
-- part Fc
def realV (p : Int) : Int := IntKind.i64.wrap (BitVec.ofInt 64 p &&& BitVec.ofInt 64 248).toNat
def edgeV (x : Int) : Int := if IntKind.u64.wrap (BitVec.ofInt IntKind.u64.bits x &&& BitVec.ofInt IntKind.u64.bits 2).toNat = 2 then 8 else 9
def writtenV (id : Int) (l : Ln) (r x : Int) : Ln :=
  if r = 4 then (l.1, l.2.1, IntKind.i64.wrap x, l.2.2.2) else if r = 5 then (l.1, l.2.1 || x == 1, l.2.2) else if r = 6 then (l.1, l.2.1 && x == 0, l.2.2)
  else if r = 7 ∨ r = 8 ∨ r = 9 ∨ r = 10 then (if x = 1 then (stepI l.1 (actsV r), l.2) else l)
  else if r = 11 then (l.1, l.2.1, l.2.2.1, realV (IntKind.i64.wrap x)) else if r = 12 then (if id ≥ 16 then (stepI l.1 (edgeV x), l.2) else l) else l
theorem step48' (β : Base) (e l t a : Bool) (x : Int) : Tri Tryz.prog β 195 [.agg #[.bool e, .bool l, .bool t, .bool a], .int .i64 x] [] (fun v L => v = .agg #[.bool (stepI (e, l, t, a) x).1, .bool (stepI (e, l, t, a) x).2.1, .bool (stepI (e, l, t, a) x).2.2.1, .bool (stepI (e, l, t, a) x).2.2.2] ∧ L = []) := step48 β e l t a x
theorem edge51' (β : Base) (x : Int) : Tri Tryz.prog β 197 [.int .u64 x] [] (fun v L => v = .int .i64 (edgeV x) ∧ L = []) := edge51 β x
theorem real50' (β : Base) (x : Int) : Tri Tryz.prog β 48 [.int .i64 x] [] (fun v L => v = .int .i64 (realV x) ∧ L = []) := real50 β x
set_option maxHeartbeats 4000000 in
theorem written28 (β : Base) (id : Int) (e l t a en : Bool) (g p r x : Int) : Tri Tryz.prog β 122 [.int .i64 id, .agg #[.bool e, .bool l, .bool t, .bool a, .bool en, .int .i64 g, .int .i64 p], .int .i64 r, .int .u64 x] []
    (fun v L => v = .agg (lnC (writtenV id ((e, l, t, a), en, g, p) r x)).toArray ∧ L = []) := by
  refine Tri.intro tt_ok Tryz.func122 rfl rfl Tryz.ntmps122 rfl fun F => ?_
  (repeat' (first | refine CW.seq ?_ | refine CW.region tt_ok rfl ?_ | refine CW.regionD tt_ok (by kernel_rfl) pl122_0 (by decide +kernel) ?_ | refine CW.block ?_ | refine CW.skip ?_ | refine SQ.nil ?_ | refine SQ.pures1 tt_ok rfl ?_ | refine SQ.pure1 tt_ok rfl ?_ | refine SQ.new _ _ rfl rfl (fun _ => ?_) | refine SQ.ldA tt_ok rfl rfl (by repeat (first | exact .h | exact .q | apply At.t)) (by rfl) ?_ | refine SQ.stA tt_ok rfl rfl (by repeat (first | apply Up.h | apply Up.t)) (by rfl) (by rfl) (by repeat (first | exact trivial | refine ⟨trivial, ?_⟩ | refine ⟨wk (by repeat (first | exact .h | exact .q | apply At.t)) (by rfl), ?_⟩)) ?_ | refine CW.cond_tt rfl ?_ | refine CW.cond_ff rfl ?_ | (refine SQ.callA rfl rfl (acts49 β _) (by repeat (first | exact .n | exact Rm.h | exact Rm.of own_row | exact Rm.of row_close0 | apply Tk.c | apply Rm.t)) ?_; rintro _ _ ⟨rfl, rfl⟩; refine ⟨(by repeat (first | exact trivial | refine ⟨trivial, ?_⟩ | refine ⟨wk (by repeat (first | exact .h | exact .q | apply At.t)) (by rfl), ?_⟩)), ?_⟩) | (refine SQ.callA rfl rfl (step48' β _ _ _ _ _) (by repeat (first | exact .n | exact Rm.h | exact Rm.of own_row | exact Rm.of row_close0 | apply Tk.c | apply Rm.t)) ?_; rintro _ _ ⟨rfl, rfl⟩; refine ⟨(by repeat (first | exact trivial | refine ⟨trivial, ?_⟩ | refine ⟨wk (by repeat (first | exact .h | exact .q | apply At.t)) (by rfl), ?_⟩)), ?_⟩) | (refine SQ.callA rfl rfl (edge51' β _) (by repeat (first | exact .n | exact Rm.h | exact Rm.of own_row | exact Rm.of row_close0 | apply Tk.c | apply Rm.t)) ?_; rintro _ _ ⟨rfl, rfl⟩; refine ⟨(by repeat (first | exact trivial | refine ⟨trivial, ?_⟩ | refine ⟨wk (by repeat (first | exact .h | exact .q | apply At.t)) (by rfl), ?_⟩)), ?_⟩) | (refine SQ.callA rfl rfl (real50' β _) (by repeat (first | exact .n | exact Rm.h | exact Rm.of own_row | exact Rm.of row_close0 | apply Tk.c | apply Rm.t)) ?_; rintro _ _ ⟨rfl, rfl⟩; refine ⟨(by repeat (first | exact trivial | refine ⟨trivial, ?_⟩ | refine ⟨wk (by repeat (first | exact .h | exact .q | apply At.t)) (by rfl), ?_⟩)), ?_⟩) | ((first | refine CW.cond rfl (fun hc => ?_) (fun hc => ?_) | refine SQ.gsplit rfl (fun hc => ?_) (fun hc => ?_)) <;> try (exfalso; simp_all; done))))
  all_goals (refine CW.ret (fin_cells [_] ⟨⟨_, _, _, _, 0, rfl, rfl, rfl, rfl⟩, trivial⟩ (Ent.dropAll _) ⟨?_, rfl⟩); simp_all [packV, writtenV, lnC])
  all_goals (have h6 : ¬ (16 : Int) ≤ id := by omega
             simp [h6])
-- part Fd
theorem pending58 (β : Base) (e l t a : Bool) : Tri Tryz.prog β 224 [.agg #[.bool e, .bool l, .bool t, .bool a]] [] (fun v L => v = .bool (pendI (e, l, t, a)) ∧ L = []) := by
  refine Tri.intro tt_ok Tryz.func224 rfl rfl Tryz.ntmps224 rfl fun F => ?_
  (repeat' (first | refine CW.seq ?_ | refine CW.region tt_ok rfl ?_ | refine CW.block ?_ | refine CW.skip ?_ | refine SQ.nil ?_ | refine SQ.pures1 tt_ok rfl ?_ | refine SQ.pure1 tt_ok rfl ?_ | refine SQ.new _ _ rfl rfl (fun _ => ?_) | refine SQ.ldA tt_ok rfl rfl (by repeat (first | exact .h | exact .q | apply At.t)) (by rfl) ?_ | refine SQ.stA tt_ok rfl rfl (by repeat (first | apply Up.h | apply Up.t)) (by rfl) (by rfl) (by repeat (first | exact trivial | refine ⟨trivial, ?_⟩ | refine ⟨wk (by repeat (first | exact .h | exact .q | apply At.t)) (by rfl), ?_⟩)) ?_ | refine CW.cond_tt rfl ?_ | refine CW.cond_ff rfl ?_ | ((first | refine CW.cond rfl (fun hc => ?_) (fun hc => ?_) | refine SQ.gsplit rfl (fun hc => ?_) (fun hc => ?_)) <;> try (exfalso; simp_all; done))))
  all_goals (refine CW.ret (fin_ret rfl (Ent.dropAll _) ⟨?_, rfl⟩); simp_all [packV, pendI])
theorem ready62 (β : Base) (e l t a : Bool) : Tri Tryz.prog β 216 [.agg #[.bool e, .bool l, .bool t, .bool a]] [] (fun v L => v = .bool (readyI (e, l, t, a)) ∧ L = []) := by
  refine Tri.intro tt_ok Tryz.func216 rfl rfl Tryz.ntmps216 rfl fun F => ?_
  (repeat' (first | refine CW.seq ?_ | refine CW.region tt_ok rfl ?_ | refine CW.block ?_ | refine CW.skip ?_ | refine SQ.nil ?_ | refine SQ.pures1 tt_ok rfl ?_ | refine SQ.pure1 tt_ok rfl ?_ | refine SQ.new _ _ rfl rfl (fun _ => ?_) | refine SQ.ldA tt_ok rfl rfl (by repeat (first | exact .h | exact .q | apply At.t)) (by rfl) ?_ | refine SQ.stA tt_ok rfl rfl (by repeat (first | apply Up.h | apply Up.t)) (by rfl) (by rfl) (by repeat (first | exact trivial | refine ⟨trivial, ?_⟩ | refine ⟨wk (by repeat (first | exact .h | exact .q | apply At.t)) (by rfl), ?_⟩)) ?_ | refine CW.cond_tt rfl ?_ | refine CW.cond_ff rfl ?_ | (refine SQ.callA rfl rfl (pending58 β _ _ _ _) (by repeat (first | exact .n | exact Rm.h | exact Rm.of own_row | exact Rm.of row_close0 | apply Tk.c | apply Rm.t)) ?_; rintro _ _ ⟨rfl, rfl⟩; refine ⟨(by repeat (first | exact trivial | refine ⟨trivial, ?_⟩ | refine ⟨wk (by repeat (first | exact .h | exact .q | apply At.t)) (by rfl), ?_⟩)), ?_⟩) | ((first | refine CW.cond rfl (fun hc => ?_) (fun hc => ?_) | refine SQ.gsplit rfl (fun hc => ?_) (fun hc => ?_)) <;> try (exfalso; simp_all; done))))
  all_goals (refine CW.ret (fin_ret rfl (Ent.dropAll _) ⟨?_, rfl⟩); simp_all [packV, readyI])
set_option maxHeartbeats 4000000 in
theorem step55 (β : Base) (e l t a : Bool) (x : Int) : Tri Tryz.prog β 213 [.agg #[.bool e, .bool l, .bool t, .bool a], .int .i64 x] [] (fun v L => v = .agg (iqC (stepI (e, l, t, a) x)).toArray ∧ L = []) := by
  refine Tri.intro tt_ok Tryz.func213 rfl rfl Tryz.ntmps213 rfl fun F => ?_
  (repeat' (first | refine CW.seq ?_ | refine CW.region tt_ok rfl ?_ | refine CW.block ?_ | refine CW.skip ?_ | refine SQ.nil ?_ | refine SQ.pures1 tt_ok rfl ?_ | refine SQ.pure1 tt_ok rfl ?_ | refine SQ.new _ _ rfl rfl (fun _ => ?_) | refine SQ.ldA tt_ok rfl rfl (by repeat (first | exact .h | exact .q | apply At.t)) (by rfl) ?_ | refine SQ.stA tt_ok rfl rfl (by repeat (first | apply Up.h | apply Up.t)) (by rfl) (by rfl) (by repeat (first | exact trivial | refine ⟨trivial, ?_⟩ | refine ⟨wk (by repeat (first | exact .h | exact .q | apply At.t)) (by rfl), ?_⟩)) ?_ | refine CW.cond_tt rfl ?_ | refine CW.cond_ff rfl ?_ | (refine SQ.callA rfl rfl (ready62 β _ _ _ _) (by repeat (first | exact .n | exact Rm.h | exact Rm.of own_row | exact Rm.of row_close0 | apply Tk.c | apply Rm.t)) ?_; rintro _ _ ⟨rfl, rfl⟩; refine ⟨(by repeat (first | exact trivial | refine ⟨trivial, ?_⟩ | refine ⟨wk (by repeat (first | exact .h | exact .q | apply At.t)) (by rfl), ?_⟩)), ?_⟩) | ((first | refine CW.cond rfl (fun hc => ?_) (fun hc => ?_) | refine SQ.gsplit rfl (fun hc => ?_) (fun hc => ?_)) <;> try (exfalso; simp_all; done))))
  all_goals (refine CW.ret (fin_cells [_] ⟨⟨_, _, _, _, 1, rfl, rfl, rfl, rfl⟩, trivial⟩ (Ent.dropAll _) ⟨?_, rfl⟩); simp_all [packV, stepI, iqC])
@[reducible] def pk123 : List (Nat × Plan) := [(4, [(0, 0, []), (1, 0, []), (2, 0, []), (3, 0, []), (4, 0, []), (5, 0, []), (6, 0, []), (7, 0, []), (8, 0, []), (9, 0, [])])]
@[reducible] def pk126 : List (Nat × Plan) := [(5, [(0, 0, []), (1, 0, []), (2, 0, []), (3, 0, []), (4, 0, []), (5, 0, []), (6, 0, []), (7, 0, []), (8, 0, []), (9, 0, []), (10, 0, []), (11, 0, []), (12, 0, []), (13, 0, []), (14, 0, []), (15, 0, [])])]
@[reducible] def pl123_0 : Plan := [(0, 0, []), (1, 0, []), (2, 0, []), (3, 0, []), (4, 0, []), (5, 0, []), (6, 0, []), (7, 0, []), (8, 0, []), (9, 0, [])]
@[reducible] def pl126_0 : Plan := [(0, 0, []), (1, 0, []), (2, 0, []), (3, 0, []), (4, 0, []), (5, 0, []), (6, 0, []), (7, 0, []), (8, 0, []), (9, 0, []), (10, 0, []), (11, 0, []), (12, 0, []), (13, 0, []), (14, 0, []), (15, 0, [])]
-- part Fg
theorem bitsV_range (r : Int) : 1 ≤ bitsV r ∧ bitsV r ≤ 63 := by unfold bitsV; split <;> (try split) <;> (try split) <;> omega
theorem mul_ok {r k : Int} (h0 : 0 ≤ k) (h1 : k ≤ 64) : IntKind.i64.wrap (bitsV r * k) = ((bitsV r * k).toNat : Int) := by
  obtain ⟨a, b⟩ := bitsV_range r
  have h2 : 0 ≤ bitsV r * k := Int.mul_nonneg (by omega) h0
  have h3 : bitsV r * k ≤ 63 * 64 := Int.mul_le_mul b h1 h0 (by omega)
  rw [wrap_i64]; split <;> omega
theorem bits_ok (r : Int) : bitsV r = ((bitsV r).toNat : Int) := by have := bitsV_range r; omega
/-- The bits of one. -/
def onesV (r : Int) : Int := IntKind.u64.wrap (IntKind.u64.wrap (1 * 2 ^ min (bitsV r).toNat IntKind.u64.bits) - 1)
def fieldV (v r c k : Int) : Int := if k < 0 ∨ k ≥ c ∨ k > 64 then 0 else IntKind.u64.wrap (BitVec.ofInt IntKind.u64.bits (v.fdiv (2 ^ min (bitsV r * k).toNat IntKind.u64.bits)) &&& BitVec.ofInt IntKind.u64.bits (onesV r)).toNat
theorem field29 (β : Base) (v r f c k : Int) : Tri Tryz.prog β 123 [.int .u64 v, .agg #[.int .i64 r, .int .i64 f, .int .i64 c], .int .i64 k] [] (fun u L => u = .int .u64 (fieldV v r c k) ∧ L = []) := by
  refine Tri.intro tt_ok Tryz.func123 rfl rfl Tryz.ntmps123 rfl fun F => ?_
  (repeat' (first | refine CW.seq ?_ | refine CW.region tt_ok rfl ?_ | refine CW.regionD tt_ok (by kernel_rfl) pl123_0 (by decide +kernel) ?_ | refine CW.block ?_ | refine CW.skip ?_ | refine SQ.nil ?_ | refine SQ.pures1 tt_ok rfl ?_ | refine SQ.pure1 tt_ok rfl ?_ | refine SQ.new _ _ rfl rfl (fun _ => ?_) | refine SQ.ldA tt_ok rfl rfl (by repeat (first | exact .h | exact .q | apply At.t)) (by rfl) ?_ | refine SQ.stA tt_ok rfl rfl (by repeat (first | apply Up.h | apply Up.t)) (by rfl) (by rfl) (by repeat (first | exact trivial | refine ⟨trivial, ?_⟩ | refine ⟨wk (by repeat (first | exact .h | exact .q | apply At.t)) (by rfl), ?_⟩)) ?_ | refine CW.cond_tt rfl ?_ | refine CW.cond_ff rfl ?_ | (refine SQ.callA rfl rfl (bits45 β _ _ _) (by repeat (first | exact .n | exact Rm.h | exact Rm.of own_row | exact Rm.of row_close0 | apply Tk.c | apply Rm.t)) ?_; rintro _ _ ⟨rfl, rfl⟩; refine ⟨(by repeat (first | exact trivial | refine ⟨trivial, ?_⟩ | refine ⟨wk (by repeat (first | exact .h | exact .q | apply At.t)) (by rfl), ?_⟩)), ?_⟩) | ((first | refine CW.cond rfl (fun hc => ?_) (fun hc => ?_) | refine SQ.gsplit rfl (fun hc => ?_) (fun hc => ?_)) <;> try (exfalso; simp_all; done))))
  all_goals simp only [decide_eq_true_eq, decide_eq_false_iff_not] at *
  all_goals (first
    | (refine CW.ret (fin_ret rfl (Ent.dropAll _) ⟨?_, rfl⟩)
       unfold fieldV
       rw [if_pos (show k < 0 ∨ k ≥ c ∨ k > 64 by omega)]
       rfl)
    | (refine SQ.shift tt_ok rfl rfl (bitsV r * k).toNat (mul_ok (by omega) (by omega)) rfl ?_
       (refine G tt_ok pk123 ?_; repeat (refine G1 tt_ok pk123 ?_; intro _))
       refine SQ.shift tt_ok rfl rfl (bitsV r).toNat (bits_ok r) rfl ?_
       (refine G tt_ok pk123 ?_; repeat (refine G1 tt_ok pk123 ?_; intro _))
       refine CW.ret (fin_ret rfl (Ent.dropAll _) ⟨?_, rfl⟩)
       unfold fieldV
       rw [if_neg (show ¬ (k < 0 ∨ k ≥ c ∨ k > 64) by omega)]
       rfl))
def withV (v r c k x : Int) : Int := if k < 0 ∨ k ≥ c ∨ k > 64 then v else
  IntKind.u64.wrap (BitVec.ofInt IntKind.u64.bits (IntKind.u64.wrap (BitVec.ofInt IntKind.u64.bits v &&& ~~~BitVec.ofInt IntKind.u64.bits (IntKind.u64.wrap (onesV r * 2 ^ min (bitsV r * k).toNat IntKind.u64.bits))).toNat) |||
    BitVec.ofInt IntKind.u64.bits (IntKind.u64.wrap (IntKind.u64.wrap (BitVec.ofInt IntKind.u64.bits x &&& BitVec.ofInt IntKind.u64.bits (onesV r)).toNat * 2 ^ min (bitsV r * k).toNat IntKind.u64.bits))).toNat
theorem with26 (β : Base) (v r f c k x : Int) : Tri Tryz.prog β 126 [.int .u64 v, .agg #[.int .i64 r, .int .i64 f, .int .i64 c], .int .i64 k, .int .u64 x] [] (fun u L => u = .int .u64 (withV v r c k x) ∧ L = []) := by
  refine Tri.intro tt_ok Tryz.func126 rfl rfl Tryz.ntmps126 rfl fun F => ?_
  (repeat' (first | refine CW.seq ?_ | refine CW.region tt_ok rfl ?_ | refine CW.regionD tt_ok (by kernel_rfl) pl126_0 (by decide +kernel) ?_ | refine CW.block ?_ | refine CW.skip ?_ | refine SQ.nil ?_ | refine SQ.pures1 tt_ok rfl ?_ | refine SQ.pure1 tt_ok rfl ?_ | refine SQ.new _ _ rfl rfl (fun _ => ?_) | refine SQ.ldA tt_ok rfl rfl (by repeat (first | exact .h | exact .q | apply At.t)) (by rfl) ?_ | refine SQ.stA tt_ok rfl rfl (by repeat (first | apply Up.h | apply Up.t)) (by rfl) (by rfl) (by repeat (first | exact trivial | refine ⟨trivial, ?_⟩ | refine ⟨wk (by repeat (first | exact .h | exact .q | apply At.t)) (by rfl), ?_⟩)) ?_ | refine CW.cond_tt rfl ?_ | refine CW.cond_ff rfl ?_ | (refine SQ.callA rfl rfl (bits45 β _ _ _) (by repeat (first | exact .n | exact Rm.h | exact Rm.of own_row | exact Rm.of row_close0 | apply Tk.c | apply Rm.t)) ?_; rintro _ _ ⟨rfl, rfl⟩; refine ⟨(by repeat (first | exact trivial | refine ⟨trivial, ?_⟩ | refine ⟨wk (by repeat (first | exact .h | exact .q | apply At.t)) (by rfl), ?_⟩)), ?_⟩) | ((first | refine CW.cond rfl (fun hc => ?_) (fun hc => ?_) | refine SQ.gsplit rfl (fun hc => ?_) (fun hc => ?_)) <;> try (exfalso; simp_all; done))))
  all_goals simp only [decide_eq_true_eq, decide_eq_false_iff_not] at *
  all_goals (first
    | (refine CW.ret (fin_ret rfl (Ent.dropAll _) ⟨?_, rfl⟩)
       unfold withV
       rw [if_pos (show k < 0 ∨ k ≥ c ∨ k > 64 by omega)]
       rfl)
    | (refine SQ.shift tt_ok rfl rfl (bitsV r).toNat (bits_ok r) rfl ?_
       (refine G tt_ok pk126 ?_; repeat (refine G1 tt_ok pk126 ?_; intro _))
       refine SQ.shift tt_ok rfl rfl (bitsV r * k).toNat (mul_ok (by omega) (by omega)) rfl ?_
       (refine G tt_ok pk126 ?_; repeat (refine G1 tt_ok pk126 ?_; intro _))
       refine SQ.shift tt_ok rfl rfl (bitsV r * k).toNat (mul_ok (by omega) (by omega)) rfl ?_
       (refine G tt_ok pk126 ?_; repeat (refine G1 tt_ok pk126 ?_; intro _))
       refine CW.ret (fin_ret rfl (Ent.dropAll _) ⟨?_, rfl⟩)
       unfold withV
       rw [if_neg (show ¬ (k < 0 ∨ k ≥ c ∨ k > 64) by omega)]
       rfl))
/-- The numbers of a place. -/
def cntV (c : Int) : Nat := (max 0 (min c 16384)).toNat
def idsV (f : Int) : Nat → List Int
  | 0 => []
  | k + 1 => idsV f k ++ [IntKind.i64.wrap (f + k)]
theorem idsV_pre {f : Int} : ∀ {k n : Nat}, k ≤ n → idsV f k <+: idsV f n
  | k, 0, h => by
    have : k = 0 := by omega
    subst this; exact List.prefix_refl _
  | k, n + 1, h => by
    by_cases e : k = n + 1
    · subst e; exact List.prefix_refl _
    · exact (idsV_pre (by omega)).trans (List.prefix_append _ _)
theorem iter44 (β : Base) (r f c : Int) (b1 : Nat) : Iter Tryz.prog β 194 [.pointer (some ⟨b1, 0, none⟩)] [pt b1 [.int .i64 r, .int .i64 f, .int .i64 c]] (fun x => [Value.int .i64 x]) (idsV f (cntV c)) := by
  intro l J Jx hY
  refine Tri.intro tt_ok Tryz.func194 rfl rfl Tryz.ntmps194 rfl fun F => ?_
  refine G tt_ok [] ?_
  have hm : (if (0 : Int) < (if (16384 : Int) < c then 16384 else c) then (if (16384 : Int) < c then 16384 else c) else 0) = ((cntV c : Nat) : Int) := by
    unfold cntV; split <;> split <;> omega
  have hle : cntV c ≤ 16384 := by unfold cntV; omega
  rw [hm]
  generalize cntV c = n at hle hY ⊢
  refine CW.loop (α := Nat) (fun k => k ≤ n) (fun k => [(8, .int .i64 k), (7, .int .i64 n), (0, .func (.yield l) #[] #[]), (1, .pointer (some ⟨b1, 0, none⟩))])
    (fun k => [J (idsV f k), pt b1 [.int .i64 r, .int .i64 f, .int .i64 c]]) (fun k => n - k) 0 (by omega) ⟨rfl, rfl, rfl, rfl, trivial⟩ (Ent.refl _) ?_
  intro k hk
  refine G tt_ok [] ?_
  generalize e1 : decide ((k : Int) < (n : Int)) = cc
  cases cc
  · refine G tt_ok [] ?_
    refine CW.exit ?_
    have : k = n := by simp at e1; omega
    subst this
    exact fin_normal rfl (Ent.refl _) (.inl rfl)
  · have hlt : k < n := by simp at e1; omega
    have hw : IntKind.i64.wrap ((k : Int) + 1) = ((k + 1 : Nat) : Int) := by rw [wrap_i64]; split <;> omega
    refine G tt_ok [] ?_
    (refine SQ.yield rfl rfl (hY (idsV f k) (IntKind.i64.wrap (f + k)) (idsV_pre (k := k + 1) (by omega))) [0, 0] rfl ?_; rintro _ _ (⟨rfl, rfl⟩ | ⟨rfl, rfl⟩) <;> refine w_ ?_)
    · refine G tt_ok [] ?_
      refine ⟨k + 1, by omega, by omega, ⟨by rw [← hw]; rfl, rfl, rfl, rfl, trivial⟩, Ent.refl _⟩
    · refine G tt_ok [] ?_
      exact CW.ret (fin_ret rfl (Ent.refl _) (.inr ⟨_, rfl⟩))
theorem ids25 (β : Base) (r f c : Int) : Tri Tryz.prog β 121 [.agg #[.int .i64 r, .int .i64 f, .int .i64 c]] [] (fun v L => ∃ b1, v = .func (.func 194) #[] #[.pointer (some ⟨b1, 0, none⟩)] ∧ L = [pt b1 [.int .i64 r, .int .i64 f, .int .i64 c]]) := by
  refine Tri.intro tt_ok Tryz.func121 rfl rfl Tryz.ntmps121 rfl fun F => ?_
  (refine G tt_ok [] ?_; repeat (refine G1 tt_ok [] ?_; intro _))
  refine CW.ret (fin_ret rfl (Ent.refl _) ?_)
  exact ⟨_, rfl, rfl⟩
-- part Fx<
theorem wN {a : Nat} (h : a < 2 ^ 64) : IntKind.u64.wrap (a : Int) = a := by
  rw [wrap_u64]; have : (2 : Nat) ^ 64 = 18446744073709551616 := rfl; omega
theorem oN {a : Nat} (h : a < 2 ^ 64) : (BitVec.ofInt 64 (a : Int)).toNat = a := by
  rw [BitVec.toNat_ofInt]; have : (2 : Nat) ^ 64 = 18446744073709551616 := rfl; omega
theorem and64 {a b : Nat} (ha : a < 2 ^ 64) (hb : b < 2 ^ 64) : IntKind.u64.wrap ((BitVec.ofInt IntKind.u64.bits (a : Int) &&& BitVec.ofInt IntKind.u64.bits (b : Int)).toNat : Int) = ((a &&& b : Nat) : Int) := by
  show IntKind.u64.wrap ((BitVec.ofInt 64 (a : Int) &&& BitVec.ofInt 64 (b : Int)).toNat : Int) = _
  rw [BitVec.toNat_and, oN ha, oN hb, wN (Nat.and_lt_two_pow _ hb)]
theorem or64 {a b : Nat} (ha : a < 2 ^ 64) (hb : b < 2 ^ 64) : IntKind.u64.wrap ((BitVec.ofInt IntKind.u64.bits (a : Int) ||| BitVec.ofInt IntKind.u64.bits (b : Int)).toNat : Int) = ((a ||| b : Nat) : Int) := by
  show IntKind.u64.wrap ((BitVec.ofInt 64 (a : Int) ||| BitVec.ofInt 64 (b : Int)).toNat : Int) = _
  rw [BitVec.toNat_or, oN ha, oN hb, wN (Nat.or_lt_two_pow ha hb)]
theorem oN' (a : Nat) : BitVec.ofInt 64 (a : Int) = BitVec.ofNat 64 a := by
  apply BitVec.eq_of_toNat_eq
  rw [BitVec.toNat_ofInt, BitVec.toNat_ofNat]
  have : (2 : Nat) ^ 64 = 18446744073709551616 := rfl
  omega
theorem bits_n (r : Int) : ∃ n : Nat, 1 ≤ n ∧ n ≤ 63 ∧ bitsV r = n := by
  obtain ⟨a, b⟩ := bitsV_range r
  exact ⟨(bitsV r).toNat, by omega, by omega, by omega⟩
theorem ones_n {r : Int} {n : Nat} (h : bitsV r = n) (hn : n ≤ 63) : onesV r = ((2 ^ n - 1 : Nat) : Int) := by
  unfold onesV
  rw [h, Int.toNat_natCast]
  have hp : (2 : Nat) ^ n ≤ 2 ^ 63 := Nat.pow_le_pow_right (by omega) hn
  have hpos : 0 < (2 : Nat) ^ n := Nat.two_pow_pos n
  have e63 : (2 : Nat) ^ 63 = 9223372036854775808 := rfl
  have hm : min n IntKind.u64.bits = n := by show min n 64 = n; omega
  rw [hm]
  have e : ((2 : Int) ^ n) = ((2 ^ n : Nat) : Int) := by push_cast; rfl
  rw [e, wrap_u64, wrap_u64]
  omega
theorem ofInt_wrap (x : Int) : BitVec.ofInt 64 (IntKind.u64.wrap x) = BitVec.ofInt 64 x := by
  apply BitVec.eq_of_toNat_eq
  rw [BitVec.toNat_ofInt, BitVec.toNat_ofInt, wrap_u64]
  have : (2 : Nat) ^ 64 = 18446744073709551616 := rfl
  omega
theorem getLsb_ofNat {a j : Nat} (hj : j < 64) : (BitVec.ofNat 64 a).getLsbD j = a.testBit j := by
  rw [BitVec.getLsbD_ofNat]; simp [hj]
theorem testBit_mul_pow (a n j : Nat) : (a * 2 ^ n).testBit j = (decide (n ≤ j) && a.testBit (j - n)) := by
  rw [← Nat.shiftLeft_eq, Nat.testBit_shiftLeft]
theorem withV_nat {v x : Nat} (hv : v < 2 ^ 64) (hx : x < 2 ^ 64) {r c : Int} {k n : Nat} (hb : bitsV r = n) (hn : n ≤ 63) (h1 : (k : Int) < c) (h2 : k ≤ 64) :
    ∃ W : Nat, W < 2 ^ 64 ∧ withV v r c k x = W ∧ ∀ j, j < 64 → W.testBit j = if n * k ≤ j ∧ j < n * k + n then x.testBit (j - n * k) else v.testBit j := by
  have hlt2 : 2 ^ n - 1 < 2 ^ 64 := by
    have hp : (2 : Nat) ^ n ≤ 2 ^ 63 := Nat.pow_le_pow_right (by omega) hn
    have e63 : (2 : Nat) ^ 63 = 9223372036854775808 := rfl
    have e64 : (2 : Nat) ^ 64 = 18446744073709551616 := rfl
    omega
  refine ⟨((BitVec.ofNat 64 v &&& ~~~BitVec.ofNat 64 ((2 ^ n - 1) * 2 ^ min (n * k) 64)) ||| BitVec.ofNat 64 ((x &&& (2 ^ n - 1)) * 2 ^ min (n * k) 64)).toNat, BitVec.isLt _, ?_, ?_⟩
  · unfold withV
    rw [if_neg (by omega), ones_n hb hn, hb, show ((n : Int) * (k : Int)).toNat = n * k by rw [← Int.natCast_mul]; rfl, and64 hx hlt2]
    show IntKind.u64.wrap ((BitVec.ofInt 64 (IntKind.u64.wrap ((BitVec.ofInt 64 (v : Int) &&& ~~~BitVec.ofInt 64 (IntKind.u64.wrap (((2 ^ n - 1 : Nat) : Int) * 2 ^ min (n * k) 64))).toNat : Int)) ||| BitVec.ofInt 64 (IntKind.u64.wrap (((x &&& (2 ^ n - 1) : Nat) : Int) * 2 ^ min (n * k) 64))).toNat : Int) = _
    have e1 : ((2 : Int) ^ min (n * k) 64) = ((2 ^ min (n * k) 64 : Nat) : Int) := by push_cast; rfl
    rw [ofInt_wrap, ofInt_wrap, ofInt_wrap, e1, ← Int.natCast_mul, ← Int.natCast_mul, oN', oN', oN', oN']
    rw [BitVec.ofNat_toNat, BitVec.setWidth_eq]
    exact wN (BitVec.isLt _)
  · intro j hj
    rw [← BitVec.getLsbD, BitVec.getLsbD_or, BitVec.getLsbD_and, BitVec.getLsbD_not, getLsb_ofNat hj, getLsb_ofNat hj, getLsb_ofNat hj, testBit_mul_pow, testBit_mul_pow, Nat.testBit_and, Nat.testBit_two_pow_sub_one]
    by_cases hM : n * k ≤ 64
    · rw [Nat.min_eq_left hM]
      by_cases h3 : n * k ≤ j
      · by_cases h4 : j - n * k < n
        · rw [if_pos (by omega)]; simp [h3, h4]
        · rw [if_neg (by omega)]; simp [h3, h4, hj]
      · rw [if_neg (by omega)]; simp [h3, hj]
    · rw [Nat.min_eq_right (by omega), if_neg (by omega)]
      simp [show ¬ 64 ≤ j by omega, hj]
theorem withV_out {v r c k x : Int} (h : k < 0 ∨ k ≥ c ∨ k > 64) : withV v r c k x = v := by
  unfold withV; rw [if_pos h]
theorem shows_nat (l : Ln) (r : Int) : ∃ s : Nat, s < 2 ^ 64 ∧ showsV l r = s := by
  have e64 : (2 : Nat) ^ 64 = 18446744073709551616 := rfl
  have hw : ∀ x, ∃ s : Nat, s < 2 ^ 64 ∧ IntKind.u64.wrap x = s := fun x => ⟨(x % 18446744073709551616).toNat, by omega, by rw [wrap_u64]; omega⟩
  have hb : ∀ b, ∃ s : Nat, s < 2 ^ 64 ∧ b2 b = s := fun b => by cases b; exact ⟨0, by omega, rfl⟩; exact ⟨1, by omega, rfl⟩
  unfold showsV
  repeat (split; first | exact hw _ | exact hb _)
  exact ⟨0, by omega, rfl⟩
-- part Fy<
theorem realV_nat (p : Int) : ∃ s : Nat, s ≤ 248 ∧ realV p = s ∧ s &&& 248 = s := by
  refine ⟨(BitVec.ofInt 64 p &&& BitVec.ofInt 64 248).toNat, ?_, ?_, ?_⟩
  · rw [BitVec.toNat_and]; exact Nat.and_le_right
  · unfold realV
    have : (BitVec.ofInt 64 p &&& BitVec.ofInt 64 248).toNat ≤ 248 := by rw [BitVec.toNat_and]; exact Nat.and_le_right
    rw [wrap_i64]; split <;> omega
  · rw [BitVec.toNat_and, show (BitVec.ofInt 64 248).toNat = 248 from rfl, Nat.and_assoc, Nat.and_self]
theorem realV_of {s : Nat} (h : s < 2 ^ 63) : realV (s : Int) = ((s &&& 248 : Nat) : Int) := by
  have e64 : (2 : Nat) ^ 64 = 18446744073709551616 := rfl
  have e63 : (2 : Nat) ^ 63 = 9223372036854775808 := rfl
  unfold realV
  rw [BitVec.toNat_and, oN (by omega), show (BitVec.ofInt 64 248).toNat = 248 from rfl]
  have : s &&& 248 ≤ 248 := Nat.and_le_right
  rw [wrap_i64]; split <;> omega
theorem realV_real (p : Int) : realV (realV p) = realV p := by
  obtain ⟨s, h1, h2, h3⟩ := realV_nat p
  rw [h2, realV_of (by have e63 : (2 : Nat) ^ 63 = 9223372036854775808 := rfl
                       omega), h3]
theorem realV_range (p : Int) : 0 ≤ realV p ∧ realV p ≤ 248 := by
  obtain ⟨s, h1, h2, h3⟩ := realV_nat p
  omega
-- part Fm
theorem bit64 {v k : Nat} (hv : v < 2 ^ 64) (hk : k < 64) : IntKind.u64.wrap ((BitVec.ofInt IntKind.u64.bits ((v : Int).fdiv (2 ^ min k IntKind.u64.bits)) &&& BitVec.ofInt IntKind.u64.bits 1).toNat : Int) = ((v / 2 ^ k % 2 : Nat) : Int) := by
  have ep : ((2 : Int) ^ k) = ((2 ^ k : Nat) : Int) := by push_cast; rfl
  rw [show min k IntKind.u64.bits = k by show min k 64 = k; omega, ep, Int.fdiv_eq_ediv_of_nonneg _ (Int.natCast_nonneg _), ← Int.natCast_ediv]
  have h1 : v / 2 ^ k < 2 ^ 64 := Nat.lt_of_le_of_lt (Nat.div_le_self _ _) hv
  have := and64 (b := 1) h1 (by decide)
  rw [Nat.and_one_is_mod] at this
  exact this
theorem mod_step (a i : Nat) : a % 2 ^ (i + 1) = a % 2 ^ i + 2 ^ i * (a / 2 ^ i % 2) := Nat.mod_pow_succ
theorem eq64 {a b : Nat} (ha : a < 2 ^ 64) (hb : b < 2 ^ 64) (h : ∀ j, j < 64 → a.testBit j = b.testBit j) : a = b := by
  apply Nat.eq_of_testBit_eq
  intro j
  by_cases hj : j < 64
  · exact h j hj
  · have hp : (2 : Nat) ^ 64 ≤ 2 ^ j := Nat.pow_le_pow_right (by omega) (by omega)
    rw [Nat.testBit_lt_two_pow (Nat.lt_of_lt_of_le ha hp), Nat.testBit_lt_two_pow (Nat.lt_of_lt_of_le hb hp)]
-- part Fo
theorem step55' (β : Base) (e l t a : Bool) (x : Int) : Tri Tryz.prog β 213 [.agg #[.bool e, .bool l, .bool t, .bool a], .int .i64 x] [] (fun v L => v = .agg #[.bool (stepI (e, l, t, a) x).1, .bool (stepI (e, l, t, a) x).2.1, .bool (stepI (e, l, t, a) x).2.2.1, .bool (stepI (e, l, t, a) x).2.2.2] ∧ L = []) := step55 β e l t a x
@[reducible] def pk220 : List (Nat × Plan) := [(17, [(0, 0, []), (1, 0, []), (2, 0, []), (3, 0, []), (4, 0, []), (5, 0, []), (6, 0, []), (7, 0, []), (8, 0, []), (9, 0, []), (10, 0, []), (11, 0, []), (12, 1, [1, 3, 6, 9]), (13, 1, [])]), (18, [(0, 0, []), (1, 0, []), (2, 0, []), (3, 0, []), (4, 0, []), (5, 0, []), (6, 0, []), (7, 0, []), (8, 0, []), (9, 0, []), (10, 0, []), (11, 0, []), (12, 0, []), (13, 0, []), (14, 1, [])])]
@[reducible] def pl220_0 : Plan := [(0, 0, []), (1, 0, []), (2, 0, []), (3, 0, []), (4, 0, []), (5, 0, []), (6, 0, []), (7, 0, []), (8, 0, []), (9, 0, []), (10, 0, []), (11, 0, []), (12, 1, [1, 3, 6, 9]), (13, 1, [])]
@[reducible] def pl220_1 : Plan := [(0, 0, []), (1, 0, []), (2, 0, []), (3, 0, []), (4, 0, []), (5, 0, []), (6, 0, []), (7, 0, []), (8, 0, []), (9, 0, []), (10, 0, []), (11, 0, []), (12, 0, []), (13, 0, []), (14, 1, [])]
-- part Fq
/-- A row of the document's tables: from, to, width, register, first, of, per. -/
abbrev Rw := Int × Int × Int × Int × Int × Int × Int
@[reducible] def rwC (r : Rw) : List Value := [.int .i64 r.1, .int .i64 r.2.1, .int .i64 r.2.2.1, .int .i64 r.2.2.2.1, .int .i64 r.2.2.2.2.1, .int .i64 r.2.2.2.2.2.1, .int .i64 r.2.2.2.2.2.2]
def bitRow (a s t : Int) (k : Nat) : Rw := (IntKind.i64.wrap (a + IntKind.i64.wrap (t * k)), IntKind.i64.wrap (IntKind.i64.wrap (a + IntKind.i64.wrap (t * k)) + s), 4, 4 + k, 0, 8, 1)
def bitsRw (a s t : Int) : Nat → List Rw
  | 0 => []
  | k + 1 => bitsRw a s t k ++ [bitRow a s t k]
theorem reg_at {k : Nat} (h : k < 7) : rdv ti41 [.int .i64 4, .int .i64 5, .int .i64 6, .int .i64 7, .int .i64 8, .int .i64 9, .int .i64 10] (0 + k * 1) = some (.int .i64 (4 + k)) := by
  match k, h with
  | 0, _ => rfl
  | 1, _ => rfl
  | 2, _ => rfl
  | 3, _ => rfl
  | 4, _ => rfl
  | 5, _ => rfl
  | 6, _ => rfl
set_option maxHeartbeats 2000000 in
theorem bits52 (β : Base) (a s t : Int) : Tri Tryz.prog β 242 [.int .i64 a, .int .i64 s, .int .i64 t] [] (fun v L => ∃ q c, v = .slice q 7 c ∧ L = [own 306 7 (.slice q 7 c) 7 ((bitsRw a s t 7).flatMap rwC)]) := by
  refine Tri.intro tt_ok Tryz.func242 rfl rfl Tryz.ntmps242 rfl fun F => ?_
  refine G tt_ok [] ?_
  (refine SQ.built tt_ok rfl rfl (fun _ => w_ ?_))
  refine G tt_ok [] ?_
  rename_i b
  refine CW.loop (α := Nat × Option Addr × Nat) (fun k => k.1 ≤ 7) (fun k => [(9, .int .i64 k.1), (8, .slice k.2.1 k.1 k.2.2), (7, .slice (some ⟨b, 0, none⟩) 7 7), (0, .int .i64 a), (1, .int .i64 s), (2, .int .i64 t)])
    (fun k => [own 306 7 (.slice k.2.1 k.1 k.2.2) k.1 ((bitsRw a s t k.1).flatMap rwC), pt b [.int .i64 4, .int .i64 5, .int .i64 6, .int .i64 7, .int .i64 8, .int .i64 9, .int .i64 10]]) (fun k => 7 - k.1) (0, none, 0) (by simp) ⟨rfl, rfl, rfl, rfl, rfl, rfl, trivial⟩ (own_nil 306 7) ?_
  rintro ⟨k, q, c⟩ hk
  simp only at hk ⊢
  refine G tt_ok [] ?_
  generalize e1 : decide ((k : Int) < 7) = cc
  cases cc
  · have : k = 7 := by simp at e1; omega
    subst this
    refine G tt_ok [] ?_
    refine CW.exit ?_
    refine G tt_ok [] ?_
    refine CW.ret (fin_ret rfl (Ent.sel (is := [0]) rfl) ?_)
    exact ⟨q, c, rfl, rfl⟩
  · have hlt : k < 7 := by simp at e1; omega
    have hw : IntKind.i64.wrap ((k : Int) + 1) = ((k + 1 : Nat) : Int) := by rw [wrap_i64]; split <;> omega
    refine G tt_ok [] ?_
    refine SQ.idx tt_ok rfl rfl k rfl hlt (o' := 0 + k * 1) rfl ?_
    refine SQ.load tt_ok rfl rfl 1 rfl (reg_at hlt) ?_
    refine G tt_ok [] ?_
    (refine SQ.built tt_ok rfl rfl (fun _ => w_ ?_))
    refine G tt_ok [] ?_
    refine SQ.append tt_ok rfl rfl 1 rfl 0 (q := true) rfl (rwC (bitRow a s t k)) rfl rfl rfl (scal_eq rfl) (by omega) (by show (k + 1) * 56 ≤ _; omega) (fun v' => ⟨(by repeat (first | exact trivial | refine ⟨trivial, ?_⟩ | refine ⟨wk (by repeat (first | exact .h | exact .q | apply At.t)) (by rfl), ?_⟩)), ?_⟩)
    refine SQ.ent _ (Ent.head (own_shape _ _ _ _ _)) ?_
    refine SQ.open_ fun x => ?_
    refine SQ.pure_ fun hv => ?_
    subst hv
    refine G tt_ok [] ?_
    refine ⟨(k + 1, x.1, x.2), by simp; omega, by simp; omega, ⟨by rw [← hw]; rfl, rfl, rfl, rfl, rfl, rfl, trivial⟩, ?_⟩
    have e2 : (bitsRw a s t (k + 1)).flatMap rwC = (bitsRw a s t k).flatMap rwC ++ rwC (bitRow a s t k) := by
      rw [bitsRw, List.flatMap_append]; simp
    rw [e2]
    exact Ent.sel (is := [0, 1]) rfl
/-- The document's table of the distributor. -/
def distRw : List Rw := [(0, 4, 4, 1, 0, 0, 1), (4, 8, 4, 2, 0, 0, 1)] ++ bitsRw 128 128 128 7 ++ [(1024, 2048, 4, 11, 0, 1, 1), (3072, 3328, 4, 12, 0, 4, 1), (24832, 32768, 8, 13, 32, 1, 8)]
/-- Does a row tell of one of the bytes off, .., off + k - 1? -/
def hitK (r : Rw) (off : Int) : Nat → Bool
  | 0 => false
  | k + 1 => hitK r off k || (decide (off + k ≥ r.1) && decide (off + k < r.2.1))
theorem hitK_mono {r : Rw} {off : Int} : ∀ {k n : Nat}, k ≤ n → hitK r off k = true → hitK r off n = true
  | k, 0, h, e => by obtain rfl : k = 0 := by omega
                     exact e
  | k, n + 1, h, e => by
    by_cases q : k = n + 1
    · subst q; exact e
    · simp [hitK, hitK_mono (show k ≤ n by omega) e]
def plV (r : Rw) (off w : Int) : Int × Int × Int := (r.2.2.2.1, IntKind.i64.wrap (r.2.2.2.2.1 + IntKind.i64.wrap (IntKind.i64.wrap ((IntKind.i64.wrap (off - r.1)).tdiv r.2.2.2.2.2.2) * r.2.2.2.2.2.1)), IntKind.i64.wrap (IntKind.i64.wrap (w.tdiv r.2.2.2.2.2.2) * r.2.2.2.2.2.1))
def outV (r : Rw) (off w : Int) : (Int × Int × Int) × Int := if w = r.2.2.1 then (plV r off w, 0) else ((0, 0, 0), 40)
def findV (rows : List Rw) (size off w : Int) : (Int × Int × Int) × Int :=
  if w ≠ 4 ∧ w ≠ 8 then ((0, 0, 0), 40) else if off.tmod w ≠ 0 then ((0, 0, 0), 41) else if off < 0 ∨ off > size - w then ((0, 0, 0), 42) else
  match rows.find? fun r => hitK r off w.toNat with
  | some r => outV r off w
  | none => ((0, 0, 0), 0)
theorem find_at {α : Type} {f : α → Bool} {l : List α} {k : Nat} {a : α} (h : l[k]? = some a) (hf : f a = true) (hb : ∀ (j : Nat) (b : α), j < k → l[j]? = some b → f b = false) : l.find? f = some a := by
  induction l generalizing k with
  | nil => simp at h
  | cons x l ih =>
    cases k with
    | zero => simp at h; subst h; simp [hf]
    | succ k =>
      have hx : f x = false := hb 0 x (by omega) (by simp)
      rw [List.find?_cons, hx]
      exact ih (by simpa using h) (fun j b hj hl => hb (j + 1) b (by omega) (by simpa using hl))
theorem find_no {α : Type} {f : α → Bool} {l : List α} (hb : ∀ (j : Nat) (b : α), l[j]? = some b → f b = false) : l.find? f = none := by
  rw [List.find?_eq_none]
  intro x hx
  obtain ⟨j, hj, e⟩ := List.getElem_of_mem hx
  simp [hb j x (by rw [← e]; exact List.getElem?_eq_getElem hj)]
theorem rd_rw {cs : List Value} {off n : Nat} {ts : List Rw} (h : (cs.drop off).take (n * 7) = ts.flatMap rwC) {k : Nat} {t : Rw} (hk : ts[k]? = some t) : rdv ti306 cs (off + k * 7) = some (.agg (rwC t).toArray) :=
  rd_enc (enc := rwC) (sz := 7) (fun _ => rfl) rfl rfl h hk
def plC (x : Int × Int × Int) : Value := .agg #[.int .i64 x.1, .int .i64 x.2.1, .int .i64 x.2.2]
set_option maxHeartbeats 4000000 in
theorem find31 (β : Base) {p : Option Addr} {n c : Nat} {rows : List Rw} {A : Atom} (h : RdS β p n 7 (rows.flatMap rwC) A) (hn : n ≤ 1000) (hper : ∀ r ∈ rows, r.2.2.2.2.2.2 ≠ 0) {size : Int} (hs0 : 8 ≤ size) (hs1 : size ≤ 1000000) (off w : Int) :
    Tri Tryz.prog β 220 [.slice p n c, .int .i64 size, .int .i64 off, .int .i64 w] [A] (fun v L => v = .tuple #[plC (findV rows size off w).1, .int .i64 (findV rows size off w).2] ∧ L = [A]) := by
  have hrl : rows.length = n := by have := h.1; rw [flatE_len (sz := 7) (fun _ => rfl)] at this; omega
  refine Tri.intro tt_ok Tryz.func220 rfl rfl Tryz.ntmps220 rfl fun F => ?_
  by_cases hw48 : w ≠ 4 ∧ w ≠ 8
  · (repeat' (first | refine CW.seq ?_ | refine CW.region tt_ok rfl ?_ | refine CW.regionD tt_ok (by kernel_rfl) pl220_0 (by decide +kernel) ?_ | refine CW.regionD tt_ok (by kernel_rfl) pl220_1 (by decide +kernel) ?_ | refine CW.block ?_ | refine CW.skip ?_ | refine SQ.nil ?_ | refine SQ.pures1 tt_ok rfl ?_ | refine SQ.pure1 tt_ok rfl ?_ | refine SQ.new _ _ rfl rfl (fun _ => ?_) | refine SQ.ldA tt_ok rfl rfl (by repeat (first | exact .h | exact .q | apply At.t)) (by rfl) ?_ | refine SQ.stA tt_ok rfl rfl (by repeat (first | apply Up.h | apply Up.t)) (by rfl) (by rfl) (by repeat (first | exact trivial | refine ⟨trivial, ?_⟩ | refine ⟨wk (by repeat (first | exact .h | exact .q | apply At.t)) (by rfl), ?_⟩)) ?_ | refine CW.cond_tt rfl ?_ | refine CW.cond_ff rfl ?_ | ((first | refine CW.cond rfl (fun hc => ?_) (fun hc => ?_) | refine SQ.gsplit rfl (fun hc => ?_) (fun hc => ?_)) <;> try (exfalso; simp_all; done))))
    all_goals (first | (exfalso; simp at *; omega; done) | skip)
    refine CW.ret (fin_cells [_, _] ⟨⟨_, _, _, _, 0, rfl, rfl, rfl, rfl⟩, rfl, trivial⟩ (Ent.sel (is := [1]) rfl) ⟨?_, rfl⟩)
    simp [packV, findV, hw48, plC]
  · have hw48' : w = 4 ∨ w = 8 := by omega
    have hws : IntKind.i64.wrap (size - w) = size - w := by rw [wrap_i64]; split <;> omega
    refine CW.seq ?_
    (refine G tt_ok pk220 ?_; repeat (refine G1 tt_ok pk220 ?_; intro _))
    rename_i b8
    (repeat' (first | refine CW.seq ?_ | refine CW.region tt_ok rfl ?_ | refine CW.regionD tt_ok (by kernel_rfl) pl220_0 (by decide +kernel) ?_ | refine CW.regionD tt_ok (by kernel_rfl) pl220_1 (by decide +kernel) ?_ | refine CW.block ?_ | refine CW.skip ?_ | refine SQ.nil ?_ | refine SQ.pures1 tt_ok rfl ?_ | refine SQ.pure1 tt_ok rfl ?_ | refine SQ.new _ _ rfl rfl (fun _ => ?_) | refine SQ.ldA tt_ok rfl rfl (by repeat (first | exact .h | exact .q | apply At.t)) (by rfl) ?_ | refine SQ.stA tt_ok rfl rfl (by repeat (first | apply Up.h | apply Up.t)) (by rfl) (by rfl) (by repeat (first | exact trivial | refine ⟨trivial, ?_⟩ | refine ⟨wk (by repeat (first | exact .h | exact .q | apply At.t)) (by rfl), ?_⟩)) ?_ | refine CW.cond_tt rfl ?_ | refine CW.cond_ff rfl ?_ | ((first | refine CW.cond rfl (fun hc => ?_) (fun hc => ?_) | refine SQ.gsplit rfl (fun hc => ?_) (fun hc => ?_)) <;> try (exfalso; simp_all; done))))
    all_goals (first | (exfalso; simp at *; omega; done) | skip)
    all_goals refine SQ.div tt_ok rfl rfl (by omega) rfl ?_
    all_goals by_cases ht : off.tmod w = 0
    all_goals (repeat' (first | refine CW.seq ?_ | refine CW.region tt_ok rfl ?_ | refine CW.regionD tt_ok (by kernel_rfl) pl220_0 (by decide +kernel) ?_ | refine CW.regionD tt_ok (by kernel_rfl) pl220_1 (by decide +kernel) ?_ | refine CW.block ?_ | refine CW.skip ?_ | refine SQ.nil ?_ | refine SQ.pures1 tt_ok rfl ?_ | refine SQ.pure1 tt_ok rfl ?_ | refine SQ.new _ _ rfl rfl (fun _ => ?_) | refine SQ.ldA tt_ok rfl rfl (by repeat (first | exact .h | exact .q | apply At.t)) (by rfl) ?_ | refine SQ.stA tt_ok rfl rfl (by repeat (first | apply Up.h | apply Up.t)) (by rfl) (by rfl) (by repeat (first | exact trivial | refine ⟨trivial, ?_⟩ | refine ⟨wk (by repeat (first | exact .h | exact .q | apply At.t)) (by rfl), ?_⟩)) ?_ | refine CW.cond_tt rfl ?_ | refine CW.cond_ff rfl ?_ | ((first | refine CW.cond rfl (fun hc => ?_) (fun hc => ?_) | refine SQ.gsplit rfl (fun hc => ?_) (fun hc => ?_)) <;> try (exfalso; simp_all; done))))
    all_goals (first | (exfalso; simp at *; first | done | contradiction | omega) | skip)
    all_goals (first | (refine CW.ret (fin_cells [_, _] ⟨⟨_, _, _, _, 0, rfl, rfl, rfl, rfl⟩, rfl, trivial⟩ (Ent.sel (is := [1]) rfl) ⟨?_, rfl⟩)
                        simp [packV, findV, hw48, plC, ht]; done) | skip)
    all_goals rw [hws] at *
    all_goals (first | (refine CW.ret (fin_cells [_, _] ⟨⟨_, _, _, _, 0, rfl, rfl, rfl, rfl⟩, rfl, trivial⟩ (Ent.sel (is := [1]) rfl) ⟨?_, rfl⟩)
                        simp only [decide_eq_true_eq, decide_eq_false_iff_not] at *
                        have ho : off < 0 ∨ off > size - w := by omega
                        simp [packV, findV, hw48, plC, ht, ho]; done) | skip)
    all_goals (
      simp only [decide_eq_true_eq, decide_eq_false_iff_not] at *
      have hof : ¬ (off < 0 ∨ off > size - w) := by omega
      have hwo : IntKind.i64.wrap (off + w) = off + w := by rw [wrap_i64]; split <;> omega
      refine CW.loop (α := Nat) (fun k => k ≤ n ∧ ∀ (j : Nat) (r : Rw), j < k → rows[j]? = some r → hitK r off w.toNat = false) (fun k => [(10, .int .i64 k), (9, .int .i64 0), (8, .pointer (some ⟨b8, 0, none⟩)), (3, .int .i64 w), (2, .int .i64 off), (0, .slice p n c)]) (fun _ => [pt b8 [.int .i64 0, .int .i64 0, .int .i64 0], A]) (fun k => n - k) 0 ⟨by omega, by omega⟩ ⟨rfl, rfl, rfl, rfl, rfl, rfl, trivial⟩ (Ent.refl _) ?_
      rintro k ⟨hk, hbef⟩
      (refine G tt_ok pk220 ?_; repeat (refine G1 tt_ok pk220 ?_; intro _))
      generalize e1 : decide ((k : Int) < (n : Int)) = cc
      cases cc
      · have : k = n := by simp at e1; omega
        subst this
        (refine G tt_ok pk220 ?_; repeat (refine G1 tt_ok pk220 ?_; intro _))
        refine CW.exit ?_
        (refine G tt_ok pk220 ?_; repeat (refine G1 tt_ok pk220 ?_; intro _))
        refine CW.ret (fin_cells [_, _] ⟨⟨_, _, _, _, 0, rfl, rfl, rfl, rfl⟩, rfl, trivial⟩ (Ent.sel (is := [1]) rfl) ⟨?_, rfl⟩)
        rw [show findV rows size off w = ((0, 0, 0), 0) by
          unfold findV
          rw [if_neg hw48, if_neg (by simpa using ht), if_neg hof, find_no (fun j b hj => hbef j b (by have := (List.getElem?_eq_some_iff.1 hj).1; omega) hj)]]
        rfl
      · have hlt : k < n := by simp at e1; omega
        have hw1 : IntKind.i64.wrap ((k : Int) + 1) = ((k + 1 : Nat) : Int) := by rw [wrap_i64]; split <;> omega
        obtain ⟨r, hr⟩ : ∃ r, rows[k]? = some r := ⟨rows[k], List.getElem?_eq_getElem (by omega)⟩
        have hpr := hper r (List.mem_of_getElem? hr)
        have hg : w.toNat = w.toNat := rfl
        obtain ⟨b, o, q, cs, rfl, rfl, hcs⟩ := h.2.resolve_left (by omega)
        have hfind : ∀ (x : (Int × Int × Int) × Int), outV r off w = x → hitK r off w.toNat = true → findV rows size off w = x := fun x hx hh => by
          unfold findV
          rw [if_neg hw48, if_neg (by simpa using ht), if_neg hof, find_at hr hh hbef]
          exact hx
        obtain ⟨r1, r2, r3, r4, r5, r6, r7⟩ := r
        simp only at hpr hfind
        (refine G tt_ok pk220 ?_; repeat (refine G1 tt_ok pk220 ?_; intro _))
        refine SQ.idx tt_ok rfl rfl k rfl hlt (o' := o + k * 7) rfl ?_
        refine SQ.loadq tt_ok rfl rfl 1 rfl (rd_rw hcs hr) ?_
        (refine G tt_ok pk220 ?_; repeat (refine G1 tt_ok pk220 ?_; intro _))
        rename_i b11
        refine CW.loop (α := Nat × Int) (fun x => x.1 ≤ w.toNat ∧ x.2 = off + x.1 ∧ hitK (r1, r2, r3, r4, r5, r6, r7) off x.1 = false) (fun x => [(12, .int .i64 x.2), (11, .pointer (some ⟨b11, 0, none⟩)), (10, .int .i64 k), (9, .int .i64 0), (8, .pointer (some ⟨b8, 0, none⟩)), (3, .int .i64 w), (2, .int .i64 off), (0, .slice (some ⟨b, o, none⟩) n c)])
          (fun _ => [pt b11 [.int .i64 r1, .int .i64 r2, .int .i64 r3, .int .i64 r4, .int .i64 r5, .int .i64 r6, .int .i64 r7], pt b8 [.int .i64 0, .int .i64 0, .int .i64 0], pq β q b cs]) (fun x => w.toNat - x.1) (0, off) ⟨by omega, by simp, rfl⟩ ⟨rfl, rfl, rfl, rfl, rfl, rfl, rfl, rfl, trivial⟩ (Ent.refl _) ?_
        rintro ⟨j, y⟩ ⟨hj, hy, hnj⟩
        simp only at hj hy hnj
        (refine G tt_ok pk220 ?_; repeat (refine G1 tt_ok pk220 ?_; intro _))
        rw [hwo]
        generalize e2 : decide (y < off + w) = cc
        cases cc
        · have : j = w.toNat := by simp at e2; omega
          subst this
          (refine G tt_ok pk220 ?_; repeat (refine G1 tt_ok pk220 ?_; intro _))
          refine CW.exit ?_
          (refine G tt_ok pk220 ?_; repeat (refine G1 tt_ok pk220 ?_; intro _))
          refine ⟨k + 1, ⟨by omega, fun i r2 hi hr2 => ?_⟩, by omega, ⟨by rw [← hw1]; rfl, rfl, rfl, rfl, rfl, rfl, trivial⟩, Ent.sel (is := [1, 1]) rfl⟩
          by_cases hik : i = k
          · subst hik
            rw [hr] at hr2
            injection hr2 with hr2
            rw [← hr2]; exact hnj
          · exact hbef i r2 (by omega) hr2
        · simp only [decide_eq_true_eq] at e2
          have hw2 : IntKind.i64.wrap (y + 1) = y + 1 := by rw [wrap_i64]; split <;> omega
          have hnx : ¬ (off + j ≥ r1 ∧ off + j < r2) → hitK (r1, r2, r3, r4, r5, r6, r7) off (j + 1) = false := fun hn => by
            simp only [hitK, hnj, Bool.false_or, Bool.and_eq_false_iff, decide_eq_false_iff_not]
            omega
          by_cases h3 : y < r1
          · (refine G tt_ok pk220 ?_; repeat (refine G1 tt_ok pk220 ?_; intro _))
            rw [decide_eq_true h3]
            (refine G tt_ok pk220 ?_; repeat (refine G1 tt_ok pk220 ?_; intro _))
            refine CW.exit ?_
            (refine G tt_ok pk220 ?_; repeat (refine G1 tt_ok pk220 ?_; intro _))
            exact ⟨(j + 1, IntKind.i64.wrap (y + 1)), ⟨by simp; omega, by simp only [hw2]; omega, hnx (by omega)⟩, by simp; omega, ⟨rfl, rfl, rfl, rfl, rfl, rfl, rfl, rfl, trivial⟩, Ent.refl _⟩
          · by_cases h4 : y ≥ r2
            · (refine G tt_ok pk220 ?_; repeat (refine G1 tt_ok pk220 ?_; intro _))
              rw [decide_eq_false h3]
              (refine G tt_ok pk220 ?_; repeat (refine G1 tt_ok pk220 ?_; intro _))
              rw [decide_eq_true h4]
              (refine G tt_ok pk220 ?_; repeat (refine G1 tt_ok pk220 ?_; intro _))
              refine CW.exit ?_
              (refine G tt_ok pk220 ?_; repeat (refine G1 tt_ok pk220 ?_; intro _))
              exact ⟨(j + 1, IntKind.i64.wrap (y + 1)), ⟨by simp; omega, by simp only [hw2]; omega, hnx (by omega)⟩, by simp; omega, ⟨rfl, rfl, rfl, rfl, rfl, rfl, rfl, rfl, trivial⟩, Ent.refl _⟩
            · have hh : hitK (r1, r2, r3, r4, r5, r6, r7) off w.toNat = true := hitK_mono (k := j + 1) (by omega) (by
                simp only [hitK, hnj, Bool.false_or, Bool.and_eq_true, decide_eq_true_eq]
                omega)
              (refine G tt_ok pk220 ?_; repeat (refine G1 tt_ok pk220 ?_; intro _))
              rw [decide_eq_false h3]
              (refine G tt_ok pk220 ?_; repeat (refine G1 tt_ok pk220 ?_; intro _))
              rw [decide_eq_false h4]
              (refine G tt_ok pk220 ?_; repeat (refine G1 tt_ok pk220 ?_; intro _))
              by_cases h5 : w = r3
              · rw [show (w != r3) = false by simp [h5]]
                (refine G tt_ok pk220 ?_; repeat (refine G1 tt_ok pk220 ?_; intro _))
                refine SQ.div tt_ok rfl rfl hpr rfl ?_
                (refine G tt_ok pk220 ?_; repeat (refine G1 tt_ok pk220 ?_; intro _))
                refine SQ.div tt_ok rfl rfl hpr rfl ?_
                (refine G tt_ok pk220 ?_; repeat (refine G1 tt_ok pk220 ?_; intro _))
                refine CW.ret (fin_cells [_, _] ⟨⟨_, _, _, _, 2, rfl, rfl, rfl, rfl⟩, rfl, trivial⟩ (Ent.sel (is := [3]) rfl) ⟨?_, rfl⟩)
                rw [hfind _ rfl hh]
                unfold outV
                rw [if_pos h5]
                rfl
              · rw [show (w != r3) = true by simp [h5]]
                (refine G tt_ok pk220 ?_; repeat (refine G1 tt_ok pk220 ?_; intro _))
                refine CW.ret (fin_cells [_, _] ⟨⟨_, _, _, _, 1, rfl, rfl, rfl, rfl⟩, rfl, trivial⟩ (Ent.sel (is := [2]) rfl) ⟨?_, rfl⟩)
                rw [hfind _ rfl hh]
                unfold outV
                rw [if_neg h5]
                rfl)
def distV (off w : Int) : (Int × Int × Int) × Int := findV distRw 65536 off w
@[reducible] def pk145 : List (Nat × Plan) := [(4, [(0, 0, []), (1, 0, []), (2, 0, []), (3, 0, []), (4, 0, []), (5, 0, []), (6, 0, []), (7, 0, []), (8, 0, []), (9, 0, []), (10, 0, []), (11, 0, []), (12, 0, []), (13, 0, []), (14, 1, [3, 8, 12]), (15, 0, []), (16, 0, []), (17, 1, [])])]
-- part Fp
def zeroL : Ln := ((false, false, false, false), false, 0, 0)
/-- The document's bank, while it is built. -/
def nbA (b : Nat) (first : Int) (tx : ByteArray) (k : Nat) : Atom := exA fun x : Option Addr × Nat × Option Addr × Nat => [pt b [.int .i64 first, .slice x.1 k x.2.1, .slice x.2.2.1 k x.2.2.2],
  own 110 7 (.slice x.1 k x.2.1) k ((List.replicate k zeroL).flatMap lnC), own 9 1 (.slice x.2.2.1 k x.2.2.2) k (List.replicate k (.string tx))]
/-- The document's bank. -/
def rbA (b : Nat) (first : Int) (q : Option Addr) (c : Nat) (S2 : Value) (ls : List Ln) : List Atom := [pt b [.int .i64 first, .slice q ls.length c, S2], rowA q ls.length (ls.flatMap lnC)]
theorem rep_succ {α : Type} (k : Nat) (a : α) (enc : α → List Value) : (List.replicate (k + 1) a).flatMap enc = (List.replicate k a).flatMap enc ++ enc a := by
  rw [List.replicate_succ', List.flatMap_append]; simp
set_option maxHeartbeats 2000000 in
theorem new33 (β : Base) {first n : Int} (h0 : 0 ≤ first) (h1 : 0 ≤ n) (h2 : first + n ≤ 16384) (tx : ByteArray) :
    Tri Tryz.prog β 144 [.int .i64 first, .int .i64 n, .string tx] [] (fun v L => ∃ b q c q2 c2, v = .tuple #[.pointer (some ⟨b, 0, none⟩), .bool true] ∧
      L = [pt b [.int .i64 first, .slice q n.toNat c, .slice q2 n.toNat c2], rowA q n.toNat ((List.replicate n.toNat zeroL).flatMap lnC), rowA q2 n.toNat (List.replicate n.toNat (.string tx))]) := by
  obtain ⟨m, rfl⟩ : ∃ m : Nat, n = (m : Int) := ⟨n.toNat, by omega⟩
  have hw0 : IntKind.i64.wrap (first + m) = first + m := by rw [wrap_i64]; split <;> omega
  refine Tri.intro tt_ok Tryz.func144 rfl rfl Tryz.ntmps144 rfl fun F => ?_
  (refine G tt_ok [] ?_; repeat (refine G1 tt_ok [] ?_; intro _))
  rw [decide_eq_false (show ¬ first < 0 by omega)]
  (refine G tt_ok [] ?_; repeat (refine G1 tt_ok [] ?_; intro _))
  rw [decide_eq_false (show ¬ (m : Int) < 0 by omega)]
  (refine G tt_ok [] ?_; repeat (refine G1 tt_ok [] ?_; intro _))
  rw [decide_eq_false (show ¬ first > 16384 by omega)]
  (refine G tt_ok [] ?_; repeat (refine G1 tt_ok [] ?_; intro _))
  rw [decide_eq_false (show ¬ (m : Int) > 16384 by omega)]
  (refine G tt_ok [] ?_; repeat (refine G1 tt_ok [] ?_; intro _))
  rw [hw0, decide_eq_false (show ¬ first + m > 16384 by omega)]
  (refine G tt_ok [] ?_; repeat (refine G1 tt_ok [] ?_; intro _))
  rename_i b
  refine CW.loop (α := Nat) (fun k => k ≤ m) (fun k => [(9, .int .i64 k), (1, .int .i64 m), (8, .pointer (some ⟨b, 0, none⟩)), (2, .string tx)])
    (fun k => [nbA b first tx k]) (fun k => m - k) 0 (by omega) ⟨rfl, rfl, rfl, rfl, trivial⟩ ?_ ?_
  · refine Ent.trans ((own_nil 9 1).trans (own_nil 110 7)) ?_
    exact (Ent.sel (is := [2, 0, 0]) rfl).trans (Ent.exA (f := fun x : Option Addr × Nat × Option Addr × Nat => [pt b [.int .i64 first, .slice x.1 0 x.2.1, .slice x.2.2.1 0 x.2.2.2],
      own 110 7 (.slice x.1 0 x.2.1) 0 ((List.replicate 0 zeroL).flatMap lnC), own 9 1 (.slice x.2.2.1 0 x.2.2.2) 0 (List.replicate 0 (.string tx))]) (none, 0, none, 0))
  intro k hk
  refine CW.open_ fun x => ?_
  obtain ⟨q, c, q2, c2⟩ := x
  simp only [List.cons_append, List.nil_append]
  (refine G tt_ok [] ?_; repeat (refine G1 tt_ok [] ?_; intro _))
  generalize e1 : decide ((k : Int) < (m : Int)) = cc
  cases cc
  · have : k = m := by simp at e1; omega
    subst this
    (refine G tt_ok [] ?_; repeat (refine G1 tt_ok [] ?_; intro _))
    refine CW.exit ?_
    (refine G tt_ok [] ?_; repeat (refine G1 tt_ok [] ?_; intro _))
    refine CW.ret (fin_ret rfl (Ent.cons _ (Ent.append (L := [_]) (L' := [_]) own_row own_row)) ?_)
    exact ⟨b, q, c, q2, c2, rfl, rfl⟩
  · have hlt : k < m := by simp at e1; omega
    have hw : IntKind.i64.wrap ((k : Int) + 1) = ((k + 1 : Nat) : Int) := by rw [wrap_i64]; split <;> omega
    (refine G tt_ok [] ?_; repeat (refine G1 tt_ok [] ?_; intro _))
    (refine SQ.built tt_ok rfl rfl (fun _ => w_ ?_))
    (refine G tt_ok [] ?_; repeat (refine G1 tt_ok [] ?_; intro _))
    refine SQ.append tt_ok rfl rfl 2 rfl 0 (q := true) rfl (lnC zeroL) rfl rfl rfl (scal_eq rfl) (by omega) (by show (k + 1) * 24 ≤ _; omega) (fun v' => ⟨(by repeat (first | exact trivial | refine ⟨trivial, ?_⟩ | refine ⟨wk (by repeat (first | exact .h | exact .q | apply At.t)) (by rfl), ?_⟩)), ?_⟩)
    refine SQ.ent _ (Ent.head (own_shape _ _ _ _ _)) ?_
    refine SQ.open_ fun s => ?_
    refine SQ.pure_ fun hv => ?_
    subst hv
    (refine G tt_ok [] ?_; repeat (refine G1 tt_ok [] ?_; intro _))
    (refine SQ.built tt_ok rfl rfl (fun _ => w_ ?_))
    (refine G tt_ok [] ?_; repeat (refine G1 tt_ok [] ?_; intro _))
    refine SQ.append tt_ok rfl rfl 4 rfl 0 (q := true) rfl [.string tx] rfl rfl rfl (scal_eq rfl) (by omega) (by show (k + 1) * 16 ≤ _; omega) (fun v' => ⟨(by repeat (first | exact trivial | refine ⟨trivial, ?_⟩ | refine ⟨wk (by repeat (first | exact .h | exact .q | apply At.t)) (by rfl), ?_⟩)), ?_⟩)
    refine SQ.ent _ (Ent.head (own_shape _ _ _ _ _)) ?_
    refine SQ.open_ fun s2 => ?_
    refine SQ.pure_ fun hv => ?_
    subst hv
    (refine G tt_ok [] ?_; repeat (refine G1 tt_ok [] ?_; intro _))
    refine ⟨k + 1, by omega, by omega, ⟨by rw [← hw]; rfl, rfl, rfl, rfl, trivial⟩, ?_⟩
    refine Ent.trans ?_ (Ent.exA (f := fun x : Option Addr × Nat × Option Addr × Nat => [pt b [.int .i64 first, .slice x.1 (k + 1) x.2.1, .slice x.2.2.1 (k + 1) x.2.2.2],
      own 110 7 (.slice x.1 (k + 1) x.2.1) (k + 1) ((List.replicate (k + 1) zeroL).flatMap lnC), own 9 1 (.slice x.2.2.1 (k + 1) x.2.2.2) (k + 1) (List.replicate (k + 1) (.string tx))]) (s.1, s.2, s2.1, s2.2))
    rw [rep_succ, List.replicate_succ' (n := k) (a := Value.string tx)]
    exact Ent.sel (is := [4, 2, 0]) rfl
-- part Fs
/-- Where an interrupt stands in the document's bank. -/
def atD (first : Int) (n : Nat) (id : Int) : Int := if first ≤ id ∧ id - first < n then id - first else -1
theorem at37d (β : Base) (b : Nat) {first : Int} (id : Int) (p : Option Addr) {n : Nat} (c : Nat) (S2 : Value) (hf0 : 0 ≤ first) (hf1 : first ≤ 16384) (hn : n ≤ 16384) (h2 : vcells S2 = [S2]) :
    Tri Tryz.prog β 212 [.pointer (some ⟨b, 0, none⟩), .int .i64 id] [pt b [.int .i64 first, .slice p n c, S2]] (fun v L => v = .int .i64 (atD first n id) ∧ L = [pt b [.int .i64 first, .slice p n c, S2]]) := by
  refine Tri.intro tt_ok Tryz.func212 rfl rfl Tryz.ntmps212 rfl fun F => ?_
  refine G tt_ok [] ?_
  refine CW.loop (α := Nat) (fun k => k ≤ n ∧ ¬ (first ≤ id ∧ id - first < k)) (fun k => [(5, .int .i64 k), (0, .pointer (some ⟨b, 0, none⟩)), (1, .int .i64 id)]) (fun _ => [pt b [.int .i64 first, .slice p n c, S2]]) (fun k => n - k) 0 ⟨by omega, by omega⟩ ⟨rfl, rfl, rfl, trivial⟩ (Ent.refl _) ?_
  rintro k ⟨hk, hb⟩
  refine G tt_ok [] ?_
  generalize e1 : decide ((k : Int) < (n : Int)) = cc
  cases cc
  · have : k = n := by simp at e1; omega
    subst this
    refine G tt_ok [] ?_
    refine CW.exit ?_
    refine G tt_ok [] ?_
    refine CW.ret (fin_ret rfl (Ent.refl _) ⟨?_, rfl⟩)
    unfold atD
    rw [if_neg hb]; rfl
  · have hlt : k < n := by simp at e1; omega
    have hw : IntKind.i64.wrap ((k : Int) + 1) = ((k + 1 : Nat) : Int) := by rw [wrap_i64]; split <;> omega
    have hwf : IntKind.i64.wrap (first + (k : Int)) = first + (k : Int) := by rw [wrap_i64]; split <;> omega
    refine G tt_ok [] ?_
    rw [hwf]
    by_cases hid : first + (k : Int) = id
    · rw [show (first + (k : Int) == id) = true by simp [hid]]
      refine G tt_ok [] ?_
      refine CW.ret (fin_ret rfl (Ent.refl _) ⟨?_, rfl⟩)
      unfold atD
      rw [if_pos (by omega)]
      show Value.int .i64 (k : Int) = _
      congr 1; omega
    · rw [show (first + (k : Int) == id) = false by simp [hid]]
      refine G tt_ok [] ?_
      exact ⟨k + 1, ⟨by omega, by omega⟩, by omega, ⟨by rw [← hw]; rfl, rfl, rfl, trivial⟩, Ent.refl _⟩
theorem rd_ln {es : List Ln} {k : Nat} {e : Ln} (h : es[k]? = some e) (X : List Value) : rdv ti110 (es.flatMap lnC ++ X) (0 + k * 7) = some (.agg #[.bool e.1.1, .bool e.1.2.1, .bool e.1.2.2.1, .bool e.1.2.2.2, .bool e.2.1, .int .i64 e.2.2.1, .int .i64 e.2.2.2]) :=
  rd_partR (enc := lnC) (sz := 7) (fun _ => rfl) h 0 (i := ti110) rfl (by decide) (by omega) (by decide) X
theorem rd_lnq {es : List Ln} {k : Nat} {e : Ln} (h : es[k]? = some e) (X : List Value) : rdv ti77 (es.flatMap lnC ++ X) (0 + k * 7) = some (.agg #[.bool e.1.1, .bool e.1.2.1, .bool e.1.2.2.1, .bool e.1.2.2.2]) :=
  rd_partR (enc := lnC) (sz := 7) (fun _ => rfl) h 0 (i := ti77) rfl (by decide) (by omega) (by decide) X
theorem wr_lnq {es : List Ln} {k : Nat} {e : Ln} (h : es[k]? = some e) (q : Iq) (X : List Value) : wrv ti77 (es.flatMap lnC ++ X) (0 + k * 7) (.agg #[.bool q.1, .bool q.2.1, .bool q.2.2.1, .bool q.2.2.2]) = some ((es.set k (q, e.2)).flatMap lnC ++ X) :=
  wr_encR (enc := lnC) (sz := 7) (fun _ => rfl) h 0 (i := ti77) (by decide) rfl rfl (by omega) X
/-- What befalls an interrupt of the document's bank. -/
def doD (first : Int) (ls : List Ln) (id x : Int) : List Ln × Int := if first ≤ id ∧ id - first < ls.length then
  (match ls[(id - first).toNat]? with
  | some l => (ls.set (id - first).toNat (stepI l.1 x, l.2), 0)
  | none => (ls, 0)) else (ls, 90)
theorem doD_len (first : Int) (ls : List Ln) (id x : Int) : (doD first ls id x).1.length = ls.length := by
  unfold doD; split
  · split <;> simp
  · rfl
set_option maxHeartbeats 2000000 in
theorem do36 (β : Base) (b : Nat) {first : Int} (id x : Int) (q : Option Addr) (c : Nat) (S2 : Value) (ls : List Ln) (hf0 : 0 ≤ first) (hf1 : first ≤ 16384) (hn : ls.length ≤ 16384) (h2 : vcells S2 = [S2]) :
    Tri Tryz.prog β 145 [.pointer (some ⟨b, 0, none⟩), .int .i64 id, .int .i64 x] (rbA b first q c S2 ls) (fun v L => v = .int .i64 (doD first ls id x).2 ∧ L = rbA b first q c S2 (doD first ls id x).1) := by
  refine Tri.intro tt_ok Tryz.func145 rfl rfl Tryz.ntmps145 rfl fun F => ?_
  unfold rbA
  rw [doD_len]
  refine G tt_ok pk145 ?_
  (refine SQ.call rfl rfl (at37d β b id q c S2 hf0 hf1 hn h2) [0] rfl ?_; rintro _ _ ⟨rfl, rfl⟩; refine w_ ?_)
  refine G tt_ok pk145 ?_
  by_cases hin : first ≤ id ∧ id - first < ls.length
  · have hat : atD first ls.length id = id - first := by unfold atD; rw [if_pos hin]
    have hkl : (id - first).toNat < ls.length := by omega
    obtain ⟨l, hl⟩ : ∃ l, ls[(id - first).toNat]? = some l := ⟨_, List.getElem?_eq_getElem hkl⟩
    have hd : doD first ls id x = (ls.set (id - first).toNat (stepI l.1 x, l.2), 0) := by unfold doD; rw [if_pos hin, hl]
    rw [hat, decide_eq_false (show ¬ id - first < 0 by omega), hd]
    refine CW.ent (Ent.append (L := [_]) (L' := [_]) (Ent.refl _) (row_open (show 0 < ls.length by omega))) ?_
    refine CW.ent (Ent.sel (is := [1, 0]) rfl) ?_
    refine CW.open_ fun y => ?_
    obtain ⟨g, rest⟩ := y
    refine CW.pure_ fun hv => ?_
    simp only at hv
    subst hv
    refine G tt_ok pk145 ?_
    refine SQ.idx tt_ok rfl rfl (id - first).toNat (by omega) hkl (o' := 0 + (id - first).toNat * 7) rfl ?_
    refine G tt_ok pk145 ?_
    refine SQ.load tt_ok rfl rfl 0 rfl (rd_lnq hl rest) ?_
    refine G tt_ok pk145 ?_
    (refine SQ.call rfl rfl (step55' β _ _ _ _ _) [] rfl ?_; rintro _ _ ⟨rfl, rfl⟩; refine ⟨(by repeat (first | exact trivial | refine ⟨trivial, ?_⟩ | refine ⟨wk (by repeat (first | exact .h | exact .q | apply At.t)) (rd_lnq hl rest), ?_⟩ | refine ⟨wk (by repeat (first | exact .h | exact .q | apply At.t)) (by rfl), ?_⟩)), ?_⟩)
    refine G tt_ok pk145 ?_
    refine SQ.idx tt_ok rfl rfl (id - first).toNat (by omega) hkl (o' := 0 + (id - first).toNat * 7) rfl ?_
    refine G tt_ok pk145 ?_
    refine SQ.store tt_ok rfl rfl 0 rfl rfl (wr_lnq hl (stepI l.1 x) rest) rfl (by repeat (first | exact trivial | refine ⟨trivial, ?_⟩ | refine ⟨wk (by repeat (first | exact .h | exact .q | apply At.t)) (by rfl), ?_⟩)) ?_
    refine G tt_ok pk145 ?_
    refine CW.ret (fin_ret rfl (Ent.trans (Ent.append (L := [_]) (L' := [_]) row_close (Ent.refl _)) (Ent.sel (is := [1, 0]) rfl)) ⟨rfl, rfl⟩)
  · have hat : atD first ls.length id = -1 := by unfold atD; rw [if_neg hin]
    have hd : doD first ls id x = (ls, 90) := by unfold doD; rw [if_neg hin]
    rw [hat, hd]
    refine G tt_ok pk145 ?_
    refine CW.ret (fin_ret rfl (Ent.refl _) ⟨rfl, rfl⟩)
-- part Fu
theorem wrap_id {x : Int} (h0 : -9223372036854775808 ≤ x) (h1 : x ≤ 9223372036854775807) : IntKind.i64.wrap x = x := by rw [wrap_i64]; split <;> omega
/-- v, i bits of it from M on taken from x. -/
def outN (v x M i : Nat) : Nat := 2 ^ (M + i) * (v / 2 ^ (M + i)) + (2 ^ M * (x % 2 ^ i) + v % 2 ^ M)
theorem low_lt (v x M i : Nat) : 2 ^ M * (x % 2 ^ i) + v % 2 ^ M < 2 ^ (M + i) := by
  have h1 : v % 2 ^ M < 2 ^ M := Nat.mod_lt _ (Nat.two_pow_pos M)
  have h2 : x % 2 ^ i + 1 ≤ 2 ^ i := Nat.mod_lt _ (Nat.two_pow_pos i)
  have h3 := Nat.mul_le_mul_left (2 ^ M) h2
  rw [Nat.mul_add, Nat.mul_one, ← Nat.pow_add] at h3
  omega
theorem out_zero (v x M : Nat) : outN v x M 0 = v := by
  unfold outN
  rw [Nat.add_zero, Nat.pow_zero, Nat.mod_one, Nat.mul_zero, Nat.zero_add]
  exact Nat.div_add_mod v (2 ^ M)
theorem out_div (v x M i : Nat) : outN v x M i / 2 ^ (M + i) = v / 2 ^ (M + i) := by
  unfold outN
  rw [Nat.mul_add_div (Nat.two_pow_pos _), Nat.div_eq_of_lt (low_lt v x M i), Nat.add_zero]
theorem out_lt {v x M i : Nat} (hv : v < 2 ^ 64) (hi : M + i ≤ 64) : outN v x M i < 2 ^ 64 := by
  have h1 : v / 2 ^ (M + i) + 1 ≤ 2 ^ (64 - (M + i)) := by
    apply Nat.div_lt_of_lt_mul
    rw [← Nat.pow_add, show M + i + (64 - (M + i)) = 64 by omega]; exact hv
  have h2 := Nat.mul_le_mul_left (2 ^ (M + i)) h1
  rw [Nat.mul_add, Nat.mul_one, ← Nat.pow_add, show M + i + (64 - (M + i)) = 64 by omega] at h2
  have h3 := low_lt v x M i
  unfold outN
  omega
theorem out_step (v x M i : Nat) : outN v x M (i + 1) + 2 ^ (M + i) * (v / 2 ^ (M + i) % 2) = outN v x M i + 2 ^ (M + i) * (x / 2 ^ i % 2) := by
  unfold outN
  rw [mod_step x i, Nat.mul_add, ← Nat.mul_assoc, ← Nat.pow_add, show M + (i + 1) = M + i + 1 by omega]
  have e1 : 2 ^ (M + i + 1) * (v / 2 ^ (M + i + 1)) + 2 ^ (M + i) * (v / 2 ^ (M + i) % 2) = 2 ^ (M + i) * (v / 2 ^ (M + i)) := by
    rw [Nat.pow_succ, ← Nat.div_div_eq_div_mul, Nat.mul_assoc, ← Nat.mul_add, Nat.div_add_mod]
  omega
theorem out_bit {v x M i j : Nat} : (outN v x M i).testBit j = if M ≤ j ∧ j < M + i then x.testBit (j - M) else v.testBit j := by
  unfold outN
  rw [Nat.testBit_two_pow_mul_add _ (low_lt v x M i), Nat.testBit_two_pow_mul_add _ (Nat.mod_lt _ (Nat.two_pow_pos M))]
  by_cases h1 : j < M + i
  · rw [if_pos h1]
    by_cases h2 : j < M
    · rw [if_pos h2, if_neg (by omega), Nat.testBit_mod_two_pow]; simp [h2]
    · rw [if_neg h2, if_pos (by omega), Nat.testBit_mod_two_pow]; simp; omega
  · rw [if_neg h1, if_neg (by omega), Nat.testBit_div_two_pow]
    congr 1; omega
theorem out_with {v x : Nat} (hv : v < 2 ^ 64) (hx : x < 2 ^ 64) {r c : Int} {k n : Nat} (hb : bitsV r = n) (hn : n ≤ 63) (h1 : (k : Int) < c) (h2 : k ≤ 64) : withV v r c k x = ((outN v x (n * k) (min n (64 - n * k)) : Nat) : Int) := by
  obtain ⟨W, g1, g2, g3⟩ := withV_nat hv hx (c := c) hb hn h1 h2
  rw [g2]
  congr 1
  by_cases hM : n * k ≤ 64
  · refine eq64 g1 (out_lt hv (by omega)) fun j hj => ?_
    rw [g3 j hj, out_bit]
    by_cases h : n * k ≤ j ∧ j < n * k + n
    · rw [if_pos h, if_pos (by omega)]
    · rw [if_neg h, if_neg (by omega)]
  · rw [show min n (64 - n * k) = 0 by omega, out_zero]
    refine eq64 g1 hv fun j hj => ?_
    rw [g3 j hj, if_neg (by omega)]
theorem and64_1 {a : Nat} (h : a < 2 ^ 64) : IntKind.u64.wrap ((BitVec.ofInt IntKind.u64.bits (a : Int) &&& BitVec.ofInt IntKind.u64.bits 1).toNat : Int) = ((a % 2 : Nat) : Int) := by
  have := and64 (b := 1) h (by decide)
  rw [Nat.and_one_is_mod] at this
  exact this
set_option maxHeartbeats 4000000 in
/-- The document's setting of a part of a register. -/
theorem with38 (β : Base) {v x : Nat} (hv : v < 2 ^ 64) (hx : x < 2 ^ 64) (r f c k : Int) : Tri Tryz.prog β 243 [.int .u64 v, .agg #[.int .i64 r, .int .i64 f, .int .i64 c], .int .i64 k, .int .u64 x] [] (fun u L => u = .int .u64 (withV v r c k x) ∧ L = []) := by
  refine Tri.intro tt_ok Tryz.func243 rfl rfl Tryz.ntmps243 rfl fun F => ?_
  by_cases hk : k < 0 ∨ k ≥ c ∨ k > 64
  · rw [withV_out hk]
    (repeat' (first | refine CW.seq ?_ | refine CW.region tt_ok rfl ?_ | refine CW.block ?_ | refine CW.skip ?_ | refine SQ.nil ?_ | refine SQ.pures1 tt_ok rfl ?_ | refine SQ.pure1 tt_ok rfl ?_ | refine SQ.new _ _ rfl rfl (fun _ => ?_) | refine SQ.ldA tt_ok rfl rfl (by repeat (first | exact .h | exact .q | apply At.t)) (by rfl) ?_ | refine SQ.stA tt_ok rfl rfl (by repeat (first | apply Up.h | apply Up.t)) (by rfl) (by rfl) (by repeat (first | exact trivial | refine ⟨trivial, ?_⟩ | refine ⟨wk (by repeat (first | exact .h | exact .q | apply At.t)) (by rfl), ?_⟩)) ?_ | refine CW.cond_tt rfl ?_ | refine CW.cond_ff rfl ?_ | (refine SQ.callA rfl rfl (wide56 β _) (by repeat (first | exact .n | exact Rm.h | exact Rm.of own_row | exact Rm.of row_close0 | apply Tk.c | apply Rm.t)) ?_; rintro _ _ ⟨rfl, rfl⟩; refine ⟨(by repeat (first | exact trivial | refine ⟨trivial, ?_⟩ | refine ⟨wk (by repeat (first | exact .h | exact .q | apply At.t)) (by rfl), ?_⟩)), ?_⟩) | ((first | refine CW.cond rfl (fun hc => ?_) (fun hc => ?_) | refine SQ.gsplit rfl (fun hc => ?_) (fun hc => ?_)) <;> try (exfalso; simp_all; done))))
    all_goals simp only [decide_eq_true_eq, decide_eq_false_iff_not] at *
    all_goals (first
      | exact CW.ret (fin_ret rfl (Ent.dropAll _) ⟨rfl, rfl⟩)
      | (exfalso; omega))
  · obtain ⟨n, hn1, hn, hb⟩ := bits_n r
    obtain ⟨k, rfl⟩ : ∃ k' : Nat, k = k' := ⟨k.toNat, by omega⟩
    rw [out_with hv hx hb hn (by omega) (by omega)]
    have hmb : n * k ≤ 63 * 64 := Nat.mul_le_mul hn (by omega)
    have hm : IntKind.i64.wrap ((n : Int) * (k : Int)) = ((n * k : Nat) : Int) := by
      rw [← Int.natCast_mul, wrap_i64]; split <;> omega
    generalize n * k = M at hm hmb ⊢
    (refine G tt_ok [] ?_; repeat (refine G1 tt_ok [] ?_; intro _))
    rw [decide_eq_false (show ¬ (k : Int) ≥ c by omega)]
    (refine G tt_ok [] ?_; repeat (refine G1 tt_ok [] ?_; intro _))
    rw [decide_eq_false (show ¬ (k : Int) > 64 by omega)]
    (refine G tt_ok [] ?_; repeat (refine G1 tt_ok [] ?_; intro _))
    refine ke rfl rfl (wide56 β r) ?_
    rw [hb]
    (refine G tt_ok [] ?_; repeat (refine G1 tt_ok [] ?_; intro _))
    rename_i b5
    refine CW.loop (α := Nat) (fun i => i ≤ n) (fun i => [(11, .int .i64 i), (10, .int .u64 ((outN v x M (min i (64 - M)) : Nat) : Int)), (9, .int .i64 n), (2, .int .i64 k), (3, .int .u64 x)]) (fun _ => []) (fun i => n - i) 0 (by omega) ⟨rfl, by rw [Nat.zero_min, out_zero]; rfl, rfl, rfl, rfl, trivial⟩ (Ent.dropAll _) ?_
    intro i hi
    (refine G tt_ok [] ?_; repeat (refine G1 tt_ok [] ?_; intro _))
    by_cases e1 : (i : Int) < (n : Int)
    · have hw : IntKind.i64.wrap ((i : Int) + 1) = ((i + 1 : Nat) : Int) := by rw [wrap_i64]; split <;> omega
      have hs : IntKind.i64.wrap ((M : Int) + (i : Int)) = ((M + i : Nat) : Int) := by rw [wrap_i64]; split <;> omega
      rw [decide_eq_true e1]
      (refine G tt_ok [] ?_; repeat (refine G1 tt_ok [] ?_; intro _))
      rw [hm, hs]
      by_cases hq : ((M + i : Nat) : Int) ≥ 64
      · rw [decide_eq_true hq]
        (refine G tt_ok [] ?_; repeat (refine G1 tt_ok [] ?_; intro _))
        refine CW.exit ?_
        (refine G tt_ok [] ?_; repeat (refine G1 tt_ok [] ?_; intro _))
        exact ⟨i + 1, by omega, by omega, ⟨by rw [← hw]; rfl, by rw [show min (i + 1) (64 - M) = min i (64 - M) by omega]; rfl, rfl, rfl, rfl, trivial⟩, Ent.refl _⟩
      · rw [decide_eq_false hq]
        have hM : M + i < 64 := by omega
        rw [show min i (64 - M) = i by omega]
        have hnx : min (i + 1) (64 - M) = i + 1 := by omega
        have hol := out_lt (x := x) hv (show M + i ≤ 64 by omega)
        have hol2 := out_lt (x := x) hv (show M + (i + 1) ≤ 64 by omega)
        have hb1 := bit64 hol hM
        rw [out_div] at hb1
        have hb2 := bit64 hx (show i < 64 by omega)
        have hst := out_step v x M i
        have hpp : (2 : Nat) ^ (M + i) ≤ 2 ^ 63 := Nat.pow_le_pow_right (by omega) (by omega)
        have e63 : (2 : Nat) ^ 63 = 9223372036854775808 := rfl
        have e64 : (2 : Nat) ^ 64 = 18446744073709551616 := rfl
        have ep : ((2 : Int) ^ (M + i)) = ((2 ^ (M + i) : Nat) : Int) := by push_cast; rfl
        have hmin : min (M + i) IntKind.u64.bits = M + i := by show min (M + i) 64 = M + i; omega
        (refine G tt_ok [] ?_; repeat (refine G1 tt_ok [] ?_; intro _))
        rw [hb1]
        have h01 : v / 2 ^ (M + i) % 2 = 0 ∨ v / 2 ^ (M + i) % 2 = 1 := by omega
        have g01 : x / 2 ^ i % 2 = 0 ∨ x / 2 ^ i % 2 = 1 := by omega
        rcases h01 with h | h <;> rcases g01 with g | g
        all_goals rw [h] at hst ⊢
        all_goals rw [g] at hst hb2
        all_goals simp only [Nat.mul_zero, Nat.mul_one, Nat.add_zero] at hst
        all_goals (refine G tt_ok [] ?_; repeat (refine G1 tt_ok [] ?_; intro _))
        all_goals try rw [hb2]
        all_goals (refine G tt_ok [] ?_; repeat (refine G1 tt_ok [] ?_; intro _))
        all_goals try rw [hb2]
        all_goals (refine G tt_ok [] ?_; repeat (refine G1 tt_ok [] ?_; intro _))
        · exact ⟨i + 1, by omega, by omega, ⟨by rw [← hw]; rfl, by rw [hnx, hst]; rfl, rfl, rfl, rfl, trivial⟩, Ent.refl _⟩
        · have hv2 : IntKind.u64.wrap (((outN v x M i : Nat) : Int) + IntKind.u64.wrap (1 * 2 ^ min (M + i) IntKind.u64.bits)) = ((outN v x M (i + 1) : Nat) : Int) := by
            rw [hmin, ep, wrap_u64, wrap_u64]; omega
          exact ⟨i + 1, by omega, by omega, ⟨by rw [← hw]; rfl, by rw [hnx, ← hv2]; rfl, rfl, rfl, rfl, trivial⟩, Ent.refl _⟩
        · have hv2 : IntKind.u64.wrap (((outN v x M i : Nat) : Int) - IntKind.u64.wrap (1 * 2 ^ min (M + i) IntKind.u64.bits)) = ((outN v x M (i + 1) : Nat) : Int) := by
            rw [hmin, ep, wrap_u64, wrap_u64]; omega
          exact ⟨i + 1, by omega, by omega, ⟨by rw [← hw]; rfl, by rw [hnx, ← hv2]; rfl, rfl, rfl, rfl, trivial⟩, Ent.refl _⟩
        · exact ⟨i + 1, by omega, by omega, ⟨by rw [← hw]; rfl, by rw [hnx, show outN v x M (i + 1) = outN v x M i by omega]; rfl, rfl, rfl, rfl, trivial⟩, Ent.refl _⟩
    · rw [decide_eq_false e1]
      (refine G tt_ok [] ?_; repeat (refine G1 tt_ok [] ?_; intro _))
      refine CW.exit ?_
      (refine G tt_ok [] ?_; repeat (refine G1 tt_ok [] ?_; intro _))
      have : i = n := by omega
      subst this
      exact CW.ret (fin_ret rfl (Ent.dropAll _) ⟨rfl, rfl⟩)
-- part Gf<
theorem shows39 (β : Base) (e l t a en : Bool) (g p r : Int) : Tri Tryz.prog β 244 [.agg #[.bool e, .bool l, .bool t, .bool a, .bool en, .int .i64 g, .int .i64 p], .int .i64 r] [] (fun v L => v = .int .u64 (showsV ((e, l, t, a), en, g, p) r) ∧ L = []) := by
  refine Tri.intro tt_ok Tryz.func244 rfl rfl Tryz.ntmps244 rfl fun F => ?_
  (repeat' (first | refine CW.seq ?_ | refine CW.region tt_ok rfl ?_ | refine CW.block ?_ | refine CW.skip ?_ | refine SQ.nil ?_ | refine SQ.pures1 tt_ok rfl ?_ | refine SQ.pure1 tt_ok rfl ?_ | refine SQ.new _ _ rfl rfl (fun _ => ?_) | refine SQ.ldA tt_ok rfl rfl (by repeat (first | exact .h | exact .q | apply At.t)) (by rfl) ?_ | refine SQ.stA tt_ok rfl rfl (by repeat (first | apply Up.h | apply Up.t)) (by rfl) (by rfl) (by exact trivial) ?_ | refine CW.cond_tt rfl ?_ | refine CW.cond_ff rfl ?_ | (refine SQ.callA rfl rfl (one57 β _) (by repeat (first | exact .n | exact Rm.h | exact Rm.of own_row | exact Rm.of row_close0 | apply Tk.c | apply Rm.t)) ?_; rintro _ _ ⟨rfl, rfl⟩; refine ⟨(by exact trivial), ?_⟩) | (refine SQ.callA rfl rfl (pending58 β _ _ _ _) (by repeat (first | exact .n | exact Rm.h | exact Rm.of own_row | exact Rm.of row_close0 | apply Tk.c | apply Rm.t)) ?_; rintro _ _ ⟨rfl, rfl⟩; refine ⟨(by exact trivial), ?_⟩) | ((first | refine CW.cond rfl (fun hc => ?_) (fun hc => ?_) | refine SQ.gsplit rfl (fun hc => ?_) (fun hc => ?_)) <;> try (exfalso; simp_all; done))))
  all_goals (refine CW.ret (fin_ret rfl (Ent.dropAll _) ⟨?_, rfl⟩); simp_all [packV, showsV, b2])
theorem shows39' (β : Base) (l : Ln) (r : Int) : Tri Tryz.prog β 244 [.agg #[.bool l.1.1, .bool l.1.2.1, .bool l.1.2.2.1, .bool l.1.2.2.2, .bool l.2.1, .int .i64 l.2.2.1, .int .i64 l.2.2.2], .int .i64 r] [] (fun v L => v = .int .u64 (showsV l r) ∧ L = []) := shows39 β _ _ _ _ _ _ _ r
-- part Gj
@[reducible] def i1C (x : Int) : List Value := [.int .i64 x]
theorem ints_at {ids : List Int} {k : Nat} {x : Int} (h : ids[k]? = some x) : (ids.flatMap i1C)[k]? = some (.int .i64 x) := by
  have key : ∀ ids : List Int, ids.flatMap i1C = ids.map (fun x => Value.int .i64 x) := fun ids => by
    induction ids with
    | nil => rfl
    | cons a r ih => rw [List.flatMap_cons, ih]; rfl
  rw [key]; simp [h]
theorem rd_i1 {cs : List Value} {off n : Nat} {ids : List Int} (h : (cs.drop off).take (n * 1) = ids.flatMap i1C) {k : Nat} {x : Int} (hk : ids[k]? = some x) : rdv ti3 cs (off + k * 1) = some (.int .i64 x) := by
  have h1 := ints_at hk
  rw [← h] at h1
  have h2 := cells_at (cs := cs) (off := off) (m := n * 1) (j := k) rfl h1
  have h3 : aggD ti3.desc = false := rfl
  have hlt := (List.getElem?_eq_some_iff.1 h2).1
  simp only [rdv, h3, takeN_eq, dropN_eq, Nat.mul_one]
  rw [List.drop_eq_getElem_cons hlt]
  have := (List.getElem?_eq_some_iff.1 h2).2
  simp [this]
end Go.Proofs.YtebpodnbalfomaaGreatDoor.Sl
namespace Go.Proofs.YtebpodnbalfomaaGreatDoor.Sl
open Go Go.RowKit Go.Proofs
set_option linter.unusedVariables false
set_option linter.unusedSimpArgs false
theorem oNw {w a : Nat} (h : a < 2 ^ w) : (BitVec.ofInt w (a : Int)).toNat = a := by
  rw [show BitVec.ofInt w (a : Int) = BitVec.ofNat w a by apply BitVec.eq_of_toNat_eq; rw [BitVec.toNat_ofInt, BitVec.toNat_ofNat]; simp [Int.emod_emod_of_dvd]; norm_cast]
  rw [BitVec.toNat_ofNat, Nat.mod_eq_of_lt h]
theorem wN64 {x : Nat} (h : x < 2 ^ 64) : IntKind.u64.wrap (x : Int) = (x : Int) := by rw [wrap_u64]; have : (2 : Nat) ^ 64 = 18446744073709551616 := rfl; omega
theorem wN32 {x : Nat} (h : x < 2 ^ 32) : IntKind.u32.wrap (x : Int) = (x : Int) := by rw [wrap_u32]; have : (2 : Nat) ^ 32 = 4294967296 := rfl; omega
theorem and32 {a b : Nat} (ha : a < 2 ^ 32) (hb : b < 2 ^ 32) : IntKind.u32.wrap ((BitVec.ofInt IntKind.u32.bits (a : Int) &&& BitVec.ofInt IntKind.u32.bits (b : Int)).toNat : Int) = ((a &&& b : Nat) : Int) := by
  show IntKind.u32.wrap ((BitVec.ofInt 32 (a : Int) &&& BitVec.ofInt 32 (b : Int)).toNat : Int) = _
  rw [BitVec.toNat_and, oNw ha, oNw hb, wN32 (Nat.and_lt_two_pow _ hb)]
theorem or32 {a b : Nat} (ha : a < 2 ^ 32) (hb : b < 2 ^ 32) : IntKind.u32.wrap ((BitVec.ofInt IntKind.u32.bits (a : Int) ||| BitVec.ofInt IntKind.u32.bits (b : Int)).toNat : Int) = ((a ||| b : Nat) : Int) := by
  show IntKind.u32.wrap ((BitVec.ofInt 32 (a : Int) ||| BitVec.ofInt 32 (b : Int)).toNat : Int) = _
  rw [BitVec.toNat_or, oNw ha, oNw hb, wN32 (Nat.or_lt_two_pow ha hb)]
theorem oNi (w a : Nat) : BitVec.ofInt w (a : Int) = BitVec.ofNat w a := by
  apply BitVec.eq_of_toNat_eq
  rw [BitVec.toNat_ofInt, BitVec.toNat_ofNat]
  norm_cast
/-- a without the bits of b, of words of w bits. -/
def clrN (w a b : Nat) : Nat := (BitVec.ofNat w a &&& ~~~BitVec.ofNat w b).toNat
theorem clrN_lt (w a b : Nat) : clrN w a b < 2 ^ w := BitVec.isLt _
theorem clrN_bit {w a b j : Nat} (hj : j < w) : (clrN w a b).testBit j = (a.testBit j && !b.testBit j) := by
  unfold clrN
  rw [← BitVec.getLsbD, BitVec.getLsbD_and, BitVec.getLsbD_not, BitVec.getLsbD_ofNat, BitVec.getLsbD_ofNat]
  simp [hj]
theorem clr64 (a b : Nat) : IntKind.u64.wrap ((BitVec.ofInt IntKind.u64.bits (a : Int) &&& ~~~BitVec.ofInt IntKind.u64.bits (b : Int)).toNat : Int) = ((clrN 64 a b : Nat) : Int) := by
  show IntKind.u64.wrap ((BitVec.ofInt 64 (a : Int) &&& ~~~BitVec.ofInt 64 (b : Int)).toNat : Int) = _
  rw [oNi, oNi]
  exact wN64 (clrN_lt 64 a b)
theorem clr32 (a b : Nat) : IntKind.u32.wrap ((BitVec.ofInt IntKind.u32.bits (a : Int) &&& ~~~BitVec.ofInt IntKind.u32.bits (b : Int)).toNat : Int) = ((clrN 32 a b : Nat) : Int) := by
  show IntKind.u32.wrap ((BitVec.ofInt 32 (a : Int) &&& ~~~BitVec.ofInt 32 (b : Int)).toNat : Int) = _
  rw [oNi, oNi]
  exact wN32 (clrN_lt 32 a b)
theorem shl64 {r : Nat} (h : r < 64) : IntKind.u64.wrap (1 * 2 ^ min r IntKind.u64.bits) = ((2 ^ r : Nat) : Int) := by
  rw [show min r IntKind.u64.bits = r from Nat.min_eq_left (by show r ≤ 64; omega), Int.one_mul, show (2 : Int) ^ r = ((2 ^ r : Nat) : Int) by simp]
  exact wN64 (Nat.pow_lt_pow_right (by omega) h)
theorem shl32 {r : Nat} (h : r < 32) : IntKind.u32.wrap (1 * 2 ^ min r IntKind.u32.bits) = ((2 ^ r : Nat) : Int) := by
  rw [show min r IntKind.u32.bits = r from Nat.min_eq_left (by show r ≤ 32; omega), Int.one_mul, show (2 : Int) ^ r = ((2 ^ r : Nat) : Int) by simp]
  exact wN32 (Nat.pow_lt_pow_right (by omega) h)
theorem shr64 (a k : Nat) (hk : k ≤ 64) : (a : Int).fdiv (2 ^ min k IntKind.u64.bits) = ((a / 2 ^ k : Nat) : Int) := by
  rw [show min k IntKind.u64.bits = k from Nat.min_eq_left hk, Int.fdiv_eq_ediv_of_nonneg _ (by exact Int.le_of_lt (Int.pow_pos (by omega)))]
  simp
theorem shr32 (a k : Nat) (hk : k ≤ 32) : (a : Int).fdiv (2 ^ min k IntKind.u32.bits) = ((a / 2 ^ k : Nat) : Int) := by
  rw [show min k IntKind.u32.bits = k from Nat.min_eq_left hk, Int.fdiv_eq_ediv_of_nonneg _ (by exact Int.le_of_lt (Int.pow_pos (by omega)))]
  simp
theorem and1_64 {a : Nat} (ha : a < 2 ^ 64) : IntKind.u64.wrap ((BitVec.ofInt IntKind.u64.bits (a : Int) &&& BitVec.ofInt IntKind.u64.bits 1).toNat : Int) = ((a % 2 : Nat) : Int) := by
  have := and64 ha (b := 1) (by decide)
  rw [Nat.and_one_is_mod] at this
  exact this
theorem and1_32 {a : Nat} (ha : a < 2 ^ 32) : IntKind.u32.wrap ((BitVec.ofInt IntKind.u32.bits (a : Int) &&& BitVec.ofInt IntKind.u32.bits 1).toNat : Int) = ((a % 2 : Nat) : Int) := by
  have := and32 ha (b := 1) (by decide)
  rw [Nat.and_one_is_mod] at this
  exact this
theorem beq1 (x : Nat) : ((x : Int) == 1) = (x == 1) := by rw [Bool.eq_iff_iff]; simp; omega
theorem test_div (a k : Nat) : (a / 2 ^ k % 2 == 1) = a.testBit k := by rw [Nat.testBit_eq_decide_div_mod_eq]; rfl
end Go.Proofs.YtebpodnbalfomaaGreatDoor.Sl
namespace Go.Proofs.YtebpodnbalfomaaGreatDoor.Sl
open Go Go.RowKit Go.Proofs
set_option linter.unusedVariables false
set_option linter.unusedSimpArgs false
attribute [local irreducible] CW Tri OW
set_option maxRecDepth 10000
@[reducible] def pk60 : List (Nat × Plan) := []
@[reducible] def pk62 : List (Nat × Plan) := []
@[reducible] def wC (x : Nat) : List Value := [.int .u64 (x : Int)]
theorem w_rdX {W : List Nat} {k x : Nat} (h : W[k]? = some x) (X : List Value) : rdv ti44 (W.flatMap wC ++ X) (0 + k * 1) = some (.int .u64 (x : Int)) :=
  rd_partR (enc := wC) (sz := 1) (fun _ => rfl) h 0 (i := ti44) rfl (by decide) (by omega) (by decide) X
theorem w_wrX {W : List Nat} {k : Nat} {y : Nat} (h : W[k]? = some y) (x : Nat) (X : List Value) : wrv ti44 (W.flatMap wC ++ X) (0 + k * 1) (.int .u64 (x : Int)) = some ((W.set k x).flatMap wC ++ X) :=
  wr_encR (enc := wC) (sz := 1) (fun _ => rfl) h 0 (i := ti44) (by decide) rfl rfl (by omega) X
/-- The words of a set of messages: none, or as many as the first 64 messages need. -/
def wds : Option Nat → List Nat
  | none => []
  | some y => List.replicate 128 0 ++ [y]
theorem wds_len (y : Nat) : (wds (some y)).length = 129 := by simp [wds]
theorem wds_at (y : Nat) : (wds (some y))[128]? = some y := by
  unfold wds
  rw [List.getElem?_append_right (by simp)]; simp
theorem wds_set (y z : Nat) : (wds (some y)).set 128 z = wds (some z) := by
  unfold wds
  rw [List.set_append_right _ _ (by simp)]; simp
def wlen (W : Option Nat) : Nat := match W with
  | none => 0
  | some _ => 129
def rowO (q : Option Addr) (c : Nat) : Option Nat → Atom
  | none => own 44 1 (.slice q 0 c) 0 []
  | some y => rowA q (wlen (some y)) ((wds (some y)).flatMap wC)
def setL (S : Nat) (q : Option Addr) (c : Nat) (W : Option Nat) : List Atom := [pt S [.slice q (wlen W) c], rowO q c W]
def hasS (W : Option Nat) (j : Nat) : Bool := match W with
  | none => false
  | some y => y.testBit j
def setOk (W : Option Nat) : Prop := ∀ y, W = some y → y < 2 ^ 64
theorem sh_j {j : Nat} (hj : j < 64) {n : Int} (hn : ((8192 + j : Nat) : Int) = n) : (IntKind.u64.wrap n).tmod 64 = ((j : Nat) : Int) := by
  subst hn
  rw [wN64 (show 8192 + j < 2 ^ 64 by omega), Int.tmod_eq_emod_of_nonneg (by omega)]; omega
theorem quo_j {j : Nat} (hj : j < 64) {n : Int} (hn : ((8192 + j : Nat) : Int) = n) : IntKind.i64.wrap (n.tdiv 64) = ((128 : Nat) : Int) := by
  subst hn
  rw [Int.tdiv_eq_ediv_of_nonneg (by omega), wrap_id (by omega) (by omega)]; omega
theorem in_j {j : Nat} (hj : j < 64) {n : Int} (hn : ((8192 + j : Nat) : Int) = n) (y : Nat) : decide (n < IntKind.i64.wrap (64 * ((wlen (some y) : Nat) : Int))) = true := by
  rw [show IntKind.i64.wrap (64 * ((wlen (some y) : Nat) : Int)) = 8256 from rfl]; simp; omega
theorem out_j {j : Nat} {n : Int} (hn : ((8192 + j : Nat) : Int) = n) : decide (n < IntKind.i64.wrap (64 * ((wlen none : Nat) : Int))) = false := by
  rw [show IntKind.i64.wrap (64 * ((wlen none : Nat) : Int)) = 0 from rfl]; simp; omega
theorem ge_j {j : Nat} {n : Int} (hn : ((8192 + j : Nat) : Int) = n) : decide (n ≥ 0) = true := by simp; omega
attribute [local irreducible] wlen
set_option maxHeartbeats 4000000 in
theorem has60 (β : Base) (S : Nat) (q : Option Addr) (c : Nat) {W : Option Nat} (hW : setOk W) {j : Nat} (hj : j < 64) : Tri Tryz.prog β 60 [.pointer (some ⟨S, 0, none⟩), .int .i64 ((8192 + j : Nat) : Int)] (setL S q c W) (fun v L => v = .bool (hasS W j) ∧ L = setL S q c W) := by
  generalize hn : ((8192 + j : Nat) : Int) = n
  refine Tri.intro tt_ok Tryz.func60 rfl rfl Tryz.ntmps60 rfl fun F => ?_
  unfold setL
  refine G tt_ok pk60 ?_
  rw [ge_j hn]
  match W, hW with
  | none, _ =>
    refine G tt_ok pk60 ?_
    rw [out_j hn]
    refine G tt_ok pk60 ?_
    exact CW.ret (fin_ret rfl pk_ ⟨rfl, rfl⟩)
  | some y, hW =>
    have hy : y < 2 ^ 64 := hW y rfl
    unfold rowO
    refine G tt_ok pk60 ?_
    rw [in_j hj hn]
    refine G tt_ok pk60 ?_
    rw [quo_j hj hn]
    refine ir_ tt_ok rfl rfl (128) (rfl) rfl ?_ (hlt := by rw [wlen]; omega)
    refine G tt_ok pk60 ?_
    refine lr_ tt_ok rfl rfl (w_rdX (wds_at y)) ?_ (hn := by rw [wlen]; omega)
    refine G tt_ok pk60 ?_
    refine SQ.shift tt_ok rfl rfl j (sh_j hj hn) (v := ((y / 2 ^ j : Nat) : Int)) (shr64 y j (by omega)) ?_
    refine G tt_ok pk60 ?_
    rw [and1_64 (Nat.lt_of_le_of_lt (Nat.div_le_self _ _) hy), beq1, test_div]
    exact CW.ret (fin_ret rfl pk_ ⟨rfl, rfl⟩)
def putS (W : Option Nat) (j : Nat) : Option Nat := if hasS W j then W else match W with
  | none => some (2 ^ j)
  | some y => some (y ||| 2 ^ j)
def takeS (W : Option Nat) (j : Nat) : Option Nat := if hasS W j then (match W with
  | none => none
  | some y => some (clrN 64 y (2 ^ j))) else W
set_option maxHeartbeats 4000000 in
theorem take62 (β : Base) (S : Nat) (q : Option Addr) (c : Nat) {W : Option Nat} (hW : setOk W) {j : Nat} (hj : j < 64) : Tri Tryz.prog β 62 [.pointer (some ⟨S, 0, none⟩), .int .i64 ((8192 + j : Nat) : Int)] (setL S q c W) (fun v L => v = .bool (hasS W j) ∧ L = setL S q c (takeS W j)) := by
  have hh := has60 β S q c hW hj
  generalize hn : ((8192 + j : Nat) : Int) = n at hh ⊢
  refine Tri.intro tt_ok Tryz.func62 rfl rfl Tryz.ntmps62 rfl fun F => ?_
  refine G tt_ok pk62 ?_
  refine ke rfl rfl (hh) ?_
  unfold takeS
  cases h : hasS W j with
  | false =>
    refine G tt_ok pk62 ?_
    exact CW.ret (fin_ret rfl pk_ ⟨rfl, rfl⟩)
  | true =>
    match W, hW, h with
    | some y, hW, h =>
      have hy : y < 2 ^ 64 := hW y rfl
      rw [if_pos rfl]
      simp only
      have hl : wlen (some y) = wlen (some (clrN 64 y (2 ^ j))) := by rw [wlen, wlen]
      have hx : Ent [pt S [.slice q (wlen (some y)) c], rowA q (wlen (some y)) ((wds (some (clrN 64 y (2 ^ j)))).flatMap wC)] (setL S q c (some (clrN 64 y (2 ^ j)))) := by
        unfold setL rowO
        simp only
        rw [← hl]
        exact Ent.refl _
      unfold setL rowO
      refine G tt_ok pk62 ?_
      rw [quo_j hj hn]
      refine ir_ tt_ok rfl rfl (128) (rfl) rfl ?_ (hlt := by rw [wlen]; omega)
      refine G tt_ok pk62 ?_
      refine lr_ tt_ok rfl rfl (w_rdX (wds_at y)) ?_ (hn := by rw [wlen]; omega)
      refine G tt_ok pk62 ?_
      refine SQ.shift tt_ok rfl rfl j (sh_j hj hn) (v := ((2 ^ j : Nat) : Int)) (shl64 (by omega)) ?_
      refine G tt_ok pk62 ?_
      rw [clr64]
      refine ir_ tt_ok rfl rfl (128) (rfl) rfl ?_ (hlt := by rw [wlen]; omega)
      refine G tt_ok pk62 ?_
      have hwr : ∀ X, wrv ti44 ((wds (some y)).flatMap wC ++ X) (0 + 128 * 1) (.int .u64 ((clrN 64 y (2 ^ j) : Nat) : Int)) = some ((wds (some (clrN 64 y (2 ^ j)))).flatMap wC ++ X) := fun X => by
        rw [w_wrX (wds_at y), wds_set]
      refine sr_ tt_ok rfl rfl (hwr) ?_ (hn := by rw [wlen]; omega)
      refine G tt_ok pk62 ?_
      exact CW.ret (fin_ret rfl (Ent.trans pk_ hx) ⟨rfl, rfl⟩)
theorem putS_ok {W : Option Nat} (h : setOk W) {j : Nat} (hj : j < 64) : setOk (putS W j) := by
  have h2 : 2 ^ j < 2 ^ 64 := Nat.pow_lt_pow_right (by omega) hj
  unfold putS
  split
  · exact h
  · match W, h with
    | none, _ => intro y e; injection e with e; omega
    | some y, h => intro z e; injection e with e; rw [← e]; exact Nat.or_lt_two_pow (h y rfl) h2
theorem takeS_ok {W : Option Nat} (h : setOk W) (j : Nat) : setOk (takeS W j) := by
  unfold takeS
  split
  · match W, h with
    | none, h => exact h
    | some y, h => intro z e; injection e with e; rw [← e]; exact clrN_lt _ _ _
  · exact h
theorem has_putS (W : Option Nat) (i j : Nat) : hasS (putS W i) j = (decide (j = i) || hasS W j) := by
  unfold putS
  split
  · rename_i h1
    by_cases hji : j = i
    · subst hji; simp [h1]
    · simp [hji]
  · match W with
    | none => simp [hasS, Nat.testBit_two_pow, eq_comm]
    | some y => simp [hasS, Nat.testBit_or, Nat.testBit_two_pow, Bool.or_comm, eq_comm]
theorem has_takeS (W : Option Nat) (i : Nat) {j : Nat} (hj : j < 64) : hasS (takeS W i) j = (!decide (j = i) && hasS W j) := by
  unfold takeS
  split
  · match W with
    | none => simp [hasS]
    | some y => simp [hasS, clrN_bit hj, Nat.testBit_two_pow, Bool.and_comm, eq_comm]
  · rename_i h1
    by_cases hji : j = i
    · subst hji; simpa using h1
    · simp [hji]
end Go.Proofs.YtebpodnbalfomaaGreatDoor.Sl
namespace Go.Proofs.YtebpodnbalfomaaGreatDoor.Sl
open Go Go.RowKit Go.Proofs
set_option linter.unusedVariables false
set_option linter.unusedSimpArgs false
attribute [local irreducible] CW Tri OW
attribute [local irreducible] wlen
set_option maxRecDepth 10000
@[reducible] def pk78 : List (Nat × Plan) := []
@[reducible] def pk61 : List (Nat × Plan) := []
theorem of78 (β : Base) : Tri Tryz.prog β 78 [.slice none 0 0] [] (fun v L => ∃ S, v = .pointer (some ⟨S, 0, none⟩) ∧ L = setL S none 0 none) := by
  refine Tri.intro tt_ok Tryz.func78 rfl rfl Tryz.ntmps78 rfl fun F => ?_
  (refine G tt_ok pk78 ?_; repeat (refine G1 tt_ok pk78 ?_; intro _))
  rename_i S
  refine CW.loop (α := Nat) (fun k => k = 0) (fun k => [(10, .int .i64 0), (9, .int .i64 0), (3, .pointer (some ⟨S, 0, none⟩))]) (fun k => [pt S [.slice none 0 0]]) (fun k => 0) 0 rfl ⟨rfl, rfl, rfl, trivial⟩ pk_ ?_
  intro k hk
  (refine G tt_ok pk78 ?_; repeat (refine G1 tt_ok pk78 ?_; intro _))
  refine CW.exit ?_
  (refine G tt_ok pk78 ?_; repeat (refine G1 tt_ok pk78 ?_; intro _))
  refine CW.ret (fin_ret rfl (A := setL S none 0 none) ?_ ⟨S, rfl, rfl⟩)
  unfold setL rowO
  rw [wlen]
  exact (own_nil 44 1).trans pk_
theorem zeros_at {n : Nat} : (List.replicate n 0).flatMap wC ++ [.int .u64 0] = (List.replicate (n + 1) 0).flatMap wC := by
  rw [List.replicate_succ', List.flatMap_append]; rfl
theorem zeros129 : List.replicate 129 0 = wds (some 0) := by
  unfold wds
  rw [List.replicate_succ']
set_option maxHeartbeats 4000000 in
theorem put61 (β : Base) (S : Nat) (q : Option Addr) (c : Nat) {W : Option Nat} (hW : setOk W) {j : Nat} (hj : j < 64) : Tri Tryz.prog β 61 [.pointer (some ⟨S, 0, none⟩), .int .i64 ((8192 + j : Nat) : Int)] (setL S q c W) (fun v L => ∃ q' c', v = .bool (!hasS W j) ∧ L = setL S q' c' (putS W j)) := by
  have hh := has60 β S q c hW hj
  generalize hn : ((8192 + j : Nat) : Int) = n at hh ⊢
  refine Tri.intro tt_ok Tryz.func61 rfl rfl Tryz.ntmps61 rfl fun F => ?_
  have hpw : 2 ^ j < 2 ^ 64 := Nat.pow_lt_pow_right (by omega) hj
  refine G tt_ok pk61 ?_
  rw [decide_eq_false (show ¬ n < 0 by omega)]
  refine G tt_ok pk61 ?_
  rw [decide_eq_false (show ¬ n ≥ 16384 by omega)]
  refine G tt_ok pk61 ?_
  refine ke rfl rfl (hh) ?_
  unfold putS
  cases h : hasS W j with
  | true =>
    refine G tt_ok pk61 ?_
    exact CW.ret (fin_ret rfl pk_ ⟨_, _, rfl, rfl⟩)
  | false =>
    simp only [Bool.false_eq_true, if_false]
    match W, hW with
    | some y, hW =>
      have hy : y < 2 ^ 64 := hW y rfl
      simp only
      have hl : wlen (some y) = wlen (some (y ||| 2 ^ j)) := by rw [wlen, wlen]
      have hx : Ent [pt S [.slice q (wlen (some y)) c], rowA q (wlen (some y)) ((wds (some (y ||| 2 ^ j))).flatMap wC)] (setL S q c (some (y ||| 2 ^ j))) := by
        unfold setL rowO
        simp only
        rw [← hl]
        exact Ent.refl _
      refine G tt_ok pk61 ?_
      unfold setL rowO
      simp only
      refine CW.loop (α := Nat) (fun x => x = 0) (fun x => [(0, .pointer (some ⟨S, 0, none⟩)), (1, .int .i64 n)]) (fun x => [pt S [.slice q (wlen (some y)) c], rowA q (wlen (some y)) ((wds (some y)).flatMap wC)]) (fun x => 0) 0 rfl ⟨rfl, rfl, trivial⟩ pk_ ?_
      intro x _
      refine G tt_ok pk61 ?_
      rw [quo_j hj hn, show decide (((wlen (some y) : Nat) : Int) ≤ ((128 : Nat) : Int)) = false by rw [wlen]; rfl]
      refine G tt_ok pk61 ?_
      refine CW.exit ?_
      refine G tt_ok pk61 ?_
      rw [quo_j hj hn]
      refine ir_ tt_ok rfl rfl (128) (rfl) rfl ?_ (hlt := by rw [wlen]; omega)
      refine G tt_ok pk61 ?_
      refine lr_ tt_ok rfl rfl (w_rdX (wds_at y)) ?_ (hn := by rw [wlen]; omega)
      refine G tt_ok pk61 ?_
      refine SQ.shift tt_ok rfl rfl j (sh_j hj hn) (v := ((2 ^ j : Nat) : Int)) (shl64 (by omega)) ?_
      refine G tt_ok pk61 ?_
      rw [or64 hy hpw]
      refine ir_ tt_ok rfl rfl (128) (rfl) rfl ?_ (hlt := by rw [wlen]; omega)
      refine G tt_ok pk61 ?_
      have hwr : ∀ X, wrv ti44 ((wds (some y)).flatMap wC ++ X) (0 + 128 * 1) (.int .u64 ((y ||| 2 ^ j : Nat) : Int)) = some ((wds (some (y ||| 2 ^ j))).flatMap wC ++ X) := fun X => by
        rw [w_wrX (wds_at y), wds_set]
      refine sr_ tt_ok rfl rfl (hwr) ?_ (hn := by rw [wlen]; omega)
      refine G tt_ok pk61 ?_
      exact CW.ret (fin_ret rfl (Ent.trans pk_ hx) ⟨q, c, rfl, rfl⟩)
    | none, hW =>
      simp only
      refine G tt_ok pk61 ?_
      unfold setL rowO
      simp only
      refine CW.loop (α := Nat × Option Addr × Nat) (fun x => x.1 ≤ 129) (fun x => [(0, .pointer (some ⟨S, 0, none⟩)), (1, .int .i64 n)]) (fun x => [pt S [.slice x.2.1 x.1 x.2.2], own 44 1 (.slice x.2.1 x.1 x.2.2) x.1 ((List.replicate x.1 0).flatMap wC)]) (fun x => 129 - x.1) (0, q, c) (by simp) ⟨rfl, rfl, trivial⟩ (by simp only; rw [wlen]; exact pk_) ?_
      rintro ⟨m, q1, c1⟩ hm
      simp only at hm ⊢
      refine G tt_ok pk61 ?_
      rw [quo_j hj hn]
      by_cases hlt : m ≤ 128
      · rw [decide_eq_true (show (m : Int) ≤ ((128 : Nat) : Int) by omega)]
        refine G tt_ok pk61 ?_
        (refine SQ.built tt_ok rfl rfl (fun _ => w_ ?_))
        refine G tt_ok pk61 ?_
        (refine SQ.appA tt_ok rfl rfl (by repeat (first | exact Rm.h | apply Rm.t)) (by repeat (first | exact .h | exact .q | apply At.t)) ([.int .u64 0]) rfl rfl rfl (scal_eq rfl) (by omega) (by show (m + 1) * 8 ≤ _; omega) (fun q2 c2 => w_ ?_))
        refine G tt_ok pk61 ?_
        rw [zeros_at]
        refine ⟨(m + 1, q2, c2), by simp; omega, by simp; omega, ⟨rfl, rfl, trivial⟩, ?_⟩
        exact pk_
      · rw [decide_eq_false (show ¬ (m : Int) ≤ ((128 : Nat) : Int) by omega)]
        refine G tt_ok pk61 ?_
        refine CW.exit ?_
        obtain rfl : m = 129 := by omega
        refine G tt_ok pk61 ?_
        rw [quo_j hj hn]
        have hr : Ent [own 44 1 (.slice q1 129 c1) 129 ((List.replicate 129 0).flatMap wC)] [rowA q1 129 ((wds (some 0)).flatMap wC)] := by
          rw [← zeros129]; exact own_row
        refine SQ.ent _ (Rm.to (A := own 44 1 (.slice q1 129 c1) 129 ((List.replicate 129 0).flatMap wC)) (by repeat (first | exact Rm.h | apply Rm.t)) hr) ?_
        refine ir_ tt_ok rfl rfl (128) (rfl) rfl ?_ (hlt := by omega)
        refine G tt_ok pk61 ?_
        refine lr_ tt_ok rfl rfl (w_rdX (wds_at 0)) ?_
        refine G tt_ok pk61 ?_
        refine SQ.shift tt_ok rfl rfl j (sh_j hj hn) (v := ((2 ^ j : Nat) : Int)) (shl64 (by omega)) ?_
        refine G tt_ok pk61 ?_
        rw [or64 (by decide) hpw, Nat.zero_or]
        refine ir_ tt_ok rfl rfl (128) (rfl) rfl ?_ (hlt := by omega)
        refine G tt_ok pk61 ?_
        have hwr : ∀ X, wrv ti44 ((wds (some 0)).flatMap wC ++ X) (0 + 128 * 1) (.int .u64 ((2 ^ j : Nat) : Int)) = some ((wds (some (2 ^ j))).flatMap wC ++ X) := fun X => by
          rw [w_wrX (wds_at 0), wds_set]
        refine sr_ tt_ok rfl rfl (hwr) ?_
        refine G tt_ok pk61 ?_
        have hl : wlen (some (2 ^ j)) = 129 := by rw [wlen]
        rw [hl]
        exact CW.ret (fin_ret rfl (A := [pt S [.slice q1 129 c1], rowA q1 129 ((wds (some (2 ^ j))).flatMap wC)]) pk_ ⟨q1, c1, rfl, rfl⟩)
@[reducible] def pk208 : List (Nat × Plan) := []
@[reducible] def byC (b : Nat) : List Value := [.int .u8 (b : Int)]
def bys (B : List Nat) : List Value := B.flatMap byC
theorem bys_at {B : List Nat} {k : Nat} {b : Nat} (h : B[k]? = some b) : rdv ti5 (bys B) (0 + k * 1) = some (.int .u8 (b : Int)) :=
  rd_part (enc := byC) (sz := 1) (fun _ => rfl) h 0 (i := ti5) rfl (by decide) (by omega) (by decide)
/-- The table of the numbers of zeros. -/
def tzT : List Nat := [0, 1, 56, 2, 57, 49, 28, 3, 61, 58, 42, 50, 38, 29, 17, 4, 62, 47, 59, 36, 45, 43, 51, 22, 53, 39, 33, 30, 24, 18, 12, 5, 63, 55, 48, 27, 60, 41, 37, 16, 46, 35, 44, 21, 52, 32, 23, 11, 54, 26, 40, 15, 34, 20, 31, 10, 25, 14, 19, 9, 13, 8, 7, 6]
def TabOk (β : Base) : Prop := 0 < β.heap.size ∧ ∃ t fz, β.heap[0]? = some (.cells (bys tzT).toArray t fz)
theorem tab_ent {β : Base} (h : TabOk β) (L : List Atom) : Ent L (pq β false 0 (bys tzT) :: L) := fun k s => by
  refine ⟨k, ⟨Hp.emp, k, ⟨rfl, h.1, ?_⟩, s, Hp.emp_disj _, (Hp.emp_add _).symm⟩, Hp.le_refl k⟩
  obtain ⟨t, fz, e⟩ := h.2
  exact ⟨t, fz, e⟩
def tzI (y : Nat) : Nat := (y &&& (2 ^ 64 - y)) * 285870213051353865 % 2 ^ 64 / 2 ^ 58
/-- The least number of a word. -/
def lowB (y : Nat) : Nat := tzT.getD (tzI y) 0
theorem getD_some {l : List Nat} {k : Nat} (h : k < l.length) : l[k]? = some (l.getD k 0) := by
  rw [List.getD_eq_getElem?_getD, List.getElem?_eq_getElem h, Option.getD_some]
theorem lowB_lt (y : Nat) : lowB y < 64 := by
  unfold lowB
  have h : ∀ x ∈ tzT, x < 64 := by decide
  rw [List.getD_eq_getElem?_getD]
  cases e : tzT[tzI y]? with
  | none => decide
  | some x => exact h x (List.mem_of_getElem? e)
theorem neg64 {y : Nat} (h0 : 0 < y) (hy : y < 2 ^ 64) : IntKind.u64.wrap (0 - (y : Int)) = ((2 ^ 64 - y : Nat) : Int) := by
  rw [wrap_u64]; have : (2 : Nat) ^ 64 = 18446744073709551616 := rfl; omega
theorem tzI_lt (y : Nat) : tzI y < 64 := by
  unfold tzI
  generalize (y &&& (2 ^ 64 - y)) * 285870213051353865 = z
  have h : z % 2 ^ 64 < 2 ^ 64 := Nat.mod_lt _ (by decide)
  have h2 : (2 : Nat) ^ 64 = 64 * 2 ^ 58 := by decide
  exact Nat.div_lt_of_lt_mul (by rw [Nat.mul_comm, ← h2]; exact h)
theorem tz_ix {y : Nat} (h0 : 0 < y) (hy : y < 2 ^ 64) : (IntKind.u64.wrap (IntKind.u64.wrap ((BitVec.ofInt IntKind.u64.bits (y : Int) &&& BitVec.ofInt IntKind.u64.bits (IntKind.u64.wrap (0 - (y : Int)))).toNat : Int) * 285870213051353865)).fdiv (2 ^ min 58 IntKind.u64.bits) = ((tzI y : Nat) : Int) := by
  rw [neg64 h0 hy, and64 hy (by omega), show (((y &&& (2 ^ 64 - y) : Nat) : Int) * 285870213051353865) = (((y &&& (2 ^ 64 - y)) * 285870213051353865 : Nat) : Int) by simp]
  rw [wrap_u64, show ((((y &&& (2 ^ 64 - y)) * 285870213051353865 : Nat) : Int) % 18446744073709551616) = (((y &&& (2 ^ 64 - y)) * 285870213051353865 % 2 ^ 64 : Nat) : Int) by simp]
  exact shr64 _ 58 (by omega)
set_option maxHeartbeats 4000000 in
theorem tz208 (β : Base) (hG : TabOk β) {y : Nat} (h0 : 0 < y) (hy : y < 2 ^ 64) : Tri Tryz.prog β 208 [.int .u64 y] [] (fun v L => v = .int .i64 (lowB y) ∧ L = []) := by
  refine Tri.intro tt_ok Tryz.func208 rfl rfl Tryz.ntmps208 rfl fun F => ?_
  refine G tt_ok pk208 ?_
  rw [show ((y : Int) == 0) = false by simp; omega]
  refine G tt_ok pk208 ?_
  rw [tz_ix h0 hy]
  have hr : tzT[tzI y]? = some (lowB y) := getD_some (show tzI y < tzT.length from tzI_lt y)
  have hlt := tzI_lt y
  have hl := lowB_lt y
  have hE := tab_ent hG
  generalize tzI y = n at hr hlt ⊢
  generalize lowB y = x at hr hl ⊢
  generalize tzT = Z at hr hE
  refine SQ.idx tt_ok rfl rfl n rfl hlt (o' := 0 + n * 1) rfl ?_
  refine SQ.ent _ (hE _) ?_
  (refine SQ.ldA tt_ok rfl rfl (by repeat (first | exact .h | exact .q | apply At.t)) (bys_at hr) ?_)
  refine G tt_ok pk208 ?_
  rw [wrap_id (x := ((x : Nat) : Int)) (by omega) (by omega)]
  exact CW.ret (fin_ret rfl pk_ ⟨rfl, rfl⟩)
/-- The numbers of a word, rising. -/
def bitsN (y : Nat) : List Nat := if h : y = 0 then [] else lowB y :: bitsN (y &&& (y - 1))
termination_by y
decreasing_by have := @Nat.and_le_right y (y - 1); omega
theorem bitsN_0 : bitsN 0 = [] := by rw [bitsN]; simp
theorem bitsN_s {y : Nat} (h : y ≠ 0) : bitsN y = lowB y :: bitsN (y &&& (y - 1)) := by rw [bitsN]; simp [h]
theorem bitsN_lt : ∀ (n y : Nat), y ≤ n → ∀ x ∈ bitsN y, x < 64
  | 0, y, h => by
    obtain rfl : y = 0 := by omega
    rw [bitsN_0]; simp
  | n + 1, y, h => by
    by_cases h0 : y = 0
    · subst h0; rw [bitsN_0]; simp
    · rw [bitsN_s h0]
      intro x hx
      rcases List.mem_cons.1 hx with rfl | hx
      · exact lowB_lt y
      · exact bitsN_lt n _ (by have := @Nat.and_le_right y (y - 1); omega) x hx
theorem and_pred {y : Nat} (h0 : y ≠ 0) (hy : y < 2 ^ 64) : IntKind.u64.wrap ((BitVec.ofInt IntKind.u64.bits (y : Int) &&& BitVec.ofInt IntKind.u64.bits (IntKind.u64.wrap ((y : Int) - 1))).toNat : Int) = ((y &&& (y - 1) : Nat) : Int) := by
  rw [show IntKind.u64.wrap ((y : Int) - 1) = ((y - 1 : Nat) : Int) by rw [wrap_u64]; have : (2 : Nat) ^ 64 = 18446744073709551616 := rfl; omega]
  exact and64 hy (by omega)
@[reducible] def pk207 : List (Nat × Plan) := []
@[reducible] def pk206 : List (Nat × Plan) := []
@[reducible] def pk138 : List (Nat × Plan) := []
@[reducible] def pk79 : List (Nat × Plan) := []
@[reducible] def iC1 (x : Int) : List Value := [.int .i64 x]
/-- The members of a set of words, from the word k on. -/
def memU : Nat → List Nat → List Int
  | _, [] => []
  | k, y :: r => (bitsN y).map (fun b => ((64 * k + b : Nat) : Int)) ++ memU (k + 1) r
set_option maxHeartbeats 8000000 in
theorem iter207 (β : Base) (hG : TabOk β) (b1 b2 : Nat) (q : Option Addr) (c : Nat) {U : List Nat} (hU : ∀ y ∈ U, y < 2 ^ 64) (hl : U.length ≤ 1000) :
    Iter Tryz.prog β 207 [.pointer (some ⟨b1, 0, none⟩), .pointer (some ⟨b2, 0, none⟩)] [pt b1 [.slice q U.length c], rowA q U.length (U.flatMap wC), pt b2 [.int .i64 0]] iC1 (memU 0 U) := by
  intro l J Jx hY
  refine Tri.intro tt_ok Tryz.func207 rfl rfl Tryz.ntmps207 rfl fun F => ?_
  refine G tt_ok pk207 ?_
  refine CW.loop (α := Nat × List Int) (fun x => x.1 ≤ U.length ∧ x.2 ++ memU x.1 (U.drop x.1) = memU 0 U) (fun x => [(9, .int .i64 x.1), (8, .int .i64 U.length), (7, .slice q U.length c), (0, .func (.yield l) #[] #[]), (1, .pointer (some ⟨b1, 0, none⟩)), (2, .pointer (some ⟨b2, 0, none⟩))])
    (fun x => [J x.2, pt b1 [.slice q U.length c], rowA q U.length (U.flatMap wC), pt b2 [.int .i64 0]]) (fun x => U.length - x.1) (0, []) ⟨by simp, rfl⟩ ⟨rfl, rfl, rfl, rfl, rfl, rfl, trivial⟩ pk_ ?_
  rintro ⟨k, pre⟩ ⟨hk, hE⟩
  simp only at hk hE ⊢
  refine G tt_ok pk207 ?_
  by_cases hlt : k < U.length
  · rw [decide_eq_true (show (k : Int) < (U.length : Int) by omega)]
    obtain ⟨y, hy⟩ : ∃ y, U[k]? = some y := ⟨_, List.getElem?_eq_getElem hlt⟩
    have hy64 := hU y (List.mem_of_getElem? hy)
    have hd : U.drop k = y :: U.drop (k + 1) := by
      rw [List.drop_eq_getElem_cons hlt]; congr 1; exact (List.getElem?_eq_some_iff.1 hy).2
    rw [hd] at hE
    refine G tt_ok pk207 ?_
    refine ir_ tt_ok rfl rfl (k) (rfl) rfl ?_ (hlt := hlt)
    refine G tt_ok pk207 ?_
    refine lr_ tt_ok rfl rfl (w_rdX hy) ?_
    refine G tt_ok pk207 ?_
    refine CW.loop (α := Nat × List Int) (fun x => x.1 < 2 ^ 64 ∧ x.2 ++ ((bitsN x.1).map (fun b => ((64 * k + b : Nat) : Int)) ++ memU (k + 1) (U.drop (k + 1))) = memU 0 U) (fun x => [(5, .int .u64 x.1), (4, .int .i64 k), (9, .int .i64 k), (8, .int .i64 U.length), (7, .slice q U.length c), (0, .func (.yield l) #[] #[]), (1, .pointer (some ⟨b1, 0, none⟩)), (2, .pointer (some ⟨b2, 0, none⟩))])
      (fun x => [J x.2, pt b1 [.slice q U.length c], rowA q U.length (U.flatMap wC), pt b2 [.int .i64 0]]) (fun x => x.1) (y, pre) ⟨hy64, hE⟩ ⟨rfl, rfl, rfl, rfl, rfl, rfl, rfl, rfl, trivial⟩ pk_ ?_
    rintro ⟨z, pr2⟩ ⟨hz, hE2⟩
    simp only at hz hE2 ⊢
    refine G tt_ok pk207 ?_
    by_cases h0 : z = 0
    · subst h0
      rw [bitsN_0, List.map_nil, List.nil_append] at hE2
      rw [show ((((0 : Nat) : Int)) != 0) = false from rfl]
      refine G tt_ok pk207 ?_
      refine CW.exit ?_
      refine G tt_ok pk207 ?_
      have hwr : IntKind.i64.wrap ((k : Int) + 1) = ((k + 1 : Nat) : Int) := by rw [wrap_id (by omega) (by omega)]; simp
      exact ⟨(k + 1, pr2), ⟨by simp; omega, hE2⟩, by simp; omega, ⟨by rw [← hwr]; rfl, rfl, rfl, rfl, rfl, rfl, trivial⟩, pk_⟩
    · rw [show ((z : Int) != 0) = true by simp; omega]
      refine G tt_ok pk207 ?_
      have w64 : IntKind.i64.wrap (64 * (k : Int)) = ((64 * k : Nat) : Int) := by rw [wrap_id (by omega) (by omega)]; simp
      rw [w64]
      refine ke rfl rfl (tz208 β hG (y := z) (by omega) hz) ?_
      refine G tt_ok pk207 ?_
      have hb := lowB_lt z
      rw [show IntKind.i64.wrap (((64 * k : Nat) : Int) + ((lowB z : Nat) : Int)) = ((64 * k + lowB z : Nat) : Int) by rw [wrap_id (by omega) (by omega)]; omega]
      rw [and_pred h0 hz]
      rw [bitsN_s h0, List.map_cons] at hE2
      have hand := @Nat.and_le_right z (z - 1)
      refine G tt_ok pk207 ?_
      rw [decide_eq_true (show ((64 * k + lowB z : Nat) : Int) ≥ 0 by omega)]
      refine G tt_ok pk207 ?_
      have hpre : (pr2 ++ [((64 * k + lowB z : Nat) : Int)]) <+: memU 0 U := ⟨(bitsN (z &&& (z - 1))).map (fun b => ((64 * k + b : Nat) : Int)) ++ memU (k + 1) (U.drop (k + 1)), by rw [← hE2]; simp⟩
      (refine SQ.yieldA rfl rfl (hY pr2 _ hpre) (by repeat (first | exact .n | exact Rm.h | exact Rm.of own_row | exact Rm.of row_close0 | apply Tk.c | apply Rm.t)) ?_; rintro _ _ (⟨rfl, rfl⟩ | ⟨rfl, rfl⟩) <;> refine w_ ?_)
      · refine G tt_ok pk207 ?_
        exact ⟨(z &&& (z - 1), pr2 ++ [((64 * k + lowB z : Nat) : Int)]), ⟨by simp only; omega, by rw [← hE2]; simp⟩, by simp only; omega, ⟨rfl, rfl, rfl, rfl, rfl, rfl, rfl, rfl, trivial⟩, pk_⟩
      · refine G tt_ok pk207 ?_
        exact CW.ret (fin_ret (vs := []) rfl (A := [Jx (pr2 ++ [((64 * k + lowB z : Nat) : Int)]), pt b1 [.slice q U.length c], rowA q U.length (U.flatMap wC), pt b2 [.int .i64 0]]) pk_ (.inr ⟨pr2 ++ [((64 * k + lowB z : Nat) : Int)], rfl⟩))
  · rw [decide_eq_false (show ¬ (k : Int) < (U.length : Int) by omega)]
    refine G tt_ok pk207 ?_
    refine CW.exit ?_
    refine G tt_ok pk207 ?_
    have hE3 : pre = memU 0 U := by rw [← hE, List.drop_eq_nil_of_le (by omega)]; simp [memU]
    exact fin_normal (vs := []) rfl (A := [J pre, pt b1 [.slice q U.length c], rowA q U.length (U.flatMap wC), pt b2 [.int .i64 0]]) pk_ (.inl (by rw [hE3]))
theorem wC_one (a : Nat) : scal (wC a) = true := rfl
set_option maxHeartbeats 4000000 in
theorem clone206 (β : Base) (q : Option Addr) (c : Nat) {W : Option Nat} :
    Tri Tryz.prog β 206 [.slice q (wlen W) c] [rowO q c W] (fun v L => ∃ q1 c1, v = .slice q1 (wds W).length c1 ∧ L = [rowO q c W, rowA q1 (wds W).length ((wds W).flatMap wC)]) := by
  refine Tri.intro tt_ok Tryz.func206 rfl rfl Tryz.ntmps206 rfl fun F => ?_
  match W with
  | none =>
    rw [show wlen none = 0 by rw [wlen]]
    unfold rowO
    simp only
    refine CW.ent own_q (CW.pure_ fun hq => ?_)
    rcases hq with rfl | ⟨g, rfl⟩
    · refine G tt_ok pk206 ?_
      exact CW.ret (fin_ret rfl (A := [own 44 1 (.slice none 0 c) 0 [], rowA none 0 []]) (Ent.trans row_nil (Ent.perm (List.Perm.swap _ _ _))) ⟨none, 0, rfl, rfl⟩)
    · refine G tt_ok pk206 ?_
      refine SQ.builtO tt_ok rfl rfl rfl rfl (fun b => ⟨(by repeat (first | exact trivial | refine ⟨trivial, ?_⟩ | refine ⟨wk (by repeat (first | exact .h | exact .q | apply At.t)) (by rfl), ?_⟩)), ?_⟩)
      refine G tt_ok pk206 ?_
      refine SQ.appG tt_ok rfl rfl 0 rfl (A := own 44 1 (.slice (some ⟨g, 0, none⟩) 0 c) 0 []) (news := []) (sz := 1) slr_own (.t .h) rfl rfl rfl (by simp) (by decide) (by show (0 + 0) * 8 ≤ _; omega) (fun v' => ⟨(by repeat (first | exact trivial | refine ⟨trivial, ?_⟩ | refine ⟨wk (by repeat (first | exact .h | exact .q | apply At.t)) (by rfl), ?_⟩)), ?_⟩)
      refine SQ.ent _ (Ent.head (own_shape _ _ _ _ _)) ?_
      refine SQ.open_ fun x => ?_
      refine SQ.pure_ fun hv => ?_
      subst hv
      refine G tt_ok pk206 ?_
      exact CW.ret (fin_ret rfl (A := [own 44 1 (.slice (some ⟨g, 0, none⟩) 0 c) 0 [], rowA x.1 0 []]) (Ent.trans (Ent.head (L := [own 44 1 (.slice (some ⟨g, 0, none⟩) 0 c) 0 []]) own_row) (Ent.perm (List.Perm.swap _ _ _))) ⟨x.1, x.2, rfl, rfl⟩)
  | some y =>
    have hwl : wlen (some y) = 129 := by rw [wlen]
    rw [wds_len]
    unfold rowO
    simp only
    rw [hwl]
    refine CW.ent row_q (CW.pure_ fun hq => ?_)
    rcases hq with ⟨_, h⟩ | ⟨g, rfl⟩
    · exact absurd h (by simp)
    refine G tt_ok pk206 ?_
    refine SQ.builtO tt_ok rfl rfl rfl rfl (fun b => ⟨(by repeat (first | exact trivial | refine ⟨trivial, ?_⟩ | refine ⟨wk (by repeat (first | exact .h | exact .q | apply At.t)) (by rfl), ?_⟩)), ?_⟩)
    refine G tt_ok pk206 ?_
    refine SQ.appG tt_ok rfl rfl 0 rfl (A := rowA (some ⟨g, 0, none⟩) 129 ((wds (some y)).flatMap wC)) (news := (wds (some y)).flatMap wC) (sz := 1) (slr_row (by rw [flatE_len (sz := 1) (fun _ => rfl), wds_len])) (.t .h) rfl (by rw [flatE_len (sz := 1) (fun _ => rfl), wds_len]; rfl) rfl (one_flat wC_one _) (by omega) (by show (0 + 129) * 8 ≤ _; omega) (fun v' => ⟨(by repeat (first | exact trivial | refine ⟨trivial, ?_⟩ | refine ⟨wk (by repeat (first | exact .h | exact .q | apply At.t)) (by rfl), ?_⟩)), ?_⟩)
    refine SQ.ent _ (Ent.head (own_shape _ _ _ _ _)) ?_
    refine SQ.open_ fun x => ?_
    refine SQ.pure_ fun hv => ?_
    subst hv
    refine G tt_ok pk206 ?_
    exact CW.ret (fin_ret rfl (A := [rowA (some ⟨g, 0, none⟩) 129 ((wds (some y)).flatMap wC), rowA x.1 129 ((wds (some y)).flatMap wC)]) (Ent.trans (Ent.head (L := [rowA (some ⟨g, 0, none⟩) 129 ((wds (some y)).flatMap wC)]) own_row) (Ent.perm (List.Perm.swap _ _ _))) ⟨x.1, x.2, rfl, rfl⟩)
set_option maxHeartbeats 4000000 in
theorem all79 (β : Base) (S : Nat) (q : Option Addr) (c : Nat) {W : Option Nat} :
    Tri Tryz.prog β 79 [.pointer (some ⟨S, 0, none⟩)] (setL S q c W) (fun v L => ∃ b1 b2 q1 c1, v = .func (.func 207) #[] #[.pointer (some ⟨b1, 0, none⟩), .pointer (some ⟨b2, 0, none⟩)] ∧
      L = [pt b1 [.slice q1 (wds W).length c1], rowA q1 (wds W).length ((wds W).flatMap wC), pt b2 [.int .i64 0]] ++ setL S q c W) := by
  have h159 : Tri Tryz.prog β 138 [.pointer (some ⟨S, 0, none⟩), .int .i64 0] (setL S q c W) (fun v L => ∃ b1 b2 q1 c1, v = .func (.func 207) #[] #[.pointer (some ⟨b1, 0, none⟩), .pointer (some ⟨b2, 0, none⟩)] ∧
      L = [pt b1 [.slice q1 (wds W).length c1], rowA q1 (wds W).length ((wds W).flatMap wC), pt b2 [.int .i64 0]] ++ setL S q c W) := by
    refine Tri.intro tt_ok Tryz.func138 rfl rfl Tryz.ntmps138 rfl fun F => ?_
    unfold setL
    (refine G tt_ok pk138 ?_; repeat (refine G1 tt_ok pk138 ?_; intro _))
    rename_i b2
    (refine ka rfl rfl (clone206 β q c) ?_; rintro _ _ ⟨q1, c1, rfl, rfl⟩; refine w_ ?_)
    (refine G tt_ok pk138 ?_; repeat (refine G1 tt_ok pk138 ?_; intro _))
    rename_i b1
    exact CW.ret (fin_ret rfl (A := [pt b1 [.slice q1 (wds W).length c1], rowA q1 (wds W).length ((wds W).flatMap wC), pt b2 [.int .i64 0]] ++ [pt S [.slice q (wlen W) c], rowO q c W]) pk_ ⟨b1, b2, q1, c1, rfl, rfl⟩)
  refine Tri.intro tt_ok Tryz.func79 rfl rfl Tryz.ntmps79 rfl fun F => ?_
  (refine G tt_ok pk79 ?_; repeat (refine G1 tt_ok pk79 ?_; intro _))
  (refine ka rfl rfl (h159) ?_; rintro _ _ ⟨b1, b2, q1, c1, rfl, rfl⟩; refine w_ ?_)
  (refine G tt_ok pk79 ?_; repeat (refine G1 tt_ok pk79 ?_; intro _))
  exact CW.ret (fin_ret rfl (A := [pt b1 [.slice q1 (wds W).length c1], rowA q1 (wds W).length ((wds W).flatMap wC), pt b2 [.int .i64 0]] ++ setL S q c W) pk_ ⟨b1, b2, q1, c1, rfl, rfl⟩)
/-- The messages' interrupts of a set, rising. -/
def memS (W : Option Nat) : List Int := memU 0 (wds W)
end Go.Proofs.YtebpodnbalfomaaGreatDoor.Sl
namespace Go.Proofs.YtebpodnbalfomaaGreatDoor.Sl
open Go Go.RowKit Go.Proofs
set_option linter.unusedVariables false
set_option linter.unusedSimpArgs false
theorem odd_part : ∀ (n y : Nat), y ≤ n → 0 < y → ∃ t m, y = 2 ^ t * (2 * m + 1)
  | 0, y, h, h0 => by omega
  | n + 1, y, h, h0 => by
    by_cases ho : y % 2 = 1
    · exact ⟨0, y / 2, by simp; omega⟩
    · obtain ⟨t, m, e⟩ := odd_part n (y / 2) (by omega) (by omega)
      refine ⟨t + 1, m, ?_⟩
      rw [Nat.pow_succ, Nat.mul_assoc, Nat.mul_comm 2, ← Nat.mul_assoc, ← e]; omega
theorem tz_tab : ∀ t : Nat, t < 64 → tzT.getD (2 ^ t * 285870213051353865 % 2 ^ 64 / 2 ^ 58) 0 = t := by decide +kernel
theorem bit_y {t m i : Nat} : (2 ^ t * (2 * m + 1)).testBit i = if i < t then false else (2 * m + 1).testBit (i - t) := by
  have := Nat.testBit_two_pow_mul_add (2 * m + 1) (b := 0) (i := t) (Nat.two_pow_pos t) i
  rw [Nat.add_zero] at this
  rw [this]; simp
theorem bit_y1 {t m i : Nat} : (2 ^ t * (2 * m + 1) - 1).testBit i = if i < t then true else (2 * m).testBit (i - t) := by
  have e : 2 ^ t * (2 * m + 1) - 1 = 2 ^ t * (2 * m) + (2 ^ t - 1) := by
    have := Nat.two_pow_pos t
    rw [Nat.mul_add, Nat.mul_one]; omega
  rw [e, Nat.testBit_two_pow_mul_add (2 * m) (by have := Nat.two_pow_pos t; omega) i, Nat.testBit_two_pow_sub_one]
  split <;> simp_all
theorem odd_bit (m j : Nat) : (2 * m + 1).testBit j = if j = 0 then true else (2 * m).testBit j := by
  cases j with
  | zero => simp [Nat.testBit_zero]
  | succ j => simp [Nat.testBit_succ]; congr 1; omega
/-- A word's least bit, and the rest of it. -/
theorem low_spec {y : Nat} (h0 : y ≠ 0) (hy : y < 2 ^ 64) : y.testBit (lowB y) = true ∧ (∀ i, i < lowB y → y.testBit i = false) ∧ ∀ i, (y &&& (y - 1)).testBit i = (y.testBit i && !decide (i = lowB y)) := by
  obtain ⟨t, m, e⟩ := odd_part y y (Nat.le_refl _) (by omega)
  have hb : ∀ i, y.testBit i = if i < t then false else if i = t then true else (2 * m).testBit (i - t) := fun i => by
    rw [e, bit_y]
    split
    · rfl
    · rw [odd_bit]
      by_cases h : i = t
      · subst h; simp
      · rw [if_neg (by omega), if_neg h]
  have h1 : ∀ i, (y - 1).testBit i = if i < t then true else if i = t then false else (2 * m).testBit (i - t) := fun i => by
    rw [e, bit_y1]
    split
    · rfl
    · by_cases h : i = t
      · subst h; simp
      · rw [if_neg h]
  have ht : t < 64 := by
    apply Decidable.byContradiction; intro hn
    have : 2 ^ 64 ≤ 2 ^ t := Nat.pow_le_pow_right (by omega) (by omega)
    have h2 : 2 ^ t ≤ y := by rw [e]; exact Nat.le_mul_of_pos_right _ (by omega)
    omega
  have hlow : y &&& (2 ^ 64 - y) = 2 ^ t := by
    apply Nat.eq_of_testBit_eq
    intro i
    rw [Nat.testBit_and, show 2 ^ 64 - y = 2 ^ 64 - ((y - 1) + 1) by omega, Nat.testBit_two_pow_sub_succ (by omega), h1, hb, Nat.testBit_two_pow]
    by_cases c1 : i < t
    · simp [c1]; omega
    · by_cases c2 : i = t
      · subst c2; simp [ht]
      · rw [if_neg c1, if_neg c2, if_neg c1, if_neg c2]
        rw [show decide (t = i) = false by simp; omega]
        cases (2 * m).testBit (i - t) <;> simp
  have hB : lowB y = t := by
    unfold lowB tzI
    rw [hlow]
    exact tz_tab t ht
  rw [hB]
  refine ⟨by rw [hb]; simp, fun i hi => by rw [hb, if_pos hi], fun i => ?_⟩
  rw [Nat.testBit_and, hb, h1]
  by_cases c1 : i < t
  · simp [c1]
  · by_cases c2 : i = t
    · subst c2; simp
    · simp [c1, c2]
theorem bitsN_spec : ∀ (n y : Nat), y ≤ n → y < 2 ^ 64 → (∀ x, x ∈ bitsN y ↔ y.testBit x = true) ∧ (bitsN y).Pairwise (· < ·)
  | 0, y, h, _ => by
    obtain rfl : y = 0 := by omega
    rw [bitsN_0]; simp
  | n + 1, y, h, hy => by
    by_cases h0 : y = 0
    · subst h0; rw [bitsN_0]; simp
    · rw [bitsN_s h0]
      obtain ⟨hl, hm, hr⟩ := low_spec h0 hy
      have hle := @Nat.and_le_right y (y - 1)
      obtain ⟨ih1, ih2⟩ := bitsN_spec n (y &&& (y - 1)) (by omega) (by omega)
      refine ⟨fun x => ?_, ?_⟩
      · rw [List.mem_cons, ih1, hr]
        by_cases hx : x = lowB y
        · subst hx; simp [hl]
        · simp [hx]
      · rw [List.pairwise_cons]
        refine ⟨fun x hx => ?_, ih2⟩
        rw [ih1, hr] at hx
        simp only [Bool.and_eq_true, Bool.not_eq_true', decide_eq_false_iff_not] at hx
        apply Decidable.byContradiction; intro hn
        have := hm x (by omega)
        rw [this] at hx
        exact absurd hx.1 (by simp)
theorem bitsN_mem {y x : Nat} (hy : y < 2 ^ 64) : x ∈ bitsN y ↔ y.testBit x = true := (bitsN_spec y y (Nat.le_refl _) hy).1 x
theorem bitsN_inc {y : Nat} (hy : y < 2 ^ 64) : (bitsN y).Pairwise (· < ·) := (bitsN_spec y y (Nat.le_refl _) hy).2
theorem memU_zeros : ∀ (n k : Nat) (r : List Nat), memU k (List.replicate n 0 ++ r) = memU (k + n) r
  | 0, k, r => rfl
  | n + 1, k, r => by
    rw [List.replicate_succ]
    show (bitsN 0).map _ ++ memU (k + 1) (List.replicate n 0 ++ r) = _
    rw [bitsN_0, memU_zeros n (k + 1) r, show k + 1 + n = k + (n + 1) by omega]; rfl
theorem memS_some (y : Nat) : memS (some y) = (bitsN y).map (fun b => ((8192 + b : Nat) : Int)) := by
  unfold memS wds
  rw [memU_zeros]
  simp [memU]
theorem memS_none : memS none = [] := rfl
theorem memS_mem {W : Option Nat} (hW : setOk W) {x : Int} : x ∈ memS W ↔ ∃ j : Nat, j < 64 ∧ x = ((8192 + j : Nat) : Int) ∧ hasS W j = true := by
  match W, hW with
  | none, _ => simp [memS_none, hasS]
  | some y, hW =>
    have hy := hW y rfl
    rw [memS_some, List.mem_map]
    constructor
    · rintro ⟨b, hb, rfl⟩
      exact ⟨b, bitsN_lt y y (Nat.le_refl _) b hb, rfl, (bitsN_mem hy).1 hb⟩
    · rintro ⟨j, _, rfl, h⟩
      exact ⟨j, (bitsN_mem hy).2 h, rfl⟩
theorem memS_inc {W : Option Nat} (hW : setOk W) : (memS W).Pairwise (· < ·) := by
  match W, hW with
  | none, _ => rw [memS_none]; exact List.Pairwise.nil
  | some y, hW =>
    rw [memS_some, List.pairwise_map]
    exact (bitsN_inc (hW y rfl)).imp (by omega)
theorem inc_len : ∀ {l : List Nat} {lo n : Nat}, l.Pairwise (· < ·) → (∀ x ∈ l, lo ≤ x ∧ x < n) → l.length ≤ n - lo
  | [], _, _, _, _ => by simp
  | a :: l, lo, n, h, hn => by
    rw [List.pairwise_cons] at h
    have ha := hn a (by simp)
    have := inc_len (l := l) (lo := a + 1) (n := n) h.2 fun x hx => ⟨h.1 x hx, (hn x (List.mem_cons_of_mem _ hx)).2⟩
    rw [List.length_cons]; omega
theorem memS_len {W : Option Nat} (hW : setOk W) : (memS W).length ≤ 64 := by
  match W, hW with
  | none, _ => rw [memS_none]; simp
  | some y, hW =>
    rw [memS_some, List.length_map]
    exact inc_len (lo := 0) (n := 64) (bitsN_inc (hW y rfl)) fun x hx => ⟨by omega, bitsN_lt y y (Nat.le_refl _) x hx⟩
theorem wds_lt {W : Option Nat} (hW : setOk W) : ∀ y ∈ wds W, y < 2 ^ 64 := by
  match W, hW with
  | none, _ => simp [wds]
  | some y, hW =>
    intro z hz
    unfold wds at hz
    rw [List.mem_append] at hz
    rcases hz with h | h
    · have := List.eq_of_mem_replicate h
      subst this; decide
    · simp only [List.mem_singleton] at h
      subst h; exact hW z rfl
theorem wds_len_le (W : Option Nat) : (wds W).length ≤ 1000 := by
  match W with
  | none => simp [wds]
  | some y => rw [wds_len]; omega
theorem iterW (β : Base) (hG : TabOk β) (b1 b2 : Nat) (q : Option Addr) (c : Nat) {W : Option Nat} (hW : setOk W) :
    Iter Tryz.prog β 207 [.pointer (some ⟨b1, 0, none⟩), .pointer (some ⟨b2, 0, none⟩)] [pt b1 [.slice q (wds W).length c], rowA q (wds W).length ((wds W).flatMap wC), pt b2 [.int .i64 0]] iC1 (memS W) :=
  iter207 β hG b1 b2 q c (wds_lt hW) (wds_len_le W)
end Go.Proofs.YtebpodnbalfomaaGreatDoor.Sl
namespace Go.Proofs.YtebpodnbalfomaaGreatDoor.Sl
open Go Go.RowKit Go.Proofs
set_option linter.unusedVariables false
set_option linter.unusedSimpArgs false
attribute [local irreducible] CW Tri OW
set_option maxRecDepth 10000
@[reducible] def pk48 : List (Nat × Plan) := []
@[reducible] def pk74 : List (Nat × Plan) := []
@[reducible] def pk75 : List (Nat × Plan) := []
@[reducible] def pk136 : List (Nat × Plan) := []
/-- Two numbers, bit by bit. -/
def andI (a b : Int) : Int := IntKind.i64.wrap ((BitVec.ofInt IntKind.i64.bits a &&& BitVec.ofInt IntKind.i64.bits b).toNat : Int)
theorem ofInt_nat (n : Nat) (h : n < 2 ^ 64) : (BitVec.ofInt 64 (n : Int)).toNat = n := by
  rw [BitVec.toNat_ofInt]
  have : ((2 : Int) ^ 64) = ((2 ^ 64 : Nat) : Int) := by norm_cast
  rw [show ((2 ^ 64 : Nat) : Int) = (18446744073709551616 : Int) from rfl]
  omega
theorem andI_nat {a b : Nat} (ha : a < 2 ^ 63) (hb : b < 2 ^ 63) : andI a b = ((a &&& b : Nat) : Int) := by
  unfold andI
  show IntKind.i64.wrap (((BitVec.ofInt 64 (a : Int) &&& BitVec.ofInt 64 (b : Int)).toNat : Nat) : Int) = _
  rw [BitVec.toNat_and, ofInt_nat a (by omega), ofInt_nat b (by omega)]
  have h := Nat.and_lt_two_pow a hb
  exact wrap_id (by omega) (by omega)
theorem real48 (β : Base) (p : Int) : Tri Tryz.prog β 48 [.int .i64 p] [] (fun v L => v = .int .i64 (andI p 248) ∧ L = []) := by
  refine Tri.intro tt_ok Tryz.func48 rfl rfl Tryz.ntmps48 rfl fun F => ?_
  refine G tt_ok pk48 ?_
  exact CW.ret (fin_ret rfl (Ent.refl _) ⟨rfl, rfl⟩)
theorem passes74 (β : Base) (p m : Int) : Tri Tryz.prog β 74 [.int .i64 p, .int .i64 m] [] (fun v L => v = .bool (decide (p < m)) ∧ L = []) := by
  refine Tri.intro tt_ok Tryz.func74 rfl rfl Tryz.ntmps74 rfl fun F => ?_
  refine G tt_ok pk74 ?_
  exact CW.ret (fin_ret rfl (Ent.refl _) ⟨rfl, rfl⟩)
theorem preempts75 (β : Base) (p r m : Int) : Tri Tryz.prog β 75 [.int .i64 p, .int .i64 r, .int .i64 m] [] (fun v L => v = .bool (decide (andI p m < r)) ∧ L = []) := by
  refine Tri.intro tt_ok Tryz.func75 rfl rfl Tryz.ntmps75 rfl fun F => ?_
  refine G tt_ok pk75 ?_
  exact CW.ret (fin_ret rfl (Ent.refl _) ⟨rfl, rfl⟩)
/-- Which bits of a priority a binary point leaves to the group. -/
def maskN (g p : Nat) : Nat := if g = 0 then (if p = 7 then 0 else 256 - 2 ^ (p + 1)) else 256 - 2 ^ (if p = 0 then 1 else p)
theorem mask136 (β : Base) {g p : Nat} (hg : g ≤ 1) (hp : p ≤ 7) : Tri Tryz.prog β 136 [.int .i64 g, .int .i64 p] [] (fun v L => v = .int .i64 (maskN g p) ∧ L = []) := by
  refine Tri.intro tt_ok Tryz.func136 rfl rfl Tryz.ntmps136 rfl fun F => ?_
  have h1 : g = 0 ∨ g = 1 := by omega
  have h2 : p = 0 ∨ p = 1 ∨ p = 2 ∨ p = 3 ∨ p = 4 ∨ p = 5 ∨ p = 6 ∨ p = 7 := by omega
  rcases h1 with rfl | rfl <;> rcases h2 with rfl | rfl | rfl | rfl | rfl | rfl | rfl | rfl <;> (
    refine G tt_ok pk136 ?_
    exact CW.ret (fin_ret rfl (Ent.refl _) ⟨rfl, rfl⟩))
/-- What runs, the highest first. -/
def lad1 (b0 b1 k : Nat) : List (Int × Int) := (if b0 / 2 ^ k % 2 = 1 then [(((8 * k : Nat) : Int), 0)] else []) ++ (if b1 / 2 ^ k % 2 = 1 then [(((8 * k : Nat) : Int), 1)] else [])
def ladN (b0 b1 : Nat) : Nat → List (Int × Int)
  | 0 => []
  | n + 1 => lad1 b0 b1 (32 - (n + 1)) ++ ladN b0 b1 n
def laddL (b0 b1 : Nat) : List (Int × Int) := ladN b0 b1 32
@[reducible] def ppC (x : Int × Int) : List Value := [.int .i64 x.1, .int .i64 x.2]
def ldC (b0 b1 : Nat) : List Value := [.int .u32 b0, .int .u32 b1]
@[reducible] def pk205 : List (Nat × Plan) := []
theorem ladN_succ (b0 b1 k : Nat) (h : k < 32) : ladN b0 b1 (32 - k) = lad1 b0 b1 k ++ ladN b0 b1 (32 - (k + 1)) := by
  rw [show 32 - k = (32 - (k + 1)) + 1 by omega]
  show lad1 b0 b1 (32 - (32 - (k + 1) + 1)) ++ _ = _
  rw [show 32 - (32 - (k + 1) + 1) = k by omega]
/-- What is left of a place, from a group on. -/
def ladR (b0 b1 k g : Nat) : List (Int × Int) := match g with
  | 0 => lad1 b0 b1 k
  | 1 => if b1 / 2 ^ k % 2 = 1 then [(((8 * k : Nat) : Int), 1)] else []
  | _ => []
theorem div_lt32 {b k : Nat} (h : b < 2 ^ 32) : b / 2 ^ k < 2 ^ 32 := Nat.lt_of_le_of_lt (Nat.div_le_self _ _) h
set_option maxHeartbeats 8000000 in
theorem iter205 (β : Base) (b : Nat) {b0 b1 : Nat} (h0 : b0 < 2 ^ 32) (h1 : b1 < 2 ^ 32) :
    Iter Tryz.prog β 205 [.pointer (some ⟨b, 0, none⟩)] [pt b (ldC b0 b1)] ppC (laddL b0 b1) := by
  intro l J Jx hY
  unfold ldC at hY ⊢
  refine Tri.intro tt_ok Tryz.func205 rfl rfl Tryz.ntmps205 rfl fun F => ?_
  refine G tt_ok pk205 ?_
  refine CW.loop (α := Nat × List (Int × Int)) (fun x => x.1 ≤ 32 ∧ x.2 ++ ladN b0 b1 (32 - x.1) = laddL b0 b1) (fun x => [(5, .int .i64 x.1), (0, .func (.yield l) #[] #[]), (1, .pointer (some ⟨b, 0, none⟩))])
    (fun x => [J x.2, pt b [.int .u32 b0, .int .u32 b1]]) (fun x => 32 - x.1) (0, []) ⟨by simp, rfl⟩ ⟨rfl, rfl, rfl, trivial⟩ pk_ ?_
  rintro ⟨k, pre⟩ ⟨hk, hE⟩
  simp only at hk hE ⊢
  refine G tt_ok pk205 ?_
  by_cases hlt : k < 32
  · rw [decide_eq_true (show (k : Int) < 32 by omega)]
    rw [ladN_succ b0 b1 k hlt] at hE
    have w8 : IntKind.i64.wrap (8 * (k : Int)) = ((8 * k : Nat) : Int) := by rw [wrap_id (by omega) (by omega)]; simp
    refine G tt_ok pk205 ?_
    refine CW.loop (α := Nat × List (Int × Int)) (fun x => x.1 ≤ 2 ∧ x.2 ++ (ladR b0 b1 k x.1 ++ ladN b0 b1 (32 - (k + 1))) = laddL b0 b1) (fun x => [(8, .int .i64 x.1), (3, .int .i64 k), (5, .int .i64 k), (0, .func (.yield l) #[] #[]), (1, .pointer (some ⟨b, 0, none⟩))])
      (fun x => [J x.2, pt b [.int .u32 b0, .int .u32 b1]]) (fun x => 2 - x.1) (0, pre) ⟨by simp, hE⟩ ⟨rfl, rfl, rfl, rfl, rfl, trivial⟩ pk_ ?_
    rintro ⟨g, pr2⟩ ⟨hg, hE2⟩
    simp only at hg hE2 ⊢
    have hcase : g = 0 ∨ g = 1 ∨ g = 2 := by omega
    rcases hcase with rfl | rfl | rfl
    · rw [show ((0 : Nat) : Int) = 0 from rfl]
      refine G tt_ok pk205 ?_
      refine SQ.idx tt_ok rfl rfl 0 rfl (by decide) (o' := 0) rfl ?_
      refine G tt_ok pk205 ?_
      rw [shr32 b0 k (by omega), and1_32 (div_lt32 h0), beq1]
      have hR : ladR b0 b1 k 0 = (if b0 / 2 ^ k % 2 = 1 then [(((8 * k : Nat) : Int), 0)] else []) ++ ladR b0 b1 k 1 := rfl
      rw [hR] at hE2
      by_cases hb : b0 / 2 ^ k % 2 = 1
      · rw [if_pos hb] at hE2
        rw [hb]
        refine G tt_ok pk205 ?_
        rw [w8]
        have hpre : (pr2 ++ [(((8 * k : Nat) : Int), 0)]) <+: laddL b0 b1 := ⟨ladR b0 b1 k 1 ++ ladN b0 b1 (32 - (k + 1)), by rw [← hE2]; simp⟩
        (refine SQ.yieldA rfl rfl (hY pr2 _ hpre) (by repeat (first | exact .n | exact Rm.h | exact Rm.of own_row | exact Rm.of row_close0 | apply Tk.c | apply Rm.t)) ?_; rintro _ _ (⟨rfl, rfl⟩ | ⟨rfl, rfl⟩) <;> refine w_ ?_)
        · refine G tt_ok pk205 ?_
          exact ⟨(1, pr2 ++ [(((8 * k : Nat) : Int), 0)]), ⟨by simp, by rw [← hE2]; simp⟩, by simp, ⟨rfl, rfl, rfl, rfl, rfl, trivial⟩, pk_⟩
        · refine G tt_ok pk205 ?_
          exact CW.ret (fin_ret (vs := []) rfl (A := [Jx (pr2 ++ [(((8 * k : Nat) : Int), 0)]), pt b [.int .u32 b0, .int .u32 b1]]) pk_ (.inr ⟨_, rfl⟩))
      · rw [if_neg hb, List.nil_append] at hE2
        rw [show (b0 / 2 ^ k % 2 == 1) = false by simpa using hb]
        refine G tt_ok pk205 ?_
        exact ⟨(1, pr2), ⟨by simp, hE2⟩, by simp, ⟨rfl, rfl, rfl, rfl, rfl, trivial⟩, pk_⟩
    · rw [show ((1 : Nat) : Int) = 1 from rfl]
      refine G tt_ok pk205 ?_
      refine SQ.idx tt_ok rfl rfl 1 rfl (by decide) (o' := 1) rfl ?_
      refine G tt_ok pk205 ?_
      rw [shr32 b1 k (by omega), and1_32 (div_lt32 h1), beq1]
      have hR : ladR b0 b1 k 1 = (if b1 / 2 ^ k % 2 = 1 then [(((8 * k : Nat) : Int), 1)] else []) := rfl
      rw [hR] at hE2
      by_cases hb : b1 / 2 ^ k % 2 = 1
      · rw [if_pos hb] at hE2
        rw [hb]
        refine G tt_ok pk205 ?_
        rw [w8]
        have hpre : (pr2 ++ [(((8 * k : Nat) : Int), 1)]) <+: laddL b0 b1 := ⟨ladN b0 b1 (32 - (k + 1)), by rw [← hE2]; simp⟩
        (refine SQ.yieldA rfl rfl (hY pr2 _ hpre) (by repeat (first | exact .n | exact Rm.h | exact Rm.of own_row | exact Rm.of row_close0 | apply Tk.c | apply Rm.t)) ?_; rintro _ _ (⟨rfl, rfl⟩ | ⟨rfl, rfl⟩) <;> refine w_ ?_)
        · refine G tt_ok pk205 ?_
          exact ⟨(2, pr2 ++ [(((8 * k : Nat) : Int), 1)]), ⟨by simp, by rw [← hE2]; simp [ladR]⟩, by simp, ⟨rfl, rfl, rfl, rfl, rfl, trivial⟩, pk_⟩
        · refine G tt_ok pk205 ?_
          exact CW.ret (fin_ret (vs := []) rfl (A := [Jx (pr2 ++ [(((8 * k : Nat) : Int), 1)]), pt b [.int .u32 b0, .int .u32 b1]]) pk_ (.inr ⟨_, rfl⟩))
      · rw [if_neg hb, List.nil_append] at hE2
        rw [show (b1 / 2 ^ k % 2 == 1) = false by simpa using hb]
        refine G tt_ok pk205 ?_
        exact ⟨(2, pr2), ⟨by simp, by simpa [ladR] using hE2⟩, by simp, ⟨rfl, rfl, rfl, rfl, rfl, trivial⟩, pk_⟩
    · rw [show ((2 : Nat) : Int) = 2 from rfl]
      refine G tt_ok pk205 ?_
      refine CW.exit ?_
      refine G tt_ok pk205 ?_
      have hwr : IntKind.i64.wrap ((k : Int) + 1) = ((k + 1 : Nat) : Int) := by rw [wrap_id (by omega) (by omega)]; simp
      exact ⟨(k + 1, pr2), ⟨by simp; omega, by simpa [ladR] using hE2⟩, by simp; omega, ⟨by rw [← hwr]; rfl, rfl, rfl, trivial⟩, pk_⟩
  · rw [decide_eq_false (show ¬ (k : Int) < 32 by omega)]
    refine G tt_ok pk205 ?_
    refine CW.exit ?_
    refine G tt_ok pk205 ?_
    obtain rfl : k = 32 := by omega
    have hE3 : pre = laddL b0 b1 := by simpa [ladN] using hE
    exact fin_normal (vs := []) rfl (A := [J pre, pt b [.int .u32 b0, .int .u32 b1]]) pk_ (.inl (by rw [hE3]))
@[reducible] def pk137 : List (Nat × Plan) := []
@[reducible] def pk77 : List (Nat × Plan) := []
theorem ladAll137 (β : Base) (b0 b1 : Nat) : Tri Tryz.prog β 137 [.agg #[.int .u32 b0, .int .u32 b1]] [] (fun v L => ∃ b, v = .func (.func 205) #[] #[.pointer (some ⟨b, 0, none⟩)] ∧ L = [pt b (ldC b0 b1)]) := by
  refine Tri.intro tt_ok Tryz.func137 rfl rfl Tryz.ntmps137 rfl fun F => ?_
  (refine G tt_ok pk137 ?_; repeat (refine G1 tt_ok pk137 ?_; intro _))
  rename_i b
  exact CW.ret (fin_ret rfl (A := [pt b (ldC b0 b1)]) pk_ ⟨b, rfl, rfl⟩)
/-- What runs: its priority and its group; 255, if nothing does. -/
def runV (b0 b1 : Nat) : Int × Int := match laddL b0 b1 with
  | [] => (255, 0)
  | x :: _ => x
theorem run_head {b0 b1 : Nat} {x : Int × Int} (h : [x] <+: laddL b0 b1) : runV b0 b1 = x := by
  obtain ⟨t, ht⟩ := h
  unfold runV
  rw [← ht]; rfl
theorem run_nil {b0 b1 : Nat} (h : laddL b0 b1 = []) : runV b0 b1 = (255, 0) := by unfold runV; rw [h]
set_option maxHeartbeats 4000000 in
theorem running77 (β : Base) {b0 b1 : Nat} (h0 : b0 < 2 ^ 32) (h1 : b1 < 2 ^ 32) : Tri Tryz.prog β 77 [.agg #[.int .u32 b0, .int .u32 b1]] [] (fun v L => v = .tuple #[.int .i64 (runV b0 b1).1, .int .i64 (runV b0 b1).2] ∧ L = []) := by
  refine Tri.intro tt_ok Tryz.func77 rfl rfl Tryz.ntmps77 rfl fun F => ?_
  (refine G tt_ok pk77 ?_; repeat (refine G1 tt_ok pk77 ?_; intro _))
  rename_i c1 c2 c3
  (refine ka rfl rfl (ladAll137 β b0 b1) ?_; rintro _ _ ⟨bl, rfl, rfl⟩; refine w_ ?_)
  (refine G tt_ok pk77 ?_; repeat (refine G1 tt_ok pk77 ?_; intro _))
  refine CW.rangeA rfl (iter205 β bl h0 h1) (by repeat (first | exact .n | exact Rm.h | apply Tk.c | apply Rm.t)) (fun pre => [pureA (pre = []), pt c2 [.int .i64 0], pt c3 [.int .i64 0]])
    (fun c M => c = .ret ∧ M = [pt c2 [.int .i64 (runV b0 b1).1], pt c3 [.int .i64 (runV b0 b1).2]]) ?_ (fun _ => rfl) (by decide) ?_ ?_ ?_
  · exact (Ent.pureA rfl).trans pk_
  · intro pre x hpre lp fm rec1
    refine CW.pure_ fun hp => ?_
    subst hp
    rw [run_head hpre]
    (refine G tt_ok pk77 ?_; repeat (refine G1 tt_ok pk77 ?_; intro _))
    intro fm2 rec2
    (refine G tt_ok pk77 ?_; repeat (refine G1 tt_ok pk77 ?_; intro _))
    exact CW.ret ⟨_, ⟨rfl, rfl⟩, pk_⟩
  · refine CW.pure_ fun hp => ?_
    rw [run_nil hp]
    (refine G tt_ok pk77 ?_; repeat (refine G1 tt_ok pk77 ?_; intro _))
    exact CW.ret (fin_cells [_, _] ⟨cl_, cl_, trivial⟩ (A := []) (Ent.dropAll _) ⟨rfl, rfl⟩)
  · rintro c M ⟨rfl, rfl⟩
    exact CW.ret (fin_cells [_, _] ⟨cl_, cl_, trivial⟩ (A := []) (Ent.dropAll _) ⟨rfl, rfl⟩)
@[reducible] def pk128 : List (Nat × Plan) := []
@[reducible] def pk130 : List (Nat × Plan) := []
theorem lad1_mem {b0 b1 k : Nat} {x : Int × Int} (h : x ∈ lad1 b0 b1 k) : x.1 = ((8 * k : Nat) : Int) ∧ ((x.2 = 0 ∧ b0.testBit k = true) ∨ (x.2 = 1 ∧ b1.testBit k = true)) := by
  unfold lad1 at h
  rw [List.mem_append] at h
  rcases h with h | h <;> split at h <;> simp only [List.mem_singleton, List.not_mem_nil] at h <;> subst h <;> rename_i hb
  · exact ⟨rfl, .inl ⟨rfl, by rw [← test_div, hb]; rfl⟩⟩
  · exact ⟨rfl, .inr ⟨rfl, by rw [← test_div, hb]; rfl⟩⟩
theorem ladN_mem {b0 b1 : Nat} {x : Int × Int} : ∀ {n : Nat}, n ≤ 32 → x ∈ ladN b0 b1 n → ∃ k, k < 32 ∧ x ∈ lad1 b0 b1 k
  | 0, _, h => by simp [ladN] at h
  | n + 1, hn, h => by
    unfold ladN at h
    rcases List.mem_append.1 h with h | h
    · exact ⟨_, by omega, h⟩
    · exact ladN_mem (by omega) h
theorem ladL_mem {b0 b1 : Nat} {x : Int × Int} (h : x ∈ laddL b0 b1) : ∃ k, k < 32 ∧ x.1 = ((8 * k : Nat) : Int) ∧ ((x.2 = 0 ∧ b0.testBit k = true) ∨ (x.2 = 1 ∧ b1.testBit k = true)) := by
  obtain ⟨k, hk, h⟩ := ladN_mem (by omega) h
  exact ⟨k, hk, lad1_mem h⟩
/-- What runs without its highest. -/
def dropV (b0 b1 : Nat) : Nat × Nat := match laddL b0 b1 with
  | [] => (b0, b1)
  | x :: _ => if x.2 = 0 then (clrN 32 b0 (2 ^ (x.1.toNat / 8)), b1) else (b0, clrN 32 b1 (2 ^ (x.1.toNat / 8)))
def pushV (b0 b1 g p : Nat) : Nat × Nat := if g = 0 then (b0 ||| 2 ^ (p / 8), b1) else (b0, b1 ||| 2 ^ (p / 8))
theorem drop_head {b0 b1 : Nat} {x : Int × Int} (h : [x] <+: laddL b0 b1) : dropV b0 b1 = if x.2 = 0 then (clrN 32 b0 (2 ^ (x.1.toNat / 8)), b1) else (b0, clrN 32 b1 (2 ^ (x.1.toNat / 8))) := by
  obtain ⟨t, ht⟩ := h
  unfold dropV
  rw [← ht]; rfl
theorem push_lt {b0 b1 g p : Nat} (h0 : b0 < 2 ^ 32) (h1 : b1 < 2 ^ 32) (hp : p ≤ 255) : (pushV b0 b1 g p).1 < 2 ^ 32 ∧ (pushV b0 b1 g p).2 < 2 ^ 32 := by
  have h : 2 ^ (p / 8) < 2 ^ 32 := Nat.pow_lt_pow_right (by omega) (by omega)
  unfold pushV
  split
  · exact ⟨Nat.or_lt_two_pow h0 h, h1⟩
  · exact ⟨h0, Nat.or_lt_two_pow h1 h⟩
theorem drop_lt {b0 b1 : Nat} (h0 : b0 < 2 ^ 32) (h1 : b1 < 2 ^ 32) : (dropV b0 b1).1 < 2 ^ 32 ∧ (dropV b0 b1).2 < 2 ^ 32 := by
  unfold dropV
  split
  · exact ⟨h0, h1⟩
  · split
    · exact ⟨clrN_lt _ _ _, h1⟩
    · exact ⟨h0, clrN_lt _ _ _⟩
theorem u255 {p : Nat} (hp : p ≤ 255) : (IntKind.u64.wrap ((BitVec.ofInt IntKind.u64.bits (IntKind.u64.wrap (p : Int)) &&& BitVec.ofInt IntKind.u64.bits 255).toNat : Int)).fdiv (2 ^ min 3 IntKind.u64.bits) = ((p / 8 : Nat) : Int) := by
  have hlt : p < 2 ^ 64 := by omega
  rw [wN64 hlt, show (255 : Int) = ((255 : Nat) : Int) from rfl, and64 hlt (by decide), shr64 _ 3 (by omega)]
  rw [show p &&& 255 = p from by have := Nat.and_two_pow_sub_one_eq_mod p 8; rw [show (2 : Nat) ^ 8 - 1 = 255 from rfl] at this; rw [this]; omega]
set_option maxHeartbeats 4000000 in
theorem push128 (β : Base) {b0 b1 g p : Nat} (h0 : b0 < 2 ^ 32) (h1 : b1 < 2 ^ 32) (hg : g ≤ 1) (hp : p ≤ 255) : Tri Tryz.prog β 128 [.agg #[.int .u32 b0, .int .u32 b1], .int .i64 g, .int .i64 p] [] (fun v L => v = .agg #[.int .u32 (pushV b0 b1 g p).1, .int .u32 (pushV b0 b1 g p).2] ∧ L = []) := by
  refine Tri.intro tt_ok Tryz.func128 rfl rfl Tryz.ntmps128 rfl fun F => ?_
  have hpw : 2 ^ (p / 8) < 2 ^ 32 := Nat.pow_lt_pow_right (by omega) (by omega)
  have hg2 : g = 0 ∨ g = 1 := by omega
  rcases hg2 with rfl | rfl
  · rw [show ((0 : Nat) : Int) = 0 from rfl]
    (refine G tt_ok pk128 ?_; repeat (refine G1 tt_ok pk128 ?_; intro _))
    refine SQ.idx tt_ok rfl rfl 0 rfl (by decide) (o' := 0) rfl ?_
    (refine G tt_ok pk128 ?_; repeat (refine G1 tt_ok pk128 ?_; intro _))
    rw [u255 hp]
    refine SQ.shift tt_ok rfl rfl (p / 8) rfl (v := ((2 ^ (p / 8) : Nat) : Int)) (shl32 (by omega)) ?_
    (refine G tt_ok pk128 ?_; repeat (refine G1 tt_ok pk128 ?_; intro _))
    rw [or32 h0 hpw]
    refine SQ.idx tt_ok rfl rfl 0 rfl (by decide) (o' := 0) rfl ?_
    (refine G tt_ok pk128 ?_; repeat (refine G1 tt_ok pk128 ?_; intro _))
    exact CW.ret (fin_cells [_] ⟨cl_, trivial⟩ (A := []) (Ent.dropAll _) ⟨rfl, rfl⟩)
  · rw [show ((1 : Nat) : Int) = 1 from rfl]
    (refine G tt_ok pk128 ?_; repeat (refine G1 tt_ok pk128 ?_; intro _))
    refine SQ.idx tt_ok rfl rfl 1 rfl (by decide) (o' := 1) rfl ?_
    (refine G tt_ok pk128 ?_; repeat (refine G1 tt_ok pk128 ?_; intro _))
    rw [u255 hp]
    refine SQ.shift tt_ok rfl rfl (p / 8) rfl (v := ((2 ^ (p / 8) : Nat) : Int)) (shl32 (by omega)) ?_
    (refine G tt_ok pk128 ?_; repeat (refine G1 tt_ok pk128 ?_; intro _))
    rw [or32 h1 hpw]
    refine SQ.idx tt_ok rfl rfl 1 rfl (by decide) (o' := 1) rfl ?_
    (refine G tt_ok pk128 ?_; repeat (refine G1 tt_ok pk128 ?_; intro _))
    exact CW.ret (fin_cells [_] ⟨cl_, trivial⟩ (A := []) (Ent.dropAll _) ⟨rfl, rfl⟩)
theorem u3 {k : Nat} (hk : k < 32) : (IntKind.u64.wrap (((8 * k : Nat) : Int))).fdiv (2 ^ min 3 IntKind.u64.bits) = (k : Int) := by
  rw [wN64 (show 8 * k < 2 ^ 64 by omega), shr64 _ 3 (by omega)]
  rw [show 8 * k / 2 ^ 3 = k by omega]
set_option maxHeartbeats 4000000 in
theorem ldrop130 (β : Base) {b0 b1 : Nat} (h0 : b0 < 2 ^ 32) (h1 : b1 < 2 ^ 32) : Tri Tryz.prog β 130 [.agg #[.int .u32 b0, .int .u32 b1]] [] (fun v L => ∃ t, v = .tuple #[.agg #[.int .u32 (dropV b0 b1).1, .int .u32 (dropV b0 b1).2], .bool t] ∧ L = []) := by
  refine Tri.intro tt_ok Tryz.func130 rfl rfl Tryz.ntmps130 rfl fun F => ?_
  (refine G tt_ok pk130 ?_; repeat (refine G1 tt_ok pk130 ?_; intro _))
  rename_i c1 c2 c3
  (refine ka rfl rfl (ladAll137 β b0 b1) ?_; rintro _ _ ⟨bl, rfl, rfl⟩; refine w_ ?_)
  (refine G tt_ok pk130 ?_; repeat (refine G1 tt_ok pk130 ?_; intro _))
  refine CW.rangeA rfl (iter205 β bl h0 h1) (by repeat (first | exact .n | exact Rm.h | apply Tk.c | apply Rm.t)) (fun pre => [pureA (pre = []), pt c1 [.int .u32 b0, .int .u32 b1], pt c2 [.int .u32 0, .int .u32 0], pt c3 [.bool false]])
    (fun c M => c = .ret ∧ M = [pt c1 [.int .u32 (dropV b0 b1).1, .int .u32 (dropV b0 b1).2], pt c2 [.int .u32 (dropV b0 b1).1, .int .u32 (dropV b0 b1).2], pt c3 [.bool true]]) ?_ (fun _ => rfl) (by decide) ?_ ?_ ?_
  · exact (Ent.pureA rfl).trans pk_
  · intro pre x hpre lp fm rec1
    refine CW.pure_ fun hp => ?_
    subst hp
    rw [drop_head hpre]
    obtain ⟨p, g⟩ := x
    obtain ⟨k, hk, e1, e2⟩ := ladL_mem (x := (p, g)) (hpre.mem (by simp))
    simp only at e1 e2 ⊢
    subst e1
    have hk8 : ((((8 * k : Nat) : Int)).toNat / 8) = k := by omega
    rw [hk8]
    rcases e2 with ⟨rfl, _⟩ | ⟨rfl, _⟩
    · (refine G tt_ok pk130 ?_; repeat (refine G1 tt_ok pk130 ?_; intro _))
      intro fm2 rec2
      (refine G tt_ok pk130 ?_; repeat (refine G1 tt_ok pk130 ?_; intro _))
      refine SQ.idx tt_ok rfl rfl 0 rfl (by decide) (o' := 0) rfl ?_
      (refine G tt_ok pk130 ?_; repeat (refine G1 tt_ok pk130 ?_; intro _))
      rw [u3 hk]
      refine SQ.shift tt_ok rfl rfl k rfl (v := ((2 ^ k : Nat) : Int)) (shl32 (by omega)) ?_
      (refine G tt_ok pk130 ?_; repeat (refine G1 tt_ok pk130 ?_; intro _))
      rw [clr32]
      refine SQ.idx tt_ok rfl rfl 0 rfl (by decide) (o' := 0) rfl ?_
      (refine G tt_ok pk130 ?_; repeat (refine G1 tt_ok pk130 ?_; intro _))
      exact CW.ret ⟨_, ⟨rfl, rfl⟩, pk_⟩
    · (refine G tt_ok pk130 ?_; repeat (refine G1 tt_ok pk130 ?_; intro _))
      intro fm2 rec2
      (refine G tt_ok pk130 ?_; repeat (refine G1 tt_ok pk130 ?_; intro _))
      refine SQ.idx tt_ok rfl rfl 1 rfl (by decide) (o' := 1) rfl ?_
      (refine G tt_ok pk130 ?_; repeat (refine G1 tt_ok pk130 ?_; intro _))
      rw [u3 hk]
      refine SQ.shift tt_ok rfl rfl k rfl (v := ((2 ^ k : Nat) : Int)) (shl32 (by omega)) ?_
      (refine G tt_ok pk130 ?_; repeat (refine G1 tt_ok pk130 ?_; intro _))
      rw [clr32]
      refine SQ.idx tt_ok rfl rfl 1 rfl (by decide) (o' := 1) rfl ?_
      (refine G tt_ok pk130 ?_; repeat (refine G1 tt_ok pk130 ?_; intro _))
      exact CW.ret ⟨_, ⟨rfl, rfl⟩, pk_⟩
  · refine CW.pure_ fun hp => ?_
    have hd : dropV b0 b1 = (b0, b1) := by unfold dropV; rw [hp]
    rw [hd]
    (refine G tt_ok pk130 ?_; repeat (refine G1 tt_ok pk130 ?_; intro _))
    exact CW.ret (fin_cells [_, _] ⟨cl_, cl_, trivial⟩ (A := []) (Ent.dropAll _) ⟨_, rfl, rfl⟩)
  · rintro c M ⟨rfl, rfl⟩
    exact CW.ret (fin_cells [_, _] ⟨cl_, cl_, trivial⟩ (A := []) (Ent.dropAll _) ⟨_, rfl, rfl⟩)
end Go.Proofs.YtebpodnbalfomaaGreatDoor.Sl
