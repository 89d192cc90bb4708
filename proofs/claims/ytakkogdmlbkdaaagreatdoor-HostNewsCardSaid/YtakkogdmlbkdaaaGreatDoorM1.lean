/-
  Part 1 of the proof: contracts of the code's functions, and what is plain.
-/
import Derived.Test.YtakkogdmlbkdaaaGreatDoorL4
import Derived.Test.YtakkogdmlbkdaaaGreatDoorProg
import Derived.Test.YtakkogdmlbkdaaaGreatDoorL5
import Derived.Test.YtakkogdmlbkdaaaGreatDoorL7
import Derived.Test.YtakkogdmlbkdaaaGreatDoorL9
import Derived.Test.YtakkogdmlbkdaaaGreatDoorL8
set_option linter.unusedVariables false
set_option linter.unusedSimpArgs false
set_option maxRecDepth 10000
open Go Go.RowKit Go.Proofs
namespace Go.Proofs.YtakkogdmlbkdaaaGreatDoor.Sl
@[reducible] def fd_ (n : String) (t o b : Nat) : Field := { name := n, type := t, offset := o, embedded := false, tag := "", pkgPath := "", byteOffset := b }
@[reducible] def fp_ (n : String) (t o : Nat) (p : String) (b : Nat) : Field := { name := n, type := t, offset := o, embedded := false, tag := "", pkgPath := p, byteOffset := b }
def ti3 : TI := ⟨.int .i64, 1, 8, .int .i64 0, []⟩
def ti4 : TI := ⟨.bool, 1, 1, .bool false, []⟩
def ti5 : TI := ⟨.int .u8, 1, 1, .int .u8 0, []⟩
def ti9 : TI := ⟨.string, 1, 16, .string ByteArray.empty, []⟩
def ti23 : TI := ⟨.struct #[fd_ "Device" 3 0 0, fd_ "Event" 3 1 8], 2, 16, .agg #[.int .i64 0, .int .i64 0], [(0, 1), (1, 1)]⟩
def ti25 : TI := ⟨.struct #[fd_ "Do" 3 0 0, fd_ "N" 3 1 8, fd_ "X" 23 2 16, fd_ "Is" 4 4 32], 5, 40, .agg #[.int .i64 0, .int .i64 0, .int .i64 0, .int .i64 0, .bool false], [(0, 1), (1, 1), (2, 2), (4, 1)]⟩
def ti26 : TI := ⟨.func #[] #[4] false, 1, 8, .nilFunc, []⟩
def ti27 : TI := ⟨.pointer 50, 1, 8, .pointer none, []⟩
def ti28 : TI := ⟨.int .i64, 1, 8, .int .i64 0, []⟩
def ti31 : TI := ⟨.pointer 110, 1, 8, .pointer none, []⟩
def ti36 : TI := ⟨.pointer 120, 1, 8, .pointer none, []⟩
def ti37 : TI := ⟨.pointer 165, 1, 8, .pointer none, []⟩
def ti38 : TI := ⟨.slice 100, 1, 24, .slice none 0 0, []⟩
def ti39 : TI := ⟨.slice 90, 1, 24, .slice none 0 0, []⟩
def ti41 : TI := ⟨.struct #[fd_ "At" 3 0 0, fd_ "Size" 3 1 8], 2, 16, .agg #[.int .i64 0, .int .i64 0], [(0, 1), (1, 1)]⟩
def ti43 : TI := ⟨.struct #[fd_ "Window" 41 0 0, fd_ "Read" 3 2 16, fd_ "Write" 3 3 24], 4, 32, .agg #[.int .i64 0, .int .i64 0, .int .i64 0, .int .i64 0], [(0, 2), (2, 1), (3, 1)]⟩
def ti45 : TI := ⟨.struct #[fd_ "Window" 41 0 0, fd_ "Page" 3 2 16], 3, 24, .agg #[.int .i64 0, .int .i64 0, .int .i64 0], [(0, 2), (2, 1)]⟩
def ti47 : TI := ⟨.struct #[fd_ "On" 4 0 0, fd_ "Stalled" 4 1 1, fd_ "Queue" 43 2 8, fd_ "Devices" 45 6 40, fd_ "Colls" 41 9 64], 11, 80, .agg #[.bool false, .bool false, .int .i64 0, .int .i64 0, .int .i64 0, .int .i64 0, .int .i64 0, .int .i64 0, .int .i64 0, .int .i64 0, .int .i64 0], [(0, 1), (1, 1), (2, 4), (6, 3), (9, 2)]⟩
def ti48 : TI := ⟨.pointer 177, 1, 8, .pointer none, []⟩
def ti50 : TI := ⟨.struct #[fd_ "Mem" 36 0 0, fp_ "dist" 37 1 "crier/host" 8, fp_ "faces" 38 2 "crier/host" 16, fp_ "lpis" 39 3 "crier/host" 40, fp_ "its" 47 4 "crier/host" 64, fp_ "shadow" 48 15 "crier/host" 144], 16, 152, .agg #[.pointer none, .pointer none, .slice none 0 0, .slice none 0 0, .bool false, .bool false, .int .i64 0, .int .i64 0, .int .i64 0, .int .i64 0, .int .i64 0, .int .i64 0, .int .i64 0, .int .i64 0, .int .i64 0, .pointer none], [(0, 1), (1, 1), (2, 1), (3, 1), (4, 11), (15, 1)]⟩
def ti53 : TI := ⟨.slice 25, 1, 24, .slice none 0 0, []⟩
def ti67 : TI := ⟨.slice 5, 1, 24, .slice none 0 0, []⟩
def ti74 : TI := ⟨.func #[212] #[] false, 1, 8, .nilFunc, []⟩
def ti75 : TI := ⟨.func #[212] #[] false, 1, 8, .nilFunc, []⟩
def ti81 : TI := ⟨.func #[3] #[4] false, 1, 8, .nilFunc, []⟩
def ti90 : TI := ⟨.pointer 181, 1, 8, .pointer none, []⟩
def ti93 : TI := ⟨.array 2 3, 2, 16, .agg #[.int .i64 0, .int .i64 0], []⟩
def ti94 : TI := ⟨.array 2 4, 2, 2, .agg #[.bool false, .bool false], []⟩
def ti95 : TI := ⟨.int .u32, 1, 4, .int .u32 0, []⟩
def ti96 : TI := ⟨.array 2 95, 2, 8, .agg #[.int .u32 0, .int .u32 0], []⟩
def ti97 : TI := ⟨.struct #[fd_ "Bits" 96 0 0], 2, 8, .agg #[.int .u32 0, .int .u32 0], [(0, 2)]⟩
def ti98 : TI := ⟨.struct #[fd_ "Bits" 96 0 0], 2, 8, .agg #[.int .u32 0, .int .u32 0], [(0, 2)]⟩
def ti99 : TI := ⟨.struct #[fd_ "Mask" 3 0 0, fd_ "Point" 93 1 8, fd_ "On" 94 3 24, fd_ "Split" 4 5 26, fd_ "Runs" 98 6 28], 8, 40, .agg #[.int .i64 0, .int .i64 0, .int .i64 0, .bool false, .bool false, .bool false, .int .u32 0, .int .u32 0], [(0, 1), (1, 2), (3, 2), (5, 1), (6, 2)]⟩
def ti100 : TI := ⟨.struct #[fd_ "Mask" 3 0 0, fd_ "Point" 93 1 8, fd_ "On" 94 3 24, fd_ "Split" 4 5 26, fd_ "Runs" 98 6 28], 8, 40, .agg #[.int .i64 0, .int .i64 0, .int .i64 0, .bool false, .bool false, .bool false, .int .u32 0, .int .u32 0], [(0, 1), (1, 2), (3, 2), (5, 1), (6, 2)]⟩
def ti103 : TI := ⟨.pointer 117, 1, 8, .pointer none, []⟩
def ti106 : TI := ⟨.slice 4, 1, 24, .slice none 0 0, []⟩
def ti107 : TI := ⟨.array 512 3, 512, 4096, .agg (List.replicate 512 (.int .i64 0) : List Value).toArray, []⟩
def ti108 : TI := ⟨.array 512 4, 512, 512, .agg (List.replicate 512 (.bool false) : List Value).toArray, []⟩
def ti110 : TI := ⟨.struct #[fd_ "S" 103 0 0, fd_ "Core" 107 1 8, fd_ "Wait" 108 513 4104, fd_ "High" 106 1025 4616, fd_ "Active" 106 1026 4640, fd_ "Asleep" 106 1027 4664], 1028, 4688, .agg ([.pointer none] ++ (List.replicate 512 (.int .i64 0) ++ (List.replicate 512 (.bool false) ++ ([.slice none 0 0, .slice none 0 0, .slice none 0 0]))) : List Value).toArray, [(0, 1), (1, 512), (513, 512), (1025, 1), (1026, 1), (1027, 1)]⟩
def ti111 : TI := ⟨.slice 3, 1, 24, .slice none 0 0, []⟩
def ti117 : TI := ⟨.struct #[fd_ "Devices" 111 0 0, fd_ "Events" 111 1 24], 2, 48, .agg #[.slice none 0 0, .slice none 0 0], [(0, 1), (1, 1)]⟩
def ti120 : TI := ⟨.struct #[fp_ "bytes" 67 0 "crier/mem" 0], 1, 24, .agg #[.slice none 0 0], [(0, 1)]⟩
def ti121 : TI := ⟨.int .u64, 1, 8, .int .u64 0, []⟩
def ti124 : TI := ⟨.int .i64, 1, 8, .int .i64 0, []⟩
def ti125 : TI := ⟨.struct #[fd_ "Reg" 124 0 0, fd_ "First" 3 1 8, fd_ "Count" 3 2 16], 3, 24, .agg #[.int .i64 0, .int .i64 0, .int .i64 0], [(0, 1), (1, 1), (2, 1)]⟩
def ti126 : TI := ⟨.struct #[fd_ "Reg" 124 0 0, fd_ "First" 3 1 8, fd_ "Count" 3 2 16], 3, 24, .agg #[.int .i64 0, .int .i64 0, .int .i64 0], [(0, 1), (1, 1), (2, 1)]⟩
def ti128 : TI := ⟨.int .i64, 1, 8, .int .i64 0, []⟩
def ti133 : TI := ⟨.pointer 100, 1, 8, .pointer none, []⟩
def ti135 : TI := ⟨.struct #[fd_ "ID" 3 0 0, fd_ "Priority" 3 1 8, fd_ "Group" 3 2 16, fd_ "Is" 4 3 24], 4, 32, .agg #[.int .i64 0, .int .i64 0, .int .i64 0, .bool false], [(0, 1), (1, 1), (2, 1), (3, 1)]⟩
def ti136 : TI := ⟨.struct #[fd_ "ID" 3 0 0, fd_ "Priority" 3 1 8, fd_ "Group" 3 2 16, fd_ "Is" 4 3 24], 4, 32, .agg #[.int .i64 0, .int .i64 0, .int .i64 0, .bool false], [(0, 1), (1, 1), (2, 1), (3, 1)]⟩
def ti145 : TI := ⟨.func #[3, 3] #[4] false, 1, 8, .nilFunc, []⟩
def ti147 : TI := ⟨.int .i64, 1, 8, .int .i64 0, []⟩
def ti149 : TI := ⟨.struct #[fd_ "Op" 147 0 0, fd_ "Device" 3 1 8, fd_ "Event" 3 2 16, fd_ "Number" 3 3 24, fd_ "Coll" 3 4 32, fd_ "Target" 3 5 40, fd_ "Bits" 3 6 48, fd_ "Addr" 3 7 56, fd_ "Valid" 4 8 64], 9, 72, .agg #[.int .i64 0, .int .i64 0, .int .i64 0, .int .i64 0, .int .i64 0, .int .i64 0, .int .i64 0, .int .i64 0, .bool false], [(0, 1), (1, 1), (2, 1), (3, 1), (4, 1), (5, 1), (6, 1), (7, 1), (8, 1)]⟩
def ti151 : TI := ⟨.struct #[fd_ "Valid" 4 0 0, fd_ "Bits" 3 1 8, fd_ "At" 3 2 16], 3, 24, .agg #[.bool false, .int .i64 0, .int .i64 0], [(0, 1), (1, 1), (2, 1)]⟩
def ti158 : TI := ⟨.pointer 226, 1, 8, .pointer none, []⟩
def ti161 : TI := ⟨.struct #[fd_ "Core" 3 0 0, fd_ "Any" 4 1 8], 2, 16, .agg #[.int .i64 0, .bool false], [(0, 1), (1, 1)]⟩
def ti162 : TI := ⟨.struct #[fd_ "Core" 3 0 0, fd_ "Any" 4 1 8], 2, 16, .agg #[.int .i64 0, .bool false], [(0, 1), (1, 1)]⟩
def ti163 : TI := ⟨.slice 173, 1, 24, .slice none 0 0, []⟩
def ti164 : TI := ⟨.struct #[fp_ "on" 94 0 "crier/dist" 0, fp_ "spis" 158 2 "crier/dist" 8, fp_ "cores" 163 3 "crier/dist" 16], 4, 40, .agg #[.bool false, .bool false, .pointer none, .slice none 0 0], [(0, 2), (2, 1), (3, 1)]⟩
def ti165 : TI := ⟨.struct #[fp_ "on" 94 0 "crier/dist" 0, fp_ "spis" 158 2 "crier/dist" 8, fp_ "cores" 163 3 "crier/dist" 16], 4, 40, .agg #[.bool false, .bool false, .pointer none, .slice none 0 0], [(0, 2), (2, 1), (3, 1)]⟩
def ti166 : TI := ⟨.pointer 235, 1, 8, .pointer none, []⟩
def ti169 : TI := ⟨.struct #[], 0, 0, .agg #[], []⟩
def ti170 : TI := ⟨.struct #[], 0, 0, .agg #[], []⟩
def ti172 : TI := ⟨.struct #[fp_ "own" 166 0 "crier/dist" 0, fp_ "asleep" 4 1 "crier/dist" 8], 2, 16, .agg #[.pointer none, .bool false], [(0, 1), (1, 1)]⟩
def ti173 : TI := ⟨.struct #[fp_ "own" 166 0 "crier/dist" 0, fp_ "asleep" 4 1 "crier/dist" 8], 2, 16, .agg #[.pointer none, .bool false], [(0, 1), (1, 1)]⟩
def ti174 : TI := ⟨.pointer 241, 1, 8, .pointer none, []⟩
def ti177 : TI := ⟨.struct #[fp_ "many" 3 0 "crier/shadow" 0, fp_ "number" 174 1 "crier/shadow" 8, fp_ "key" 174 2 "crier/shadow" 16], 3, 24, .agg #[.int .i64 0, .pointer none, .pointer none], [(0, 1), (1, 1), (2, 1)]⟩
def ti178 : TI := ⟨.pointer 244, 1, 8, .pointer none, []⟩
def ti181 : TI := ⟨.struct #[fp_ "many" 3 0 "crier/lpi" 0, fp_ "on" 4 1 "crier/lpi" 8, fp_ "prop" 41 2 "crier/lpi" 16, fp_ "pend" 41 4 "crier/lpi" 32, fp_ "config" 67 6 "crier/lpi" 48, fp_ "waits" 178 7 "crier/lpi" 72], 8, 80, .agg #[.int .i64 0, .bool false, .int .i64 0, .int .i64 0, .int .i64 0, .int .i64 0, .slice none 0 0, .pointer none], [(0, 1), (1, 1), (2, 2), (4, 2), (6, 1), (7, 1)]⟩
def ti185 : TI := ⟨.int .i64, 1, 8, .int .i64 0, []⟩
def ti191 : TI := ⟨.func #[81] #[] false, 1, 8, .nilFunc, []⟩
def ti192 : TI := ⟨.func #[81] #[] false, 1, 8, .nilFunc, []⟩
def ti196 : TI := ⟨.pointer 47, 1, 8, .pointer none, []⟩
def ti198 : TI := ⟨.func #[136] #[4] false, 1, 8, .nilFunc, []⟩
def ti209 : TI := ⟨.func #[145] #[] false, 1, 8, .nilFunc, []⟩
def ti210 : TI := ⟨.func #[145] #[] false, 1, 8, .nilFunc, []⟩
def ti212 : TI := ⟨.func #[23, 3] #[4] false, 1, 8, .nilFunc, []⟩
def ti220 : TI := ⟨.int .u64, 1, 8, .int .u64 0, []⟩
def ti224 : TI := ⟨.slice 232, 1, 24, .slice none 0 0, []⟩
def ti225 : TI := ⟨.struct #[fp_ "first" 3 0 "crier/bank" 0, fp_ "entries" 224 1 "crier/bank" 8], 2, 32, .agg #[.int .i64 0, .slice none 0 0], [(0, 1), (1, 1)]⟩
def ti226 : TI := ⟨.struct #[fp_ "first" 3 0 "crier/bank" 0, fp_ "entries" 224 1 "crier/bank" 8], 2, 32, .agg #[.int .i64 0, .slice none 0 0], [(0, 1), (1, 1)]⟩
def ti227 : TI := ⟨.struct #[fd_ "Edge" 4 0 0, fd_ "Line" 4 1 1, fd_ "Latch" 4 2 2, fd_ "Active" 4 3 3], 4, 4, .agg #[.bool false, .bool false, .bool false, .bool false], [(0, 1), (1, 1), (2, 1), (3, 1)]⟩
def ti228 : TI := ⟨.struct #[fd_ "Edge" 4 0 0, fd_ "Line" 4 1 1, fd_ "Latch" 4 2 2, fd_ "Active" 4 3 3], 4, 4, .agg #[.bool false, .bool false, .bool false, .bool false], [(0, 1), (1, 1), (2, 1), (3, 1)]⟩
def ti229 : TI := ⟨.struct #[{ name := "Irq", type := 228, offset := 0, embedded := true, tag := "", pkgPath := "", byteOffset := 0 }, fd_ "Enabled" 4 4 4, fd_ "Group" 3 5 8, fd_ "Priority" 3 6 16], 7, 24, .agg #[.bool false, .bool false, .bool false, .bool false, .bool false, .int .i64 0, .int .i64 0], [(0, 4), (4, 1), (5, 1), (6, 1)]⟩
def ti230 : TI := ⟨.struct #[{ name := "Irq", type := 228, offset := 0, embedded := true, tag := "", pkgPath := "", byteOffset := 0 }, fd_ "Enabled" 4 4 4, fd_ "Group" 3 5 8, fd_ "Priority" 3 6 16], 7, 24, .agg #[.bool false, .bool false, .bool false, .bool false, .bool false, .int .i64 0, .int .i64 0], [(0, 4), (4, 1), (5, 1), (6, 1)]⟩
def ti231 : TI := ⟨.struct #[{ name := "Line", type := 230, offset := 0, embedded := true, tag := "", pkgPath := "", byteOffset := 0 }, fd_ "Extra" 162 7 24], 9, 40, .agg #[.bool false, .bool false, .bool false, .bool false, .bool false, .int .i64 0, .int .i64 0, .int .i64 0, .bool false], [(0, 7), (7, 2)]⟩
def ti232 : TI := ⟨.struct #[{ name := "Line", type := 230, offset := 0, embedded := true, tag := "", pkgPath := "", byteOffset := 0 }, fd_ "Extra" 162 7 24], 9, 40, .agg #[.bool false, .bool false, .bool false, .bool false, .bool false, .int .i64 0, .int .i64 0, .int .i64 0, .bool false], [(0, 7), (7, 2)]⟩
def ti233 : TI := ⟨.slice 237, 1, 24, .slice none 0 0, []⟩
def ti234 : TI := ⟨.struct #[fp_ "first" 3 0 "crier/bank" 0, fp_ "entries" 233 1 "crier/bank" 8], 2, 32, .agg #[.int .i64 0, .slice none 0 0], [(0, 1), (1, 1)]⟩
def ti235 : TI := ⟨.struct #[fp_ "first" 3 0 "crier/bank" 0, fp_ "entries" 233 1 "crier/bank" 8], 2, 32, .agg #[.int .i64 0, .slice none 0 0], [(0, 1), (1, 1)]⟩
def ti236 : TI := ⟨.struct #[{ name := "Line", type := 230, offset := 0, embedded := true, tag := "", pkgPath := "", byteOffset := 0 }, fd_ "Extra" 170 7 24], 7, 32, .agg #[.bool false, .bool false, .bool false, .bool false, .bool false, .int .i64 0, .int .i64 0], [(0, 7), (7, 0)]⟩
def ti237 : TI := ⟨.struct #[{ name := "Line", type := 230, offset := 0, embedded := true, tag := "", pkgPath := "", byteOffset := 0 }, fd_ "Extra" 170 7 24], 7, 32, .agg #[.bool false, .bool false, .bool false, .bool false, .bool false, .int .i64 0, .int .i64 0], [(0, 7), (7, 0)]⟩
def ti238 : TI := ⟨.pointer 237, 1, 8, .pointer none, []⟩
def ti241 : TI := ⟨.struct #[fp_ "keys" 111 0 "crier/book" 0, fp_ "values" 111 1 "crier/book" 24], 2, 48, .agg #[.slice none 0 0, .slice none 0 0], [(0, 1), (1, 1)]⟩
def ti242 : TI := ⟨.slice 121, 1, 24, .slice none 0 0, []⟩
def ti243 : TI := ⟨.struct #[fp_ "words" 242 0 "crier/sets" 0], 1, 24, .agg #[.slice none 0 0], [(0, 1)]⟩
def ti244 : TI := ⟨.struct #[fp_ "words" 242 0 "crier/sets" 0], 1, 24, .agg #[.slice none 0 0], [(0, 1)]⟩
def ti254 : TI := ⟨.struct #[fd_ "Size" 3 0 0, fd_ "Step" 3 1 8], 2, 16, .agg #[.int .i64 0, .int .i64 0], [(0, 1), (1, 1)]⟩
def ti260 : TI := ⟨.func #[3] #[192] false, 1, 8, .nilFunc, []⟩
def ti267 : TI := ⟨.pointer 232, 1, 8, .pointer none, []⟩
def ti270 : TI := ⟨.struct #[fd_ "Number" 3 0 0, fd_ "Coll" 3 1 8, fd_ "Valid" 4 2 16], 3, 24, .agg #[.int .i64 0, .int .i64 0, .bool false], [(0, 1), (1, 1), (2, 1)]⟩
def ti276 : TI := ⟨.func #[304] #[] false, 1, 8, .nilFunc, []⟩
def ti282 : TI := ⟨.pointer 43, 1, 8, .pointer none, []⟩
def ti296 : TI := ⟨.slice 312, 1, 24, .slice none 0 0, []⟩
def ti304 : TI := ⟨.func #[3, 230] #[4] false, 1, 8, .nilFunc, []⟩
def ti305 : TI := ⟨.array 4 121, 4, 32, .agg #[.int .u64 0, .int .u64 0, .int .u64 0, .int .u64 0], []⟩
def ti311 : TI := ⟨.struct #[fp_ "from" 3 0 "crier/regs" 0, fp_ "to" 3 1 "crier/regs" 8, fp_ "width" 3 2 "crier/regs" 16, fp_ "reg" 124 3 "crier/regs" 24, fp_ "first" 3 4 "crier/regs" 32, fp_ "num" 3 5 "crier/regs" 40, fp_ "den" 3 6 "crier/regs" 48], 7, 56, .agg #[.int .i64 0, .int .i64 0, .int .i64 0, .int .i64 0, .int .i64 0, .int .i64 0, .int .i64 0], [(0, 1), (1, 1), (2, 1), (3, 1), (4, 1), (5, 1), (6, 1)]⟩
def ti312 : TI := ⟨.struct #[fp_ "from" 3 0 "crier/regs" 0, fp_ "to" 3 1 "crier/regs" 8, fp_ "width" 3 2 "crier/regs" 16, fp_ "reg" 124 3 "crier/regs" 24, fp_ "first" 3 4 "crier/regs" 32, fp_ "num" 3 5 "crier/regs" 40, fp_ "den" 3 6 "crier/regs" 48], 7, 56, .agg #[.int .i64 0, .int .i64 0, .int .i64 0, .int .i64 0, .int .i64 0, .int .i64 0, .int .i64 0], [(0, 1), (1, 1), (2, 1), (3, 1), (4, 1), (5, 1), (6, 1)]⟩
def ti313 : TI := ⟨.array 64 5, 64, 64, .agg (List.replicate 64 (.int .u8 0) : List Value).toArray, []⟩
def ti317 : TI := ⟨.func #[331] #[] false, 1, 8, .nilFunc, []⟩
def ti320 : TI := ⟨.func #[332] #[] false, 1, 8, .nilFunc, []⟩
def ti323 : TI := ⟨.int .i64, 1, 8, .int .i64 0, []⟩
def ti325 : TI := ⟨.struct #[fp_ "word" 3 0 "crier/cmd" 0, fp_ "from" 3 1 "crier/cmd" 8, fp_ "size" 3 2 "crier/cmd" 16], 3, 24, .agg #[.int .i64 0, .int .i64 0, .int .i64 0], [(0, 1), (1, 1), (2, 1)]⟩
def ti331 : TI := ⟨.func #[3, 237] #[4] false, 1, 8, .nilFunc, []⟩
def ti332 : TI := ⟨.func #[3, 232] #[4] false, 1, 8, .nilFunc, []⟩
def ti336 : TI := ⟨.func #[348] #[] false, 1, 8, .nilFunc, []⟩
def ti347 : TI := ⟨.pointer 149, 1, 8, .pointer none, []⟩
def ti348 : TI := ⟨.func #[3, 270] #[4] false, 1, 8, .nilFunc, []⟩
def tt : TT := [(3, ti3), (4, ti4), (5, ti5), (9, ti9), (23, ti23), (25, ti25), (26, ti26), (27, ti27), (28, ti28), (31, ti31), (36, ti36), (37, ti37), (38, ti38), (39, ti39), (41, ti41), (43, ti43), (45, ti45), (47, ti47), (48, ti48), (50, ti50), (53, ti53), (67, ti67), (74, ti74), (75, ti75), (81, ti81), (90, ti90), (93, ti93), (94, ti94), (95, ti95), (96, ti96), (97, ti97), (98, ti98), (99, ti99), (100, ti100), (103, ti103), (106, ti106), (107, ti107), (108, ti108), (110, ti110), (111, ti111), (117, ti117), (120, ti120), (121, ti121), (124, ti124), (125, ti125), (126, ti126), (128, ti128), (133, ti133), (135, ti135), (136, ti136), (145, ti145), (147, ti147), (149, ti149), (151, ti151), (158, ti158), (161, ti161), (162, ti162), (163, ti163), (164, ti164), (165, ti165), (166, ti166), (169, ti169), (170, ti170), (172, ti172), (173, ti173), (174, ti174), (177, ti177), (178, ti178), (181, ti181), (185, ti185), (191, ti191), (192, ti192), (196, ti196), (198, ti198), (209, ti209), (210, ti210), (212, ti212), (220, ti220), (224, ti224), (225, ti225), (226, ti226), (227, ti227), (228, ti228), (229, ti229), (230, ti230), (231, ti231), (232, ti232), (233, ti233), (234, ti234), (235, ti235), (236, ti236), (237, ti237), (238, ti238), (241, ti241), (242, ti242), (243, ti243), (244, ti244), (254, ti254), (260, ti260), (267, ti267), (270, ti270), (276, ti276), (282, ti282), (296, ti296), (304, ti304), (305, ti305), (311, ti311), (312, ti312), (313, ti313), (317, ti317), (320, ti320), (323, ti323), (325, ti325), (331, ti331), (332, ti332), (336, ti336), (347, ti347), (348, ti348)]
theorem tt_ok : TTok Tryz.prog tt := by
 repeat' (first | exact trivial | apply And.intro)
 all_goals kernel_rfl
end Go.Proofs.YtakkogdmlbkdaaaGreatDoor.Sl
namespace Go.Proofs.YtakkogdmlbkdaaaGreatDoor.Sl.It
def leN : List Nat → Nat
 | [] => 0
 | b :: r => b + 256 * leN r
def leB : Nat → Nat → List Nat
 | 0, _ => []
 | w + 1, v => v % 256 :: leB w (v / 256)
def byOk (B : List Nat) : Prop := ∀ b ∈ B, b < 256
theorem leB_len : ∀ w v, (leB w v).length = w
 | 0, _ => rfl
 | w + 1, v => by simp [leB, leB_len w]
theorem leB_ok : ∀ w v, byOk (leB w v)
 | 0, _, _, h => by simp [leB] at h
 | w + 1, v, b, h => by
  simp only [leB, List.mem_cons] at h
  rcases h with rfl | h
  ·omega
  ·exact leB_ok w _ b h
theorem leN_leB : ∀ w v, leN (leB w v) = v % 256 ^ w
 | 0, v => by simp [leB, leN, Nat.mod_one]
 | w + 1, v => by
  simp only [leB, leN]
  rw [leN_leB w, Nat.pow_succ, Nat.mul_comm (256 ^ w), Nat.mod_mul]
theorem leN_lt : ∀ {l : List Nat}, byOk l → leN l < 256 ^ l.length
 | [], _ => by simp [leN]
 | b :: r, h => by
  have h1 := h b (by simp)
  have h2 := leN_lt (l := r) fun x hx => h x (by simp [hx])
  simp only [leN, List.length_cons, Nat.pow_succ]
  omega
theorem leN_snoc : ∀ (l : List Nat) (b : Nat), leN (l ++ [b]) = leN l + 256 ^ l.length * b
 | [], b => by simp [leN]
 | a :: r, b => by
  simp only [List.cons_append, leN, leN_snoc r b, List.length_cons, Nat.pow_succ, Nat.mul_add]
  rw [Nat.mul_comm (256 ^ r.length) 256, Nat.mul_assoc]; omega
def rdN (B : List Nat) (a w : Nat) : Nat := leN ((B.drop a).take w)
def wrN (B : List Nat) (a w v : Nat) : List Nat := B.take a ++ leB w v ++ B.drop (a + w)
theorem wrN_len {B : List Nat} {a w : Nat} (v : Nat) (h : a + w ≤ B.length) : (wrN B a w v).length = B.length := by
 simp only [wrN, List.length_append, List.length_take, List.length_drop, leB_len]; omega
theorem wrN_ok {B : List Nat} (a w v : Nat) (h : byOk B) : byOk (wrN B a w v) := fun b hb => by
 simp only [wrN, List.mem_append] at hb
 rcases hb with (hb | hb) | hb
 ·exact h b (List.mem_of_mem_take hb)
 ·exact leB_ok _ _ b hb
 ·exact h b (List.mem_of_mem_drop hb)
theorem wrN_at {B : List Nat} {a w v : Nat} (h : a + w ≤ B.length) (k : Nat) : (wrN B a w v)[k]? = if a ≤ k ∧ k < a + w then (leB w v)[k - a]? else B[k]? := by
 unfold wrN
 by_cases h1 : k < a
 ·rw [if_neg (by omega), List.append_assoc, List.getElem?_append_left (by rw [List.length_take]; omega), List.getElem?_take_of_lt h1]
 ·by_cases h2 : k < a + w
  ·rw [if_pos (by omega), List.getElem?_append_left (by rw [List.length_append, List.length_take, leB_len]; omega), List.getElem?_append_right (by rw [List.length_take]; omega), List.length_take, Nat.min_eq_left (by omega)]
  ·rw [if_neg (by omega), List.getElem?_append_right (by rw [List.length_append, List.length_take, leB_len]; omega), List.getElem?_drop]
   congr 1
   rw [List.length_append, List.length_take, leB_len]; omega
theorem rdN_lt {B : List Nat} (h : byOk B) (a w : Nat) : rdN B a w < 256 ^ w := by
 have h1 := leN_lt (l := (B.drop a).take w) fun b hb => h b (List.mem_of_mem_drop (List.mem_of_mem_take hb))
 exact Nat.lt_of_lt_of_le h1 (Nat.pow_le_pow_right (by omega) (by rw [List.length_take]; omega))
theorem rd_wr {B : List Nat} {a w : Nat} (v : Nat) (h : a + w ≤ B.length) : rdN (wrN B a w v) a w = v % 256 ^ w := by
 have e : ((wrN B a w v).drop a).take w = leB w v := by
  unfold wrN
  rw [List.append_assoc, List.drop_append, List.length_take, Nat.min_eq_left (by omega), Nat.sub_self, List.drop_of_length_le (by rw [List.length_take]; omega), List.nil_append, List.drop_zero]
  rw [List.take_append, leB_len, Nat.sub_self, List.take_zero, List.append_nil, List.take_of_length_le (by rw [leB_len]; omega)]
 unfold rdN; rw [e, leN_leB]
theorem rd_apart {B : List Nat} {a w b u : Nat} (v : Nat) (h : a + w ≤ B.length) (hd : a + w ≤ b ∨ b + u ≤ a) : rdN (wrN B a w v) b u = rdN B b u := by
 unfold rdN
 congr 1
 apply List.ext_getElem?
 intro k
 rw [List.getElem?_take, List.getElem?_take]
 split
 ·rw [List.getElem?_drop, List.getElem?_drop, wrN_at h, if_neg (by omega)]
 ·rfl
end Go.Proofs.YtakkogdmlbkdaaaGreatDoor.Sl.It
namespace Go.Proofs.YtakkogdmlbkdaaaGreatDoor.Sl.It
attribute [local irreducible] CW Tri OW
@[reducible] def pk15 : List (Nat × Plan) := []
@[reducible] def pk63 : List (Nat × Plan) := [(1, [(0, 0, []), (1, 0, []), (2, 0, []), (3, 0, []), (4, 0, []), (5, 0, []), (6, 0, []), (7, 0, []), (8, 0, []), (9, 0, []), (10, 0, []), (11, 0, []), (12, 0, []), (13, 0, []), (14, 0, []), (15, 0, []), (16, 0, []), (17, 0, []), (18, 0, []), (19, 0, []), (20, 0, []), (21, 0, []), (22, 0, []), (23, 0, []), (24, 0, []), (25, 0, []), (26, 0, []), (27, 0, []), (28, 0, []), (29, 0, []), (30, 0, []), (31, 0, [])])]
theorem wrap_id {x : Int} (h0 : -9223372036854775808 ≤ x) (h1 : x ≤ 9223372036854775807) : IntKind.i64.wrap x = x := by rw [wrap_i64]; split <;> omega
@[reducible] def byC (b : Nat) : List Value := [.int .u8 (b : Int)]
def bys (B : List Nat) : List Value := B.flatMap byC
theorem bys_len (B : List Nat) : (bys B).length = B.length := by unfold bys; rw [flatE_len (sz := 1) (fun _ => rfl)]; omega
theorem bys_at {B : List Nat} {k : Nat} {b : Nat} {X : List Value} (h : B[k]? = some b) : rdv ti5 (bys B ++ X) (0 + k * 1) = some (.int .u8 (b : Int)) :=
 rd_partR (enc := byC) (sz := 1) (fun _ => rfl) h 0 (i := ti5) rfl (by decide) (by omega) (by decide) X
theorem bys_wr {B : List Nat} {k : Nat} {X : List Value} (hk : k < B.length) (b : Nat) : wrv ti5 (bys B ++ X) (0 + k * 1) (.int .u8 (b : Int)) = some (bys (B.set k b) ++ X) :=
 wr_encR (enc := byC) (sz := 1) (fun _ => rfl) (List.getElem?_eq_getElem hk) 0 (i := ti5) (by decide) rfl rfl (by omega) X
@[reducible] def Gr : Type := Nat × List Value
def memA (m : Nat) (g : Gr) (B : List Nat) : List Atom := [pt m [.slice (some ⟨g.1, 0, none⟩) B.length (B.length + g.2.length)], pt g.1 (bys B ++ g.2)]
def holdsV (n : Nat) (at_ sz : Int) : Bool := decide (at_ ≥ 0) && (decide (sz ≥ 0) && (decide (sz ≤ n) && decide (at_ ≤ n - sz)))
def mayV (sz off w : Int) : Int := if ¬ (w = 1 ∨ w = 4 ∨ w = 8) then 40 else if off.tmod w ≠ 0 then 41 else if off < 0 ∨ off > IntKind.i64.wrap (sz - w) then 42 else 0
def accV (n : Nat) (at_ sz off w : Int) : Int := if holdsV n at_ sz then mayV sz off w else 42
theorem size10 (β : Base) (m : Nat) (q : Option Addr) (n c : Nat) : Tri Tryz.prog β 15 [.pointer (some ⟨m, 0, none⟩)] [pt m [.slice q n c]] (fun v L => v = .int .i64 n ∧ L = [pt m [.slice q n c]]) := by
 refine Tri.intro tt_ok Tryz.func15 rfl rfl Tryz.ntmps15 rfl fun F => ?_
 refine G tt_ok pk15 ?_
 exact CW.ret (fin_ret rfl pk_ ⟨rfl, rfl⟩)
set_option maxHeartbeats 1000000 in
theorem holds29 (β : Base) (m : Nat) (q : Option Addr) {n : Nat} (c : Nat) (hn : n ≤ 1000000) (a s : Int) : Tri Tryz.prog β 63 [.pointer (some ⟨m, 0, none⟩), .agg #[.int .i64 a, .int .i64 s]] [pt m [.slice q n c]] (fun v L => v = .bool (holdsV n a s) ∧ L = [pt m [.slice q n c]]) := by
 refine Tri.intro tt_ok Tryz.func63 rfl rfl Tryz.ntmps63 rfl fun F => ?_
 unfold holdsV
 (refine G tt_ok pk63 ?_; repeat (refine G1 tt_ok pk63 ?_; intro _))
 by_cases h1 : a ≥ 0
 ·rw [decide_eq_true h1]
  refine G tt_ok pk63 ?_
  by_cases h2 : s ≥ 0
  ·rw [decide_eq_true h2]
   refine G tt_ok pk63 ?_
   by_cases h3 : s ≤ n
   ·rw [decide_eq_true h3]
    refine G tt_ok pk63 ?_
    rw [wrap_id (show -9223372036854775808 ≤ (n : Int) - s by omega) (by omega)]
    exact CW.ret (fin_ret rfl pk_ ⟨rfl, rfl⟩)
   ·rw [decide_eq_false h3]
    refine G tt_ok pk63 ?_
    exact CW.ret (fin_ret rfl pk_ ⟨rfl, rfl⟩)
  ·rw [decide_eq_false h2]
   refine G tt_ok pk63 ?_
   exact CW.ret (fin_ret rfl pk_ ⟨rfl, rfl⟩)
 ·rw [decide_eq_false h1]
  refine G tt_ok pk63 ?_
  exact CW.ret (fin_ret rfl pk_ ⟨rfl, rfl⟩)
theorem may133 (β : Base) (s off w : Int) : Tri Tryz.prog β 181 [.int .i64 s, .int .i64 off, .int .i64 w] [] (fun v L => v = .int .i64 (mayV s off w) ∧ L = []) := by
 refine Tri.intro tt_ok Tryz.func181 rfl rfl Tryz.ntmps181 rfl fun F => ?_
 unfold mayV
 by_cases h : w = 1 ∨ w = 4 ∨ w = 8
 ·rw [if_neg (fun hn => hn h)]
  rcases h with rfl | rfl | rfl
  ·refine G tt_ok [] ?_
   by_cases h1 : off.tmod 1 = 0
   ·rw [show (off.tmod 1 != 0) = false by simp [h1], if_neg (by simp [h1])]
    refine G tt_ok [] ?_
    by_cases h2 : off < 0
    ·rw [decide_eq_true h2, if_pos (Or.inl h2)]
     refine G tt_ok [] ?_
     exact CW.ret (fin_ret rfl (Ent.dropAll _) ⟨rfl, rfl⟩)
    ·rw [decide_eq_false h2]
     refine G tt_ok [] ?_
     by_cases h3 : off > IntKind.i64.wrap (s - 1)
     ·rw [decide_eq_true h3, if_pos (Or.inr h3)]
      refine G tt_ok [] ?_
      exact CW.ret (fin_ret rfl (Ent.dropAll _) ⟨rfl, rfl⟩)
     ·rw [decide_eq_false h3, if_neg (by omega)]
      refine G tt_ok [] ?_
      exact CW.ret (fin_ret rfl (Ent.dropAll _) ⟨rfl, rfl⟩)
   ·exact absurd (Int.tmod_one off) h1
  ·refine G tt_ok [] ?_
   by_cases h1 : off.tmod 4 = 0
   ·rw [show (off.tmod 4 != 0) = false by simp [h1], if_neg (by simp [h1])]
    refine G tt_ok [] ?_
    by_cases h2 : off < 0
    ·rw [decide_eq_true h2, if_pos (Or.inl h2)]
     refine G tt_ok [] ?_
     exact CW.ret (fin_ret rfl (Ent.dropAll _) ⟨rfl, rfl⟩)
    ·rw [decide_eq_false h2]
     refine G tt_ok [] ?_
     by_cases h3 : off > IntKind.i64.wrap (s - 4)
     ·rw [decide_eq_true h3, if_pos (Or.inr h3)]
      refine G tt_ok [] ?_
      exact CW.ret (fin_ret rfl (Ent.dropAll _) ⟨rfl, rfl⟩)
     ·rw [decide_eq_false h3, if_neg (by omega)]
      refine G tt_ok [] ?_
      exact CW.ret (fin_ret rfl (Ent.dropAll _) ⟨rfl, rfl⟩)
   ·rw [show (off.tmod 4 != 0) = true by simp [h1], if_pos h1]
    refine G tt_ok [] ?_
    exact CW.ret (fin_ret rfl (Ent.dropAll _) ⟨rfl, rfl⟩)
  ·refine G tt_ok [] ?_
   by_cases h1 : off.tmod 8 = 0
   ·rw [show (off.tmod 8 != 0) = false by simp [h1], if_neg (by simp [h1])]
    refine G tt_ok [] ?_
    by_cases h2 : off < 0
    ·rw [decide_eq_true h2, if_pos (Or.inl h2)]
     refine G tt_ok [] ?_
     exact CW.ret (fin_ret rfl (Ent.dropAll _) ⟨rfl, rfl⟩)
    ·rw [decide_eq_false h2]
     refine G tt_ok [] ?_
     by_cases h3 : off > IntKind.i64.wrap (s - 8)
     ·rw [decide_eq_true h3, if_pos (Or.inr h3)]
      refine G tt_ok [] ?_
      exact CW.ret (fin_ret rfl (Ent.dropAll _) ⟨rfl, rfl⟩)
     ·rw [decide_eq_false h3, if_neg (by omega)]
      refine G tt_ok [] ?_
      exact CW.ret (fin_ret rfl (Ent.dropAll _) ⟨rfl, rfl⟩)
   ·rw [show (off.tmod 8 != 0) = true by simp [h1], if_pos h1]
    refine G tt_ok [] ?_
    exact CW.ret (fin_ret rfl (Ent.dropAll _) ⟨rfl, rfl⟩)
 ·rw [if_pos h]
  refine G tt_ok [] ?_
  rw [show (w != 1) = true by simp; omega]
  refine G tt_ok [] ?_
  rw [show (w != 4) = true by simp; omega]
  refine G tt_ok [] ?_
  rw [show (w != 8) = true by simp; omega]
  refine G tt_ok [] ?_
  exact CW.ret (fin_ret rfl (Ent.dropAll _) ⟨rfl, rfl⟩)
theorem acc_in {n : Nat} (hn : n ≤ 1000000) {a s off w : Int} (h : accV n a s off w = 0) : ∃ A W : Nat, a + off = (A : Int) ∧ w = (W : Int) ∧ (W = 1 ∨ W = 4 ∨ W = 8) ∧ A + W ≤ n ∧ 0 ≤ a ∧ 0 ≤ off ∧ s ≤ n ∧ a ≤ n := by
 unfold accV holdsV at h
 split at h
 ·rename_i h1
  simp only [Bool.and_eq_true, decide_eq_true_eq] at h1
  unfold mayV at h
  split at h
  ·omega
  ·rename_i hw
   have hw2 : w = 1 ∨ w = 4 ∨ w = 8 := Classical.not_not.1 hw
   split at h
   ·omega
   ·split at h
    ·omega
    ·rename_i h3 h4
     have h5 : ¬ off < 0 ∧ ¬ off > IntKind.i64.wrap (s - w) := ⟨fun h => h4 (.inl h), fun h => h4 (.inr h)⟩
     rw [wrap_id (by omega) (by omega)] at h5
     exact ⟨(a + off).toNat, w.toNat, by omega, by omega, by omega, by omega, by omega, by omega, by omega, by omega⟩
 ·omega
@[reducible] def pk137 : List (Nat × Plan) := [(6, [(0, 0, []), (1, 0, []), (2, 0, []), (3, 0, []), (4, 0, []), (5, 0, []), (6, 0, []), (7, 0, []), (8, 0, []), (9, 0, []), (10, 0, []), (11, 0, []), (12, 0, []), (13, 0, []), (14, 0, []), (15, 0, []), (16, 0, [])])]
theorem part_ok (β : Base) {m : Nat} {g : Gr} {B : List Nat} (hn : B.length ≤ 1000000) {a s off w : Int} {A W : Nat} (h : accV B.length a s off w = 0) (hA : a + off = (A : Int)) (hW : w = (W : Int)) :
  Tri Tryz.prog β 137 [.pointer (some ⟨m, 0, none⟩), .agg #[.int .i64 a, .int .i64 s], .int .i64 off, .int .i64 w] (memA m g B) (fun v L => v = .tuple #[.slice (some ⟨g.1, A, none⟩) W (B.length + g.2.length - A), .int .i64 0] ∧ L = memA m g B) := by
 obtain ⟨A', W', e1, e2, hw, hle, ha, ho, hs, haa⟩ := acc_in hn h
 obtain rfl : A' = A := by omega
 obtain rfl : W' = W := by omega
 have hh : holdsV B.length a s = true := by unfold accV at h; split at h; assumption; omega
 have hm : mayV s off w = 0 := by unfold accV at h; rw [hh] at h; exact h
 refine Tri.intro tt_ok Tryz.func137 rfl rfl Tryz.ntmps137 rfl fun F => ?_
 unfold memA
 (refine G tt_ok pk137 ?_; repeat (refine G1 tt_ok pk137 ?_; intro _))
 refine ke rfl rfl (holds29 β m (some ⟨g.1, 0, none⟩) (B.length + g.2.length) hn a s) ?_
 rw [hh]
 refine G tt_ok pk137 ?_
 refine ke rfl rfl (may133 β s off w) ?_
 rw [hm]
 refine G tt_ok pk137 ?_
 rw [wrap_id (show -9223372036854775808 ≤ a + off by omega) (by omega), hA, hW, wrap_id (show -9223372036854775808 ≤ (A' : Int) + W' by omega) (by omega)]
 (refine SQ.slc tt_ok rfl rfl (A') (A' + W') (rfl) (by omega) (by omega) (by omega) (by omega) (o' := A') (n' := W') (c' := B.length + g.2.length - A') (by show _ + _ * 1 = _; omega) (by omega) (by omega) ?_)
 refine G tt_ok pk137 ?_
 exact CW.ret (fin_ret rfl pk_ ⟨rfl, rfl⟩)
theorem part_no (β : Base) {m : Nat} {g : Gr} {B : List Nat} (hn : B.length ≤ 1000000) {a s off w : Int} (h : accV B.length a s off w ≠ 0) :
  Tri Tryz.prog β 137 [.pointer (some ⟨m, 0, none⟩), .agg #[.int .i64 a, .int .i64 s], .int .i64 off, .int .i64 w] (memA m g B) (fun v L => v = .tuple #[.slice none 0 0, .int .i64 (accV B.length a s off w)] ∧ L = memA m g B) := by
 refine Tri.intro tt_ok Tryz.func137 rfl rfl Tryz.ntmps137 rfl fun F => ?_
 unfold memA
 (refine G tt_ok pk137 ?_; repeat (refine G1 tt_ok pk137 ?_; intro _))
 refine ke rfl rfl (holds29 β m (some ⟨g.1, 0, none⟩) (B.length + g.2.length) hn a s) ?_
 unfold accV at h ⊢
 cases hh : holdsV B.length a s with
 | false =>
  refine G tt_ok pk137 ?_
  exact CW.ret (fin_ret rfl pk_ ⟨rfl, rfl⟩)
 | true =>
  rw [hh, if_pos rfl] at h
  refine G tt_ok pk137 ?_
  refine ke rfl rfl (may133 β s off w) ?_
  refine G tt_ok pk137 ?_
  rw [show (mayV s off w != 0) = true by simp [h]]
  refine G tt_ok pk137 ?_
  exact CW.ret (fin_ret rfl pk_ ⟨rfl, rfl⟩)
theorem oN {a : Nat} (h : a < 2 ^ 64) : (BitVec.ofInt 64 (a : Int)).toNat = a := by
 rw [BitVec.toNat_ofInt]; have : (2 : Nat) ^ 64 = 18446744073709551616 := rfl; omega
theorem wN {a : Nat} (h : a < 2 ^ 64) : IntKind.u64.wrap (a : Int) = (a : Int) := by rw [wrap_u64]; have : (2 : Nat) ^ 64 = 18446744073709551616 := rfl; omega
theorem and64 {a b : Nat} (ha : a < 2 ^ 64) (hb : b < 2 ^ 64) : IntKind.u64.wrap ((BitVec.ofInt IntKind.u64.bits (a : Int) &&& BitVec.ofInt IntKind.u64.bits (b : Int)).toNat : Int) = ((a &&& b : Nat) : Int) := by
 show IntKind.u64.wrap ((BitVec.ofInt 64 (a : Int) &&& BitVec.ofInt 64 (b : Int)).toNat : Int) = _
 rw [BitVec.toNat_and, oN ha, oN hb, wN (Nat.and_lt_two_pow _ hb)]
theorem or64 {a b : Nat} (ha : a < 2 ^ 64) (hb : b < 2 ^ 64) : IntKind.u64.wrap ((BitVec.ofInt IntKind.u64.bits (a : Int) ||| BitVec.ofInt IntKind.u64.bits (b : Int)).toNat : Int) = ((a ||| b : Nat) : Int) := by
 show IntKind.u64.wrap ((BitVec.ofInt 64 (a : Int) ||| BitVec.ofInt 64 (b : Int)).toNat : Int) = _
 rw [BitVec.toNat_or, oN ha, oN hb, wN (Nat.or_lt_two_pow ha hb)]
theorem pow256 (i : Nat) : 2 ^ (8 * i) = 256 ^ i := by rw [Nat.pow_mul]
theorem p256_lt {i : Nat} (h : i < 8) {b : Nat} (hb : b < 256) : b * 256 ^ i < 2 ^ 64 := by
 have h1 : 256 ^ i ≤ 256 ^ 7 := Nat.pow_le_pow_right (by omega) (by omega)
 have h2 : b * 256 ^ i ≤ 255 * 256 ^ 7 := Nat.mul_le_mul (by omega) h1
 have h3 : 255 * 256 ^ 7 < 2 ^ 64 := by decide
 omega
theorem sh_step {i : Nat} (h : i < 8) {b : Nat} (hb : b < 256) : (if true = true then IntKind.u64.wrap (IntKind.u64.wrap (b : Int) * 2 ^ min (8 * i) IntKind.u64.bits) else (IntKind.u64.wrap (b : Int)).fdiv (2 ^ min (8 * i) IntKind.u64.bits)) = ((b * 256 ^ i : Nat) : Int) := by
 rw [if_pos rfl, wN (by have : (2 : Nat) ^ 64 = 18446744073709551616 := rfl; omega), show min (8 * i) IntKind.u64.bits = 8 * i from Nat.min_eq_left (by show 8 * i ≤ 64; omega)]
 rw [show (b : Int) * 2 ^ (8 * i) = ((b * 256 ^ i : Nat) : Int) by rw [← pow256]; simp, wN (p256_lt h hb)]
theorem or_step {i : Nat} (h : i < 8) {a b : Nat} (ha : a < 256 ^ i) (hb : b < 256) : IntKind.u64.wrap ((BitVec.ofInt IntKind.u64.bits (a : Int) ||| BitVec.ofInt IntKind.u64.bits ((b * 256 ^ i : Nat) : Int)).toNat : Int) = ((a + 256 ^ i * b : Nat) : Int) := by
 have h1 : 256 ^ i ≤ 256 ^ 7 := Nat.pow_le_pow_right (by omega) (by omega)
 have h3 : 256 ^ 7 < 2 ^ 64 := by decide
 rw [or64 (by omega) (p256_lt h hb)]
 congr 1
 rw [Nat.or_comm, Nat.mul_comm b, ← pow256, ← Nat.two_pow_add_eq_or_of_lt (by rw [pow256]; exact ha)]
 omega
theorem leN_take {l : List Nat} {i : Nat} {b : Nat} (h : l[i]? = some b) : leN (l.take (i + 1)) = leN (l.take i) + 256 ^ i * b := by
 have hi := (List.getElem?_eq_some_iff.1 h).1
 rw [List.take_add_one, h]
 show leN (l.take i ++ [b]) = _
 rw [leN_snoc, List.length_take, Nat.min_eq_left (by omega)]
def memRd (B : List Nat) (a s off w : Int) : Nat × Int := if accV B.length a s off w = 0 then (rdN B (a + off).toNat w.toNat, 0) else (0, accV B.length a s off w)
def memWr (B : List Nat) (a s off w : Int) (v : Nat) : List Nat × Int := if accV B.length a s off w = 0 then (wrN B (a + off).toNat w.toNat v, 0) else (B, accV B.length a s off w)
set_option maxHeartbeats 4000000 in
theorem read91 (β : Base) (m : Nat) (g : Gr) (B : List Nat) (hn : B.length ≤ 1000000) (hb : byOk B) (a s off w : Int) :
  Tri Tryz.prog β 129 [.pointer (some ⟨m, 0, none⟩), .agg #[.int .i64 a, .int .i64 s], .int .i64 off, .int .i64 w] (memA m g B) (fun v L => v = .tuple #[.int .u64 ((memRd B a s off w).1 : Int), .int .i64 (memRd B a s off w).2] ∧ L = memA m g B) := by
 refine Tri.intro tt_ok Tryz.func129 rfl rfl Tryz.ntmps129 rfl fun F => ?_
 unfold memRd
 by_cases h : accV B.length a s off w = 0
 ·rw [if_pos h]
  obtain ⟨A, W, e1, e2, hw, hle, ha, ho, hs, haa⟩ := acc_in hn h
  rw [e1, e2, Int.toNat_natCast, Int.toNat_natCast]
  rw [e2] at h
  (refine G tt_ok [] ?_; repeat (refine G1 tt_ok [] ?_; intro _))
  refine ke rfl rfl (part_ok β hn h e1 rfl) ?_
  refine G tt_ok [] ?_
  refine CW.loop (α := Nat) (fun i => i ≤ W) (fun i => [(25, .int .i64 i), (24, .int .i64 W), (23, .slice (some ⟨g.1, A, none⟩) W (B.length + g.2.length - A)), (12, .int .u64 (leN (((B.drop A).take W).take i) : Int)), (11, .int .i64 0)]) (fun i => memA m g B) (fun i => W - i) 0 (by omega) ⟨rfl, rfl, rfl, rfl, rfl, trivial⟩ pk_ ?_
  intro i hi
  unfold memA
  refine G tt_ok [] ?_
  by_cases hlt : i < W
  ·rw [decide_eq_true (show (i : Int) < W by omega)]
   have hwr : IntKind.i64.wrap ((i : Int) + 1) = ((i + 1 : Nat) : Int) := by rw [wrap_i64]; split <;> omega
   obtain ⟨b, hbb⟩ : ∃ b, B[A + i]? = some b := ⟨_, List.getElem?_eq_getElem (by omega)⟩
   have hb1 : ((B.drop A).take W)[i]? = some b := by rw [List.getElem?_take_of_lt hlt, List.getElem?_drop]; exact hbb
   have hb2 := hb b (List.mem_of_getElem? hbb)
   have hacc : leN (((B.drop A).take W).take i) < 256 ^ i := by
    have h1 := leN_lt (l := ((B.drop A).take W).take i) fun x hx => hb x (List.mem_of_mem_drop (List.mem_of_mem_take (List.mem_of_mem_take hx)))
    rw [List.length_take, List.length_take, List.length_drop] at h1
    rwa [show min i (min W (B.length - A)) = i by omega] at h1
   have hst := leN_take hb1
   refine G tt_ok [] ?_
   refine SQ.idx tt_ok rfl rfl i rfl hlt (o' := 0 + (A + i) * 1) (by show A + i * 1 = _; omega) ?_
   (refine SQ.ldA tt_ok rfl rfl (by repeat (first | exact .h | exact .q | apply At.t)) (bys_at hbb) ?_)
   refine G tt_ok [] ?_
   refine SQ.shift tt_ok rfl rfl (8 * i) (by rw [wrap_id (by omega) (by omega)]; omega) (v := ((b * 256 ^ i : Nat) : Int)) (sh_step (by omega) hb2) ?_
   refine G tt_ok [] ?_
   rw [or_step (show i < 8 by omega) hacc hb2]
   refine ⟨i + 1, by omega, by omega, ⟨by rw [← hwr]; rfl, rfl, rfl, by rw [hst]; rfl, rfl, trivial⟩, pk_⟩
  ·rw [decide_eq_false (show ¬ (i : Int) < W by omega)]
   refine G tt_ok [] ?_
   refine CW.exit ?_
   refine G tt_ok [] ?_
   obtain rfl : i = W := by omega
   rw [List.take_take, Nat.min_self]
   exact CW.ret (fin_ret rfl (A := memA m g B) pk_ ⟨rfl, rfl⟩)
 ·rw [if_neg h]
  (refine G tt_ok [] ?_; repeat (refine G1 tt_ok [] ?_; intro _))
  refine ke rfl rfl (part_no β hn h) ?_
  refine G tt_ok [] ?_
  refine CW.loop (α := Unit) (fun _ => True) (fun _ => [(25, .int .i64 0), (24, .int .i64 0), (23, .slice none 0 0), (12, .int .u64 0), (11, .int .i64 (accV B.length a s off w))]) (fun _ => memA m g B) (fun _ => 0) () trivial ⟨rfl, rfl, rfl, rfl, rfl, trivial⟩ pk_ ?_
  intro _ _
  refine G tt_ok [] ?_
  refine CW.exit ?_
  refine G tt_ok [] ?_
  exact CW.ret (fin_ret rfl (A := memA m g B) pk_ ⟨rfl, rfl⟩)
@[reducible] def pk237 : List (Nat × Plan) := [(3, [(0, 0, []), (1, 0, []), (2, 0, []), (3, 0, []), (4, 0, []), (5, 0, []), (6, 0, []), (7, 0, []), (8, 0, []), (9, 0, []), (10, 0, []), (11, 0, []), (12, 1, [])])]
theorem leB_at : ∀ (w v k : Nat), (leB w v)[k]? = if k < w then some (v / 256 ^ k % 256) else none
 | 0, v, k => by simp [leB]
 | w + 1, v, 0 => by simp [leB]
 | w + 1, v, k + 1 => by
  simp only [leB, List.getElem?_cons_succ]
  rw [leB_at w (v / 256) k, Nat.div_div_eq_div_mul, Nat.pow_succ, Nat.mul_comm 256]
  simp
theorem wrN_zero (B : List Nat) (A v : Nat) : wrN B A 0 v = B := by simp [wrN, leB]
theorem wrN_step {B : List Nat} {A i v : Nat} (h : A + i < B.length) : (wrN B A i v).set (A + i) (v / 256 ^ i % 256) = wrN B A (i + 1) v := by
 apply List.ext_getElem?
 intro k
 rw [wrN_at (by omega)]
 by_cases e : A + i = k
 ·subst e
  rw [List.getElem?_set_self (by rw [wrN_len v (by omega)]; exact h), if_pos (by omega), leB_at, show A + i - A = i by omega, if_pos (by omega)]
 ·rw [List.getElem?_set_ne e, wrN_at (by omega)]
  by_cases h1 : A ≤ k ∧ k < A + i
  ·rw [if_pos h1, if_pos (by omega), leB_at, leB_at, if_pos (by omega), if_pos (by omega)]
  ·rw [if_neg h1, if_neg (by omega)]
theorem shr_byte {v i : Nat} (h : i < 8) (hv : v < 2 ^ 64) : IntKind.u8.wrap ((v : Int).fdiv (2 ^ min (8 * i) IntKind.u64.bits)) = ((v / 256 ^ i % 256 : Nat) : Int) := by
 rw [show min (8 * i) IntKind.u64.bits = 8 * i from Nat.min_eq_left (by show 8 * i ≤ 64; omega)]
 rw [show (v : Int).fdiv (2 ^ (8 * i)) = ((v / 256 ^ i : Nat) : Int) by rw [← pow256, Int.fdiv_eq_ediv_of_nonneg _ (by exact Int.le_of_lt (Int.pow_pos (by omega)))]; simp]
 have : ∀ n : Int, IntKind.u8.wrap n = n % 256 := fun n => by unfold IntKind.wrap; simp [IntKind.signed, IntKind.bits]
 rw [this]
 omega
set_option maxHeartbeats 4000000 in
theorem write68 (β : Base) (m : Nat) (g : Gr) (B : List Nat) (hn : B.length ≤ 1000000) (a s off w : Int) (v : Nat) (hv : v < 2 ^ 64) :
  Tri Tryz.prog β 88 [.pointer (some ⟨m, 0, none⟩), .agg #[.int .i64 a, .int .i64 s], .int .i64 off, .int .i64 w, .int .u64 (v : Int)] (memA m g B) (fun u L => u = .int .i64 (memWr B a s off w v).2 ∧ L = memA m g (memWr B a s off w v).1) := by
 refine Tri.intro tt_ok Tryz.func88 rfl rfl Tryz.ntmps88 rfl fun F => ?_
 unfold memWr
 by_cases h : accV B.length a s off w = 0
 ·rw [if_pos h]
  obtain ⟨A, W, e1, e2, hw, hle, ha, ho, hs, haa⟩ := acc_in hn h
  rw [e1, e2, Int.toNat_natCast, Int.toNat_natCast]
  rw [e2] at h
  (refine G tt_ok [] ?_; repeat (refine G1 tt_ok [] ?_; intro _))
  refine ke rfl rfl (part_ok β hn h e1 rfl) ?_
  refine G tt_ok [] ?_
  refine CW.loop (α := Nat) (fun i => i ≤ W) (fun i => [(24, .int .i64 i), (23, .int .i64 W), (11, .slice (some ⟨g.1, A, none⟩) W (B.length + g.2.length - A)), (12, .int .i64 0), (4, .int .u64 (v : Int))]) (fun i => memA m g (wrN B A i v)) (fun i => W - i) 0 (by omega) ⟨rfl, rfl, rfl, rfl, rfl, trivial⟩ (by rw [wrN_zero]; exact pk_) ?_
  intro i hi
  have hwl := wrN_len (B := B) (a := A) (w := i) v (by omega)
  unfold memA
  rw [hwl]
  refine G tt_ok [] ?_
  by_cases hlt : i < W
  ·rw [decide_eq_true (show (i : Int) < W by omega)]
   have hwr : IntKind.i64.wrap ((i : Int) + 1) = ((i + 1 : Nat) : Int) := by rw [wrap_i64]; split <;> omega
   refine G tt_ok [] ?_
   refine SQ.shift tt_ok rfl rfl (8 * i) (by rw [wrap_id (by omega) (by omega)]; omega) rfl ?_
   refine G tt_ok [] ?_
   refine SQ.idx tt_ok rfl rfl i rfl hlt (o' := 0 + (A + i) * 1) (by show A + i * 1 = _; omega) ?_
   refine G tt_ok [] ?_
   rw [if_neg (by simp), shr_byte (by omega) hv]
   (refine SQ.stA tt_ok rfl rfl (by repeat (first | apply Up.h | apply Up.t)) (by rfl) (bys_wr (show A + i < (wrN B A i v).length by omega) _) (by exact trivial) ?_)
   refine G tt_ok [] ?_
   rw [wrN_step (by omega)]
   have hwl2 := wrN_len (B := B) (a := A) (w := i + 1) v (by omega)
   refine ⟨i + 1, by omega, by omega, ⟨by rw [← hwr]; rfl, rfl, rfl, rfl, rfl, trivial⟩, ?_⟩
   rw [hwl2]
   exact pk_
  ·rw [decide_eq_false (show ¬ (i : Int) < W by omega)]
   refine G tt_ok [] ?_
   refine CW.exit ?_
   refine G tt_ok [] ?_
   obtain rfl : i = W := by omega
   refine CW.ret (fin_ret rfl (A := memA m g (wrN B A i v)) ?_ ⟨rfl, rfl⟩)
   unfold memA
   rw [hwl]
   exact pk_
 ·rw [if_neg h]
  (refine G tt_ok [] ?_; repeat (refine G1 tt_ok [] ?_; intro _))
  refine ke rfl rfl (part_no β hn h) ?_
  refine G tt_ok [] ?_
  refine CW.loop (α := Unit) (fun _ => True) (fun _ => [(24, .int .i64 0), (23, .int .i64 0), (11, .slice none 0 0), (12, .int .i64 (accV B.length a s off w))]) (fun _ => memA m g B) (fun _ => 0) () trivial ⟨rfl, rfl, rfl, rfl, trivial⟩ pk_ ?_
  intro _ _
  refine G tt_ok [] ?_
  refine CW.exit ?_
  refine G tt_ok [] ?_
  exact CW.ret (fin_ret rfl (A := memA m g B) pk_ ⟨rfl, rfl⟩)
theorem bys_clr {B : List Nat} {A W : Nat} (h : A + W ≤ B.length) : (bys B).take A ++ List.replicate W ti5.zero ++ (bys B).drop (A + W) = bys (B.take A ++ List.replicate W 0 ++ B.drop (A + W)) := by
 have e : ∀ B : List Nat, bys B = B.map fun (b : Nat) => Value.int .u8 (b : Int) := fun B => by
  unfold bys
  induction B with
  | nil => rfl
  | cons b B ih => rw [List.flatMap_cons, ih]; rfl
 rw [e, e, ← List.map_take, ← List.map_drop, List.map_append, List.map_append, List.map_replicate]; rfl
theorem bys_clrX {B : List Nat} {A W : Nat} {X : List Value} (h : A + W ≤ B.length) : (bys B ++ X).take A ++ List.replicate W ti5.zero ++ (bys B ++ X).drop (A + W) = bys (B.take A ++ List.replicate W 0 ++ B.drop (A + W)) ++ X := by
 have hl := bys_len B
 rw [← bys_clr h, List.take_append_of_le_length (by omega), List.drop_append_of_le_length (by omega), List.append_assoc, List.append_assoc, List.append_assoc]
def wipeN (B : List Nat) (A W : Nat) : List Nat := B.take A ++ List.replicate W 0 ++ B.drop (A + W)
theorem wipe_len {B : List Nat} {A W : Nat} (h : A + W ≤ B.length) : (wipeN B A W).length = B.length := by
 simp only [wipeN, List.length_append, List.length_take, List.length_drop, List.length_replicate]; omega
theorem wipe80 (β : Base) (m : Nat) (g : Gr) (B : List Nat) (hn : B.length ≤ 1000000) {A W : Nat} (hW : 0 < W) (hle : A + W ≤ B.length) :
  Tri Tryz.prog β 237 [.pointer (some ⟨m, 0, none⟩), .agg #[.int .i64 (A : Int), .int .i64 (W : Int)]] (memA m g B) (fun u L => u = .int .i64 0 ∧ L = memA m g (wipeN B A W)) := by
 refine Tri.intro tt_ok Tryz.func237 rfl rfl Tryz.ntmps237 rfl fun F => ?_
 have hh : holdsV B.length A W = true := by simp [holdsV]; omega
 unfold memA
 (refine G tt_ok pk237 ?_; repeat (refine G1 tt_ok pk237 ?_; intro _))
 refine ke rfl rfl (holds29 β m (some ⟨g.1, 0, none⟩) (B.length + g.2.length) hn A W) ?_
 rw [hh]
 refine G tt_ok pk237 ?_
 rw [wrap_id (show -9223372036854775808 ≤ (A : Int) + W by omega) (by omega)]
 (refine SQ.slc tt_ok rfl rfl (A) (A + W) (rfl) (by omega) (by omega) (by omega) (by omega) (o' := A) (n' := W) (c' := B.length + g.2.length - A) (by show _ + _ * 1 = _; omega) (by omega) (by omega) ?_)
 refine G tt_ok pk237 ?_
 refine SQ.clr tt_ok rfl rfl hW (show A + W ≤ (bys B ++ g.2).length by rw [List.length_append, bys_len]; omega) (by repeat (first | apply Up.h | apply Up.t)) (by repeat (first | exact trivial | refine ⟨trivial, ?_⟩ | refine ⟨wk (by repeat (first | exact .h | exact .q | apply At.t)) (by rfl), ?_⟩)) ?_
 rw [bys_clrX hle]
 refine G tt_ok pk237 ?_
 refine CW.ret (fin_ret rfl (A := memA m g (wipeN B A W)) ?_ ⟨rfl, rfl⟩)
 unfold memA
 rw [wipe_len hle]
 exact pk_
theorem made_flat_of {α : Type} {enc : α → List Value} {a : α} (z : Array Value) (hz : enc a = z.toList) (hp : 0 < z.size) : ∀ n, (madeCells z (n * z.size)).toList = (List.replicate n a).flatMap enc
 | 0 => by simp [madeCells]
 | n + 1 => by
  have ih := made_flat_of z hz hp n
  rw [List.replicate_succ', List.flatMap_append, ← ih]
  simp only [madeCells, Array.toList_map, Array.toList_range, List.flatMap_cons, List.flatMap_nil, List.append_nil]
  rw [Nat.add_mul, Nat.one_mul, List.range_add, List.map_append, hz]
  congr 1
  apply List.ext_getElem?
  intro i
  rw [List.map_map]
  by_cases hi : i < z.size
  ·simp [hi, Nat.mod_eq_of_lt hi, getElem!_pos]
  ·simp [hi]
theorem new96 (β : Base) {n : Nat} (hn : n ≤ 131072) : Tri Tryz.prog β 34 [.int .i64 n] [] (fun v L => ∃ m g, v = .tuple #[.pointer (some ⟨m, 0, none⟩), .int .i64 0] ∧ L = memA m g (List.replicate n 0)) := by
 refine Tri.intro tt_ok Tryz.func34 rfl rfl Tryz.ntmps34 rfl fun F => ?_
 refine G tt_ok [] ?_
 rw [decide_eq_false (show ¬ (n : Int) < 0 by omega)]
 refine G tt_ok [] ?_
 rw [decide_eq_false (show ¬ (n : Int) > 131072 by omega)]
 refine G tt_ok [] ?_
 refine SQ.make tt_ok rfl rfl n rfl rfl (by show n * 1 ≤ _; omega) (by show 1 * n ≤ _; omega) (by omega) (fun g => w_ ?_)
 (refine G tt_ok [] ?_; repeat (refine G1 tt_ok [] ?_; intro _))
 rename_i m
 refine CW.ret (fin_ret rfl (A := memA m (g, []) (List.replicate n 0)) ?_ ⟨m, (g, []), rfl, rfl⟩)
 unfold memA
 rw [List.append_nil, List.length_replicate, show bys (List.replicate n 0) = (madeCells ti5.zero.cells (n * ti5.size)).toList from (made_flat_of (enc := byC) (a := 0) ti5.zero.cells rfl (by decide) n).symm]
 exact pk_
def fairV (a s : Int) : Bool := decide (0 ≤ a ∧ a ≤ 1099511627776 ∧ 0 ≤ s ∧ s ≤ 1099511627776)
theorem fair129 (β : Base) (a s : Int) : Tri Tryz.prog β 207 [.agg #[.int .i64 a, .int .i64 s]] [] (fun v L => v = .bool (fairV a s) ∧ L = []) := by
 refine Tri.intro tt_ok Tryz.func207 rfl rfl Tryz.ntmps207 rfl fun F => ?_
 (repeat' (first | refine CW.seq ?_ | refine CW.region tt_ok rfl ?_ | refine CW.block ?_ | refine CW.skip ?_ | refine SQ.nil ?_ | refine SQ.pures1 tt_ok rfl ?_ | refine SQ.pure1 tt_ok rfl ?_ | refine SQ.new _ _ rfl rfl (fun _ => ?_) | refine SQ.ldA tt_ok rfl rfl (by repeat (first | exact .h | exact .q | apply At.t)) (by rfl) ?_ | refine SQ.stA tt_ok rfl rfl (by repeat (first | apply Up.h | apply Up.t)) (by rfl) (by rfl) (by exact trivial) ?_ | refine CW.cond_tt rfl ?_ | refine CW.cond_ff rfl ?_ | ((first | refine CW.cond rfl (fun hc => ?_) (fun hc => ?_) | refine SQ.gsplit rfl (fun hc => ?_) (fun hc => ?_)) <;> try (exfalso; simp_all; done))))
 all_goals (refine CW.ret (fin_ret rfl (Ent.dropAll _) ⟨?_, rfl⟩); simp_all [packV, fairV]; try omega)
def meetV (a s b t : Int) : Bool := fairV a s && (fairV b t && decide (1 ≤ s ∧ 1 ≤ t ∧ (if a < b then b - a < s else a - b < t)))
set_option maxHeartbeats 2000000 in
theorem meet77 (β : Base) (a s b t : Int) : Tri Tryz.prog β 234 [.agg #[.int .i64 a, .int .i64 s], .agg #[.int .i64 b, .int .i64 t]] [] (fun v L => v = .bool (meetV a s b t) ∧ L = []) := by
 refine Tri.intro tt_ok Tryz.func234 rfl rfl Tryz.ntmps234 rfl fun F => ?_
 unfold meetV
 (refine G tt_ok [] ?_; repeat (refine G1 tt_ok [] ?_; intro _))
 refine ke rfl rfl (fair129 β a s) ?_
 cases h1 : fairV a s with
 | false =>
  refine G tt_ok [] ?_
  exact CW.ret (fin_ret rfl (Ent.dropAll _) ⟨rfl, rfl⟩)
 | true =>
  refine G tt_ok [] ?_
  refine ke rfl rfl (fair129 β b t) ?_
  cases h2 : fairV b t with
  | false =>
   refine G tt_ok [] ?_
   exact CW.ret (fin_ret rfl (Ent.dropAll _) ⟨rfl, rfl⟩)
  | true =>
   unfold fairV at h1 h2
   simp only [decide_eq_true_eq] at h1 h2
   have e1 : IntKind.i64.wrap (b - a) = b - a := wrap_id (by omega) (by omega)
   have e2 : IntKind.i64.wrap (a - b) = a - b := wrap_id (by omega) (by omega)
   (repeat' (first | refine CW.seq ?_ | refine CW.region tt_ok rfl ?_ | refine CW.block ?_ | refine CW.skip ?_ | refine SQ.nil ?_ | refine SQ.pures1 tt_ok rfl ?_ | refine SQ.pure1 tt_ok rfl ?_ | refine SQ.new _ _ rfl rfl (fun _ => ?_) | refine SQ.ldA tt_ok rfl rfl (by repeat (first | exact .h | exact .q | apply At.t)) (by rfl) ?_ | refine SQ.stA tt_ok rfl rfl (by repeat (first | apply Up.h | apply Up.t)) (by rfl) (by rfl) (by exact trivial) ?_ | refine CW.cond_tt rfl ?_ | refine CW.cond_ff rfl ?_ | ((first | refine CW.cond rfl (fun hc => ?_) (fun hc => ?_) | refine SQ.gsplit rfl (fun hc => ?_) (fun hc => ?_)) <;> try (exfalso; simp_all; done))))
   all_goals (refine CW.ret (fin_ret rfl (Ent.dropAll _) ⟨?_, rfl⟩); simp_all [packV]; try omega)
def partV (a s at_ z : Int) : (Int × Int) × Int := if fairV a s ∧ 0 ≤ at_ ∧ 0 ≤ z ∧ z ≤ s ∧ at_ ≤ s - z then ((a + at_, z), 0) else ((0, 0), 42)
set_option maxHeartbeats 2000000 in
theorem part160 (β : Base) (a s at_ z : Int) : Tri Tryz.prog β 175 [.agg #[.int .i64 a, .int .i64 s], .int .i64 at_, .int .i64 z] [] (fun v L => v = .tuple #[.agg #[.int .i64 (partV a s at_ z).1.1, .int .i64 (partV a s at_ z).1.2], .int .i64 (partV a s at_ z).2] ∧ L = []) := by
 refine Tri.intro tt_ok Tryz.func175 rfl rfl Tryz.ntmps175 rfl fun F => ?_
 unfold partV
 (refine G tt_ok [] ?_; repeat (refine G1 tt_ok [] ?_; intro _))
 refine ke rfl rfl (fair129 β a s) ?_
 cases h1 : fairV a s with
 | false =>
  refine G tt_ok [] ?_
  exact CW.ret (fin_cells [_, _] ⟨cl_, rfl, trivial⟩ (Ent.dropAll _) ⟨rfl, rfl⟩)
 | true =>
  unfold fairV at h1
  simp only [decide_eq_true_eq] at h1
  by_cases h : 0 ≤ at_ ∧ 0 ≤ z ∧ z ≤ s ∧ at_ ≤ s - z
  ·rw [if_pos ⟨rfl, h⟩]
   refine G tt_ok [] ?_
   rw [decide_eq_false (show ¬ at_ < 0 by omega)]
   refine G tt_ok [] ?_
   rw [decide_eq_false (show ¬ z < 0 by omega)]
   refine G tt_ok [] ?_
   rw [decide_eq_false (show ¬ z > s by omega)]
   refine G tt_ok [] ?_
   rw [wrap_id (show -9223372036854775808 ≤ s - z by omega) (by omega), decide_eq_false (show ¬ at_ > s - z by omega)]
   refine G tt_ok [] ?_
   rw [wrap_id (show -9223372036854775808 ≤ a + at_ by omega) (by omega)]
   exact CW.ret (fin_cells [_, _] ⟨cl_, rfl, trivial⟩ (Ent.dropAll _) ⟨rfl, rfl⟩)
  ·rw [if_neg (fun hn => h hn.2)]
   refine G tt_ok [] ?_
   by_cases g1 : at_ < 0
   ·rw [decide_eq_true g1]
    refine G tt_ok [] ?_
    exact CW.ret (fin_cells [_, _] ⟨cl_, rfl, trivial⟩ (Ent.dropAll _) ⟨rfl, rfl⟩)
   rw [decide_eq_false g1]
   refine G tt_ok [] ?_
   by_cases g2 : z < 0
   ·rw [decide_eq_true g2]
    refine G tt_ok [] ?_
    exact CW.ret (fin_cells [_, _] ⟨cl_, rfl, trivial⟩ (Ent.dropAll _) ⟨rfl, rfl⟩)
   rw [decide_eq_false g2]
   refine G tt_ok [] ?_
   by_cases g3 : z > s
   ·rw [decide_eq_true g3]
    refine G tt_ok [] ?_
    exact CW.ret (fin_cells [_, _] ⟨cl_, rfl, trivial⟩ (Ent.dropAll _) ⟨rfl, rfl⟩)
   rw [decide_eq_false g3]
   refine G tt_ok [] ?_
   rw [wrap_id (show -9223372036854775808 ≤ s - z by omega) (by omega), decide_eq_true (show at_ > s - z by omega)]
   refine G tt_ok [] ?_
   exact CW.ret (fin_cells [_, _] ⟨cl_, rfl, trivial⟩ (Ent.dropAll _) ⟨rfl, rfl⟩)
@[reducible] def pk146 : List (Nat × Plan) := []
@[reducible] def pk128 : List (Nat × Plan) := [(9, [(0, 0, []), (1, 0, []), (2, 0, []), (3, 0, []), (4, 0, []), (5, 0, []), (6, 0, []), (7, 1, [2]), (8, 0, []), (9, 0, []), (10, 0, []), (11, 0, []), (12, 0, [])]), (12, [(0, 0, []), (1, 0, []), (2, 0, []), (3, 0, []), (4, 0, []), (5, 0, []), (6, 0, []), (7, 0, []), (8, 0, []), (9, 1, []), (10, 0, [])])]
theorem and_mod {a k : Nat} (ha : a < 2 ^ 64) (hk : k ≤ 63) : IntKind.u64.wrap ((BitVec.ofInt IntKind.u64.bits (a : Int) &&& BitVec.ofInt IntKind.u64.bits ((2 ^ k - 1 : Nat) : Int)).toNat : Int) = ((a % 2 ^ k : Nat) : Int) := by
 have h1 : 2 ^ k ≤ 2 ^ 63 := Nat.pow_le_pow_right (by omega) hk
 have h2 : (2 : Nat) ^ 63 < 2 ^ 64 := by decide
 have h3 := Nat.one_le_two_pow (n := k)
 rw [and64 ha (by omega), Nat.and_two_pow_sub_one_eq_mod]
theorem fdivN (a k : Nat) (hk : k ≤ 64) : (a : Int).fdiv (2 ^ min k IntKind.u64.bits) = ((a / 2 ^ k : Nat) : Int) := by
 rw [show min k IntKind.u64.bits = k from Nat.min_eq_left hk, Int.fdiv_eq_ediv_of_nonneg _ (by exact Int.le_of_lt (Int.pow_pos (by omega)))]
 simp
theorem right97 (β : Base) (m : Nat) (q : Option Addr) {n : Nat} (c : Nat) (hn : n ≤ 1000000) {a s p : Int} (hp : p = 0 ∨ p = 64) (hh : holdsV n a s = true) : Tri Tryz.prog β 146 [.agg #[.int .i64 a, .int .i64 s, .int .i64 p], .pointer (some ⟨m, 0, none⟩)] [pt m [.slice q n c]] (fun v L => v = .int .i64 0 ∧ L = [pt m [.slice q n c]]) := by
 refine Tri.intro tt_ok Tryz.func146 rfl rfl Tryz.ntmps146 rfl fun F => ?_
 (refine G tt_ok pk146 ?_; repeat (refine G1 tt_ok pk146 ?_; intro _))
 refine ke rfl rfl (holds29 β m q c hn a s) ?_
 rw [hh]
 rcases hp with rfl | rfl
 ·refine G tt_ok pk146 ?_
  exact CW.ret (fin_ret rfl pk_ ⟨rfl, rfl⟩)
 ·refine G tt_ok pk146 ?_
  exact CW.ret (fin_ret rfl pk_ ⟨rfl, rfl⟩)
def entA (n : Nat) (a s k : Int) : Option Nat := if fairV a s = true ∧ holdsV n a s = true ∧ 0 ≤ k ∧ 8 ≤ s ∧ k * 8 ≤ s - 8 then some (a + k * 8).toNat else none
def slotA (B : List Nat) (a s p id : Int) : Option Nat := if id < 0 ∨ 131072 ≤ id then none else if p = 0 then entA B.length a s id else
 if (memRd B a s (id / 8 * 8) 8).2 = 0 ∧ 2 ^ 63 ≤ (memRd B a s (id / 8 * 8) 8).1 then entA B.length ((memRd B a s (id / 8 * 8) 8).1 % 2 ^ 32 : Nat) 64 (id % 8) else none
theorem entA_some {n : Nat} {a s k : Int} {A : Nat} (h : entA n a s k = some A) : (A : Int) = a + k * 8 ∧ A + 8 ≤ n ∧ 0 ≤ a ∧ 0 ≤ k ∧ k * 8 ≤ s - 8 ∧ a + s ≤ n := by
 unfold entA at h
 split at h
 ·rename_i h1
  obtain ⟨h1, h2, h3, h4, h5⟩ := h1
  unfold holdsV at h2
  simp only [Bool.and_eq_true, decide_eq_true_eq] at h2
  simp only [Option.some.injEq] at h
  omega
 ·cases h
theorem slotA_in {B : List Nat} {a s p id : Int} {A : Nat} (h : slotA B a s p id = some A) : A + 8 ≤ B.length := by
 unfold slotA at h
 split at h
 ·cases h
 ·split at h
  ·exact (entA_some h).2.1
  ·split at h
   ·exact (entA_some h).2.1
   ·cases h
theorem memRd_lt {B : List Nat} (hb : byOk B) (a s off : Int) : (memRd B a s off 8).1 < 2 ^ 64 := by
 unfold memRd
 split
 ·have := rdN_lt hb (a + off).toNat (8 : Int).toNat
  have e : (256 : Nat) ^ (8 : Int).toNat = 2 ^ 64 := rfl
  rw [e] at this; exact this
 ·exact Nat.two_pow_pos 64
set_option maxHeartbeats 8000000 in
theorem slot128 (β : Base) (m : Nat) (g : Gr) (B : List Nat) (hn : B.length ≤ 1000000) (hb : byOk B) {a s p : Int} (hp : p = 0 ∨ p = 64) (hh : holdsV B.length a s = true) (id : Int) :
  Tri Tryz.prog β 128 [.agg #[.int .i64 a, .int .i64 s, .int .i64 p], .pointer (some ⟨m, 0, none⟩), .int .i64 id] (memA m g B)
   (fun v L => v = (match slotA B a s p id with | some A => .tuple #[.agg #[.int .i64 (A : Int), .int .i64 8], .int .i64 0] | none => .tuple #[.agg #[.int .i64 0, .int .i64 0], .int .i64 180]) ∧ L = memA m g B) := by
 refine Tri.intro tt_ok Tryz.func128 rfl rfl Tryz.ntmps128 rfl fun F => ?_
 unfold slotA
 (refine G tt_ok pk128 ?_; repeat (refine G1 tt_ok pk128 ?_; intro _))
 refine ke rfl rfl (right97 β m (some ⟨g.1, 0, none⟩) (B.length + g.2.length) hn hp hh) ?_
 refine G tt_ok pk128 ?_
 by_cases h1 : id < 0
 ·rw [decide_eq_true h1, if_pos (Or.inl h1)]
  refine G tt_ok pk128 ?_
  exact CW.ret (fin_cells [_, _] ⟨cl_, rfl, trivial⟩ (A := memA m g B) pk_ ⟨rfl, rfl⟩)
 rw [decide_eq_false h1]
 refine G tt_ok pk128 ?_
 by_cases h2 : id ≥ 131072
 ·rw [decide_eq_true h2, if_pos (Or.inr h2)]
  refine G tt_ok pk128 ?_
  exact CW.ret (fin_cells [_, _] ⟨cl_, rfl, trivial⟩ (A := memA m g B) pk_ ⟨rfl, rfl⟩)
 rw [decide_eq_false h2, if_neg (by omega)]
 rcases hp with rfl | rfl
 ·(refine G tt_ok pk128 ?_; repeat (refine G1 tt_ok pk128 ?_; intro _))
  rw [if_pos rfl]
  rw [wrap_id (show -9223372036854775808 ≤ id * 8 by omega) (by omega)]
  refine ke rfl rfl (part160 β a s (id * 8) 8) ?_
  unfold partV entA
  by_cases h3 : fairV a s = true ∧ 0 ≤ id * 8 ∧ (0 : Int) ≤ 8 ∧ 8 ≤ s ∧ id * 8 ≤ s - 8
  ·rw [if_pos h3]
   (refine G tt_ok pk128 ?_; repeat (refine G1 tt_ok pk128 ?_; intro _))
   refine ke rfl rfl (holds29 β m (some ⟨g.1, 0, none⟩) (B.length + g.2.length) hn a s) ?_
   cases hh2 : holdsV B.length a s with
   | true =>
    rw [if_pos ⟨h3.1, rfl, by omega, h3.2.2.2.1, h3.2.2.2.2⟩]
    refine G tt_ok pk128 ?_
    have hfa := h3.1
    unfold fairV at hfa
    simp only [decide_eq_true_eq] at hfa
    have e : (((a + id * 8).toNat : Nat) : Int) = a + id * 8 := by omega
    exact CW.ret (fin_cells [_, _] ⟨cl_, rfl, trivial⟩ (A := memA m g B) pk_ ⟨by show _ = Value.tuple #[.agg #[.int .i64 (((a + id * 8).toNat : Nat) : Int), .int .i64 8], .int .i64 0]; rw [e]; rfl, rfl⟩)
   | false =>
    rw [if_neg (fun hz => by have := hz.2.1; cases this)]
    refine G tt_ok pk128 ?_
    exact CW.ret (fin_cells [_, _] ⟨cl_, rfl, trivial⟩ (A := memA m g B) pk_ ⟨rfl, rfl⟩)
  ·rw [if_neg h3, if_neg (fun hz => h3 ⟨hz.1, by omega, by omega, hz.2.2.2.1, hz.2.2.2.2⟩)]
   (refine G tt_ok pk128 ?_; repeat (refine G1 tt_ok pk128 ?_; intro _))
   exact CW.ret (fin_cells [_, _] ⟨cl_, rfl, trivial⟩ (A := memA m g B) pk_ ⟨rfl, rfl⟩)
 ·(refine G tt_ok pk128 ?_; repeat (refine G1 tt_ok pk128 ?_; intro _))
  rw [if_neg (by omega), show IntKind.i64.wrap (Int.tdiv 64 8) = 8 from rfl, show IntKind.i64.wrap (IntKind.i64.wrap (id.tdiv 8) * 8) = id / 8 * 8 by rw [Int.tdiv_eq_ediv_of_nonneg (by omega), wrap_id (show -9223372036854775808 ≤ id / 8 by omega) (by omega), wrap_id (by omega) (by omega)]]
  refine ke rfl rfl (read91 β m g B hn hb a s (id / 8 * 8) 8) ?_
  have hx := memRd_lt hb a s (id / 8 * 8)
  generalize memRd B a s (id / 8 * 8) 8 = z at hx ⊢
  obtain ⟨x, e⟩ := z
  simp only at hx ⊢
  refine G tt_ok pk128 ?_
  by_cases h4 : e = 0
  ·subst h4
   refine G tt_ok pk128 ?_
   rw [fdivN x 63 (by omega)]
   by_cases h5 : 2 ^ 63 ≤ x
   ·rw [if_pos ⟨rfl, h5⟩, show (((x / 2 ^ 63 : Nat) : Int) == 0) = false by simp; omega]
    refine G tt_ok pk128 ?_
    rw [show IntKind.i64.wrap (IntKind.u64.wrap ((BitVec.ofInt IntKind.u64.bits (x : Int) &&& BitVec.ofInt IntKind.u64.bits 4294967295).toNat : Int)) = ((x % 2 ^ 32 : Nat) : Int) by rw [show (4294967295 : Int) = ((2 ^ 32 - 1 : Nat) : Int) from rfl, and_mod hx (by omega), wrap_id (by omega) (by omega)], show id.tmod 8 = id % 8 from Int.tmod_eq_emod_of_nonneg (by omega)]
    rw [wrap_id (show -9223372036854775808 ≤ (id % 8) * 8 by omega) (by omega)]
    refine ke rfl rfl (part160 β ((x % 2 ^ 32 : Nat) : Int) 64 ((id % 8) * 8) 8) ?_
    unfold partV entA
    by_cases h3 : fairV ((x % 2 ^ 32 : Nat) : Int) 64 = true ∧ 0 ≤ (id % 8) * 8 ∧ (0 : Int) ≤ 8 ∧ (8 : Int) ≤ 64 ∧ (id % 8) * 8 ≤ (64 : Int) - 8
    ·rw [if_pos h3]
     (refine G tt_ok pk128 ?_; repeat (refine G1 tt_ok pk128 ?_; intro _))
     refine ke rfl rfl (holds29 β m (some ⟨g.1, 0, none⟩) (B.length + g.2.length) hn ((x % 2 ^ 32 : Nat) : Int) 64) ?_
     cases hh2 : holdsV B.length ((x % 2 ^ 32 : Nat) : Int) 64 with
     | true =>
      rw [if_pos ⟨h3.1, rfl, by omega, h3.2.2.2.1, h3.2.2.2.2⟩]
      refine G tt_ok pk128 ?_
      have hfa := h3.1
      unfold fairV at hfa
      simp only [decide_eq_true_eq] at hfa
      have e : (((((x % 2 ^ 32 : Nat) : Int) + (id % 8) * 8).toNat : Nat) : Int) = ((x % 2 ^ 32 : Nat) : Int) + (id % 8) * 8 := by omega
      exact CW.ret (fin_cells [_, _] ⟨cl_, rfl, trivial⟩ (A := memA m g B) pk_ ⟨by show _ = Value.tuple #[.agg #[.int .i64 (((((x % 2 ^ 32 : Nat) : Int) + (id % 8) * 8).toNat : Nat) : Int), .int .i64 8], .int .i64 0]; rw [e]; rfl, rfl⟩)
     | false =>
      rw [if_neg (fun hz => by have := hz.2.1; cases this)]
      refine G tt_ok pk128 ?_
      exact CW.ret (fin_cells [_, _] ⟨cl_, rfl, trivial⟩ (A := memA m g B) pk_ ⟨rfl, rfl⟩)
    ·rw [if_neg h3, if_neg (fun hz => h3 ⟨hz.1, by omega, by omega, hz.2.2.2.1, hz.2.2.2.2⟩)]
     (refine G tt_ok pk128 ?_; repeat (refine G1 tt_ok pk128 ?_; intro _))
     exact CW.ret (fin_cells [_, _] ⟨cl_, rfl, trivial⟩ (A := memA m g B) pk_ ⟨rfl, rfl⟩)
   ·rw [if_neg (fun hz => h5 hz.2), show (((x / 2 ^ 63 : Nat) : Int) == 0) = true by simp; omega]
    refine G tt_ok pk128 ?_
    exact CW.ret (fin_cells [_, _] ⟨cl_, rfl, trivial⟩ (A := memA m g B) pk_ ⟨rfl, rfl⟩)
  ·rw [if_neg (fun hz => h4 hz.1), show (e != 0) = true by simp [h4]]
   refine G tt_ok pk128 ?_
   exact CW.ret (fin_cells [_, _] ⟨cl_, rfl, trivial⟩ (A := memA m g B) pk_ ⟨rfl, rfl⟩)
abbrev Dv := Bool × Int × Int
abbrev Rt := Int × Int × Bool
def okDv (d : Dv) : Prop := 0 ≤ d.2.1 ∧ d.2.1 ≤ 31 ∧ 0 ≤ d.2.2 ∧ d.2.2 ≤ 281474976710656
def evN (b : Int) : Int := ((2 ^ (b.toNat + 1) : Nat) : Int)
theorem evN_le {b : Int} (h1 : b ≤ 31) : 2 ≤ evN b ∧ evN b ≤ 4294967296 := by
 have h2 : 2 ^ (b.toNat + 1) ≤ 2 ^ 32 := Nat.pow_le_pow_right (by omega) (by omega)
 have h3 : 2 ^ 1 ≤ 2 ^ (b.toNat + 1) := Nat.pow_le_pow_right (by omega) (by omega)
 have e : (2 : Nat) ^ 32 = 4294967296 := rfl
 unfold evN; omega
theorem acc_slot {n A : Nat} (h : A + 8 ≤ n) : accV n A 8 0 8 = 0 := by
 have h1 : holdsV n A 8 = true := by simp [holdsV]; omega
 unfold accV
 rw [h1, if_pos rfl]
 rfl
theorem memRd_slot {B : List Nat} {A : Nat} (h : A + 8 ≤ B.length) : memRd B A 8 0 8 = (rdN B A 8, 0) := by
 unfold memRd
 rw [if_pos (acc_slot h)]
 simp
theorem memWr_slot {B : List Nat} {A : Nat} (h : A + 8 ≤ B.length) (v : Nat) : memWr B A 8 0 8 v = (wrN B A 8 v, 0) := by
 unfold memWr
 rw [if_pos (acc_slot h)]
 simp
theorem rd_slot (β : Base) (m : Nat) (g : Gr) (B : List Nat) (hn : B.length ≤ 1000000) (hb : byOk B) {A : Nat} (h : A + 8 ≤ B.length) :
  Tri Tryz.prog β 129 [.pointer (some ⟨m, 0, none⟩), .agg #[.int .i64 (A : Int), .int .i64 8], .int .i64 0, .int .i64 8] (memA m g B) (fun v L => v = .tuple #[.int .u64 (rdN B A 8 : Int), .int .i64 0] ∧ L = memA m g B) := by
 have := read91 β m g B hn hb A 8 0 8
 rw [memRd_slot h] at this; exact this
theorem wr_slot (β : Base) (m : Nat) (g : Gr) (B : List Nat) (hn : B.length ≤ 1000000) {A : Nat} (h : A + 8 ≤ B.length) (v : Nat) (hv : v < 2 ^ 64) :
  Tri Tryz.prog β 88 [.pointer (some ⟨m, 0, none⟩), .agg #[.int .i64 (A : Int), .int .i64 8], .int .i64 0, .int .i64 8, .int .u64 (v : Int)] (memA m g B) (fun u L => u = .int .i64 0 ∧ L = memA m g (wrN B A 8 v)) := by
 have := write68 β m g B hn A 8 0 8 v hv
 rw [memWr_slot h] at this; exact this
theorem rd8_lt {B : List Nat} (hb : byOk B) (A : Nat) : rdN B A 8 < 2 ^ 64 := by
 have := rdN_lt hb A 8
 have e : (256 : Nat) ^ 8 = 2 ^ 64 := rfl
 rw [e] at this; exact this
theorem flag98 (β : Base) (b : Bool) : Tri Tryz.prog β 147 [.bool b] [] (fun v L => v = .int .u64 (((if b then 2 ^ 63 else 0 : Nat)) : Int) ∧ L = []) := by
 refine Tri.intro tt_ok Tryz.func147 rfl rfl Tryz.ntmps147 rfl fun F => ?_
 cases b
 ·refine G tt_ok [] ?_
  exact CW.ret (fin_ret rfl (Ent.dropAll _) ⟨rfl, rfl⟩)
 ·refine G tt_ok [] ?_
  exact CW.ret (fin_ret rfl (Ent.dropAll _) ⟨rfl, rfl⟩)
theorem events76 (β : Base) (v : Bool) {b : Int} (a : Int) (h0 : 0 ≤ b) (h1 : b ≤ 31) : Tri Tryz.prog β 229 [.agg #[.bool v, .int .i64 b, .int .i64 a]] [] (fun v L => v = .int .i64 (evN b) ∧ L = []) := by
 refine Tri.intro tt_ok Tryz.func229 rfl rfl Tryz.ntmps229 rfl fun F => ?_
 (refine G tt_ok [] ?_; repeat (refine G1 tt_ok [] ?_; intro _))
 rw [show (if 0 < (if 31 < b then 31 else b) then (if 31 < b then 31 else b) else 0) = b by split <;> split <;> omega]
 have hle := (evN_le h1)
 refine SQ.shift tt_ok rfl rfl b.toNat (by omega) (v := evN b) (by
  rw [if_pos rfl, show min b.toNat IntKind.i64.bits = b.toNat from Nat.min_eq_left (by show b.toNat ≤ 64; omega)]
  have e : (2 : Int) * 2 ^ b.toNat = evN b := by unfold evN; rw [Nat.pow_succ]; simp; omega
  rw [e, wrap_id (by omega) (by omega)]) ?_
 refine G tt_ok [] ?_
 exact CW.ret (fin_ret rfl (Ent.dropAll _) ⟨rfl, rfl⟩)
def evA (n : Nat) (d : Dv) (ev : Int) : Option Nat × Int := if d.1 = false ∨ ev < 0 ∨ ev ≥ evN d.2.1 then (none, 182) else if holdsV n (d.2.2 + ev * 8) 8 = true then (some (d.2.2 + ev * 8).toNat, 0) else (none, 180)
theorem evA_some {n : Nat} {d : Dv} {ev : Int} {A : Nat} {e : Int} (hd : okDv d) (h : evA n d ev = (some A, e)) : e = 0 ∧ (A : Int) = d.2.2 + ev * 8 ∧ A + 8 ≤ n ∧ 0 ≤ ev ∧ ev < evN d.2.1 ∧ d.1 = true := by
 unfold evA at h
 split at h
 ·cases h
 ·split at h
  ·rename_i h1 h2
   unfold holdsV at h2
   simp only [Bool.and_eq_true, decide_eq_true_eq] at h2
   simp only [Prod.mk.injEq, Option.some.injEq] at h
   have h3 : ¬ d.1 = false := fun h => h1 (.inl h)
   have h4 : ¬ ev < 0 := fun h => h1 (.inr (.inl h))
   have h5 : ¬ ev ≥ evN d.2.1 := fun h => h1 (.inr (.inr h))
   refine ⟨h.2.symm, by omega, by omega, by omega, by omega, by simpa using h3⟩
  ·cases h
def evR (n : Nat) (d : Dv) (ev : Int) : Value := match evA n d ev with
 | (some A, e) => .tuple #[.agg #[.int .i64 (A : Int), .int .i64 8], .int .i64 e]
 | (none, e) => .tuple #[.agg #[.int .i64 0, .int .i64 0], .int .i64 e]
set_option maxHeartbeats 4000000 in
theorem event131 (β : Base) (m : Nat) (q : Option Addr) {n : Nat} (c : Nat) (hn : n ≤ 1000000) (d : Dv) (hd : okDv d) (ev : Int) : Tri Tryz.prog β 210 [.agg #[.bool d.1, .int .i64 d.2.1, .int .i64 d.2.2], .pointer (some ⟨m, 0, none⟩), .int .i64 ev] [pt m [.slice q n c]] (fun v L => v = evR n d ev ∧ L = [pt m [.slice q n c]]) := by
 obtain ⟨dv, b, a⟩ := d
 obtain ⟨hd1, hd2, hd3, hd4⟩ := hd
 simp only at hd1 hd2 hd3 hd4
 refine Tri.intro tt_ok Tryz.func210 rfl rfl Tryz.ntmps210 rfl fun F => ?_
 unfold evR evA
 simp only
 cases dv with
 | false =>
  (refine G tt_ok [] ?_; repeat (refine G1 tt_ok [] ?_; intro _))
  exact CW.ret (fin_cells [_, _] ⟨cl_, rfl, trivial⟩ (A := [pt m [.slice q n c]]) pk_ ⟨rfl, rfl⟩)
 | true =>
  (refine G tt_ok [] ?_; repeat (refine G1 tt_ok [] ?_; intro _))
  by_cases h1 : ev < 0
  ·rw [decide_eq_true h1, if_pos (Or.inr (Or.inl h1))]
   refine G tt_ok [] ?_
   exact CW.ret (fin_cells [_, _] ⟨cl_, rfl, trivial⟩ (A := [pt m [.slice q n c]]) pk_ ⟨rfl, rfl⟩)
  rw [decide_eq_false h1]
  refine G tt_ok [] ?_
  refine ke rfl rfl (events76 β true a hd1 hd2) ?_
  refine G tt_ok [] ?_
  by_cases h2 : ev ≥ evN b
  ·rw [decide_eq_true h2, if_pos (Or.inr (Or.inr h2))]
   refine G tt_ok [] ?_
   exact CW.ret (fin_cells [_, _] ⟨cl_, rfl, trivial⟩ (A := [pt m [.slice q n c]]) pk_ ⟨rfl, rfl⟩)
  have hle := (evN_le hd2).2
  rw [decide_eq_false h2, if_neg (by rintro (h | h | h); cases h; exact h1 h; exact h2 h)]
  (refine G tt_ok [] ?_; repeat (refine G1 tt_ok [] ?_; intro _))
  rw [wrap_id (show -9223372036854775808 ≤ ev * 8 by omega) (by omega), wrap_id (show -9223372036854775808 ≤ a + ev * 8 by omega) (by omega)]
  refine ke rfl rfl (holds29 β m q c hn (a + ev * 8) 8) ?_
  cases h3 : holdsV n (a + ev * 8) 8 with
  | true =>
   refine G tt_ok [] ?_
   have e : (((a + ev * 8).toNat : Nat) : Int) = a + ev * 8 := by omega
   exact CW.ret (fin_cells [_, _] ⟨cl_, rfl, trivial⟩ (A := [pt m [.slice q n c]]) pk_ ⟨by show _ = Value.tuple #[.agg #[.int .i64 (((a + ev * 8).toNat : Nat) : Int), .int .i64 8], .int .i64 0]; rw [e]; rfl, rfl⟩)
  | false =>
   refine G tt_ok [] ?_
   exact CW.ret (fin_cells [_, _] ⟨cl_, rfl, trivial⟩ (A := [pt m [.slice q n c]]) pk_ ⟨rfl, rfl⟩)
def routeV (x : Nat) : Rt := if x < 2 ^ 63 then (0, 0, false) else (((x % 2 ^ 32 : Nat) : Int), ((x / 2 ^ 32 % 2 ^ 16 : Nat) : Int), true)
def routeN (c n : Int) : Nat := 2 ^ 63 + c.toNat * 2 ^ 32 + n.toNat
def devRt (B : List Nat) (d : Dv) (ev : Int) : Rt × Int := match evA B.length d ev with
 | (some A, _) => (routeV (rdN B A 8), 0)
 | (none, e) => ((0, 0, false), e)
def devSet (B : List Nat) (d : Dv) (ev : Int) (r : Rt) : List Nat × Int := match evA B.length d ev with
 | (some A, _) => if r.2.2 = false then (wrN B A 8 0, 0) else if 0 ≤ r.1 ∧ r.1 < 4294967296 ∧ 0 ≤ r.2.1 ∧ r.2.1 < 65536 then (wrN B A 8 (routeN r.2.1 r.1), 0) else (B, 1)
 | (none, e) => (B, e)
theorem evA_err {n : Nat} {d : Dv} {ev : Int} {e : Int} (h : evA n d ev = (none, e)) : e ≠ 0 := by
 unfold evA at h
 split at h
 ·cases h; decide
 ·split at h
  ·cases h
  ·cases h; decide
set_option maxHeartbeats 4000000 in
theorem route84 (β : Base) (m : Nat) (g : Gr) (B : List Nat) (hn : B.length ≤ 1000000) (hb : byOk B) (d : Dv) (hd : okDv d) (ev : Int) : Tri Tryz.prog β 193 [.agg #[.bool d.1, .int .i64 d.2.1, .int .i64 d.2.2], .pointer (some ⟨m, 0, none⟩), .int .i64 ev] (memA m g B)
  (fun v L => v = .tuple #[.agg #[.int .i64 (devRt B d ev).1.1, .int .i64 (devRt B d ev).1.2.1, .bool (devRt B d ev).1.2.2], .int .i64 (devRt B d ev).2] ∧ L = memA m g B) := by
 refine Tri.intro tt_ok Tryz.func193 rfl rfl Tryz.ntmps193 rfl fun F => ?_
 unfold devRt
 (refine G tt_ok [] ?_; repeat (refine G1 tt_ok [] ?_; intro _))
 have he := event131 β m (some ⟨g.1, 0, none⟩) (B.length + g.2.length) hn d hd ev
 unfold evR at he
 cases hA : evA B.length d ev with
 | mk A e =>
  rw [hA] at he
  cases A with
  | none =>
   have h0 := evA_err hA
   refine ke rfl rfl (he) ?_
   (refine G tt_ok [] ?_; repeat (refine G1 tt_ok [] ?_; intro _))
   rw [show (e != 0) = true by simp [h0]]
   refine G tt_ok [] ?_
   exact CW.ret (fin_cells [_, _] ⟨cl_, rfl, trivial⟩ (A := memA m g B) pk_ ⟨rfl, rfl⟩)
  | some A =>
   obtain ⟨rfl, hA1, hA2, _⟩ := evA_some hd hA
   refine ke rfl rfl (he) ?_
   (refine G tt_ok [] ?_; repeat (refine G1 tt_ok [] ?_; intro _))
   refine ke rfl rfl (rd_slot β m g B hn hb hA2) ?_
   have hx := rd8_lt hb A
   simp only
   generalize rdN B A 8 = x at hx ⊢
   refine G tt_ok [] ?_
   rw [fdivN x 63 (by omega)]
   unfold routeV
   by_cases h5 : x < 2 ^ 63
   ·rw [if_pos h5, show (((x / 2 ^ 63 : Nat) : Int) == 0) = true by simp; omega]
    refine G tt_ok [] ?_
    exact CW.ret (fin_cells [_, _] ⟨cl_, rfl, trivial⟩ (A := memA m g B) pk_ ⟨rfl, rfl⟩)
   ·rw [if_neg h5, show (((x / 2 ^ 63 : Nat) : Int) == 0) = false by simp; omega]
    refine G tt_ok [] ?_
    rw [show IntKind.i64.wrap (IntKind.u64.wrap ((BitVec.ofInt IntKind.u64.bits (x : Int) &&& BitVec.ofInt IntKind.u64.bits 4294967295).toNat : Int)) = ((x % 2 ^ 32 : Nat) : Int) by rw [show (4294967295 : Int) = ((2 ^ 32 - 1 : Nat) : Int) from rfl, and_mod hx (by omega), wrap_id (by omega) (by omega)],
     fdivN x 32 (by omega), show IntKind.i64.wrap (IntKind.u64.wrap ((BitVec.ofInt IntKind.u64.bits ((x / 2 ^ 32 : Nat) : Int) &&& BitVec.ofInt IntKind.u64.bits 65535).toNat : Int)) = ((x / 2 ^ 32 % 2 ^ 16 : Nat) : Int) by rw [show (65535 : Int) = ((2 ^ 16 - 1 : Nat) : Int) from rfl, and_mod (by omega) (by omega), wrap_id (by omega) (by omega)]]
    exact CW.ret (fin_cells [_, _] ⟨cl_, rfl, trivial⟩ (A := memA m g B) pk_ ⟨rfl, rfl⟩)
@[reducible] def pk240 : List (Nat × Plan) := [(9, [(0, 0, []), (1, 0, []), (3, 0, []), (4, 0, []), (5, 0, []), (6, 0, []), (8, 0, []), (9, 0, []), (10, 0, []), (2, 1, [1, 4, 9]), (7, 0, []), (11, 0, []), (12, 1, [1, 4, 9])])]
@[reducible] def pk76 : List (Nat × Plan) := []
theorem or_add {k q b : Nat} (hb : b < 2 ^ k) (hq : 2 ^ k * q + b < 2 ^ 64) : IntKind.u64.wrap ((BitVec.ofInt IntKind.u64.bits ((2 ^ k * q : Nat) : Int) ||| BitVec.ofInt IntKind.u64.bits (b : Int)).toNat : Int) = ((2 ^ k * q + b : Nat) : Int) := by
 rw [or64 (by omega) (by omega), Nat.two_pow_add_eq_or_of_lt hb]
theorem route_or {c n : Nat} (hc : c < 65536) (hn : n < 4294967296) : IntKind.u64.wrap ((BitVec.ofInt IntKind.u64.bits (IntKind.u64.wrap ((BitVec.ofInt IntKind.u64.bits ((2 ^ 63 : Nat) : Int) ||| BitVec.ofInt IntKind.u64.bits (IntKind.u64.wrap ((c : Int) * 2 ^ min 32 IntKind.u64.bits))).toNat : Int)) ||| BitVec.ofInt IntKind.u64.bits (n : Int)).toNat : Int) = ((routeN c n : Nat) : Int) := by
 have e1 : IntKind.u64.wrap ((c : Int) * 2 ^ min 32 IntKind.u64.bits) = ((c * 2 ^ 32 : Nat) : Int) := by
  rw [show (c : Int) * 2 ^ min 32 IntKind.u64.bits = ((c * 2 ^ 32 : Nat) : Int) by rw [show min 32 IntKind.u64.bits = 32 from rfl]; simp, wN (by omega)]
 rw [e1]
 have e2 := or_add (k := 63) (q := 1) (b := c * 2 ^ 32) (by omega) (by omega)
 rw [Nat.mul_one] at e2
 rw [e2]
 have e3 := or_add (k := 32) (q := 2 ^ 31 + c) (b := n) (by omega) (by omega)
 rw [show 2 ^ 32 * (2 ^ 31 + c) = 2 ^ 63 + c * 2 ^ 32 by omega] at e3
 rw [e3]
 unfold routeN
 simp
set_option maxHeartbeats 4000000 in
theorem setRoute87 (β : Base) (m : Nat) (g : Gr) (B : List Nat) (hn : B.length ≤ 1000000) (hb : byOk B) (d : Dv) (hd : okDv d) (ev : Int) (r : Rt) : Tri Tryz.prog β 240 [.agg #[.bool d.1, .int .i64 d.2.1, .int .i64 d.2.2], .pointer (some ⟨m, 0, none⟩), .int .i64 ev, .agg #[.int .i64 r.1, .int .i64 r.2.1, .bool r.2.2]] (memA m g B)
  (fun v L => v = .int .i64 (devSet B d ev r).2 ∧ L = memA m g (devSet B d ev r).1) := by
 refine Tri.intro tt_ok Tryz.func240 rfl rfl Tryz.ntmps240 rfl fun F => ?_
 obtain ⟨n, c, v⟩ := r
 unfold devSet
 simp only
 (refine G tt_ok pk240 ?_; repeat (refine G1 tt_ok pk240 ?_; intro _))
 have he := event131 β m (some ⟨g.1, 0, none⟩) (B.length + g.2.length) hn d hd ev
 unfold evR at he
 cases hA : evA B.length d ev with
 | mk A e =>
  rw [hA] at he
  cases A with
  | none =>
   have h0 := evA_err hA
   refine ke rfl rfl (he) ?_
   (refine G tt_ok pk240 ?_; repeat (refine G1 tt_ok pk240 ?_; intro _))
   rw [show (e != 0) = true by simp [h0]]
   refine G tt_ok pk240 ?_
   exact CW.ret (fin_ret rfl (A := memA m g B) pk_ ⟨rfl, rfl⟩)
  | some A =>
   obtain ⟨rfl, hA1, hA2, _⟩ := evA_some hd hA
   refine ke rfl rfl (he) ?_
   simp only
   cases v with
   | false =>
    (refine G tt_ok pk240 ?_; repeat (refine G1 tt_ok pk240 ?_; intro _))
    refine ke rfl rfl (wr_slot β m g B hn hA2 0 (by decide)) ?_
    refine G tt_ok pk240 ?_
    exact CW.ret (fin_ret rfl (A := memA m g (wrN B A 8 0)) pk_ ⟨rfl, rfl⟩)
   | true =>
    (refine G tt_ok pk240 ?_; repeat (refine G1 tt_ok pk240 ?_; intro _))
    rw [if_neg (by simp)]
    by_cases h1 : n < 0
    ·rw [decide_eq_true h1, if_neg (by omega)]
     refine G tt_ok pk240 ?_
     exact CW.ret (fin_ret rfl (A := memA m g B) pk_ ⟨rfl, rfl⟩)
    rw [decide_eq_false h1]
    refine G tt_ok pk240 ?_
    by_cases h2 : n ≥ 4294967296
    ·rw [decide_eq_true h2, if_neg (by omega)]
     refine G tt_ok pk240 ?_
     exact CW.ret (fin_ret rfl (A := memA m g B) pk_ ⟨rfl, rfl⟩)
    rw [decide_eq_false h2]
    refine G tt_ok pk240 ?_
    by_cases h3 : c < 0
    ·rw [decide_eq_true h3, if_neg (by omega)]
     refine G tt_ok pk240 ?_
     exact CW.ret (fin_ret rfl (A := memA m g B) pk_ ⟨rfl, rfl⟩)
    rw [decide_eq_false h3]
    refine G tt_ok pk240 ?_
    by_cases h4 : c ≥ 65536
    ·rw [decide_eq_true h4, if_neg (by omega)]
     refine G tt_ok pk240 ?_
     exact CW.ret (fin_ret rfl (A := memA m g B) pk_ ⟨rfl, rfl⟩)
    rw [decide_eq_false h4, if_pos (by omega)]
    refine G tt_ok pk240 ?_
    refine ke rfl rfl (flag98 β true) ?_
    refine G tt_ok pk240 ?_
    obtain ⟨N, rfl⟩ : ∃ N : Nat, n = (N : Int) := ⟨n.toNat, by omega⟩
    obtain ⟨C, rfl⟩ : ∃ C : Nat, c = (C : Int) := ⟨c.toNat, by omega⟩
    rw [if_pos rfl, wN (a := C) (by omega), wN (a := N) (by omega), route_or (by omega) (by omega)]
    have hlt : routeN C N < 2 ^ 64 := by unfold routeN; simp; omega
    refine ke rfl rfl (wr_slot β m g B hn hA2 (routeN C N) hlt) ?_
    refine G tt_ok pk240 ?_
    exact CW.ret (fin_ret rfl (A := memA m g (wrN B A 8 (routeN C N))) pk_ ⟨rfl, rfl⟩)
def devV (x : Nat) : Dv := if x < 2 ^ 63 then (false, 0, 0) else (true, ((x % 2 ^ 5 : Nat) : Int), ((x / 2 ^ 8 % 2 ^ 40 * 256 : Nat) : Int))
theorem devV_ok (x : Nat) : okDv (devV x) := by
 unfold devV okDv
 split <;> simp only <;> omega
def tabGet (B : List Nat) (a s p id : Int) : Dv × Int := match slotA B a s p id with
 | some A => (devV (rdN B A 8), 0)
 | none => ((false, 0, 0), 180)
set_option maxHeartbeats 4000000 in
theorem get75 (β : Base) (m : Nat) (g : Gr) (B : List Nat) (hn : B.length ≤ 1000000) (hb : byOk B) {a s p : Int} (hp : p = 0 ∨ p = 64) (hh : holdsV B.length a s = true) (id : Int) :
  Tri Tryz.prog β 76 [.agg #[.int .i64 a, .int .i64 s, .int .i64 p], .pointer (some ⟨m, 0, none⟩), .int .i64 id] (memA m g B)
   (fun v L => v = .tuple #[.agg #[.bool (tabGet B a s p id).1.1, .int .i64 (tabGet B a s p id).1.2.1, .int .i64 (tabGet B a s p id).1.2.2], .int .i64 (tabGet B a s p id).2] ∧ L = memA m g B) := by
 refine Tri.intro tt_ok Tryz.func76 rfl rfl Tryz.ntmps76 rfl fun F => ?_
 unfold tabGet
 have hs := slot128 β m g B hn hb hp hh id
 (refine G tt_ok pk76 ?_; repeat (refine G1 tt_ok pk76 ?_; intro _))
 cases hA : slotA B a s p id with
 | none =>
  rw [hA] at hs
  refine ke rfl rfl (hs) ?_
  (refine G tt_ok pk76 ?_; repeat (refine G1 tt_ok pk76 ?_; intro _))
  exact CW.ret (fin_cells [_, _] ⟨cl_, rfl, trivial⟩ (A := memA m g B) pk_ ⟨rfl, rfl⟩)
 | some A =>
  rw [hA] at hs
  have hA2 := slotA_in hA
  refine ke rfl rfl (hs) ?_
  (refine G tt_ok pk76 ?_; repeat (refine G1 tt_ok pk76 ?_; intro _))
  refine ke rfl rfl (rd_slot β m g B hn hb hA2) ?_
  have hx := rd8_lt hb A
  simp only
  generalize rdN B A 8 = x at hx ⊢
  refine G tt_ok pk76 ?_
  rw [fdivN x 63 (by omega)]
  unfold devV
  by_cases h5 : x < 2 ^ 63
  ·rw [if_pos h5, show (((x / 2 ^ 63 : Nat) : Int) == 0) = true by simp; omega]
   refine G tt_ok pk76 ?_
   exact CW.ret (fin_cells [_, _] ⟨cl_, rfl, trivial⟩ (A := memA m g B) pk_ ⟨rfl, rfl⟩)
  ·rw [if_neg h5, show (((x / 2 ^ 63 : Nat) : Int) == 0) = false by simp; omega]
   refine G tt_ok pk76 ?_
   rw [show IntKind.i64.wrap (IntKind.u64.wrap ((BitVec.ofInt IntKind.u64.bits (x : Int) &&& BitVec.ofInt IntKind.u64.bits 31).toNat : Int)) = ((x % 2 ^ 5 : Nat) : Int) by rw [show (31 : Int) = ((2 ^ 5 - 1 : Nat) : Int) from rfl, and_mod hx (by omega), wrap_id (by omega) (by omega)],
    fdivN x 8 (by omega), show IntKind.i64.wrap (IntKind.u64.wrap (IntKind.u64.wrap ((BitVec.ofInt IntKind.u64.bits ((x / 2 ^ 8 : Nat) : Int) &&& BitVec.ofInt IntKind.u64.bits 1099511627775).toNat : Int) * 2 ^ min 8 IntKind.u64.bits)) = ((x / 2 ^ 8 % 2 ^ 40 * 256 : Nat) : Int) by
     rw [show (1099511627775 : Int) = ((2 ^ 40 - 1 : Nat) : Int) from rfl, and_mod (by omega) (by omega), show (((x / 2 ^ 8 % 2 ^ 40 : Nat) : Int) * 2 ^ min 8 IntKind.u64.bits) = ((x / 2 ^ 8 % 2 ^ 40 * 256 : Nat) : Int) by rw [show min 8 IntKind.u64.bits = 8 from rfl]; simp, wN (by omega), wrap_id (by omega) (by omega)]]
   exact CW.ret (fin_cells [_, _] ⟨cl_, rfl, trivial⟩ (A := memA m g B) pk_ ⟨rfl, rfl⟩)
@[reducible] def pk238 : List (Nat × Plan) := [(9, [(0, 0, []), (1, 0, []), (3, 0, []), (4, 0, []), (5, 0, []), (7, 0, []), (8, 0, []), (9, 0, []), (2, 1, [1, 4, 8]), (6, 0, []), (10, 0, []), (11, 1, [1, 4, 8])])]
def devN (b a : Nat) : Nat := 2 ^ 63 + b + a
theorem dev_or {b j : Nat} (hb : b ≤ 31) (hj : j < 2 ^ 40) : IntKind.u64.wrap ((BitVec.ofInt IntKind.u64.bits (IntKind.u64.wrap ((BitVec.ofInt IntKind.u64.bits ((2 ^ 63 : Nat) : Int) ||| BitVec.ofInt IntKind.u64.bits (b : Int)).toNat : Int)) ||| BitVec.ofInt IntKind.u64.bits ((256 * j : Nat) : Int)).toNat : Int) = ((devN b (256 * j) : Nat) : Int) := by
 have e2 := or_add (k := 63) (q := 1) (b := b) (by omega) (by omega)
 rw [Nat.mul_one] at e2
 rw [e2, or64 (by omega) (by omega)]
 congr 1
 have h1 : 2 ^ 63 + b = 2 ^ 63 ||| b := by have := Nat.two_pow_add_eq_or_of_lt (i := 63) (b := b) (by omega) 1; rwa [Nat.mul_one] at this
 have h2 : 256 * j + b = 256 * j ||| b := Nat.two_pow_add_eq_or_of_lt (i := 8) (by omega) j
 have h3 : 2 ^ 63 + (256 * j + b) = 2 ^ 63 ||| (256 * j + b) := by have := Nat.two_pow_add_eq_or_of_lt (i := 63) (b := 256 * j + b) (by omega) 1; rwa [Nat.mul_one] at this
 rw [h1, Nat.or_assoc, Nat.or_comm b, ← h2, ← h3]
 unfold devN; omega
theorem and255 {a : Nat} (ha : a < 2 ^ 63) : IntKind.i64.wrap ((BitVec.ofInt IntKind.i64.bits (a : Int) &&& BitVec.ofInt IntKind.i64.bits 255).toNat : Int) = ((a % 256 : Nat) : Int) := by
 show IntKind.i64.wrap ((BitVec.ofInt 64 (a : Int) &&& BitVec.ofInt 64 ((255 : Nat) : Int)).toNat : Int) = _
 rw [BitVec.toNat_and, oN (by omega), oN (by omega), show (255 : Nat) = 2 ^ 8 - 1 from rfl, Nat.and_two_pow_sub_one_eq_mod, wrap_id (by omega) (by omega)]
def okPut (d : Dv) : Prop := d.1 = true → 0 ≤ d.2.1 ∧ d.2.1 ≤ 31 ∧ ∃ j : Nat, j < 2 ^ 40 ∧ d.2.2 = ((256 * j : Nat) : Int)
def tabPut (B : List Nat) (a s p id : Int) (d : Dv) : List Nat × Int := match slotA B a s p id with
 | some A => (wrN B A 8 (if d.1 then devN d.2.1.toNat d.2.2.toNat else 0), 0)
 | none => (B, 180)
set_option maxHeartbeats 4000000 in
theorem put81 (β : Base) (m : Nat) (g : Gr) (B : List Nat) (hn : B.length ≤ 1000000) (hb : byOk B) {a s p : Int} (hp : p = 0 ∨ p = 64) (hh : holdsV B.length a s = true) (id : Int) (d : Dv) (hd : okPut d) :
  Tri Tryz.prog β 238 [.agg #[.int .i64 a, .int .i64 s, .int .i64 p], .pointer (some ⟨m, 0, none⟩), .int .i64 id, .agg #[.bool d.1, .int .i64 d.2.1, .int .i64 d.2.2]] (memA m g B)
   (fun v L => v = .int .i64 (tabPut B a s p id d).2 ∧ L = memA m g (tabPut B a s p id d).1) := by
 refine Tri.intro tt_ok Tryz.func238 rfl rfl Tryz.ntmps238 rfl fun F => ?_
 unfold tabPut
 have hs := slot128 β m g B hn hb hp hh id
 obtain ⟨dv, b, t⟩ := d
 simp only
 (refine G tt_ok pk238 ?_; repeat (refine G1 tt_ok pk238 ?_; intro _))
 cases hA : slotA B a s p id with
 | none =>
  rw [hA] at hs
  refine ke rfl rfl (hs) ?_
  (refine G tt_ok pk238 ?_; repeat (refine G1 tt_ok pk238 ?_; intro _))
  exact CW.ret (fin_ret rfl (A := memA m g B) pk_ ⟨rfl, rfl⟩)
 | some A =>
  rw [hA] at hs
  have hA2 := slotA_in hA
  refine ke rfl rfl (hs) ?_
  (refine G tt_ok pk238 ?_; repeat (refine G1 tt_ok pk238 ?_; intro _))
  cases dv with
  | false =>
   refine G tt_ok pk238 ?_
   refine ke rfl rfl (wr_slot β m g B hn hA2 0 (by decide)) ?_
   refine G tt_ok pk238 ?_
   exact CW.ret (fin_ret rfl (A := memA m g (wrN B A 8 0)) pk_ ⟨rfl, rfl⟩)
  | true =>
   obtain ⟨h0, h1, j, hj, hjt⟩ := hd rfl
   simp only at h0 h1 hjt
   subst hjt
   obtain ⟨b, rfl⟩ : ∃ B : Nat, b = (B : Int) := ⟨b.toNat, by omega⟩
   refine G tt_ok pk238 ?_
   rw [decide_eq_false (show ¬ (b : Int) < 0 by omega)]
   refine G tt_ok pk238 ?_
   rw [decide_eq_false (show ¬ (b : Int) > 31 by omega)]
   refine G tt_ok pk238 ?_
   rw [decide_eq_false (show ¬ ((256 * j : Nat) : Int) < 0 by omega)]
   refine G tt_ok pk238 ?_
   rw [and255 (a := 256 * j) (by omega), show (((256 * j % 256 : Nat) : Int) != 0) = false by simp]
   refine G tt_ok pk238 ?_
   rw [decide_eq_false (show ¬ ((256 * j : Nat) : Int) ≥ 281474976710656 by omega)]
   refine G tt_ok pk238 ?_
   refine ke rfl rfl (flag98 β true) ?_
   refine G tt_ok pk238 ?_
   rw [show (((if true = true then 2 ^ 63 else 0 : Nat)) : Int) = ((2 ^ 63 : Nat) : Int) from rfl, wN (a := b) (by omega), wN (a := 256 * j) (by omega), dev_or (by omega) hj]
   rw [if_pos rfl, Int.toNat_natCast, Int.toNat_natCast]
   have hlt : devN b (256 * j) < 2 ^ 64 := by unfold devN; omega
   refine ke rfl rfl (wr_slot β m g B hn hA2 (devN b (256 * j)) hlt) ?_
   refine G tt_ok pk238 ?_
   exact CW.ret (fin_ret rfl (A := memA m g (wrN B A 8 (devN b (256 * j)))) pk_ ⟨rfl, rfl⟩)
def targetV (B : List Nat) (a s coll : Int) : Int × Bool × Int := if coll < 0 ∨ 131072 ≤ coll then (0, false, 183) else if (memRd B a s (coll * 8) 8).2 ≠ 0 then (0, false, 183) else
 if (memRd B a s (coll * 8) 8).1 < 2 ^ 63 then (0, false, 0) else ((((memRd B a s (coll * 8) 8).1 % 2 ^ 16 : Nat) : Int), true, 0)
set_option maxHeartbeats 4000000 in
theorem target85 (β : Base) (m : Nat) (g : Gr) (B : List Nat) (hn : B.length ≤ 1000000) (hb : byOk B) (a s coll : Int) :
  Tri Tryz.prog β 211 [.pointer (some ⟨m, 0, none⟩), .agg #[.int .i64 a, .int .i64 s], .int .i64 coll] (memA m g B)
   (fun v L => v = .tuple #[.int .i64 (targetV B a s coll).1, .bool (targetV B a s coll).2.1, .int .i64 (targetV B a s coll).2.2] ∧ L = memA m g B) := by
 refine Tri.intro tt_ok Tryz.func211 rfl rfl Tryz.ntmps211 rfl fun F => ?_
 unfold targetV
 (refine G tt_ok [] ?_; repeat (refine G1 tt_ok [] ?_; intro _))
 by_cases h1 : coll < 0
 ·rw [decide_eq_true h1, if_pos (Or.inl h1)]
  refine G tt_ok [] ?_
  exact CW.ret (fin_ret rfl (A := memA m g B) pk_ ⟨rfl, rfl⟩)
 rw [decide_eq_false h1]
 refine G tt_ok [] ?_
 by_cases h2 : coll ≥ 131072
 ·rw [decide_eq_true h2, if_pos (Or.inr h2)]
  refine G tt_ok [] ?_
  exact CW.ret (fin_ret rfl (A := memA m g B) pk_ ⟨rfl, rfl⟩)
 rw [decide_eq_false h2, if_neg (by omega)]
 refine G tt_ok [] ?_
 rw [wrap_id (show -9223372036854775808 ≤ coll * 8 by omega) (by omega)]
 refine ke rfl rfl (read91 β m g B hn hb a s (coll * 8) 8) ?_
 have hx := memRd_lt hb a s (coll * 8)
 generalize memRd B a s (coll * 8) 8 = z at hx ⊢
 obtain ⟨x, e⟩ := z
 simp only at hx ⊢
 refine G tt_ok [] ?_
 by_cases h3 : e = 0
 ·subst h3
  refine G tt_ok [] ?_
  rw [if_neg (by simp), fdivN x 63 (by omega)]
  by_cases h5 : x < 2 ^ 63
  ·rw [if_pos h5, show (((x / 2 ^ 63 : Nat) : Int) == 0) = true by simp; omega]
   refine G tt_ok [] ?_
   exact CW.ret (fin_ret rfl (A := memA m g B) pk_ ⟨rfl, rfl⟩)
  ·rw [if_neg h5, show (((x / 2 ^ 63 : Nat) : Int) == 0) = false by simp; omega]
   refine G tt_ok [] ?_
   rw [show IntKind.i64.wrap (IntKind.u64.wrap ((BitVec.ofInt IntKind.u64.bits (x : Int) &&& BitVec.ofInt IntKind.u64.bits 65535).toNat : Int)) = ((x % 2 ^ 16 : Nat) : Int) by rw [show (65535 : Int) = ((2 ^ 16 - 1 : Nat) : Int) from rfl, and_mod hx (by omega), wrap_id (by omega) (by omega)]]
   exact CW.ret (fin_ret rfl (A := memA m g B) pk_ ⟨rfl, rfl⟩)
 ·rw [if_pos h3, show (e != 0) = true by simp [h3]]
  refine G tt_ok [] ?_
  exact CW.ret (fin_ret rfl (A := memA m g B) pk_ ⟨rfl, rfl⟩)
def setTg (B : List Nat) (a s coll t : Int) (is : Bool) : List Nat × Int := if coll < 0 ∨ 131072 ≤ coll then (B, 183) else if t < 0 ∨ 65536 ≤ t then (B, 1) else
 if (memWr B a s (coll * 8) 8 (if is then 2 ^ 63 + t.toNat else 0)).2 ≠ 0 then (B, 183) else ((memWr B a s (coll * 8) 8 (if is then 2 ^ 63 + t.toNat else 0)).1, 0)
set_option maxHeartbeats 4000000 in
theorem setTarget82 (β : Base) (m : Nat) (g : Gr) (B : List Nat) (hn : B.length ≤ 1000000) (a s coll t : Int) (is : Bool) :
  Tri Tryz.prog β 239 [.pointer (some ⟨m, 0, none⟩), .agg #[.int .i64 a, .int .i64 s], .int .i64 coll, .int .i64 t, .bool is] (memA m g B)
   (fun v L => v = .int .i64 (setTg B a s coll t is).2 ∧ L = memA m g (setTg B a s coll t is).1) := by
 refine Tri.intro tt_ok Tryz.func239 rfl rfl Tryz.ntmps239 rfl fun F => ?_
 unfold setTg
 (refine G tt_ok [] ?_; repeat (refine G1 tt_ok [] ?_; intro _))
 by_cases h1 : coll < 0
 ·rw [decide_eq_true h1, if_pos (Or.inl h1)]
  refine G tt_ok [] ?_
  exact CW.ret (fin_ret rfl (A := memA m g B) pk_ ⟨rfl, rfl⟩)
 rw [decide_eq_false h1]
 refine G tt_ok [] ?_
 by_cases h2 : coll ≥ 131072
 ·rw [decide_eq_true h2, if_pos (Or.inr h2)]
  refine G tt_ok [] ?_
  exact CW.ret (fin_ret rfl (A := memA m g B) pk_ ⟨rfl, rfl⟩)
 rw [decide_eq_false h2, if_neg (by omega)]
 refine G tt_ok [] ?_
 by_cases h3 : t < 0
 ·rw [decide_eq_true h3, if_pos (Or.inl h3)]
  refine G tt_ok [] ?_
  exact CW.ret (fin_ret rfl (A := memA m g B) pk_ ⟨rfl, rfl⟩)
 rw [decide_eq_false h3]
 refine G tt_ok [] ?_
 by_cases h4 : t ≥ 65536
 ·rw [decide_eq_true h4, if_pos (Or.inr h4)]
  refine G tt_ok [] ?_
  exact CW.ret (fin_ret rfl (A := memA m g B) pk_ ⟨rfl, rfl⟩)
 rw [decide_eq_false h4, if_neg (by omega)]
 obtain ⟨t, rfl⟩ : ∃ B : Nat, t = (B : Int) := ⟨t.toNat, by omega⟩
 have key : ∀ x : Nat, x < 2 ^ 64 → Tri Tryz.prog β 88 [.pointer (some ⟨m, 0, none⟩), .agg #[.int .i64 a, .int .i64 s], .int .i64 (coll * 8), .int .i64 8, .int .u64 (x : Int)] (memA m g B) (fun u L => u = .int .i64 (memWr B a s (coll * 8) 8 x).2 ∧ L = memA m g (memWr B a s (coll * 8) 8 x).1) := fun x hx => write68 β m g B hn a s (coll * 8) 8 x hx
 have hw := wrap_id (show -9223372036854775808 ≤ coll * 8 by omega) (by omega)
 have hbad : ∀ x : Nat, (memWr B a s (coll * 8) 8 x).2 ≠ 0 → (memWr B a s (coll * 8) 8 x).1 = B := fun x h => by
  unfold memWr at h ⊢
  split
  ·rename_i h5; rw [if_pos h5] at h; exact absurd rfl h
  ·rfl
 cases is with
 | true =>
  refine G tt_ok [] ?_
  refine ke rfl rfl (flag98 β true) ?_
  refine G tt_ok [] ?_
  have e2 := or_add (k := 63) (q := 1) (b := t) (by omega) (by omega)
  rw [Nat.mul_one] at e2
  rw [show (((if true = true then 2 ^ 63 else 0 : Nat)) : Int) = ((2 ^ 63 : Nat) : Int) from rfl, wN (a := t) (by omega), e2, hw]
  refine ke rfl rfl (key (2 ^ 63 + t) (by omega)) ?_
  have hb2 := hbad (2 ^ 63 + t)
  rw [if_pos rfl, Int.toNat_natCast]
  generalize memWr B a s (coll * 8) 8 (2 ^ 63 + t) = z at hb2 ⊢
  obtain ⟨B2, e⟩ := z
  simp only at hb2 ⊢
  refine G tt_ok [] ?_
  by_cases h6 : e = 0
  ·subst h6
   rw [if_neg (by simp)]
   refine G tt_ok [] ?_
   exact CW.ret (fin_ret rfl (A := memA m g B2) pk_ ⟨rfl, rfl⟩)
  ·rw [if_pos h6, show (e != 0) = true by simp [h6], hb2 h6]
   refine G tt_ok [] ?_
   exact CW.ret (fin_ret rfl (A := memA m g B) pk_ ⟨rfl, rfl⟩)
 | false =>
  refine G tt_ok [] ?_
  rw [hw]
  refine ke rfl rfl (key 0 (by decide)) ?_
  have hb2 := hbad 0
  simp only [Bool.false_eq_true, if_false]
  generalize memWr B a s (coll * 8) 8 0 = z at hb2 ⊢
  obtain ⟨B2, e⟩ := z
  simp only at hb2 ⊢
  refine G tt_ok [] ?_
  by_cases h6 : e = 0
  ·subst h6
   rw [if_neg (by simp)]
   refine G tt_ok [] ?_
   exact CW.ret (fin_ret rfl (A := memA m g B2) pk_ ⟨rfl, rfl⟩)
  ·rw [if_pos h6, show (e != 0) = true by simp [h6], hb2 h6]
   refine G tt_ok [] ?_
   exact CW.ret (fin_ret rfl (A := memA m g B) pk_ ⟨rfl, rfl⟩)
@[reducible] def pk216 : List (Nat × Plan) := [(3, [(0, 0, []), (1, 0, []), (2, 0, []), (3, 0, []), (4, 0, []), (5, 0, []), (6, 0, []), (7, 0, []), (8, 0, []), (9, 0, []), (10, 0, []), (11, 0, []), (12, 0, []), (13, 0, [])])]
@[reducible] def pk204 : List (Nat × Plan) := [(1, [(0, 0, []), (2, 0, []), (3, 0, []), (4, 0, []), (5, 0, []), (1, 1, [0, 3, 5]), (6, 1, [0, 3, 5]), (7, 0, []), (8, 0, []), (9, 0, []), (10, 0, []), (11, 0, [])])]
@[reducible] def pk169 : List (Nat × Plan) := [(1, [(0, 0, []), (2, 0, []), (3, 0, []), (4, 0, []), (5, 0, []), (1, 1, [0, 3, 5]), (6, 1, [0, 3, 5]), (7, 0, []), (8, 0, []), (9, 0, []), (10, 0, []), (11, 0, [])])]
@[reducible] def pk173 : List (Nat × Plan) := [(3, [(0, 0, []), (1, 0, []), (2, 0, []), (3, 0, []), (5, 0, []), (6, 0, []), (7, 0, []), (8, 0, []), (4, 1, [3, 8]), (9, 1, [3, 8]), (10, 0, []), (11, 0, []), (12, 0, []), (13, 0, []), (14, 0, []), (15, 1, [])])]
theorem right103 (β : Base) : Tri Tryz.prog β 145 [.agg #[.int .i64 1024, .int .i64 32]] [] (fun v L => v = .int .i64 0 ∧ L = []) := by
 refine Tri.intro tt_ok Tryz.func145 rfl rfl Tryz.ntmps145 rfl fun F => ?_
 (refine G tt_ok [] ?_; repeat (refine G1 tt_ok [] ?_; intro _))
 exact CW.ret (fin_ret rfl (Ent.dropAll _) ⟨rfl, rfl⟩)
theorem may92 (β : Base) {i : Nat} (hi : i < 32) : Tri Tryz.prog β 201 [.agg #[.int .i64 1024, .int .i64 32], .int .i64 ((32 * i : Nat) : Int)] [] (fun v L => v = .bool true ∧ L = []) := by
 refine Tri.intro tt_ok Tryz.func201 rfl rfl Tryz.ntmps201 rfl fun F => ?_
 (refine G tt_ok [] ?_; repeat (refine G1 tt_ok [] ?_; intro _))
 refine ke rfl rfl (right103 β) ?_
 refine G tt_ok [] ?_
 rw [decide_eq_true (show ((32 * i : Nat) : Int) ≥ 0 by omega)]
 refine G tt_ok [] ?_
 rw [decide_eq_true (show ((32 * i : Nat) : Int) < 1024 by omega)]
 refine G tt_ok [] ?_
 rw [show (((32 * i : Nat) : Int).tmod 32 == 0) = true by rw [Int.tmod_eq_emod_of_nonneg (by omega)]; simp]
 exact CW.ret (fin_ret rfl (Ent.dropAll _) ⟨rfl, rfl⟩)
theorem next50 (β : Base) {i : Nat} (hi : i < 32) : Tri Tryz.prog β 171 [.agg #[.int .i64 1024, .int .i64 32], .int .i64 ((32 * i : Nat) : Int)] [] (fun v L => v = .tuple #[.int .i64 ((32 * ((i + 1) % 32) : Nat) : Int), .int .i64 0] ∧ L = []) := by
 refine Tri.intro tt_ok Tryz.func171 rfl rfl Tryz.ntmps171 rfl fun F => ?_
 (refine G tt_ok [] ?_; repeat (refine G1 tt_ok [] ?_; intro _))
 refine ke rfl rfl (may92 β hi) ?_
 refine G tt_ok [] ?_
 rw [wrap_id (show -9223372036854775808 ≤ ((32 * i : Nat) : Int) + 32 by omega) (by omega), show (((32 * i : Nat) : Int) + 32).tmod 1024 = ((32 * ((i + 1) % 32) : Nat) : Int) by rw [Int.tmod_eq_emod_of_nonneg (by omega)]; omega]
 exact CW.ret (fin_ret rfl (Ent.dropAll _) ⟨rfl, rfl⟩)
def lefN (i j : Nat) : Nat := (j + 32 - i) % 32
theorem left49 (β : Base) {i j : Nat} (hi : i < 32) (hj : j < 32) : Tri Tryz.prog β 216 [.agg #[.int .i64 1024, .int .i64 32], .int .i64 ((32 * i : Nat) : Int), .int .i64 ((32 * j : Nat) : Int)] [] (fun v L => v = .tuple #[.int .i64 (lefN i j), .int .i64 0] ∧ L = []) := by
 refine Tri.intro tt_ok Tryz.func216 rfl rfl Tryz.ntmps216 rfl fun F => ?_
 (refine G tt_ok pk216 ?_; repeat (refine G1 tt_ok pk216 ?_; intro _))
 refine ke rfl rfl (may92 β hi) ?_
 refine G tt_ok pk216 ?_
 refine ke rfl rfl (may92 β hj) ?_
 refine G tt_ok pk216 ?_
 rw [wrap_id (show -9223372036854775808 ≤ ((32 * j : Nat) : Int) - ((32 * i : Nat) : Int) by omega) (by omega), wrap_id (show -9223372036854775808 ≤ ((32 * j : Nat) : Int) - ((32 * i : Nat) : Int) + 1024 by omega) (by omega),
  show IntKind.i64.wrap (((((32 * j : Nat) : Int) - ((32 * i : Nat) : Int) + 1024).tmod 1024).tdiv 32) = (lefN i j : Int) by
   rw [Int.tmod_eq_emod_of_nonneg (by omega), Int.tdiv_eq_ediv_of_nonneg (by omega), wrap_id (by omega) (by omega)]; unfold lefN; omega]
 exact CW.ret (fin_ret rfl (Ent.dropAll _) ⟨rfl, rfl⟩)
theorem lefN_lt (i j : Nat) : lefN i j < 32 := by unfold lefN; omega
theorem room132 (β : Base) {i j : Nat} (hi : i < 32) (hj : j < 32) : Tri Tryz.prog β 199 [.agg #[.int .i64 1024, .int .i64 32], .int .i64 ((32 * i : Nat) : Int), .int .i64 ((32 * j : Nat) : Int)] [] (fun v L => v = .tuple #[.int .i64 ((31 - lefN i j : Nat) : Int), .int .i64 0] ∧ L = []) := by
 have := lefN_lt i j
 refine Tri.intro tt_ok Tryz.func199 rfl rfl Tryz.ntmps199 rfl fun F => ?_
 (refine G tt_ok [] ?_; repeat (refine G1 tt_ok [] ?_; intro _))
 refine ke rfl rfl (left49 β hi hj) ?_
 refine G tt_ok [] ?_
 rw [show IntKind.i64.wrap (IntKind.i64.wrap (IntKind.i64.wrap (Int.tdiv 1024 32) - 1) - (lefN i j : Int)) = ((31 - lefN i j : Nat) : Int) by
  rw [show IntKind.i64.wrap (IntKind.i64.wrap (Int.tdiv 1024 32) - 1) = 31 from rfl, wrap_id (by omega) (by omega)]; omega]
 exact CW.ret (fin_ret rfl (Ent.dropAll _) ⟨rfl, rfl⟩)
theorem ring48 (β : Base) (i j : Nat) : Tri Tryz.prog β 144 [.agg #[.int .i64 0, .int .i64 1024, .int .i64 ((32 * i : Nat) : Int), .int .i64 ((32 * j : Nat) : Int)]] [] (fun v L => v = .agg #[.int .i64 1024, .int .i64 32] ∧ L = []) := by
 refine Tri.intro tt_ok Tryz.func144 rfl rfl Tryz.ntmps144 rfl fun F => ?_
 (refine G tt_ok [] ?_; repeat (refine G1 tt_ok [] ?_; intro _))
 exact CW.ret (fin_cells [_] ⟨cl_, trivial⟩ (Ent.dropAll _) ⟨rfl, rfl⟩)
theorem left18 (β : Base) {i j : Nat} (hi : i < 32) (hj : j < 32) : Tri Tryz.prog β 204 [.agg #[.int .i64 0, .int .i64 1024, .int .i64 ((32 * i : Nat) : Int), .int .i64 ((32 * j : Nat) : Int)]] [] (fun v L => v = .int .i64 (lefN i j) ∧ L = []) := by
 refine Tri.intro tt_ok Tryz.func204 rfl rfl Tryz.ntmps204 rfl fun F => ?_
 (refine G tt_ok pk204 ?_; repeat (refine G1 tt_ok pk204 ?_; intro _))
 refine ke rfl rfl (ring48 β i j) ?_
 refine G tt_ok pk204 ?_
 refine ke rfl rfl (left49 β hi hj) ?_
 refine G tt_ok pk204 ?_
 exact CW.ret (fin_ret rfl (Ent.dropAll _) ⟨rfl, rfl⟩)
theorem room93 (β : Base) {i j : Nat} (hi : i < 32) (hj : j < 32) : Tri Tryz.prog β 169 [.agg #[.int .i64 0, .int .i64 1024, .int .i64 ((32 * i : Nat) : Int), .int .i64 ((32 * j : Nat) : Int)]] [] (fun v L => v = .int .i64 ((31 - lefN i j : Nat) : Int) ∧ L = []) := by
 refine Tri.intro tt_ok Tryz.func169 rfl rfl Tryz.ntmps169 rfl fun F => ?_
 (refine G tt_ok pk169 ?_; repeat (refine G1 tt_ok pk169 ?_; intro _))
 refine ke rfl rfl (ring48 β i j) ?_
 refine G tt_ok pk169 ?_
 refine ke rfl rfl (room132 β hi hj) ?_
 refine G tt_ok pk169 ?_
 exact CW.ret (fin_ret rfl (Ent.dropAll _) ⟨rfl, rfl⟩)
@[reducible] def Hc : Type := Value × Value × Value × Value × Value
@[reducible] def Sr : Type := Nat × Hc
@[reducible] def itH (H : Hc) (on st : Bool) (i j : Nat) (p : Int) : List Value := [H.1, H.2.1, H.2.2.1, H.2.2.2.1, .bool on, .bool st, .int .i64 0, .int .i64 1024, .int .i64 ((32 * i : Nat) : Int), .int .i64 ((32 * j : Nat) : Int), .int .i64 1024, .int .i64 256, .int .i64 p, .int .i64 1792, .int .i64 64, H.2.2.2.2]
theorem pass19 (β : Base) (s : Sr) (on st : Bool) {i j : Nat} (p : Int) (hi : i < 32) (hj : j < 32) : Tri Tryz.prog β 173 [.pointer (some ⟨s.1, 6, none⟩)] [pt s.1 (itH s.2 on st i j p)]
  (fun v L => v = .int .i64 (if lefN i j = 0 then 170 else 0) ∧ L = [pt s.1 (itH s.2 on st (if lefN i j = 0 then i else (i + 1) % 32) j p)]) := by
 refine Tri.intro tt_ok Tryz.func173 rfl rfl Tryz.ntmps173 rfl fun F => ?_
 refine G tt_ok pk173 ?_
 refine ke rfl rfl (left18 β hi hj) ?_
 by_cases h : lefN i j = 0
 ·rw [if_pos h, if_pos h, h]
  refine G tt_ok pk173 ?_
  exact CW.ret (fin_ret rfl pk_ ⟨rfl, rfl⟩)
 ·rw [if_neg h, if_neg h]
  refine G tt_ok pk173 ?_
  rw [decide_eq_false (show ¬ (lefN i j : Int) < 1 by omega)]
  refine G tt_ok pk173 ?_
  refine ke rfl rfl (ring48 β i j) ?_
  refine G tt_ok pk173 ?_
  refine ke rfl rfl (next50 β hi) ?_
  refine G tt_ok pk173 ?_
  exact CW.ret (fin_ret rfl pk_ ⟨rfl, rfl⟩)
abbrev Cm := Int × Int × Int × Int × Int × Int × Int × Int × Bool
@[reducible] def cmC (c : Cm) : List Value := [.int .i64 c.1, .int .i64 c.2.1, .int .i64 c.2.2.1, .int .i64 c.2.2.2.1, .int .i64 c.2.2.2.2.1, .int .i64 c.2.2.2.2.2.1, .int .i64 c.2.2.2.2.2.2.1, .int .i64 c.2.2.2.2.2.2.2.1, .bool c.2.2.2.2.2.2.2.2]
def knownV (o : Int) : Bool := o == 1 || o == 3 || o == 4 || o == 5 || o == 8 || o == 9 || o == 10 || o == 11 || o == 12 || o == 13 || o == 14 || o == 15
theorem known_cases {o : Int} (h : knownV o = true) : o = 1 ∨ o = 3 ∨ o = 4 ∨ o = 5 ∨ o = 8 ∨ o = 9 ∨ o = 10 ∨ o = 11 ∨ o = 12 ∨ o = 13 ∨ o = 14 ∨ o = 15 := by
 unfold knownV at h
 simp only [Bool.or_eq_true, beq_iff_eq] at h
 omega
theorem known72 (β : Base) (o : Int) : Tri Tryz.prog β 217 [.int .i64 o] [] (fun v L => v = .bool (knownV o) ∧ L = []) := by
 refine Tri.intro tt_ok Tryz.func217 rfl rfl Tryz.ntmps217 rfl fun F => ?_
 (repeat' (first | refine CW.seq ?_ | refine CW.region tt_ok rfl ?_ | refine CW.block ?_ | refine CW.skip ?_ | refine SQ.nil ?_ | refine SQ.pures1 tt_ok rfl ?_ | refine SQ.pure1 tt_ok rfl ?_ | refine SQ.new _ _ rfl rfl (fun _ => ?_) | refine SQ.ldA tt_ok rfl rfl (by repeat (first | exact .h | exact .q | apply At.t)) (by rfl) ?_ | refine SQ.stA tt_ok rfl rfl (by repeat (first | apply Up.h | apply Up.t)) (by rfl) (by rfl) (by exact trivial) ?_ | refine CW.cond_tt rfl ?_ | refine CW.cond_ff rfl ?_ | ((first | refine CW.cond rfl (fun hc => ?_) (fun hc => ?_) | refine SQ.gsplit rfl (fun hc => ?_) (fun hc => ?_)) <;> try (exfalso; simp_all; done))))
 all_goals
  refine CW.ret (fin_ret rfl (Ent.dropAll _) ⟨?_, rfl⟩)
  simp_all [packV]
  rw [Bool.eq_iff_iff]
  simp [knownV]
  try omega
def partV' (o : Int) : Nat → (Nat × Nat × Nat) × Bool
 | 0 => ((0, 32, 32), o != 9 && o != 13 && o != 14 && o != 5)
 | 1 => ((1, 0, 32), o == 10 || o == 11 || o == 1 || o == 3 || o == 4 || o == 12 || o == 15)
 | 2 => if o = 14 then ((3, 16, 16), true) else ((1, 32, 32), o == 10)
 | 3 => ((2, 0, 16), o == 9 || o == 10 || o == 11 || o == 1 || o == 13)
 | 4 => ((2, 16, 16), o == 9 || o == 14 || o == 5)
 | 5 => ((1, 0, 5), o == 8)
 | 6 => ((2, 8, 40), o == 8)
 | _ => ((2, 63, 1), o == 8 || o == 9)
def getF (c : Cm) : Nat → Int
 | 0 => c.2.1
 | 1 => c.2.2.1
 | 2 => c.2.2.2.1
 | 3 => c.2.2.2.2.1
 | 4 => c.2.2.2.2.2.1
 | 5 => c.2.2.2.2.2.2.1
 | 6 => c.2.2.2.2.2.2.2.1 / 256
 | _ => if c.2.2.2.2.2.2.2.2 then 1 else 0
set_option maxHeartbeats 8000000 in
theorem parted73 (β : Base) {o : Int} (ho : knownV o = true) {f : Nat} (hf : f < 8) : Tri Tryz.prog β 218 [.int .i64 o, .int .i64 f] [] (fun v L => v = .tuple #[.agg #[.int .i64 (partV' o f).1.1, .int .i64 (partV' o f).1.2.1, .int .i64 (partV' o f).1.2.2], .bool (partV' o f).2] ∧ L = []) := by
 refine Tri.intro tt_ok Tryz.func218 rfl rfl Tryz.ntmps218 rfl fun F => ?_
 match f, hf with
 | 0, _ | 1, _ | 2, _ | 3, _ | 4, _ | 5, _ | 6, _ | 7, _ =>
  rcases known_cases ho with rfl | rfl | rfl | rfl | rfl | rfl | rfl | rfl | rfl | rfl | rfl | rfl
  all_goals
   (refine G tt_ok [] ?_; repeat (refine G1 tt_ok [] ?_; intro _))
   exact CW.ret (fin_cells [_, _] ⟨cl_, rfl, trivial⟩ (Ent.dropAll _) ⟨rfl, rfl⟩)
theorem get74 (β : Base) (c : Cm) {f : Nat} (hf : f < 8) : Tri Tryz.prog β 219 [.agg #[.int .i64 c.1, .int .i64 c.2.1, .int .i64 c.2.2.1, .int .i64 c.2.2.2.1, .int .i64 c.2.2.2.2.1, .int .i64 c.2.2.2.2.2.1, .int .i64 c.2.2.2.2.2.2.1, .int .i64 c.2.2.2.2.2.2.2.1, .bool c.2.2.2.2.2.2.2.2], .int .i64 f] [] (fun v L => v = .int .i64 (getF c f) ∧ L = []) := by
 obtain ⟨c0, c1, c2, c3, c4, c5, c6, c7, c8⟩ := c
 refine Tri.intro tt_ok Tryz.func219 rfl rfl Tryz.ntmps219 rfl fun F => ?_
 match f, hf with
 | 0, _ | 1, _ | 2, _ | 3, _ | 4, _ | 5, _ =>
  (refine G tt_ok [] ?_; repeat (refine G1 tt_ok [] ?_; intro _))
  exact CW.ret (fin_ret rfl (Ent.dropAll _) ⟨rfl, rfl⟩)
 | 6, _ =>
  (refine G tt_ok [] ?_; repeat (refine G1 tt_ok [] ?_; intro _))
  rw [show c7.fdiv (2 ^ min 8 IntKind.i64.bits) = c7 / 256 from Int.fdiv_eq_ediv_of_nonneg _ (by decide)]
  exact CW.ret (fin_ret rfl (Ent.dropAll _) ⟨rfl, rfl⟩)
 | 7, _ =>
  cases c8
  ·(refine G tt_ok [] ?_; repeat (refine G1 tt_ok [] ?_; intro _))
   exact CW.ret (fin_ret rfl (Ent.dropAll _) ⟨rfl, rfl⟩)
  ·(refine G tt_ok [] ?_; repeat (refine G1 tt_ok [] ?_; intro _))
   exact CW.ret (fin_ret rfl (Ent.dropAll _) ⟨rfl, rfl⟩)
@[reducible] def pk200 : List (Nat × Plan) := [(12, [(0, 0, []), (1, 0, []), (2, 0, []), (3, 0, []), (4, 0, []), (5, 0, []), (6, 0, []), (7, 0, []), (8, 0, []), (9, 0, []), (10, 0, []), (11, 1, [])])]
@[reducible] def wC (x : Nat) : List Value := [.int .u64 (x : Int)]
theorem w_rd {W : List Nat} {k x : Nat} (h : W[k]? = some x) : rdv ti121 (W.flatMap wC) (0 + k * 1) = some (.int .u64 (x : Int)) :=
 rd_part (enc := wC) (sz := 1) (fun _ => rfl) h 0 (i := ti121) rfl (by decide) (by omega) (by decide)
theorem w_wr {W : List Nat} {k : Nat} (hk : k < W.length) (x : Nat) : wrv ti121 (W.flatMap wC) (0 + k * 1) (.int .u64 (x : Int)) = some ((W.set k x).flatMap wC) :=
 wr_enc (enc := wC) (sz := 1) (fun _ => rfl) (List.getElem?_eq_getElem hk) 0 (i := ti121) (by decide) rfl rfl (by omega)
theorem and_255 (a : Int) : IntKind.i64.wrap ((BitVec.ofInt IntKind.i64.bits a &&& BitVec.ofInt IntKind.i64.bits 255).toNat : Int) = a % 256 := by
 show IntKind.i64.wrap ((BitVec.ofInt 64 a &&& BitVec.ofInt 64 ((255 : Nat) : Int)).toNat : Int) = _
 rw [BitVec.toNat_and, oN (by omega), show (255 : Nat) = 2 ^ 8 - 1 from rfl, Nat.and_two_pow_sub_one_eq_mod, BitVec.toNat_ofInt, wrap_id (by omega) (by omega)]
 have : (2 : Nat) ^ 64 = 18446744073709551616 := rfl
 omega
def encS (c : Cm) (f : Nat) (W : List Nat) : Option (List Nat) := if ((partV' c.1 f).2 = false ∧ getF c f ≠ 0) ∨ getF c f < 0 ∨ getF c f ≥ ((2 ^ (partV' c.1 f).1.2.2 : Nat) : Int) then none else
 some (if (partV' c.1 f).2 then W.set (partV' c.1 f).1.1 (W.getD (partV' c.1 f).1.1 0 ||| (getF c f).toNat * 2 ^ (partV' c.1 f).1.2.1) else W)
def encL (c : Cm) : Nat → Option (List Nat)
 | 0 => some [c.1.toNat, 0, 0, 0]
 | f + 1 => match encL c f with
  | some W => encS c f W
  | none => none
def encV (c : Cm) : List Nat × Int := if knownV c.1 = true ∧ c.2.2.2.2.2.2.2.1 % 256 = 0 then (match encL c 8 with
 | some W => (W, 0)
 | none => ([0, 0, 0, 0], 160)) else ([0, 0, 0, 0], 160)
theorem part_ok' {o : Int} (ho : knownV o = true) {f : Nat} (hf : f < 8) : (partV' o f).1.1 < 4 ∧ (partV' o f).1.2.1 + (partV' o f).1.2.2 ≤ 64 ∧ (partV' o f).1.2.2 ≤ 40 := by
 match f, hf with
 | 0, _ | 1, _ | 2, _ | 3, _ | 4, _ | 5, _ | 6, _ | 7, _ => rcases known_cases ho with rfl | rfl | rfl | rfl | rfl | rfl | rfl | rfl | rfl | rfl | rfl | rfl <;> decide
theorem encL_none (c : Cm) {f : Nat} (h : encL c f = none) : ∀ k, encL c (f + k) = none
 | 0 => h
 | k + 1 => by rw [show f + (k + 1) = (f + k) + 1 from rfl]; unfold encL; rw [encL_none c h k]
set_option maxHeartbeats 8000000 in
theorem encode32 (β : Base) (c : Cm) : Tri Tryz.prog β 200 [.agg #[.int .i64 c.1, .int .i64 c.2.1, .int .i64 c.2.2.1, .int .i64 c.2.2.2.1, .int .i64 c.2.2.2.2.1, .int .i64 c.2.2.2.2.2.1, .int .i64 c.2.2.2.2.2.2.1, .int .i64 c.2.2.2.2.2.2.2.1, .bool c.2.2.2.2.2.2.2.2]] [] (fun v L => v = .tuple #[.agg #[.int .u64 ((encV c).1.getD 0 0 : Nat), .int .u64 ((encV c).1.getD 1 0 : Nat), .int .u64 ((encV c).1.getD 2 0 : Nat), .int .u64 ((encV c).1.getD 3 0 : Nat)], .int .i64 (encV c).2] ∧ L = []) := by
 refine Tri.intro tt_ok Tryz.func200 rfl rfl Tryz.ntmps200 rfl fun F => ?_
 unfold encV
 (refine G tt_ok pk200 ?_; repeat (refine G1 tt_ok pk200 ?_; intro _))
 refine SQ.bArr tt_ok rfl rfl ?_
 (refine G tt_ok pk200 ?_; repeat (refine G1 tt_ok pk200 ?_; intro _))
 refine ke rfl rfl (known72 β c.1) ?_
 cases hk : knownV c.1 with
 | false =>
  refine G tt_ok pk200 ?_
  refine SQ.bArr tt_ok rfl rfl ?_
  refine G tt_ok pk200 ?_
  exact CW.ret (fin_cells [_, _] ⟨cl_, rfl, trivial⟩ (Ent.dropAll _) ⟨rfl, rfl⟩)
 | true =>
  refine G tt_ok pk200 ?_
  rw [and_255]
  by_cases ha : c.2.2.2.2.2.2.2.1 % 256 = 0
  ·rw [if_pos ⟨rfl, ha⟩, show (c.2.2.2.2.2.2.2.1 % 256 != 0) = false by simp [ha]]
   refine G tt_ok pk200 ?_
   rename_i b1 b2 b4
   have hw0 : IntKind.u64.wrap c.1 = (c.1.toNat : Int) := by
    rcases known_cases hk with h | h | h | h | h | h | h | h | h | h | h | h <;> rw [h] <;> rfl
   rw [hw0]
   refine CW.loop (α := Nat × List Nat) (fun x => x.1 ≤ 8 ∧ encL c x.1 = some x.2 ∧ x.2.length = 4 ∧ ∀ y ∈ x.2, y < 2 ^ 64) (fun x => [(5, .int .i64 x.1), (4, .pointer (some ⟨b4, 0, none⟩)), (2, .pointer (some ⟨b2, 0, none⟩)), (1, .pointer (some ⟨b1, 0, none⟩))])
    (fun x => [pt b4 (x.2.flatMap wC), pt b2 [.int .u64 0, .int .u64 0, .int .u64 0, .int .u64 0], pt b1 (cmC c)]) (fun x => 8 - x.1) (0, [c.1.toNat, 0, 0, 0]) ⟨by simp, rfl, rfl, ?_⟩ ⟨rfl, rfl, rfl, rfl, trivial⟩ pk_ ?_
   ·intro y hy
    have : c.1.toNat < 16 := by rcases known_cases hk with h | h | h | h | h | h | h | h | h | h | h | h <;> rw [h] <;> decide
    simp only [List.mem_cons, List.not_mem_nil, or_false] at hy
    omega
   rintro ⟨f, W⟩ ⟨hf, hE, hW, hlt64⟩
   simp only at hf hE hW hlt64 ⊢
   refine G tt_ok pk200 ?_
   by_cases hlt : f < 8
   ·rw [decide_eq_true (show (f : Int) < 8 by omega)]
    have hwr : IntKind.i64.wrap ((f : Int) + 1) = ((f + 1 : Nat) : Int) := by rw [wrap_i64]; split <;> omega
    obtain ⟨g1, g2, g3⟩ := part_ok' hk hlt
    have hS : encL c (f + 1) = encS c f W := by show (match encL c f with | some W => encS c f W | none => none) = _; rw [hE]
    refine G tt_ok pk200 ?_
    refine ke rfl rfl (parted73 β hk hlt) ?_
    (refine G tt_ok pk200 ?_; repeat (refine G1 tt_ok pk200 ?_; intro _))
    refine ke rfl rfl (get74 β c hlt) ?_
    refine G tt_ok pk200 ?_
    unfold encS at hS
    generalize partV' c.1 f = pp at g1 g2 g3 hS ⊢
    obtain ⟨⟨wd, fr, sz⟩, has⟩ := pp
    generalize getF c f = n at hS ⊢
    simp only at g1 g2 g3 hS ⊢
    have h8 : encL c (f + 1) = none → encL c 8 = none := fun h => by have := encL_none c h (7 - f); rwa [show f + 1 + (7 - f) = 8 by omega] at this
    have hsh : IntKind.i64.wrap (1 * 2 ^ min sz IntKind.i64.bits) = ((2 ^ sz : Nat) : Int) := by
     rw [show min sz IntKind.i64.bits = sz from Nat.min_eq_left (by show sz ≤ 64; omega), Int.one_mul, show (2 : Int) ^ sz = ((2 ^ sz : Nat) : Int) by simp]
     have hK : 2 ^ sz ≤ 2 ^ 40 := Nat.pow_le_pow_right (by omega) g3
     have e40 : (2 : Nat) ^ 40 = 1099511627776 := rfl
     rw [e40] at hK
     generalize 2 ^ sz = K at hK ⊢
     exact wrap_id (by omega) (by omega)
    cases has with
    | false =>
     refine G tt_ok pk200 ?_
     by_cases hn0 : n = 0
     ·subst hn0
      rw [if_neg (by have := Nat.two_pow_pos sz; rintro (h | h | h); exact h.2 rfl; omega; omega), if_neg (by simp)] at hS
      refine G tt_ok pk200 ?_
      rw [hsh, decide_eq_false (show ¬ (0 : Int) ≥ ((2 ^ sz : Nat) : Int) by have := Nat.two_pow_pos sz; omega)]
      refine G tt_ok pk200 ?_
      refine ⟨(f + 1, W), ⟨by simp; omega, hS, hW, hlt64⟩, by simp; omega, ⟨by rw [← hwr]; rfl, rfl, rfl, rfl, trivial⟩, pk_⟩
     ·rw [if_pos (Or.inl ⟨rfl, hn0⟩)] at hS
      rw [show (n != 0) = true by simp [hn0], h8 hS]
      refine G tt_ok pk200 ?_
      refine SQ.bArr tt_ok rfl rfl ?_
      refine G tt_ok pk200 ?_
      exact CW.ret (fin_cells [_, _] ⟨cl_, rfl, trivial⟩ (Ent.dropAll _) ⟨rfl, rfl⟩)
    | true =>
     refine G tt_ok pk200 ?_
     by_cases hn1 : n < 0
     ·rw [if_pos (Or.inr (Or.inl hn1))] at hS
      rw [decide_eq_true hn1, h8 hS]
      refine G tt_ok pk200 ?_
      refine SQ.bArr tt_ok rfl rfl ?_
      refine G tt_ok pk200 ?_
      exact CW.ret (fin_cells [_, _] ⟨cl_, rfl, trivial⟩ (Ent.dropAll _) ⟨rfl, rfl⟩)
     rw [decide_eq_false hn1]
     refine G tt_ok pk200 ?_
     rw [hsh]
     by_cases hn2 : n ≥ ((2 ^ sz : Nat) : Int)
     ·rw [if_pos (Or.inr (Or.inr hn2))] at hS
      rw [decide_eq_true hn2, h8 hS]
      refine G tt_ok pk200 ?_
      refine SQ.bArr tt_ok rfl rfl ?_
      refine G tt_ok pk200 ?_
      exact CW.ret (fin_cells [_, _] ⟨cl_, rfl, trivial⟩ (Ent.dropAll _) ⟨rfl, rfl⟩)
     rw [if_neg (by rintro (h | h | h); cases h.1; exact hn1 h; exact hn2 h), if_pos rfl] at hS
     rw [decide_eq_false hn2]
     obtain ⟨n, rfl⟩ : ∃ B : Nat, n = (B : Int) := ⟨n.toNat, by omega⟩
     have hnl : n < 2 ^ sz := by omega
     have hpl : n * 2 ^ fr < 2 ^ 64 := by
      have h1 : n * 2 ^ fr < 2 ^ sz * 2 ^ fr := Nat.mul_lt_mul_of_pos_right hnl (Nat.two_pow_pos fr)
      rw [← Nat.pow_add] at h1
      exact Nat.lt_of_lt_of_le h1 (Nat.pow_le_pow_right (by omega) (by omega))
     have hn64 : n < 2 ^ 64 := Nat.lt_of_lt_of_le hnl (Nat.pow_le_pow_right (by omega) (by omega))
     obtain ⟨x, hx⟩ : ∃ x, W[wd]? = some x := ⟨_, List.getElem?_eq_getElem (by omega)⟩
     have hx64 := hlt64 x (List.mem_of_getElem? hx)
     rw [show W.getD wd 0 = x by rw [List.getD_eq_getElem?_getD, hx]; rfl, Int.toNat_natCast] at hS
     refine G tt_ok pk200 ?_
     refine SQ.idx tt_ok rfl rfl wd rfl g1 (o' := 0 + wd * 1) rfl ?_
     refine G tt_ok pk200 ?_
     (refine SQ.ldA tt_ok rfl rfl (by repeat (first | exact .h | exact .q | apply At.t)) (w_rd hx) ?_)
     refine G tt_ok pk200 ?_
     rw [wN hn64, show IntKind.u64.wrap ((n : Int) * 2 ^ min fr IntKind.u64.bits) = ((n * 2 ^ fr : Nat) : Int) by
      rw [show min fr IntKind.u64.bits = fr from Nat.min_eq_left (by show fr ≤ 64; omega), show (n : Int) * 2 ^ fr = ((n * 2 ^ fr : Nat) : Int) by simp, wN hpl]]
     rw [or64 hx64 hpl]
     refine SQ.idx tt_ok rfl rfl wd rfl g1 (o' := 0 + wd * 1) rfl ?_
     refine G tt_ok pk200 ?_
     (refine SQ.stA tt_ok rfl rfl (by repeat (first | apply Up.h | apply Up.t)) (by rfl) (w_wr (show wd < W.length by omega) _) (by repeat (first | exact trivial | refine ⟨trivial, ?_⟩ | refine ⟨wk (by repeat (first | exact .h | exact .q | apply At.t)) (w_rd hx), ?_⟩ | refine ⟨wk (by repeat (first | exact .h | exact .q | apply At.t)) (by rfl), ?_⟩)) ?_)
     refine G tt_ok pk200 ?_
     refine ⟨(f + 1, W.set wd (x ||| n * 2 ^ fr)), ⟨by simp; omega, hS, by simp [hW], fun y hy => ?_⟩, by simp; omega, ⟨by rw [← hwr]; rfl, rfl, rfl, rfl, trivial⟩, pk_⟩
     rcases List.mem_or_eq_of_mem_set hy with h | rfl
     ·exact hlt64 y h
     ·exact Nat.or_lt_two_pow hx64 hpl
   ·rw [decide_eq_false (show ¬ (f : Int) < 8 by omega)]
    refine G tt_ok pk200 ?_
    refine CW.exit ?_
    refine G tt_ok pk200 ?_
    obtain rfl : f = 8 := by omega
    rw [hE]
    match W, hW with
    | [w0, w1, w2, w3], _ =>
     refine G tt_ok pk200 ?_
     exact CW.ret (fin_cells [_, _] ⟨cl_, rfl, trivial⟩ (Ent.dropAll _) ⟨rfl, rfl⟩)
  ·rw [if_neg (fun h => ha h.2), show (c.2.2.2.2.2.2.2.1 % 256 != 0) = true by simp [ha]]
   refine G tt_ok pk200 ?_
   refine SQ.bArr tt_ok rfl rfl ?_
   refine G tt_ok pk200 ?_
   exact CW.ret (fin_cells [_, _] ⟨cl_, rfl, trivial⟩ (Ent.dropAll _) ⟨rfl, rfl⟩)
theorem unknown_ne {o : Int} (h : knownV o = false) : (o == 1) = false ∧ (o == 3) = false ∧ (o == 4) = false ∧ (o == 5) = false ∧ (o == 8) = false ∧ (o == 9) = false ∧ (o == 10) = false ∧ (o == 11) = false ∧ (o == 12) = false ∧ (o == 13) = false ∧ (o == 14) = false ∧ (o == 15) = false := by
 unfold knownV at h
 simp only [Bool.or_eq_false_iff] at h
 simp [h]
set_option maxHeartbeats 8000000 in
theorem partU (β : Base) {o : Int} (ho : knownV o = false) {f : Nat} (hf : f < 8) : Tri Tryz.prog β 218 [.int .i64 o, .int .i64 f] [] (fun v L => v = .tuple #[.agg #[.int .i64 (partV' o f).1.1, .int .i64 (partV' o f).1.2.1, .int .i64 (partV' o f).1.2.2], .bool (partV' o f).2] ∧ L = []) := by
 obtain ⟨h1, h3, h4, h5, h8, h9, h10, h11, h12, h13, h14, h15⟩ := unknown_ne ho
 have e14 : o ≠ 14 := by simpa using h14
 refine Tri.intro tt_ok Tryz.func218 rfl rfl Tryz.ntmps218 rfl fun F => ?_
 match f, hf with
 | 0, _ | 1, _ | 2, _ | 3, _ | 4, _ | 5, _ | 6, _ | 7, _ =>
  (refine G tt_ok [] ?_; repeat (refine G1 tt_ok [] ?_; intro _))
  iterate 8 (try simp only [h1, h3, h4, h5, h8, h9, h10, h11, h12, h13, h14, h15, bne, Bool.not_false]; refine G tt_ok [] ?_)
  refine CW.ret (fin_cells [_, _] ⟨cl_, rfl, trivial⟩ (Ent.dropAll _) ⟨?_, rfl⟩)
  simp [partV', h1, h3, h4, h5, h8, h9, h10, h11, h12, h13, h14, h15, e14, bne]
  all_goals rfl
theorem parted (β : Base) (o : Int) {f : Nat} (hf : f < 8) : Tri Tryz.prog β 218 [.int .i64 o, .int .i64 f] [] (fun v L => v = .tuple #[.agg #[.int .i64 (partV' o f).1.1, .int .i64 (partV' o f).1.2.1, .int .i64 (partV' o f).1.2.2], .bool (partV' o f).2] ∧ L = []) := by
 cases h : knownV o with
 | true => exact parted73 β h hf
 | false => exact partU β h hf
theorem part_any (o : Int) {f : Nat} (hf : f < 8) : (partV' o f).1.1 < 4 ∧ (partV' o f).1.2.1 + (partV' o f).1.2.2 ≤ 64 ∧ (partV' o f).1.2.2 ≤ 40 := by
 match f, hf with
 | 0, _ | 1, _ | 3, _ | 4, _ | 5, _ | 6, _ | 7, _ => exact ⟨by simp [partV'], by simp [partV'], by simp [partV']⟩
 | 2, _ => show (if o = 14 then _ else _ : (Nat × Nat × Nat) × Bool).1.1 < 4 ∧ _; unfold partV'; by_cases h : o = 14 <;> simp [h]
def putF (c : Cm) (f : Nat) (n : Int) : Cm := match f with
 | 0 => (c.1, n, c.2.2)
 | 1 => (c.1, c.2.1, n, c.2.2.2)
 | 2 => (c.1, c.2.1, c.2.2.1, n, c.2.2.2.2)
 | 3 => (c.1, c.2.1, c.2.2.1, c.2.2.2.1, n, c.2.2.2.2.2)
 | 4 => (c.1, c.2.1, c.2.2.1, c.2.2.2.1, c.2.2.2.2.1, n, c.2.2.2.2.2.2)
 | 5 => (c.1, c.2.1, c.2.2.1, c.2.2.2.1, c.2.2.2.2.1, c.2.2.2.2.2.1, n, c.2.2.2.2.2.2.2)
 | 6 => (c.1, c.2.1, c.2.2.1, c.2.2.2.1, c.2.2.2.2.1, c.2.2.2.2.2.1, c.2.2.2.2.2.2.1, n * 256, c.2.2.2.2.2.2.2.2)
 | _ => (c.1, c.2.1, c.2.2.1, c.2.2.2.1, c.2.2.2.2.1, c.2.2.2.2.2.1, c.2.2.2.2.2.2.1, c.2.2.2.2.2.2.2.1, n == 1)
theorem put161 (β : Base) (b : Nat) (c : Cm) {f : Nat} (hf : f < 8) {n : Int} (h0 : 0 ≤ n) (h1 : n < 1099511627776) : Tri Tryz.prog β 244 [.pointer (some ⟨b, 0, none⟩), .int .i64 f, .int .i64 n] [pt b (cmC c)] (fun v L => v = .tuple #[] ∧ L = [pt b (cmC (putF c f n))]) := by
 obtain ⟨c0, c1, c2, c3, c4, c5, c6, c7, c8⟩ := c
 refine Tri.intro tt_ok Tryz.func244 rfl rfl Tryz.ntmps244 rfl fun F => ?_
 match f, hf with
 | 0, _ | 1, _ | 2, _ | 3, _ | 4, _ | 5, _ | 7, _ =>
  refine G tt_ok [] ?_
  exact fin_normal (vs := []) rfl pk_ ⟨rfl, rfl⟩
 | 6, _ =>
  refine G tt_ok [] ?_
  rw [show IntKind.i64.wrap (n * 2 ^ min 8 IntKind.i64.bits) = n * 256 by
   rw [show (2 : Int) ^ min 8 IntKind.i64.bits = 256 from rfl]; exact wrap_id (by omega) (by omega)]
  refine G tt_ok [] ?_
  exact fin_normal (vs := []) rfl pk_ ⟨rfl, rfl⟩
@[reducible] def pk233 : List (Nat × Plan) := [(7, [(0, 0, []), (1, 0, []), (2, 0, []), (3, 0, []), (4, 0, []), (5, 0, []), (6, 0, []), (7, 0, []), (8, 0, []), (9, 0, []), (10, 0, []), (11, 0, []), (12, 0, []), (13, 0, []), (14, 1, [2, 4, 6, 9])])]
@[reducible] def cm0 : Cm := (0, 0, 0, 0, 0, 0, 0, 0, false)
def decS (W : List Nat) (f : Nat) (c : Cm) : Cm := if (partV' c.1 f).2 then putF c f ((W.getD (partV' c.1 f).1.1 0 / 2 ^ (partV' c.1 f).1.2.1 % 2 ^ (partV' c.1 f).1.2.2 : Nat) : Int) else c
def decL (W : List Nat) : Nat → Cm
 | 0 => ((W.getD 0 0 % 256 : Nat), 0, 0, 0, 0, 0, 0, 0, false)
 | f + 1 => decS W f (decL W f)
def decOk (W : List Nat) (c : Cm) : Prop := (encV c).2 = 0 ∧ (encV c).1.getD 0 0 = W.getD 0 0 ∧ (encV c).1.getD 1 0 = W.getD 1 0 ∧ (encV c).1.getD 2 0 = W.getD 2 0 ∧ (encV c).1.getD 3 0 = W.getD 3 0
instance (W : List Nat) (c : Cm) : Decidable (decOk W c) := by unfold decOk; infer_instance
def decV (W : List Nat) : Cm × Int := if decOk W (decL W 8) then (decL W 8, 0) else (cm0, 160)
theorem and255u {a : Nat} (ha : a < 2 ^ 64) : IntKind.u64.wrap ((BitVec.ofInt IntKind.u64.bits (a : Int) &&& BitVec.ofInt IntKind.u64.bits 255).toNat : Int) = ((a % 256 : Nat) : Int) := and_mod (k := 8) ha (by omega)
theorem mask_ {sz : Nat} (h : sz ≤ 40) : IntKind.u64.wrap (IntKind.u64.wrap (1 * 2 ^ min sz IntKind.u64.bits) - 1) = ((2 ^ sz - 1 : Nat) : Int) := by
 rw [show min sz IntKind.u64.bits = sz from Nat.min_eq_left (by show sz ≤ 64; omega), Int.one_mul, show (2 : Int) ^ sz = ((2 ^ sz : Nat) : Int) by simp]
 have hK : 2 ^ sz ≤ 2 ^ 40 := Nat.pow_le_pow_right (by omega) h
 have h1 := Nat.one_le_two_pow (n := sz)
 have e40 : (2 : Nat) ^ 40 = 1099511627776 := rfl
 rw [e40] at hK
 generalize 2 ^ sz = K at hK h1 ⊢
 rw [wN (by omega), show (K : Int) - 1 = ((K - 1 : Nat) : Int) by omega, wN (by omega)]
set_option maxHeartbeats 8000000 in
theorem decode134 (β : Base) {w0 w1 w2 w3 : Nat} (h0 : w0 < 2 ^ 64) (h1 : w1 < 2 ^ 64) (h2 : w2 < 2 ^ 64) (h3 : w3 < 2 ^ 64) : Tri Tryz.prog β 233 [.agg #[.int .u64 w0, .int .u64 w1, .int .u64 w2, .int .u64 w3]] []
  (fun v L => v = .tuple #[.agg (cmC (decV [w0, w1, w2, w3]).1).toArray, .int .i64 (decV [w0, w1, w2, w3]).2] ∧ L = []) := by
 refine Tri.intro tt_ok Tryz.func233 rfl rfl Tryz.ntmps233 rfl fun F => ?_
 unfold decV
 (refine G tt_ok pk233 ?_; repeat (refine G1 tt_ok pk233 ?_; intro _))
 refine SQ.idx tt_ok rfl rfl 0 rfl (by decide) (o' := 0) rfl ?_
 (refine G tt_ok pk233 ?_; repeat (refine G1 tt_ok pk233 ?_; intro _))
 rw [and255u h0]
 refine G tt_ok pk233 ?_
 rw [wrap_id (show -9223372036854775808 ≤ ((w0 % 256 : Nat) : Int) by omega) (by omega)]
 refine G tt_ok pk233 ?_
 rename_i b1 b2 b4
 generalize hW : [w0, w1, w2, w3] = W
 have hlen : W.length = 4 := by rw [← hW]; rfl
 have h64 : ∀ y ∈ W, y < 2 ^ 64 := by
  intro y hy
  rw [← hW] at hy
  simp only [List.mem_cons, List.not_mem_nil, or_false] at hy
  rcases hy with rfl | rfl | rfl | rfl <;> assumption
 refine CW.loop (α := Nat) (fun f => f ≤ 8) (fun f => [(5, .int .i64 f), (4, .pointer (some ⟨b4, 0, none⟩)), (2, .pointer (some ⟨b2, 0, none⟩)), (1, .pointer (some ⟨b1, 0, none⟩))])
  (fun f => [pt b1 (W.flatMap wC), pt b2 (cmC cm0), pt b4 (cmC (decL W f))]) (fun f => 8 - f) 0 (by omega) ⟨rfl, rfl, rfl, rfl, trivial⟩ (by rw [← hW]; exact pk_) ?_
 intro f hf
 refine G tt_ok pk233 ?_
 by_cases hlt : f < 8
 ·rw [decide_eq_true (show (f : Int) < 8 by omega)]
  have hwr : IntKind.i64.wrap ((f : Int) + 1) = ((f + 1 : Nat) : Int) := by rw [wrap_i64]; split <;> omega
  have hS : decL W (f + 1) = decS W f (decL W f) := rfl
  generalize decL W f = c at hS ⊢
  obtain ⟨g1, g2, g3⟩ := part_any c.1 hlt
  refine G tt_ok pk233 ?_
  refine ke rfl rfl (parted β c.1 hlt) ?_
  (refine G tt_ok pk233 ?_; repeat (refine G1 tt_ok pk233 ?_; intro _))
  unfold decS at hS
  generalize partV' c.1 f = pp at g1 g2 g3 hS ⊢
  obtain ⟨⟨wd, fr, sz⟩, has⟩ := pp
  simp only at g1 g2 g3 hS ⊢
  cases has with
  | false =>
   simp only [Bool.false_eq_true, if_false] at hS
   refine G tt_ok pk233 ?_
   exact ⟨f + 1, by omega, by omega, ⟨by rw [← hwr]; rfl, rfl, rfl, rfl, trivial⟩, by rw [hS]; exact pk_⟩
  | true =>
   simp only [if_true] at hS
   obtain ⟨x, hx⟩ : ∃ x, W[wd]? = some x := ⟨_, List.getElem?_eq_getElem (by omega)⟩
   have hx64 := h64 x (List.mem_of_getElem? hx)
   rw [show W.getD wd 0 = x by rw [List.getD_eq_getElem?_getD, hx]; rfl] at hS
   refine G tt_ok pk233 ?_
   refine SQ.idx tt_ok rfl rfl wd rfl g1 (o' := 0 + wd * 1) rfl ?_
   refine G tt_ok pk233 ?_
   (refine SQ.ldA tt_ok rfl rfl (by repeat (first | exact .h | exact .q | apply At.t)) (w_rd hx) ?_)
   refine G tt_ok pk233 ?_
   have hp : x / 2 ^ fr % 2 ^ sz < 1099511627776 := by
    have h1 : x / 2 ^ fr % 2 ^ sz < 2 ^ sz := Nat.mod_lt _ (Nat.two_pow_pos sz)
    have h2 : 2 ^ sz ≤ 2 ^ 40 := Nat.pow_le_pow_right (by omega) g3
    exact Nat.lt_of_lt_of_le h1 (by simpa using h2)
   rw [fdivN x fr (by omega), mask_ g3, and_mod (Nat.lt_of_le_of_lt (Nat.div_le_self _ _) hx64) (by omega)]
   generalize x / 2 ^ fr % 2 ^ sz = n at hS hp ⊢
   rw [wrap_id (show -9223372036854775808 ≤ (n : Int) by omega) (by omega)]
   refine G tt_ok pk233 ?_
   (refine ka rfl rfl (put161 β b4 c hlt (show 0 ≤ (n : Int) by omega) (by omega)) ?_; rintro _ _ ⟨rfl, rfl⟩; refine ⟨(by repeat (first | exact trivial | refine ⟨trivial, ?_⟩ | refine ⟨wk (by repeat (first | exact .h | exact .q | apply At.t)) (w_rd hx), ?_⟩ | refine ⟨wk (by repeat (first | exact .h | exact .q | apply At.t)) (by rfl), ?_⟩)), ?_⟩)
   refine G tt_ok pk233 ?_
   exact ⟨f + 1, by omega, by omega, ⟨by rw [← hwr]; rfl, rfl, rfl, rfl, trivial⟩, by rw [hS]; exact pk_⟩
 ·rw [decide_eq_false (show ¬ (f : Int) < 8 by omega)]
  refine G tt_ok pk233 ?_
  refine CW.exit ?_
  refine G tt_ok pk233 ?_
  obtain rfl : f = 8 := by omega
  generalize decL W 8 = c
  refine ke rfl rfl (encode32 β c) ?_
  (refine G tt_ok pk233 ?_; repeat (refine G1 tt_ok pk233 ?_; intro _))
  subst hW
  have hd : decOk [w0, w1, w2, w3] c ↔ (encV c).2 = 0 ∧ (encV c).1.getD 0 0 = w0 ∧ (encV c).1.getD 1 0 = w1 ∧ (encV c).1.getD 2 0 = w2 ∧ (encV c).1.getD 3 0 = w3 := Iff.rfl
  generalize (encV c).1.getD 0 0 = E0 at hd ⊢
  generalize (encV c).1.getD 1 0 = E1 at hd ⊢
  generalize (encV c).1.getD 2 0 = E2 at hd ⊢
  generalize (encV c).1.getD 3 0 = E3 at hd ⊢
  by_cases he : (encV c).2 = 0
  ·rw [show ((encV c).2 != 0) = false by simp [he]]
   refine G tt_ok pk233 ?_
   by_cases hw : E0 = w0 ∧ E1 = w1 ∧ E2 = w2 ∧ E3 = w3
   ·rw [if_pos (hd.2 ⟨he, hw⟩)]
    obtain ⟨rfl, rfl, rfl, rfl⟩ := hw
    refine SQ.eqa tt_ok rfl rfl (by kernel_rfl) false (by simp) ?_
    refine G tt_ok pk233 ?_
    exact CW.ret (fin_cells [_, _] ⟨cl_, rfl, trivial⟩ (Ent.dropAll _) ⟨rfl, rfl⟩)
   ·rw [if_neg (fun h => hw (hd.1 h).2)]
    refine SQ.eqa tt_ok rfl rfl (by kernel_rfl) true (by simp; omega) ?_
    refine G tt_ok pk233 ?_
    exact CW.ret (fin_cells [_, _] ⟨cl_, rfl, trivial⟩ (Ent.dropAll _) ⟨rfl, rfl⟩)
  ·rw [show ((encV c).2 != 0) = true by simp [he], if_neg (fun h => he (hd.1 h).1)]
   refine G tt_ok pk233 ?_
   exact CW.ret (fin_cells [_, _] ⟨cl_, rfl, trivial⟩ (Ent.dropAll _) ⟨rfl, rfl⟩)
@[reducible] def pk170 : List (Nat × Plan) := []
variable {T : Nat}
theorem encL_ok {c : Cm} (hk : knownV c.1 = true) : ∀ {f : Nat} {W : List Nat}, f ≤ 8 → encL c f = some W → W.length = 4 ∧ ∀ y ∈ W, y < 2 ^ 64
 | 0, W, _, h => by
  simp only [encL, Option.some.injEq] at h
  subst h
  refine ⟨rfl, fun y hy => ?_⟩
  have : c.1.toNat < 16 := by rcases known_cases hk with h | h | h | h | h | h | h | h | h | h | h | h <;> rw [h] <;> decide
  simp only [List.mem_cons, List.not_mem_nil, or_false] at hy
  omega
 | f + 1, W, hf, h => by
  unfold encL at h
  cases hE : encL c f with
  | none => rw [hE] at h; cases h
  | some V =>
   obtain ⟨hl, h64⟩ := encL_ok hk (by omega) hE
   rw [hE] at h
   obtain ⟨g1, g2, g3⟩ := part_ok' hk (show f < 8 by omega)
   simp only [encS] at h
   split at h
   ·cases h
   ·rename_i hn
    simp only [Option.some.injEq] at h
    subst h
    split
    ·refine ⟨by simp [hl], fun y hy => ?_⟩
     rcases List.mem_or_eq_of_mem_set hy with h | rfl
     ·exact h64 y h
     ·have hx : V.getD (partV' c.1 f).1.1 0 < 2 ^ 64 := by
       rw [List.getD_eq_getElem?_getD, List.getElem?_eq_getElem (by omega)]
       exact h64 _ (List.getElem_mem _)
      refine Nat.or_lt_two_pow hx ?_
      have hnl : (getF c f).toNat < 2 ^ (partV' c.1 f).1.2.2 := by omega
      have h1 := Nat.mul_lt_mul_of_pos_right hnl (Nat.two_pow_pos (partV' c.1 f).1.2.1)
      rw [← Nat.pow_add] at h1
      exact Nat.lt_of_lt_of_le h1 (Nat.pow_le_pow_right (by omega) (by omega))
    ·exact ⟨hl, h64⟩
theorem encV_ok (c : Cm) : (encV c).1.length = 4 ∧ ∀ y ∈ (encV c).1, y < 2 ^ 64 := by
 have z : ([0, 0, 0, 0] : List Nat).length = 4 ∧ ∀ y ∈ ([0, 0, 0, 0] : List Nat), y < 2 ^ 64 := ⟨rfl, by decide⟩
 unfold encV
 split
 ·rename_i h
  split
  ·rename_i W hW
   exact encL_ok h.1 (Nat.le_refl _) hW
  ·exact z
 ·exact z
theorem enc_lt (c : Cm) (k : Nat) : (encV c).1.getD k 0 < 2 ^ 64 := by
 obtain ⟨-, h⟩ := encV_ok c
 rw [List.getD_eq_getElem?_getD]
 by_cases hk : k < (encV c).1.length
 ·rw [List.getElem?_eq_getElem hk]
  exact h _ (List.getElem_mem _)
 ·rw [List.getElem?_eq_none (by omega)]
  decide
@[reducible] def okT (T n : Nat) : Prop := n = T ∧ 11264 ≤ T ∧ T ≤ 1000000
theorem acc_q {n : Nat} (hn : okT T n) {j k : Nat} (hj : j < 32) (hk : k < 4) {o : Int} (ho : o = ((32 * j + 8 * k : Nat) : Int)) : accV n 0 1024 o 8 = 0 := by
 subst ho
 have h1 : holdsV n 0 1024 = true := by unfold holdsV; simp; omega
 unfold accV mayV
 rw [if_pos h1, if_neg (by simp), if_neg (by rw [Int.tmod_eq_emod_of_nonneg (by omega)]; omega), wrap_id (by omega) (by omega), if_neg (by omega)]
def stW (B : List Nat) (j : Nat) (E : List Nat) : Nat → List Nat
 | 0 => B
 | k + 1 => wrN (stW B j E k) (32 * j + 8 * k) 8 (E.getD k 0)
theorem stW_len {B : List Nat} {j : Nat} {E : List Nat} (hB : okT T B.length) (hj : j < 32) : ∀ {k : Nat}, k ≤ 4 → okT T (stW B j E k).length
 | 0, _ => hB
 | k + 1, h => by
  have := stW_len (E := E) hB hj (k := k) (by omega)
  unfold stW
  rw [wrN_len _ (by omega)]
  exact this
theorem stW_ok {B : List Nat} {j : Nat} {E : List Nat} (hB : byOk B) : ∀ {k : Nat}, byOk (stW B j E k)
 | 0 => hB
 | k + 1 => wrN_ok _ _ _ (stW_ok hB)
set_option maxHeartbeats 4000000 in
theorem store94 (β : Base) (m : Nat) (g : Gr) (B : List Nat) (hB : okT T B.length) {j : Nat} (hj : j < 32) (c : Cm) : Tri Tryz.prog β 170 [.pointer (some ⟨m, 0, none⟩), .agg #[.int .i64 0, .int .i64 1024], .int .i64 ((32 * j : Nat) : Int), .agg #[.int .i64 c.1, .int .i64 c.2.1, .int .i64 c.2.2.1, .int .i64 c.2.2.2.1, .int .i64 c.2.2.2.2.1, .int .i64 c.2.2.2.2.2.1, .int .i64 c.2.2.2.2.2.2.1, .int .i64 c.2.2.2.2.2.2.2.1, .bool c.2.2.2.2.2.2.2.2]] (memA m g B)
  (fun v L => v = .int .i64 (encV c).2 ∧ L = memA m g (if (encV c).2 = 0 then stW B j (encV c).1 4 else B)) := by
 refine Tri.intro tt_ok Tryz.func170 rfl rfl Tryz.ntmps170 rfl fun F => ?_
 (refine G tt_ok pk170 ?_; repeat (refine G1 tt_ok pk170 ?_; intro _))
 refine ke rfl rfl (encode32 β c) ?_
 (refine G tt_ok pk170 ?_; repeat (refine G1 tt_ok pk170 ?_; intro _))
 by_cases he : (encV c).2 = 0
 ·rw [show ((encV c).2 != 0) = false by simp [he], if_pos he, he]
  refine G tt_ok pk170 ?_
  refine ke rfl rfl (may133 β 1024 ((32 * j : Nat) : Int) 8) ?_
  have hm : mayV 1024 ((32 * j : Nat) : Int) 8 = 0 := by
   have := acc_q (T := 11264) (n := 11264) ⟨rfl, by omega, by omega⟩ hj (show 0 < 4 by omega) (o := ((32 * j : Nat) : Int)) (by omega)
   unfold accV at this
   rwa [if_pos (by decide)] at this
  rw [hm]
  refine G tt_ok pk170 ?_
  rw [decide_eq_false (show ¬ ((32 * j : Nat) : Int) > IntKind.i64.wrap (1024 - 32) by rw [wrap_id (by omega) (by omega)]; omega)]
  refine G tt_ok pk170 ?_
  unfold memA
  refine ke rfl rfl (holds29 β m (some ⟨g.1, 0, none⟩) (B.length + g.2.length) (show B.length ≤ 1000000 by omega) 0 1024) ?_
  rw [show holdsV B.length 0 1024 = true by unfold holdsV; simp; omega]
  refine G tt_ok pk170 ?_
  rename_i b5 b7 b9
  have e0 := enc_lt c
  refine CW.loop (α := Nat) (fun k => k ≤ 4) (fun k => [(42, .int .i64 k), (41, .agg #[.int .u64 ((encV c).1.getD 0 0 : Nat), .int .u64 ((encV c).1.getD 1 0 : Nat), .int .u64 ((encV c).1.getD 2 0 : Nat), .int .u64 ((encV c).1.getD 3 0 : Nat)]), (5, .pointer (some ⟨b5, 0, none⟩)), (2, .int .i64 ((32 * j : Nat) : Int)), (0, .pointer (some ⟨m, 0, none⟩)), (8, .int .i64 0)])
   (fun k => pt b5 [.int .i64 0, .int .i64 1024] :: memA m g (stW B j (encV c).1 k)) (fun k => 4 - k) 0 (by omega) ⟨rfl, rfl, rfl, rfl, rfl, rfl, trivial⟩ (by unfold memA; exact pk_) ?_
  intro k hk
  have hl := stW_len (E := (encV c).1) hB hj hk
  refine G tt_ok pk170 ?_
  by_cases hlt : k < 4
  ·rw [decide_eq_true (show (k : Int) < 4 by omega)]
   have hwr : IntKind.i64.wrap ((k : Int) + 1) = ((k + 1 : Nat) : Int) := by rw [wrap_i64]; split <;> omega
   have hst : stW B j (encV c).1 (k + 1) = wrN (stW B j (encV c).1 k) (32 * j + 8 * k) 8 ((encV c).1.getD k 0) := rfl
   refine G tt_ok pk170 ?_
   refine SQ.ix tt_ok rfl rfl k rfl hlt (v := .int .u64 ((encV c).1.getD k 0 : Nat)) (by match k, hlt with | 0, _ | 1, _ | 2, _ | 3, _ => rfl) ?_
   refine G tt_ok pk170 ?_
   rw [show IntKind.i64.wrap (8 * (k : Int)) = ((8 * k : Nat) : Int) by rw [wrap_id (by omega) (by omega)]; omega]
   rw [show IntKind.i64.wrap (((32 * j : Nat) : Int) + ((8 * k : Nat) : Int)) = ((32 * j + 8 * k : Nat) : Int) by rw [wrap_id (by omega) (by omega)]; omega]
   have hw : memWr (stW B j (encV c).1 k) 0 1024 ((32 * j + 8 * k : Nat) : Int) 8 ((encV c).1.getD k 0) = (stW B j (encV c).1 (k + 1), 0) := by
    unfold memWr
    rw [if_pos (acc_q hl hj hlt rfl), hst, show (0 + ((32 * j + 8 * k : Nat) : Int)).toNat = 32 * j + 8 * k by omega]
    rfl
   refine ke rfl rfl (write68 β m g (stW B j (encV c).1 k) (by omega) 0 1024 ((32 * j + 8 * k : Nat) : Int) 8 ((encV c).1.getD k 0) (e0 k)) ?_
   rw [hw]
   refine G tt_ok pk170 ?_
   exact ⟨k + 1, by omega, by omega, ⟨by rw [← hwr]; rfl, rfl, rfl, rfl, rfl, rfl, trivial⟩, pk_⟩
  ·rw [decide_eq_false (show ¬ (k : Int) < 4 by omega)]
   refine G tt_ok pk170 ?_
   refine CW.exit ?_
   refine G tt_ok pk170 ?_
   obtain rfl : k = 4 := by omega
   exact CW.ret (fin_ret rfl pk_ ⟨rfl, rfl⟩)
 ·rw [show ((encV c).2 != 0) = true by simp [he], if_neg he]
  refine G tt_ok pk170 ?_
  exact CW.ret (fin_ret rfl pk_ ⟨rfl, rfl⟩)
@[reducible] def pk220 : List (Nat × Plan) := []
variable {T : Nat}
def ldK (B : List Nat) (j k : Nat) : Nat := rdN B (32 * j + 8 * k) 8
def ldW (B : List Nat) (j : Nat) : List Nat := [ldK B j 0, ldK B j 1, ldK B j 2, ldK B j 3]
def ldP (B : List Nat) (j : Nat) : Nat → List Nat
 | 0 => [0, 0, 0, 0]
 | 1 => [ldK B j 0, 0, 0, 0]
 | 2 => [ldK B j 0, ldK B j 1, 0, 0]
 | 3 => [ldK B j 0, ldK B j 1, ldK B j 2, 0]
 | _ => ldW B j
theorem ldK_lt {B : List Nat} (hb : byOk B) (j k : Nat) : ldK B j k < 2 ^ 64 := rdN_lt hb _ 8
set_option maxHeartbeats 4000000 in
theorem load95 (β : Base) (m : Nat) (g : Gr) (B : List Nat) (hB : okT T B.length) (hb : byOk B) {j : Nat} (hj : j < 32) : Tri Tryz.prog β 220 [.pointer (some ⟨m, 0, none⟩), .agg #[.int .i64 0, .int .i64 1024], .int .i64 ((32 * j : Nat) : Int)] (memA m g B)
  (fun v L => v = .tuple #[.agg (cmC (decV (ldW B j)).1).toArray, .int .i64 (decV (ldW B j)).2] ∧ L = memA m g B) := by
 refine Tri.intro tt_ok Tryz.func220 rfl rfl Tryz.ntmps220 rfl fun F => ?_
 (refine G tt_ok pk220 ?_; repeat (refine G1 tt_ok pk220 ?_; intro _))
 try refine SQ.bArr tt_ok rfl rfl ?_
 refine G tt_ok pk220 ?_
 rename_i b4 b6 b8
 refine CW.loop (α := Nat) (fun k => k ≤ 4) (fun k => [(12, .int .i64 k), (8, .pointer (some ⟨b8, 0, none⟩)), (6, .pointer (some ⟨b6, 0, none⟩)), (4, .pointer (some ⟨b4, 0, none⟩)), (2, .int .i64 ((32 * j : Nat) : Int)), (0, .pointer (some ⟨m, 0, none⟩))])
  (fun k => pt b8 ((ldP B j k).flatMap wC) :: pt b6 (cmC cm0) :: pt b4 [.int .i64 0, .int .i64 1024] :: memA m g B) (fun k => 4 - k) 0 (by omega) ⟨rfl, rfl, rfl, rfl, rfl, rfl, trivial⟩ pk_ ?_
 intro k hk
 refine G tt_ok pk220 ?_
 by_cases hlt : k < 4
 ·rw [decide_eq_true (show (k : Int) < 4 by omega)]
  have hwr : IntKind.i64.wrap ((k : Int) + 1) = ((k + 1 : Nat) : Int) := by rw [wrap_i64]; split <;> omega
  refine G tt_ok pk220 ?_
  rw [show IntKind.i64.wrap (8 * (k : Int)) = ((8 * k : Nat) : Int) by rw [wrap_id (by omega) (by omega)]; omega]
  rw [show IntKind.i64.wrap (((32 * j : Nat) : Int) + ((8 * k : Nat) : Int)) = ((32 * j + 8 * k : Nat) : Int) by rw [wrap_id (by omega) (by omega)]; omega]
  have hw : memRd B 0 1024 ((32 * j + 8 * k : Nat) : Int) 8 = (ldK B j k, 0) := by
   unfold memRd
   rw [if_pos (acc_q hB hj hlt rfl), show (0 + ((32 * j + 8 * k : Nat) : Int)).toNat = 32 * j + 8 * k by omega]
   rfl
  refine ke rfl rfl (read91 β m g B (by omega) hb 0 1024 ((32 * j + 8 * k : Nat) : Int) 8) ?_
  rw [hw]
  refine G tt_ok pk220 ?_
  refine SQ.idx tt_ok rfl rfl k rfl hlt (o' := 0 + k * 1) rfl ?_
  refine G tt_ok pk220 ?_
  have hln : (ldP B j k).length = 4 := by match k, hlt with | 0, _ | 1, _ | 2, _ | 3, _ => rfl
  have hst : (ldP B j k).set k (ldK B j k) = ldP B j (k + 1) := by match k, hlt with | 0, _ | 1, _ | 2, _ | 3, _ => rfl
  (refine SQ.stA tt_ok rfl rfl (by repeat (first | apply Up.h | apply Up.t)) (by rfl) (w_wr (show k < (ldP B j k).length by omega) _) (by repeat (first | exact trivial | refine ⟨trivial, ?_⟩ | refine ⟨wk (by repeat (first | exact .h | exact .q | apply At.t)) (by rfl), ?_⟩)) ?_)
  refine G tt_ok pk220 ?_
  rw [hst]
  exact ⟨k + 1, by omega, by omega, ⟨by rw [← hwr]; rfl, rfl, rfl, rfl, rfl, rfl, trivial⟩, pk_⟩
 ·rw [decide_eq_false (show ¬ (k : Int) < 4 by omega)]
  refine G tt_ok pk220 ?_
  refine CW.exit ?_
  refine G tt_ok pk220 ?_
  obtain rfl : k = 4 := by omega
  unfold ldP ldW
  refine G tt_ok pk220 ?_
  refine ke rfl rfl (decode134 β (ldK_lt hb j 0) (ldK_lt hb j 1) (ldK_lt hb j 2) (ldK_lt hb j 3)) ?_
  refine G tt_ok pk220 ?_
  exact CW.ret (fin_cells [_, _] ⟨cl_, rfl, trivial⟩ pk_ ⟨rfl, rfl⟩)
@[reducible] def pk123 : List (Nat × Plan) := [(3, [(0, 0, []), (1, 0, []), (2, 0, []), (3, 0, []), (4, 0, []), (5, 0, []), (6, 0, []), (7, 0, []), (8, 0, []), (9, 0, []), (10, 1, [4, 8, 9]), (11, 0, [])]), (6, [(0, 0, []), (1, 0, []), (2, 0, []), (3, 0, []), (5, 0, []), (6, 0, []), (7, 0, []), (8, 0, []), (4, 1, [3, 8]), (9, 1, [3, 8]), (10, 0, []), (11, 0, []), (12, 0, []), (13, 0, []), (14, 0, []), (15, 1, [])])]
@[reducible] def pk202 : List (Nat × Plan) := []
@[reducible] def pk91 : List (Nat × Plan) := []
variable {T : Nat}
def putV (B : List Nat) (i j : Nat) (c : Cm) : List Nat × Nat × Int := if lefN i j = 31 then (B, j, 2) else if (encV c).2 = 0 then (stW B j (encV c).1 4, (j + 1) % 32, 0) else (B, j, (encV c).2)
theorem putV_in {B : List Nat} {i j : Nat} {c : Cm} (hB : okT T B.length) (hb : byOk B) (hj : j < 32) : okT T (putV B i j c).1.length ∧ byOk (putV B i j c).1 ∧ (putV B i j c).2.1 < 32 := by
 unfold putV
 split
 ·exact ⟨hB, hb, hj⟩
 ·split
  ·exact ⟨stW_len hB hj (by omega), stW_ok hb, Nat.mod_lt _ (by omega)⟩
  ·exact ⟨hB, hb, hj⟩
set_option maxHeartbeats 4000000 in
theorem put51 (β : Base) (m : Nat) (g : Gr) (s : Sr) (B : List Nat) (hB : okT T B.length) (on st : Bool) {i j : Nat} (p : Int) (hi : i < 32) (hj : j < 32) (c : Cm) : Tri Tryz.prog β 123 [.pointer (some ⟨s.1, 6, none⟩), .pointer (some ⟨m, 0, none⟩), .agg #[.int .i64 c.1, .int .i64 c.2.1, .int .i64 c.2.2.1, .int .i64 c.2.2.2.1, .int .i64 c.2.2.2.2.1, .int .i64 c.2.2.2.2.2.1, .int .i64 c.2.2.2.2.2.2.1, .int .i64 c.2.2.2.2.2.2.2.1, .bool c.2.2.2.2.2.2.2.2]] (pt s.1 (itH s.2 on st i j p) :: memA m g B)
  (fun v L => v = .int .i64 (putV B i j c).2.2 ∧ L = pt s.1 (itH s.2 on st i (putV B i j c).2.1 p) :: memA m g (putV B i j c).1) := by
 refine Tri.intro tt_ok Tryz.func123 rfl rfl Tryz.ntmps123 rfl fun F => ?_
 unfold putV
 have hl := lefN_lt i j
 (refine G tt_ok pk123 ?_; repeat (refine G1 tt_ok pk123 ?_; intro _))
 refine ke rfl rfl (room93 β hi hj) ?_
 by_cases h : lefN i j = 31
 ·rw [if_pos h, h]
  refine G tt_ok pk123 ?_
  exact CW.ret (fin_ret rfl pk_ ⟨rfl, rfl⟩)
 ·rw [if_neg h]
  refine G tt_ok pk123 ?_
  rw [decide_eq_false (show ¬ (((31 - lefN i j : Nat) : Int) < 1) by omega)]
  refine G tt_ok pk123 ?_
  refine ke rfl rfl (store94 β m g B hB hj c) ?_
  refine G tt_ok pk123 ?_
  by_cases he : (encV c).2 = 0
  ·rw [show ((encV c).2 != 0) = false by simp [he], if_pos he, if_pos he]
   refine G tt_ok pk123 ?_
   refine ke rfl rfl (ring48 β i j) ?_
   refine G tt_ok pk123 ?_
   refine ke rfl rfl (next50 β hj) ?_
   refine G tt_ok pk123 ?_
   exact CW.ret (fin_ret rfl pk_ ⟨rfl, rfl⟩)
  ·rw [show ((encV c).2 != 0) = true by simp [he], if_neg he, if_neg he]
   refine G tt_ok pk123 ?_
   exact CW.ret (fin_ret rfl pk_ ⟨rfl, rfl⟩)
def headV (B : List Nat) (i j : Nat) : Cm × Int := if lefN i j = 0 then (cm0, 170) else decV (ldW B i)
set_option maxHeartbeats 4000000 in
theorem head52 (β : Base) (m : Nat) (g : Gr) (B : List Nat) (hB : okT T B.length) (hb : byOk B) {i j : Nat} (hi : i < 32) (hj : j < 32) : Tri Tryz.prog β 202 [.agg #[.int .i64 0, .int .i64 1024, .int .i64 ((32 * i : Nat) : Int), .int .i64 ((32 * j : Nat) : Int)], .pointer (some ⟨m, 0, none⟩)] (memA m g B)
  (fun v L => v = .tuple #[.agg (cmC (headV B i j).1).toArray, .int .i64 (headV B i j).2] ∧ L = memA m g B) := by
 refine Tri.intro tt_ok Tryz.func202 rfl rfl Tryz.ntmps202 rfl fun F => ?_
 unfold headV
 (refine G tt_ok pk202 ?_; repeat (refine G1 tt_ok pk202 ?_; intro _))
 refine ke rfl rfl (left18 β hi hj) ?_
 by_cases h : lefN i j = 0
 ·rw [if_pos h, h]
  refine G tt_ok pk202 ?_
  exact CW.ret (fin_cells [_, _] ⟨cl_, rfl, trivial⟩ pk_ ⟨rfl, rfl⟩)
 ·rw [if_neg h]
  refine G tt_ok pk202 ?_
  rw [decide_eq_false (show ¬ (lefN i j : Int) < 1 by omega)]
  refine G tt_ok pk202 ?_
  refine ke rfl rfl (load95 β m g B hB hb hi) ?_
  refine G tt_ok pk202 ?_
  exact CW.ret (fin_cells [_, _] ⟨cl_, rfl, trivial⟩ pk_ ⟨rfl, rfl⟩)
theorem new56 (β : Base) : Tri Tryz.prog β 91 [.agg #[.int .i64 0, .int .i64 1024]] [] (fun v L => v = .tuple #[.agg #[.int .i64 0, .int .i64 1024, .int .i64 0, .int .i64 0], .int .i64 0] ∧ L = []) := by
 refine Tri.intro tt_ok Tryz.func91 rfl rfl Tryz.ntmps91 rfl fun F => ?_
 (refine G tt_ok pk91 ?_; repeat (refine G1 tt_ok pk91 ?_; intro _))
 refine ke rfl rfl (ring48 β 0 0) ?_
 refine G tt_ok pk91 ?_
 refine ke rfl rfl (right103 β) ?_
 refine G tt_ok pk91 ?_
 exact CW.ret (fin_cells [_, _] ⟨cl_, rfl, trivial⟩ (Ent.dropAll _) ⟨rfl, rfl⟩)
@[reducible] def pk107 : List (Nat × Plan) := [(1, [(0, 0, []), (1, 0, []), (2, 0, []), (3, 0, []), (4, 0, []), (5, 0, []), (6, 0, []), (7, 0, []), (8, 0, []), (9, 0, []), (10, 0, []), (11, 0, []), (12, 0, []), (13, 0, []), (14, 0, [])])]
@[reducible] def pk94 : List (Nat × Plan) := []
@[reducible] def pk96 : List (Nat × Plan) := []
variable {T : Nat}
@[reducible] def lpC (k : Nat) (on : Bool) (r : Gr) (S : Nat) : List Value := [.int .i64 512, .bool on, .int .i64 10240, .int .i64 512, .int .i64 ((10752 + 64 * k : Nat) : Int), .int .i64 64, .slice (some ⟨r.1, 0, none⟩) 512 (512 + r.2.length), .pointer (some ⟨S, 0, none⟩)]
def idxV (n : Int) : Bool := decide (n ≥ 8192) && decide (IntKind.i64.wrap (n - 8192) < 512)
theorem index45 (β : Base) (p k : Nat) (on : Bool) (r : Gr) (S : Nat) (n : Int) : Tri Tryz.prog β 107 [.pointer (some ⟨p, 0, none⟩), .int .i64 n] [pt p (lpC k on r S)]
  (fun v L => v = .tuple #[.int .i64 (IntKind.i64.wrap (n - 8192)), .bool (idxV n)] ∧ L = [pt p (lpC k on r S)]) := by
 refine Tri.intro tt_ok Tryz.func107 rfl rfl Tryz.ntmps107 rfl fun F => ?_
 unfold idxV
 refine G tt_ok pk107 ?_
 by_cases h : n ≥ 8192
 ·rw [decide_eq_true h]
  refine G tt_ok pk107 ?_
  exact CW.ret (fin_ret rfl pk_ ⟨by simp; rfl, rfl⟩)
 ·rw [decide_eq_false h]
  refine G tt_ok pk107 ?_
  exact CW.ret (fin_ret rfl pk_ ⟨rfl, rfl⟩)
theorem acc_p {n : Nat} (hn : okT T n) {k i : Nat} (hk : k < 8) (hi : i < 512) : accV n ((10752 + 64 * k : Nat) : Int) 64 ((i / 8 : Nat) : Int) 1 = 0 := by
 have h1 : holdsV n ((10752 + 64 * k : Nat) : Int) 64 = true := by
  unfold holdsV
  simp
  omega
 unfold accV mayV
 rw [if_pos h1, if_neg (by simp), if_neg (by simp), wrap_id (by omega) (by omega), if_neg (by omega)]
def byP (B : List Nat) (k i : Nat) : Nat := rdN B (10752 + 64 * k + i / 8) 1
def bitP (B : List Nat) (k i : Nat) : Bool := byP B k i / 2 ^ (i % 8) % 2 == 1
theorem byP_lt {B : List Nat} (hb : byOk B) (k i : Nat) : byP B k i < 256 := by exact rdN_lt hb (10752 + 64 * k + i / 8) 1
theorem rd_p {B : List Nat} (hB : okT T B.length) {k i : Nat} (hk : k < 8) (hi : i < 512) : memRd B ((10752 + 64 * k : Nat) : Int) 64 ((i / 8 : Nat) : Int) 1 = (byP B k i, 0) := by
 unfold memRd
 rw [if_pos (acc_p hB hk hi)]
 rfl
theorem rd_p1 {B : List Nat} (hB : okT T B.length) {k i : Nat} (hk : k < 8) (hi : i < 512) : (memRd B ((10752 + 64 * k : Nat) : Int) 64 ((i / 8 : Nat) : Int) 1).1 = byP B k i := by rw [rd_p hB hk hi]
theorem rd_p2 {B : List Nat} (hB : okT T B.length) {k i : Nat} (hk : k < 8) (hi : i < 512) : (memRd B ((10752 + 64 * k : Nat) : Int) 64 ((i / 8 : Nat) : Int) 1).2 = 0 := by rw [rd_p hB hk hi]
theorem and1u {a : Nat} (ha : a < 2 ^ 64) : IntKind.u64.wrap ((BitVec.ofInt IntKind.u64.bits (a : Int) &&& BitVec.ofInt IntKind.u64.bits 1).toNat : Int) = ((a % 2 : Nat) : Int) := and_mod (k := 1) ha (by omega)
theorem beq1 (x : Nat) : ((x : Int) == 1) = (x == 1) := by rw [Bool.eq_iff_iff]; simp; omega
theorem stored47 (β : Base) (p m : Nat) (g : Gr) {k : Nat} (hk : k < 8) (on : Bool) (r : Gr) (S : Nat) (B : List Nat) (hB : okT T B.length) (hb : byOk B) {i : Nat} (hi : i < 512) : Tri Tryz.prog β 94 [.pointer (some ⟨p, 0, none⟩), .pointer (some ⟨m, 0, none⟩), .int .i64 i] (pt p (lpC k on r S) :: memA m g B)
  (fun v L => v = .bool (bitP B k i) ∧ L = pt p (lpC k on r S) :: memA m g B) := by
 refine Tri.intro tt_ok Tryz.func94 rfl rfl Tryz.ntmps94 rfl fun F => ?_
 have h256 := byP_lt hb k i
 refine G tt_ok pk94 ?_
 rw [show IntKind.i64.wrap ((i : Int).tdiv 8) = ((i / 8 : Nat) : Int) by rw [Int.tdiv_eq_ediv_of_nonneg (by omega), wrap_id (by omega) (by omega)]; omega]
 refine ke rfl rfl (read91 β m g B (by omega) hb ((10752 + 64 * k : Nat) : Int) 64 ((i / 8 : Nat) : Int) 1) ?_
 rw [rd_p1 hB hk hi, rd_p2 hB hk hi]
 refine G tt_ok pk94 ?_
 rw [show (i : Int).tmod 8 = ((i % 8 : Nat) : Int) by rw [Int.tmod_eq_emod_of_nonneg (by omega)]; omega]
 refine G tt_ok pk94 ?_
 rw [fdivN (byP B k i) (i % 8) (by omega), and1u (Nat.lt_of_le_of_lt (Nat.div_le_self _ _) (by omega)), beq1]
 exact CW.ret (fin_ret rfl pk_ ⟨rfl, rfl⟩)
def andNotN (a b : Nat) : Nat := (BitVec.ofNat 64 a &&& ~~~BitVec.ofNat 64 b).toNat
theorem andNotN_lt (a b : Nat) : andNotN a b < 2 ^ 64 := BitVec.isLt _
theorem andNotN_bit {a b j : Nat} (hj : j < 64) : (andNotN a b).testBit j = (a.testBit j && !b.testBit j) := by
 unfold andNotN
 rw [← BitVec.getLsbD, BitVec.getLsbD_and, BitVec.getLsbD_not, BitVec.getLsbD_ofNat, BitVec.getLsbD_ofNat]
 simp [hj]
theorem oN' (a : Nat) : BitVec.ofInt 64 (a : Int) = BitVec.ofNat 64 a := by
 apply BitVec.eq_of_toNat_eq
 rw [BitVec.toNat_ofInt, BitVec.toNat_ofNat]
 have : (2 : Nat) ^ 64 = 18446744073709551616 := rfl
 omega
theorem andNot64 (a b : Nat) : IntKind.u64.wrap ((BitVec.ofInt IntKind.u64.bits (a : Int) &&& ~~~BitVec.ofInt IntKind.u64.bits (b : Int)).toNat : Int) = ((andNotN a b : Nat) : Int) := by
 show IntKind.u64.wrap ((BitVec.ofInt 64 (a : Int) &&& ~~~BitVec.ofInt 64 (b : Int)).toNat : Int) = _
 rw [oN', oN']
 exact wN (andNotN_lt a b)
theorem one_shl {r : Nat} (h : r < 64) : IntKind.u64.wrap (1 * 2 ^ min r IntKind.u64.bits) = ((2 ^ r : Nat) : Int) := by
 rw [show min r IntKind.u64.bits = r from Nat.min_eq_left (by show r ≤ 64; omega), Int.one_mul, show (2 : Int) ^ r = ((2 ^ r : Nat) : Int) by simp]
 exact wN (Nat.pow_lt_pow_right (by omega) h)
def bitN (y r : Nat) (v : Bool) : Nat := if v then andNotN y (2 ^ r) ||| 2 ^ r else andNotN y (2 ^ r)
theorem bitN_lt (y : Nat) {r : Nat} (hr : r < 64) (v : Bool) : bitN y r v < 2 ^ 64 := by
 unfold bitN
 split
 ·exact Nat.or_lt_two_pow (andNotN_lt _ _) (Nat.pow_lt_pow_right (by omega) hr)
 ·exact andNotN_lt _ _
theorem bitN_bit (y : Nat) {r j : Nat} (hr : r < 64) (hj : j < 64) (v : Bool) : (bitN y r v).testBit j = if j = r then v else y.testBit j := by
 unfold bitN
 by_cases h : j = r
 ·subst h
  cases v <;> simp [andNotN_bit hj]
 ·have h' : r ≠ j := fun e => h e.symm
  cases v <;> simp [andNotN_bit hj, h, Nat.testBit_two_pow, h']
def stP (B : List Nat) (k i : Nat) (v : Bool) : List Nat := wrN B (10752 + 64 * k + i / 8) 1 (bitN (byP B k i) (i % 8) v)
theorem stP_len {B : List Nat} (hB : okT T B.length) {k i : Nat} (hk : k < 8) (hi : i < 512) (v : Bool) : okT T (stP B k i v).length := by
 unfold stP
 rw [wrN_len _ (by omega)]
 exact hB
theorem stP_ok {B : List Nat} (hb : byOk B) (k i : Nat) (v : Bool) : byOk (stP B k i v) := wrN_ok _ _ _ hb
theorem wr_p {B : List Nat} (hB : okT T B.length) {k i : Nat} (hk : k < 8) (hi : i < 512) (x : Nat) : memWr B ((10752 + 64 * k : Nat) : Int) 64 ((i / 8 : Nat) : Int) 1 x = (wrN B (10752 + 64 * k + i / 8) 1 x, 0) := by
 unfold memWr
 rw [if_pos (acc_p hB hk hi)]
 rfl
set_option maxHeartbeats 4000000 in
theorem store106 (β : Base) (p m : Nat) (g : Gr) {k : Nat} (hk : k < 8) (on : Bool) (r : Gr) (S : Nat) (B : List Nat) (hB : okT T B.length) (hb : byOk B) {i : Nat} (hi : i < 512) (v : Bool) : Tri Tryz.prog β 96 [.pointer (some ⟨p, 0, none⟩), .pointer (some ⟨m, 0, none⟩), .int .i64 i, .bool v] (pt p (lpC k on r S) :: memA m g B)
  (fun u L => u = .tuple #[] ∧ L = pt p (lpC k on r S) :: memA m g (stP B k i v)) := by
 refine Tri.intro tt_ok Tryz.func96 rfl rfl Tryz.ntmps96 rfl fun F => ?_
 have h256 := byP_lt hb k i
 have h8 : 2 ^ (i % 8) < 2 ^ 64 := Nat.pow_lt_pow_right (by omega) (by omega)
 have hq : IntKind.i64.wrap ((i : Int).tdiv 8) = ((i / 8 : Nat) : Int) := by rw [Int.tdiv_eq_ediv_of_nonneg (by omega), wrap_id (by omega) (by omega)]; omega
 have hr : (i : Int).tmod 8 = ((i % 8 : Nat) : Int) := by rw [Int.tmod_eq_emod_of_nonneg (by omega)]; omega
 refine G tt_ok pk96 ?_
 rw [hq]
 refine ke rfl rfl (read91 β m g B (by omega) hb ((10752 + 64 * k : Nat) : Int) 64 ((i / 8 : Nat) : Int) 1) ?_
 rw [rd_p1 hB hk hi, rd_p2 hB hk hi]
 refine G tt_ok pk96 ?_
 rw [hr]
 refine G tt_ok pk96 ?_
 rw [one_shl (show i % 8 < 64 by omega), andNot64]
 cases v with
 | false =>
  rw [show andNotN (byP B k i) (2 ^ (i % 8)) = bitN (byP B k i) (i % 8) false from rfl]
  refine G tt_ok pk96 ?_
  rw [hq]
  refine ke rfl rfl (write68 β m g B (by omega) ((10752 + 64 * k : Nat) : Int) 64 ((i / 8 : Nat) : Int) 1 (bitN (byP B k i) (i % 8) false) (bitN_lt _ (by omega) _)) ?_
  rw [wr_p hB hk hi]
  refine G tt_ok pk96 ?_
  exact fin_normal (vs := []) rfl pk_ ⟨rfl, rfl⟩
 | true =>
  refine G tt_ok pk96 ?_
  rw [hr]
  refine G tt_ok pk96 ?_
  rw [one_shl (show i % 8 < 64 by omega), or64 (andNotN_lt _ _) h8, hq, show (andNotN (byP B k i) (2 ^ (i % 8)) ||| 2 ^ (i % 8)) = bitN (byP B k i) (i % 8) true from rfl]
  refine G tt_ok pk96 ?_
  refine ke rfl rfl (write68 β m g B (by omega) ((10752 + 64 * k : Nat) : Int) 64 ((i / 8 : Nat) : Int) 1 (bitN (byP B k i) (i % 8) true) (bitN_lt _ (by omega) _)) ?_
  rw [wr_p hB hk hi]
  refine G tt_ok pk96 ?_
  exact fin_normal (vs := []) rfl pk_ ⟨rfl, rfl⟩
end Go.Proofs.YtakkogdmlbkdaaaGreatDoor.Sl.It
namespace Go.Proofs.YtakkogdmlbkdaaaGreatDoor.Sl
section
variable {P : Program} {β : Base} {rnd : Option (Nat × Loop)} {N : Nat} {env : Env} {L : List Atom} {K : Env → List Atom → Prop} {ops : Array Oper} {T : TT}
theorem own_is {e sz n c : Nat} {q : Option Addr} {cs : List Value} (hn : 0 < n) : Ent [own e sz (.slice q n c) n cs] [pureA (q = some ⟨gb q, 0, none⟩), own e sz (.slice q n c) n cs] := fun h s => by
 obtain ⟨h1, h2, ⟨hl, ho⟩, e0, d, rfl⟩ := s
 rcases ho with ⟨_, h0, _⟩ | ⟨g, cap, cur, hv, hr⟩
 ·omega
 ·exact Ent.pureA (by injection hv with hq _ _; subst hq; rfl) _ ⟨h1, h2, ⟨hl, .inr ⟨g, cap, cur, hv, hr⟩⟩, e0, d, rfl⟩
inductive AtO (e sz : Nat) (q : Option Addr) (n c : Nat) (cs : List Value) : List Atom → Prop
 | h {L : List Atom} : AtO e sz q n c cs (own e sz (.slice q n c) n cs :: L)
 | t {A : Atom} {L : List Atom} : AtO e sz q n c cs L → AtO e sz q n c cs (A :: L)
theorem AtO.rm {e sz n c : Nat} {q : Option Addr} {cs : List Value} (h : AtO e sz q n c cs L) : ∃ M, L.Perm (own e sz (.slice q n c) n cs :: M) := by
 induction h with
 | h => exact ⟨_, List.Perm.refl _⟩
 | t _ ih => obtain ⟨M, p⟩ := ih; exact ⟨_, (List.Perm.cons _ p).trans (List.Perm.swap _ _ _)⟩
theorem RdAt.own_ {e sz n c : Nat} {q : Option Addr} {cs : List Value} {off : Nat} {i : TI} {v : Value} (ha : AtO e sz q n c cs L) (hn : 0 < n) (hv : ∀ X, rdv i (cs ++ X) off = some v) : RdAt β L (gb q) off i v := fun H w st => by
 obtain ⟨M, p⟩ := ha.rm
 have st2 := st.perm (List.Perm.append_left H p)
 obtain ⟨k, ho, hw⟩ := st2.at_ (i := H.length) (A := own e sz (.slice q n c) n cs) (by simp)
 obtain ⟨hl, ho⟩ := ho
 rcases ho with ⟨_, h0, _⟩ | ⟨g, cap, cur, hv2, hnc, hcl, htk, rfl⟩
 ·omega
 ·injection hv2 with hq _ _
  subst hq
  have e1 : cs ++ cur.drop (n * sz) = cur := by rw [← htk]; exact List.take_append_drop _ _
  have h2 := (hw g (.cells cur.toArray e (0, 0)) (by simp [Hp.one])).2
  exact ⟨cur, e, (0, 0), h2, by rw [← e1]; exact hv _⟩
theorem SQ.ldO (hT : TTok P T) {s : Stp} {r : List Stp} {obs : Obs} {d off : Nat} {i : TI} {q : Option Addr} (hk : Nat.ble s.k 1 = true) (h : ldE T N ops env s.o = some (d, gb q, off, i)) {e sz n c : Nat} {cs : List Value} {v : Value}
  (hv : ∀ X, rdv i (cs ++ X) off = some v) (k : SQ P β rnd N T ops K r ((s.i, ⟨gb q, off, i, v⟩) :: obs) ((d, v) :: env) L) (ha : AtO e sz q n c cs L := by repeat (first | exact .h | apply AtO.t)) (hn : 0 < n := by omega) : SQ P β rnd N T ops K (s :: r) obs env L := by
 obtain ⟨hw, t0, x, ho, hd, hx, hi, hlt⟩ := ldE_eq h
 refine .ld ⟨gb q, off, i, v⟩ hk hw (by simpa [dstOk, hd, Nat.blt_eq] using hlt) (ldE_isLd h) (fun ρ hρ w hw' => ?_) (fun H w st => RdAt.own_ ha hn hv H w st) (by rw [hd]; exact k)
 obtain ⟨cs', t, fz, hb', hv'⟩ := hw'
 exact ld_run hT h hρ hb' hv'
theorem SQ.idxO (hT : TTok P T) {s : Stp} {r : List Stp} {obs : Obs} {d len sz : Nat} {i : Int} {q : Option Addr} (hk : Nat.ble s.k 1 = true) (h : idxRE T N ops env s.o = some (d, q, len, i, sz)) {e sz2 c : Nat} {cs : List Value} (j : Nat) (hj : i = (j : Int)) {o' : Nat} (ho : 0 + j * sz = o')
  (k : SQ P β rnd N T ops K r obs ((d, .pointer (some ⟨gb q, o', none⟩)) :: env) L) (ha : AtO e sz2 q len c cs L := by repeat (first | exact .h | apply AtO.t)) (hlt : j < len) : SQ P β rnd N T ops K (s :: r) obs env L := by
 obtain ⟨M, p⟩ := ha.rm
 refine SQ.ent _ ((Ent.perm p).trans (Ent.head (own_is (by omega)))) (SQ.pure_ fun hq => SQ.ent _ (Ent.perm p.symm) ?_)
 exact SQ.idx hT hk (idxRE_eq h hq) j hj hlt ho k
theorem own_qn {e sz n c : Nat} {q : Option Addr} {cs : List Value} : Ent [own e sz (.slice q n c) n cs] [pureA (cs.length = n * sz ∧ (q = none ∧ n = 0 ∨ ∃ g, q = some ⟨g, 0, none⟩)), own e sz (.slice q n c) n cs] := fun h s => by
 obtain ⟨h1, h2, ho, e0, d, rfl⟩ := s
 have : cs.length = n * sz ∧ (q = none ∧ n = 0 ∨ ∃ g, q = some ⟨g, 0, none⟩) := by
  obtain ⟨hl, ⟨hv, h0, _⟩ | ⟨g, cap, cur, hv, _⟩⟩ := ho
  ·injection hv with hq _ _; exact ⟨hl, .inl ⟨hq, h0⟩⟩
  ·injection hv with hq _ _; exact ⟨hl, .inr ⟨g, hq⟩⟩
 exact Ent.pureA this _ ⟨h1, h2, ho, e0, d, rfl⟩
end
end Go.Proofs.YtakkogdmlbkdaaaGreatDoor.Sl
namespace Go.Proofs.YtakkogdmlbkdaaaGreatDoor.Sl.It
attribute [local irreducible] CW Tri OW
@[reducible] def pk108 : List (Nat × Plan) := []
@[reducible] def pk99 : List (Nat × Plan) := []
def setL (S : Nat) (q : Option Addr) (c : Nat) (U : List Nat) : List Atom := [pt S [.slice q U.length c], own 121 1 (.slice q U.length c) U.length (U.flatMap wC)]
def wAt (U : List Nat) (k : Nat) : Nat := (U[k]?).getD 0
def hasS (U : List Nat) (i : Nat) : Bool := (wAt U (i / 64)).testBit (i % 64)
def setOk (U : List Nat) : Prop := U.length ≤ 8 ∧ ∀ y ∈ U, y < 2 ^ 64
theorem wAt_lt {U : List Nat} (h : setOk U) (k : Nat) : wAt U k < 2 ^ 64 := by
 unfold wAt
 cases e : U[k]? with
 | none => decide
 | some y => exact h.2 y (List.mem_of_getElem? e)
theorem wAt_out {U : List Nat} {k : Nat} (h : U.length ≤ k) : wAt U k = 0 := by unfold wAt; rw [List.getElem?_eq_none h]; rfl
theorem wAt_some {U : List Nat} {k : Nat} (h : k < U.length) : U[k]? = some (wAt U k) := by unfold wAt; rw [List.getElem?_eq_getElem h]; rfl
theorem w_rdO {U : List Nat} {k x : Nat} (h : U[k]? = some x) (X : List Value) : rdv ti121 (U.flatMap wC ++ X) (0 + k * 1) = some (.int .u64 (x : Int)) :=
 rd_partR (enc := wC) (sz := 1) (fun _ => rfl) h 0 (i := ti121) rfl (by decide) (by omega) (by decide) X
theorem w_wrO {U : List Nat} {k y : Nat} (h : U[k]? = some y) (x : Nat) (X : List Value) : wrv ti121 (U.flatMap wC ++ X) (0 + k * 1) (.int .u64 (x : Int)) = some ((U.set k x).flatMap wC ++ X) :=
 wr_encR (enc := wC) (sz := 1) (fun _ => rfl) h 0 (i := ti121) (by decide) rfl rfl (by omega) X
theorem qu_i {i : Nat} (hi : i < 512) : IntKind.i64.wrap ((i : Int).tdiv 64) = ((i / 64 : Nat) : Int) := by rw [Int.tdiv_eq_ediv_of_nonneg (by omega), wrap_id (by omega) (by omega)]; omega
theorem sh_i {i : Nat} (hi : i < 512) : i % ((2 : Int) ^ IntKind.u64.bits).natAbs % 64 = i % 64 := by
 rw [show ((2 : Int) ^ IntKind.u64.bits).natAbs = 18446744073709551616 from rfl, Nat.mod_eq_of_lt (show i < 18446744073709551616 by omega)]
theorem tb_is (y k : Nat) : (y / 2 ^ k % 2 == 1) = y.testBit k := by rw [Nat.testBit_eq_decide_div_mod_eq]; rfl
set_option maxHeartbeats 4000000 in
theorem has46 (β : Base) (S : Nat) (q : Option Addr) (c : Nat) {U : List Nat} (hU : setOk U) {i : Nat} (hi : i < 512) : Tri Tryz.prog β 108 [.pointer (some ⟨S, 0, none⟩), .int .i64 i] (setL S q c U) (fun v L => v = .bool (hasS U i) ∧ L = setL S q c U) := by
 have hl8 := hU.1
 refine Tri.intro tt_ok Tryz.func108 rfl rfl Tryz.ntmps108 rfl fun F => ?_
 unfold setL
 refine G tt_ok pk108 ?_
 rw [decide_eq_true (show (i : Int) ≥ 0 by omega)]
 refine G tt_ok pk108 ?_
 rw [wrap_id (x := 64 * (U.length : Int)) (by omega) (by omega)]
 by_cases h : i / 64 < U.length
 ·rw [decide_eq_true (show (i : Int) < 64 * (U.length : Int) by omega)]
  refine G tt_ok pk108 ?_
  refine SQ.idxO tt_ok rfl rfl (i / 64) (qu_i hi) rfl ?_ (hlt := h)
  refine G tt_ok pk108 ?_
  refine SQ.ldO tt_ok rfl rfl (w_rdO (wAt_some h)) ?_
  refine G tt_ok pk108 ?_
  rw [sh_i hi, fdivN _ (i % 64) (by omega), and1u (Nat.lt_of_le_of_lt (Nat.div_le_self _ _) (wAt_lt hU _)), beq1, tb_is]
  exact CW.ret (fin_ret rfl pk_ ⟨rfl, rfl⟩)
 ·rw [decide_eq_false (show ¬ (i : Int) < 64 * (U.length : Int) by omega)]
  refine G tt_ok pk108 ?_
  refine CW.ret (fin_ret rfl pk_ ⟨?_, rfl⟩)
  unfold hasS
  rw [wAt_out (by omega), Nat.zero_testBit]
  rfl
def growS (U : List Nat) (k : Nat) : List Nat := U ++ List.replicate (k + 1 - U.length) 0
def putS (U : List Nat) (i : Nat) : List Nat := if hasS U i then U else (growS U (i / 64)).set (i / 64) (wAt (growS U (i / 64)) (i / 64) ||| 2 ^ (i % 64))
def takeS (U : List Nat) (i : Nat) : List Nat := if hasS U i then U.set (i / 64) (andNotN (wAt U (i / 64)) (2 ^ (i % 64))) else U
theorem has_in {U : List Nat} {i : Nat} (h : hasS U i = true) : i / 64 < U.length := by
 by_cases h2 : i / 64 < U.length
 ·exact h2
 ·unfold hasS at h
  rw [wAt_out (by omega), Nat.zero_testBit] at h
  cases h
set_option maxHeartbeats 4000000 in
theorem take127 (β : Base) (S : Nat) (q : Option Addr) (c : Nat) {U : List Nat} (hU : setOk U) {i : Nat} (hi : i < 512) : Tri Tryz.prog β 99 [.pointer (some ⟨S, 0, none⟩), .int .i64 i] (setL S q c U) (fun v L => v = .bool (hasS U i) ∧ L = setL S q c (takeS U i)) := by
 refine Tri.intro tt_ok Tryz.func99 rfl rfl Tryz.ntmps99 rfl fun F => ?_
 refine G tt_ok pk99 ?_
 refine ke rfl rfl (has46 β S q c hU hi) ?_
 unfold takeS
 cases h : hasS U i with
 | false =>
  refine G tt_ok pk99 ?_
  exact CW.ret (fin_ret rfl pk_ ⟨rfl, rfl⟩)
 | true =>
  have hlt := has_in h
  have hx := wAt_some hlt
  simp only [if_true]
  unfold setL
  rw [List.length_set]
  refine G tt_ok pk99 ?_
  refine SQ.idxO tt_ok rfl rfl (i / 64) (qu_i hi) rfl ?_ (hlt := hlt)
  refine G tt_ok pk99 ?_
  refine SQ.ldO tt_ok rfl rfl (w_rdO hx) ?_
  refine G tt_ok pk99 ?_
  rw [sh_i hi, one_shl (by omega), andNot64]
  refine SQ.idxO tt_ok rfl rfl (i / 64) (qu_i hi) rfl ?_ (hlt := hlt)
  refine G tt_ok pk99 ?_
  (refine SQ.stO tt_ok rfl rfl (by repeat (first | exact .h | apply UpO.t)) (by omega) (by rfl) (w_wrO hx (andNotN (wAt U (i / 64)) (2 ^ (i % 64)))) (by repeat (first | exact trivial | refine ⟨trivial, ?_⟩ | refine ⟨wk (by repeat (first | exact .h | exact .q | apply At.t)) (by rfl), ?_⟩)) ?_)
  refine G tt_ok pk99 ?_
  exact CW.ret (fin_ret rfl pk_ ⟨rfl, rfl⟩)
@[reducible] def pk95 : List (Nat × Plan) := []
theorem growS_len (U : List Nat) (k : Nat) : (growS U k).length = max U.length (k + 1) := by unfold growS; simp; omega
theorem growS_mem {U : List Nat} {k y : Nat} (h : y ∈ growS U k) : y ∈ U ∨ y = 0 := by
 unfold growS at h
 rcases List.mem_append.1 h with h | h
 ·exact .inl h
 ·exact .inr (List.eq_of_mem_replicate h)
theorem wAt_grow (U : List Nat) (k j : Nat) : wAt (growS U k) j = wAt U j := by
 unfold growS wAt
 by_cases h : j < U.length
 ·rw [List.getElem?_append_left h]
 ·rw [List.getElem?_append_right (by omega), List.getElem?_eq_none (l := U) (by omega), List.getElem?_replicate]
  split <;> rfl
theorem wAt_set (U : List Nat) (k j x : Nat) : wAt (U.set k x) j = if j = k ∧ k < U.length then x else wAt U j := by
 unfold wAt
 by_cases h : j = k
 ·subst h
  by_cases hl : j < U.length
  ·rw [List.getElem?_set_self hl, if_pos ⟨rfl, hl⟩]; rfl
  ·rw [List.getElem?_eq_none (by simp; omega), List.getElem?_eq_none (l := U) (by omega), if_neg (by omega)]
 ·rw [List.getElem?_set_ne (Ne.symm h), if_neg (by omega)]
theorem putS_ok {U : List Nat} (h : setOk U) {i : Nat} (hi : i < 512) : setOk (putS U i) := by
 have h2 : 2 ^ (i % 64) < 2 ^ 64 := Nat.pow_lt_pow_right (by omega) (by omega)
 unfold putS
 split
 ·exact h
 ·refine ⟨by rw [List.length_set, growS_len]; have := h.1; omega, fun y hy => ?_⟩
  rcases List.mem_or_eq_of_mem_set hy with h3 | rfl
  ·rcases growS_mem h3 with h4 | rfl
   ·exact h.2 y h4
   ·decide
  ·rw [wAt_grow]; exact Nat.or_lt_two_pow (wAt_lt h _) h2
theorem takeS_ok {U : List Nat} (h : setOk U) (i : Nat) : setOk (takeS U i) := by
 unfold takeS
 split
 ·refine ⟨by rw [List.length_set]; exact h.1, fun y hy => ?_⟩
  rcases List.mem_or_eq_of_mem_set hy with h3 | rfl
  ·exact h.2 y h3
  ·exact andNotN_lt _ _
 ·exact h
theorem has_putS {U : List Nat} (i j : Nat) : hasS (putS U i) j = (decide (j = i) || hasS U j) := by
 unfold putS
 split
 ·rename_i h1
  by_cases hji : j = i
  ·subst hji; simp [h1]
  ·simp [hji]
 ·unfold hasS
  rw [wAt_set, growS_len, wAt_grow, wAt_grow]
  by_cases hq : j / 64 = i / 64
  ·rw [if_pos ⟨hq, by omega⟩, Nat.testBit_or, Nat.testBit_two_pow, hq, Bool.or_comm]
   congr 1
   exact decide_eq_decide.2 (by omega)
  ·rw [if_neg (by omega), decide_eq_false (by intro e; subst e; exact hq rfl), Bool.false_or]
theorem has_takeS {U : List Nat} (i j : Nat) : hasS (takeS U i) j = (!decide (j = i) && hasS U j) := by
 unfold takeS
 split
 ·rename_i h1
  have hlt := has_in h1
  unfold hasS
  rw [wAt_set]
  by_cases hq : j / 64 = i / 64
  ·rw [if_pos ⟨hq, hlt⟩, andNotN_bit (by omega), Nat.testBit_two_pow, hq, Bool.and_comm]
   congr 2
   exact decide_eq_decide.2 (by omega)
  ·rw [if_neg (by omega), decide_eq_false (by intro e; subst e; exact hq rfl)]; rfl
 ·rename_i h1
  by_cases hji : j = i
  ·subst hji; simpa using h1
  ·simp [hji]
set_option maxHeartbeats 4000000 in
theorem put105 (β : Base) (S : Nat) (q : Option Addr) (c : Nat) {U : List Nat} (hU : setOk U) {i : Nat} (hi : i < 512) : Tri Tryz.prog β 95 [.pointer (some ⟨S, 0, none⟩), .int .i64 i] (setL S q c U) (fun v L => ∃ q' c', v = .bool (!hasS U i) ∧ L = setL S q' c' (putS U i)) := by
 have hl8 := hU.1
 refine Tri.intro tt_ok Tryz.func95 rfl rfl Tryz.ntmps95 rfl fun F => ?_
 refine G tt_ok pk95 ?_
 rw [decide_eq_false (show ¬ (i : Int) < 0 by omega)]
 refine G tt_ok pk95 ?_
 rw [decide_eq_false (show ¬ (i : Int) ≥ 16384 by omega)]
 refine G tt_ok pk95 ?_
 refine ke rfl rfl (has46 β S q c hU hi) ?_
 unfold putS
 cases h : hasS U i with
 | true =>
  refine G tt_ok pk95 ?_
  exact CW.ret (fin_ret rfl pk_ ⟨_, _, rfl, rfl⟩)
 | false =>
  simp only [Bool.false_eq_true, if_false]
  refine G tt_ok pk95 ?_
  refine CW.loop (α := Nat × Option Addr × Nat) (fun x => x.1 ≤ i / 64 + 1 - U.length) (fun x => [(0, .pointer (some ⟨S, 0, none⟩)), (1, .int .i64 i)]) (fun x => setL S x.2.1 x.2.2 (U ++ List.replicate x.1 0)) (fun x => i / 64 + 1 - U.length - x.1) (0, q, c) (by simp) ⟨rfl, rfl, trivial⟩ (by simp only [List.replicate_zero, List.append_nil]; exact pk_) ?_
  rintro ⟨k, q1, c1⟩ hk
  simp only at hk ⊢
  have hlen : (U ++ List.replicate k 0).length = U.length + k := by simp
  unfold setL
  rw [hlen]
  refine G tt_ok pk95 ?_
  rw [qu_i hi]
  by_cases hlt : U.length + k ≤ i / 64
  ·rw [decide_eq_true (show ((U.length + k : Nat) : Int) ≤ ((i / 64 : Nat) : Int) by omega)]
   have hg : (U ++ List.replicate (k + 1) 0).flatMap wC = (U ++ List.replicate k 0).flatMap wC ++ wC 0 := by
    rw [List.replicate_succ', ← List.append_assoc, List.flatMap_append]; rfl
   refine G tt_ok pk95 ?_
   (refine SQ.built tt_ok rfl rfl (fun _ => w_ ?_))
   refine G tt_ok pk95 ?_
   (refine SQ.appA tt_ok rfl rfl (by repeat (first | exact Rm.h | apply Rm.t)) (by repeat (first | exact .h | exact .q | apply At.t)) (wC 0) rfl rfl rfl (scal_eq rfl) (by omega) (by show (U.length + k + 1) * 8 ≤ _; omega) (fun q2 c2 => w_ ?_))
   refine G tt_ok pk95 ?_
   refine ⟨(k + 1, q2, c2), by simp only; omega, by simp only; omega, ⟨rfl, rfl, trivial⟩, ?_⟩
   simp only
   have hl3 : (U ++ List.replicate (k + 1) 0).length = U.length + k + 1 := by simp; omega
   rw [hl3, hg]
   exact pk_
  ·rw [decide_eq_false (show ¬ ((U.length + k : Nat) : Int) ≤ ((i / 64 : Nat) : Int) by omega)]
   refine G tt_ok pk95 ?_
   refine CW.exit ?_
   refine G tt_ok pk95 ?_
   rw [qu_i hi]
   have hkk : k = i / 64 + 1 - U.length := by omega
   have hgr : U ++ List.replicate k 0 = growS U (i / 64) := by unfold growS; rw [hkk]
   have hgl : i / 64 < (growS U (i / 64)).length := by rw [growS_len]; omega
   have hx := wAt_some hgl
   have hwl : wAt (growS U (i / 64)) (i / 64) < 2 ^ 64 := by rw [wAt_grow]; exact wAt_lt hU _
   rw [← hlen, hgr]
   generalize growS U (i / 64) = V at hgl hx hwl
   generalize wAt V (i / 64) = y at hx hwl
   refine SQ.idxO tt_ok rfl rfl (i / 64) (rfl) rfl ?_ (hlt := hgl)
   refine G tt_ok pk95 ?_
   refine SQ.ldO tt_ok rfl rfl (w_rdO hx) ?_
   refine G tt_ok pk95 ?_
   rw [sh_i hi, one_shl (by omega), or64 hwl (Nat.pow_lt_pow_right (by omega) (by omega))]
   refine SQ.idxO tt_ok rfl rfl (i / 64) (rfl) rfl ?_ (hlt := hgl)
   refine G tt_ok pk95 ?_
   generalize hz : y ||| 2 ^ (i % 64) = z
   (refine SQ.stO tt_ok rfl rfl (by repeat (first | exact .h | apply UpO.t)) (by omega) (by rfl) (w_wrO hx z) (by repeat (first | exact trivial | refine ⟨trivial, ?_⟩ | refine ⟨wk (by repeat (first | exact .h | exact .q | apply At.t)) (by rfl), ?_⟩)) ?_)
   refine G tt_ok pk95 ?_
   refine CW.ret (fin_ret rfl (A := setL S q1 c1 (V.set (i / 64) z)) (by unfold setL; rw [List.length_set]; exact pk_) ⟨q1, c1, rfl, rfl⟩)
@[reducible] def pk87 : List (Nat × Plan) := []
@[reducible] def pk57 : List (Nat × Plan) := []
variable {T : Nat}
theorem of104 (β : Base) : Tri Tryz.prog β 87 [.slice none 0 0] [] (fun v L => ∃ S, v = .pointer (some ⟨S, 0, none⟩) ∧ L = setL S none 0 []) := by
 refine Tri.intro tt_ok Tryz.func87 rfl rfl Tryz.ntmps87 rfl fun F => ?_
 (refine G tt_ok pk87 ?_; repeat (refine G1 tt_ok pk87 ?_; intro _))
 rename_i S
 refine CW.loop (α := Nat) (fun k => k = 0) (fun k => [(10, .int .i64 0), (9, .int .i64 0), (3, .pointer (some ⟨S, 0, none⟩))]) (fun k => [pt S [.slice none 0 0]]) (fun k => 0) 0 rfl ⟨rfl, rfl, rfl, trivial⟩ pk_ ?_
 intro k hk
 refine G tt_ok pk87 ?_
 refine CW.exit ?_
 refine G tt_ok pk87 ?_
 refine CW.ret (fin_ret rfl (A := setL S none 0 []) ?_ ⟨S, rfl, rfl⟩)
 unfold setL
 exact (own_nil 121 1).trans pk_
def hasL (k : Nat) (on : Bool) (U B : List Nat) (n : Int) : Bool := idxV n && (if on then hasS U (n - 8192).toNat else bitP B k (n - 8192).toNat)
theorem idx_in {n : Int} (hn : n ≤ 9223372036854775807) (h : idxV n = true) : ∃ i : Nat, i < 512 ∧ i < 512 ∧ n = ((8192 + i : Nat) : Int) ∧ IntKind.i64.wrap (n - 8192) = (i : Int) ∧ (n - 8192).toNat = i := by
 unfold idxV at h
 simp only [Bool.and_eq_true, decide_eq_true_eq] at h
 rw [wrap_id (by omega) (by omega)] at h
 exact ⟨(n - 8192).toNat, by omega, by omega, by omega, by rw [wrap_id (by omega) (by omega)]; omega, rfl⟩
def colA (p : Nat) (r : Gr) (S : Nat) (q : Option Addr) (c k : Nat) (on : Bool) (U : List Nat) : List Atom := pt p (lpC k on r S) :: setL S q c U
set_option maxHeartbeats 4000000 in
theorem has17 (β : Base) (p : Nat) (r : Gr) (S m : Nat) (g : Gr) (q : Option Addr) (c : Nat) {k : Nat} (hk : k < 8) (on : Bool) {U : List Nat} (hU : setOk U) (B : List Nat) (hB : okT T B.length) (hb : byOk B) {n : Int} (hn : n ≤ 9223372036854775807) :
  Tri Tryz.prog β 57 [.pointer (some ⟨p, 0, none⟩), .pointer (some ⟨m, 0, none⟩), .int .i64 n] (colA p r S q c k on U ++ memA m g B) (fun v L => v = .bool (hasL k on U B n) ∧ L = colA p r S q c k on U ++ memA m g B) := by
 refine Tri.intro tt_ok Tryz.func57 rfl rfl Tryz.ntmps57 rfl fun F => ?_
 unfold hasL colA
 refine G tt_ok pk57 ?_
 refine ke rfl rfl (index45 β p k on r S n) ?_
 cases h : idxV n with
 | false =>
  refine G tt_ok pk57 ?_
  exact CW.ret (fin_ret rfl pk_ ⟨rfl, rfl⟩)
 | true =>
  obtain ⟨i, hi, hi64, e1, e2, e3⟩ := idx_in hn h
  rw [e2, e3]
  cases on with
  | true =>
   refine G tt_ok pk57 ?_
   refine ke rfl rfl (has46 β S q c hU hi64) ?_
   cases hasS U i <;> (
    refine G tt_ok pk57 ?_
    exact CW.ret (fin_ret rfl pk_ ⟨rfl, rfl⟩))
  | false =>
   refine G tt_ok pk57 ?_
   refine ke rfl rfl (stored47 β p m g hk false r S B hB hb hi64) ?_
   refine G tt_ok pk57 ?_
   exact CW.ret (fin_ret rfl pk_ ⟨by simp; rfl, rfl⟩)
@[reducible] def pk61 : List (Nat × Plan) := []
@[reducible] def pk149 : List (Nat × Plan) := []
variable {T : Nat}
def setLV (k : Nat) (on : Bool) (U B : List Nat) (n : Int) (v : Bool) : List Nat × List Nat := if idxV n then (if on then (if v then putS U (n - 8192).toNat else takeS U (n - 8192).toNat, B) else (U, stP B k (n - 8192).toNat v)) else (U, B)
theorem setLV_ok {k : Nat} (hk : k < 8) (on : Bool) {U B : List Nat} (hU : setOk U) (hB : okT T B.length) (hb : byOk B) {n : Int} (hn : n ≤ 9223372036854775807) (v : Bool) : setOk (setLV k on U B n v).1 ∧ okT T (setLV k on U B n v).2.length ∧ byOk (setLV k on U B n v).2 := by
 unfold setLV
 split
 ·rename_i h
  obtain ⟨i, hi, hi64, e1, e2, e3⟩ := idx_in hn h
  rw [e3]
  cases on with
  | true => cases v <;> exact ⟨by first | exact takeS_ok hU i | exact putS_ok hU hi64, hB, hb⟩
  | false => exact ⟨hU, stP_len hB hk hi64 v, stP_ok hb k i v⟩
 ·exact ⟨hU, hB, hb⟩
set_option maxHeartbeats 4000000 in
theorem set89 (β : Base) (p : Nat) (r : Gr) (S m : Nat) (g : Gr) (q : Option Addr) (c : Nat) {k : Nat} (hk : k < 8) (on : Bool) {U : List Nat} (hU : setOk U) (B : List Nat) (hB : okT T B.length) (hb : byOk B) {n : Int} (hn : n ≤ 9223372036854775807) (v : Bool) :
  Tri Tryz.prog β 61 [.pointer (some ⟨p, 0, none⟩), .pointer (some ⟨m, 0, none⟩), .int .i64 n, .bool v] (colA p r S q c k on U ++ memA m g B)
   (fun u L => ∃ q' c', u = .tuple #[.bool (hasL k on U B n), .int .i64 (if idxV n then 0 else 150)] ∧ L = colA p r S q' c' k on (setLV k on U B n v).1 ++ memA m g (setLV k on U B n v).2) := by
 refine Tri.intro tt_ok Tryz.func61 rfl rfl Tryz.ntmps61 rfl fun F => ?_
 unfold setLV
 refine G tt_ok pk61 ?_
 have e0 : colA p r S q c k on U = pt p (lpC k on r S) :: setL S q c U := rfl
 rw [e0]
 refine ke rfl rfl (index45 β p k on r S n) ?_
 cases h : idxV n with
 | false =>
  refine G tt_ok pk61 ?_
  refine CW.ret (fin_ret rfl (A := colA p r S q c k on U ++ memA m g B) (by rw [e0]; exact pk_) ⟨q, c, by simp [hasL, h]; rfl, rfl⟩)
 | true =>
  obtain ⟨i, hi, hi64, e1, e2, e3⟩ := idx_in hn h
  rw [e2, e3]
  refine G tt_ok pk61 ?_
  have hh := has17 β p r S m g q c hk on hU B hB hb hn
  rw [e0] at hh
  refine ke rfl rfl (hh) ?_
  cases on with
  | true =>
   refine G tt_ok pk61 ?_
   cases v with
   | true =>
    refine G tt_ok pk61 ?_
    (refine ka rfl rfl (put105 β S q c hU hi64) ?_; rintro _ _ ⟨q', c', rfl, rfl⟩; refine w_ ?_)
    refine G tt_ok pk61 ?_
    exact CW.ret (fin_ret rfl (A := colA p r S q' c' k true (putS U i) ++ memA m g B) (by unfold colA; exact pk_) ⟨q', c', rfl, rfl⟩)
   | false =>
    refine G tt_ok pk61 ?_
    refine ke rfl rfl (take127 β S q c hU hi64) ?_
    refine G tt_ok pk61 ?_
    exact CW.ret (fin_ret rfl (A := colA p r S q c k true (takeS U i) ++ memA m g B) (by unfold colA; exact pk_) ⟨q, c, rfl, rfl⟩)
  | false =>
   refine G tt_ok pk61 ?_
   refine ke rfl rfl (store106 β p m g hk false r S B hB hb hi64 v) ?_
   refine G tt_ok pk61 ?_
   exact CW.ret (fin_ret rfl (A := colA p r S q c k false U ++ memA m g (stP B k i v)) (by unfold colA; exact pk_) ⟨q, c, rfl, rfl⟩)
def invV (k : Nat) (C B : List Nat) (n : Int) : List Nat := if idxV n then C.set (n - 8192).toNat (rdN B (10240 + (n - 8192).toNat) 1) else C
theorem acc_c {n : Nat} (hn : okT T n) {i : Nat} (hi : i < 512) : accV n 10240 512 (i : Int) 1 = 0 := by
 have h1 : holdsV n 10240 512 = true := by unfold holdsV; simp; omega
 unfold accV mayV
 rw [if_pos h1, if_neg (by simp), if_neg (by simp), wrap_id (by omega) (by omega), if_neg (by omega)]
set_option maxHeartbeats 4000000 in
theorem inv86 (β : Base) (p : Nat) (r : Gr) (S m : Nat) (g : Gr) {k : Nat} (hk : k < 8) (on : Bool) (C : List Nat) (hC : C.length = 512) (B : List Nat) (hB : okT T B.length) (hb : byOk B) {n : Int} (hn : n ≤ 9223372036854775807) :
  Tri Tryz.prog β 149 [.pointer (some ⟨p, 0, none⟩), .pointer (some ⟨m, 0, none⟩), .int .i64 n] (pt p (lpC k on r S) :: pt r.1 (bys C ++ r.2) :: memA m g B)
   (fun u L => u = .int .i64 (if idxV n then 0 else 150) ∧ L = pt p (lpC k on r S) :: pt r.1 (bys (invV k C B n) ++ r.2) :: memA m g B) := by
 refine Tri.intro tt_ok Tryz.func149 rfl rfl Tryz.ntmps149 rfl fun F => ?_
 unfold invV
 refine G tt_ok pk149 ?_
 refine ke rfl rfl (index45 β p k on r S n) ?_
 cases h : idxV n with
 | false =>
  refine G tt_ok pk149 ?_
  exact CW.ret (fin_ret rfl pk_ ⟨rfl, rfl⟩)
 | true =>
  obtain ⟨i, hi, hi64, e1, e2, e3⟩ := idx_in hn h
  rw [e2, e3]
  refine G tt_ok pk149 ?_
  have hr : memRd B 10240 512 (i : Int) 1 = (rdN B (10240 + i) 1, 0) := by
   unfold memRd
   rw [if_pos (acc_c hB hi64)]
   rfl
  have hx : rdN B (10240 + i) 1 < 256 := rdN_lt hb _ 1
  refine ke rfl rfl (read91 β m g B (by omega) hb 10240 512 (i : Int) 1) ?_
  rw [hr]
  refine G tt_ok pk149 ?_
  refine SQ.idx tt_ok rfl rfl i rfl hi (o' := 0 + i * 1) rfl ?_
  refine G tt_ok pk149 ?_
  generalize rdN B (10240 + i) 1 = x at hx ⊢
  rw [show IntKind.u8.wrap (x : Int) = (x : Int) by unfold IntKind.wrap; simp [IntKind.signed, IntKind.bits]; omega]
  (refine SQ.stA tt_ok rfl rfl (by repeat (first | apply Up.h | apply Up.t)) (by rfl) (bys_wr (show i < C.length by omega) x) (by repeat (first | exact trivial | refine ⟨trivial, ?_⟩ | refine ⟨wk (by repeat (first | exact .h | exact .q | apply At.t)) (by rfl), ?_⟩)) ?_)
  refine G tt_ok pk149 ?_
  exact CW.ret (fin_ret rfl pk_ ⟨rfl, rfl⟩)
@[reducible] def pk97 : List (Nat × Plan) := []
@[reducible] def pk50 : List (Nat × Plan) := []
variable {T : Nat}
def invK (k : Nat) (C B : List Nat) : Nat → List Nat
 | 0 => C
 | j + 1 => invV k (invK k C B j) B ((8192 + j : Nat) : Int)
theorem invK_len (k : Nat) (C B : List Nat) : ∀ j, (invK k C B j).length = C.length
 | 0 => rfl
 | j + 1 => by
  unfold invK invV
  split <;> simp [invK_len k C B j]
theorem invK_succ (k : Nat) (C B : List Nat) (j : Nat) : invK k C B (j + 1) = invV k (invK k C B j) B ((8192 + j : Nat) : Int) := rfl
theorem invK_zero (k : Nat) (C B : List Nat) : invK k C B 0 = C := rfl
attribute [local irreducible] invK
set_option maxHeartbeats 4000000 in
theorem invAll41 (β : Base) (p : Nat) (r : Gr) (S m : Nat) (g : Gr) {k : Nat} (hk : k < 8) (on : Bool) (C : List Nat) (hC : C.length = 512) (B : List Nat) (hB : okT T B.length) (hb : byOk B) :
  Tri Tryz.prog β 97 [.pointer (some ⟨p, 0, none⟩), .pointer (some ⟨m, 0, none⟩)] (pt p (lpC k on r S) :: pt r.1 (bys C ++ r.2) :: memA m g B)
   (fun u L => u = .tuple #[] ∧ L = pt p (lpC k on r S) :: pt r.1 (bys (invK k C B 512) ++ r.2) :: memA m g B) := by
 refine Tri.intro tt_ok Tryz.func97 rfl rfl Tryz.ntmps97 rfl fun F => ?_
 refine G tt_ok pk97 ?_
 refine CW.loop (α := Nat) (fun j => j ≤ 512) (fun j => [(9, .int .i64 j), (8, .int .i64 512), (1, .pointer (some ⟨m, 0, none⟩)), (0, .pointer (some ⟨p, 0, none⟩))])
  (fun j => pt p (lpC k on r S) :: pt r.1 (bys (invK k C B j) ++ r.2) :: memA m g B) (fun j => 512 - j) 0 (by omega) ⟨rfl, rfl, rfl, rfl, trivial⟩ (by rw [invK_zero]; exact pk_) ?_
 intro j hj
 refine G tt_ok pk97 ?_
 by_cases hlt : j < 512
 ·rw [decide_eq_true (show (j : Int) < 512 by omega)]
  have hwr : IntKind.i64.wrap ((j : Int) + 1) = ((j + 1 : Nat) : Int) := by rw [wrap_i64]; split <;> omega
  refine G tt_ok pk97 ?_
  rw [show IntKind.i64.wrap (8192 + (j : Int)) = ((8192 + j : Nat) : Int) by rw [wrap_id (by omega) (by omega)]; omega]
  refine ke rfl rfl (inv86 β p r S m g hk on (invK k C B j) (by rw [invK_len]; exact hC) B hB hb (n := ((8192 + j : Nat) : Int)) (by omega)) ?_
  refine G tt_ok pk97 ?_
  exact ⟨j + 1, by omega, by omega, ⟨by rw [← hwr]; rfl, rfl, rfl, rfl, trivial⟩, by rw [invK_succ]; exact pk_⟩
 ·rw [decide_eq_false (show ¬ (j : Int) < 512 by omega)]
  refine G tt_ok pk97 ?_
  refine CW.exit ?_
  refine G tt_ok pk97 ?_
  obtain rfl : j = 512 := by omega
  exact fin_normal (vs := []) rfl pk_ ⟨rfl, rfl⟩
def enK (k : Nat) (U B : List Nat) : Nat → List Nat × List Nat
 | 0 => (U, B)
 | j + 1 => if bitP (enK k U B j).2 k j then (putS (enK k U B j).1 j, stP (enK k U B j).2 k j false) else enK k U B j
theorem enK_ok {k : Nat} (hk : k < 8) {U B : List Nat} (hU : setOk U) (hB : okT T B.length) (hb : byOk B) : ∀ {j}, j ≤ 512 → setOk (enK k U B j).1 ∧ okT T (enK k U B j).2.length ∧ byOk (enK k U B j).2
 | 0, _ => ⟨hU, hB, hb⟩
 | j + 1, hj => by
  obtain ⟨h1, h2, h3⟩ := enK_ok hk hU hB hb (j := j) (by omega)
  unfold enK
  split
  ·exact ⟨putS_ok h1 (by omega), stP_len h2 hk (by omega) _, stP_ok h3 _ _ _⟩
  ·exact ⟨h1, h2, h3⟩
theorem enK_succ (k : Nat) (U B : List Nat) (j : Nat) : enK k U B (j + 1) = if bitP (enK k U B j).2 k j then (putS (enK k U B j).1 j, stP (enK k U B j).2 k j false) else enK k U B j := rfl
theorem enK_zero (k : Nat) (U B : List Nat) : enK k U B 0 = (U, B) := rfl
attribute [local irreducible] enK
def enW (on : Bool) (U C B : List Nat) (X : List Nat × List Nat) (Y : List Nat) : List Nat × List Nat × List Nat := if on then (U, C, B) else (X.1, Y, X.2)
def enV (k : Nat) (on : Bool) (U C B : List Nat) : List Nat × List Nat × List Nat := enW on U C B (enK k U B 512) (invK k C (enK k U B 512).2 512)
theorem enW_ok (on : Bool) {U C B : List Nat} (hU : setOk U) (hB : okT T B.length) (hb : byOk B) {X : List Nat × List Nat} (hX : setOk X.1 ∧ okT T X.2.length ∧ byOk X.2) {Y : List Nat} (hY : Y.length = C.length) :
  setOk (enW on U C B X Y).1 ∧ (enW on U C B X Y).2.1.length = C.length ∧ okT T (enW on U C B X Y).2.2.length ∧ byOk (enW on U C B X Y).2.2 := by
 unfold enW
 cases on with
 | true => exact ⟨hU, rfl, hB, hb⟩
 | false => exact ⟨hX.1, hY, hX.2.1, hX.2.2⟩
theorem enV_ok {k : Nat} (hk : k < 8) (on : Bool) {U C B : List Nat} (hU : setOk U) (hB : okT T B.length) (hb : byOk B) :
  setOk (enV k on U C B).1 ∧ (enV k on U C B).2.1.length = C.length ∧ okT T (enV k on U C B).2.2.length ∧ byOk (enV k on U C B).2.2 :=
 enW_ok on hU hB hb (enK_ok hk hU hB hb (Nat.le_refl 512)) (invK_len k C _ 512)
set_option maxHeartbeats 4000000 in
theorem enable59 (β : Base) (p : Nat) (r : Gr) (S m : Nat) (g : Gr) (q : Option Addr) (c : Nat) {k : Nat} (hk : k < 8) (on : Bool) {U : List Nat} (hU : setOk U) (C : List Nat) (hC : C.length = 512) (B : List Nat) (hB : okT T B.length) (hb : byOk B) :
  Tri Tryz.prog β 50 [.pointer (some ⟨p, 0, none⟩), .pointer (some ⟨m, 0, none⟩)] (colA p r S q c k on U ++ (pt r.1 (bys C ++ r.2) :: memA m g B))
   (fun u L => ∃ q' c', u = .tuple #[] ∧ L = colA p r S q' c' k true (enV k on U C B).1 ++ (pt r.1 (bys (enV k on U C B).2.1 ++ r.2) :: memA m g (enV k on U C B).2.2)) := by
 refine Tri.intro tt_ok Tryz.func50 rfl rfl Tryz.ntmps50 rfl fun F => ?_
 have e0 : ∀ q c on U, colA p r S q c k on U = pt p (lpC k on r S) :: setL S q c U := fun _ _ _ _ => rfl
 unfold enV enW
 rw [e0]
 cases on with
 | true =>
  refine G tt_ok pk50 ?_
  exact CW.ret (fin_ret (vs := []) rfl (A := colA p r S q c k true U ++ (pt r.1 (bys C ++ r.2) :: memA m g B)) (by rw [e0]; exact pk_) ⟨q, c, rfl, rfl⟩)
 | false =>
  refine G tt_ok pk50 ?_
  refine CW.loop (α := Nat × Option Addr × Nat) (fun x => x.1 ≤ 512) (fun x => [(16, .int .i64 x.1), (15, .int .i64 512), (1, .pointer (some ⟨m, 0, none⟩)), (0, .pointer (some ⟨p, 0, none⟩))])
   (fun x => pt p (lpC k true r S) :: setL S x.2.1 x.2.2 (enK k U B x.1).1 ++ (pt r.1 (bys C ++ r.2) :: memA m g (enK k U B x.1).2)) (fun x => 512 - x.1) (0, q, c) (by simp) ⟨rfl, rfl, rfl, rfl, trivial⟩ (by simp only [enK_zero]; exact pk_) ?_
  rintro ⟨j, q1, c1⟩ hj
  simp only at hj ⊢
  obtain ⟨h1, h2, h3⟩ := enK_ok hk hU hB hb hj
  have hE : enK k U B (j + 1) = if bitP (enK k U B j).2 k j then (putS (enK k U B j).1 j, stP (enK k U B j).2 k j false) else enK k U B j := enK_succ k U B j
  refine G tt_ok pk50 ?_
  by_cases hlt : j < 512
  ·rw [decide_eq_true (show (j : Int) < 512 by omega)]
   have hwr : IntKind.i64.wrap ((j : Int) + 1) = ((j + 1 : Nat) : Int) := by rw [wrap_i64]; split <;> omega
   refine G tt_ok pk50 ?_
   refine ke rfl rfl (stored47 β p m g hk true r S (enK k U B j).2 h2 h3 (show j < 512 by omega)) ?_
   cases hbit : bitP (enK k U B j).2 k j with
   | true =>
    rw [hbit, if_pos rfl] at hE
    refine G tt_ok pk50 ?_
    (refine ka rfl rfl (put105 β S q1 c1 h1 (show j < 512 by omega)) ?_; rintro _ _ ⟨q2, c2, rfl, rfl⟩; refine w_ ?_)
    refine G tt_ok pk50 ?_
    refine ke rfl rfl (store106 β p m g hk true r S (enK k U B j).2 h2 h3 (show j < 512 by omega) false) ?_
    refine G tt_ok pk50 ?_
    exact ⟨(j + 1, q2, c2), by simp; omega, by simp; omega, ⟨by rw [← hwr]; rfl, rfl, rfl, rfl, trivial⟩, by rw [hE]; exact pk_⟩
   | false =>
    rw [hbit, if_neg (by simp)] at hE
    refine G tt_ok pk50 ?_
    exact ⟨(j + 1, q1, c1), by simp; omega, by simp; omega, ⟨by rw [← hwr]; rfl, rfl, rfl, rfl, trivial⟩, by rw [hE]; exact pk_⟩
  ·rw [decide_eq_false (show ¬ (j : Int) < 512 by omega)]
   refine G tt_ok pk50 ?_
   refine CW.exit ?_
   refine G tt_ok pk50 ?_
   obtain rfl : j = 512 := by omega
   refine ke rfl rfl (invAll41 β p r S m g hk true C hC (enK k U B 512).2 h2 h3) ?_
   refine G tt_ok pk50 ?_
   exact fin_normal (vs := []) rfl (A := colA p r S q1 c1 k true (enK k U B 512).1 ++ (pt r.1 (bys (invK k C (enK k U B 512).2 512) ++ r.2) :: memA m g (enK k U B 512).2)) (by rw [e0]; exact pk_) ⟨q1, c1, rfl, rfl⟩
end Go.Proofs.YtakkogdmlbkdaaaGreatDoor.Sl.It
namespace Go.Proofs.YtakkogdmlbkdaaaGreatDoor.Sl.It
attribute [local irreducible] CW Tri OW
@[reducible] def pk192 : List (Nat × Plan) := []
@[reducible] def pk194 : List (Nat × Plan) := []
variable {T : Nat}
theorem tabGet_ok (B : List Nat) (a s p id : Int) : okDv (tabGet B a s p id).1 := by
 unfold tabGet
 split
 ·exact devV_ok _
 ·exact ⟨by simp, by simp, by simp, by simp⟩
def deviceV (B : List Nat) (p id : Int) : Dv × Int := ((tabGet B 1024 256 p id).1, if (tabGet B 1024 256 p id).2 = 0 ∧ (tabGet B 1024 256 p id).1.1 = false then 181 else (tabGet B 1024 256 p id).2)
set_option maxHeartbeats 4000000 in
theorem device83 (β : Base) (s : Sr) (m : Nat) (g : Gr) (B : List Nat) (hB : okT T B.length) (hb : byOk B) (on st : Bool) (i j : Nat) {p : Int} (hp : p = 0 ∨ p = 64) (id : Int) : Tri Tryz.prog β 192 [.pointer (some ⟨s.1, 4, none⟩), .pointer (some ⟨m, 0, none⟩), .int .i64 id] (pt s.1 (itH s.2 on st i j p) :: memA m g B)
  (fun v L => v = .tuple #[.agg #[.bool (deviceV B p id).1.1, .int .i64 (deviceV B p id).1.2.1, .int .i64 (deviceV B p id).1.2.2], .int .i64 (deviceV B p id).2] ∧ L = pt s.1 (itH s.2 on st i j p) :: memA m g B) := by
 refine Tri.intro tt_ok Tryz.func192 rfl rfl Tryz.ntmps192 rfl fun F => ?_
 unfold deviceV
 have hh : holdsV B.length 1024 256 = true := by unfold holdsV; simp; omega
 (refine G tt_ok pk192 ?_; repeat (refine G1 tt_ok pk192 ?_; intro _))
 refine ke rfl rfl (get75 β m g B (by omega) hb hp hh id) ?_
 generalize tabGet B 1024 256 p id = x
 obtain ⟨⟨d0, d1, d2⟩, e⟩ := x
 simp only
 (refine G tt_ok pk192 ?_; repeat (refine G1 tt_ok pk192 ?_; intro _))
 by_cases he : e = 0
 ·subst he
  refine G tt_ok pk192 ?_
  cases d0 <;> (
   refine G tt_ok pk192 ?_
   exact CW.ret (fin_cells [_, _] ⟨cl_, rfl, trivial⟩ pk_ ⟨by simp; rfl, rfl⟩))
 ·rw [show (e == 0) = false by simp [he], if_neg (fun h => he h.1)]
  refine G tt_ok pk192 ?_
  exact CW.ret (fin_cells [_, _] ⟨cl_, rfl, trivial⟩ pk_ ⟨rfl, rfl⟩)
def targetW (B : List Nat) (c : Int) : Int × Int := ((targetV B 1792 64 c).1, if (targetV B 1792 64 c).2.2 = 0 ∧ (targetV B 1792 64 c).2.1 = false then 183 else (targetV B 1792 64 c).2.2)
set_option maxHeartbeats 4000000 in
theorem target44 (β : Base) (s : Sr) (m : Nat) (g : Gr) (B : List Nat) (hB : okT T B.length) (hb : byOk B) (on st : Bool) (i j : Nat) (p : Int) (c : Int) : Tri Tryz.prog β 194 [.pointer (some ⟨s.1, 4, none⟩), .pointer (some ⟨m, 0, none⟩), .int .i64 c] (pt s.1 (itH s.2 on st i j p) :: memA m g B)
  (fun v L => v = .tuple #[.int .i64 (targetW B c).1, .int .i64 (targetW B c).2] ∧ L = pt s.1 (itH s.2 on st i j p) :: memA m g B) := by
 refine Tri.intro tt_ok Tryz.func194 rfl rfl Tryz.ntmps194 rfl fun F => ?_
 unfold targetW
 refine G tt_ok pk194 ?_
 refine ke rfl rfl (target85 β m g B (by omega) hb 1792 64 c) ?_
 generalize targetV B 1792 64 c = x
 obtain ⟨t, is, e⟩ := x
 simp only
 refine G tt_ok pk194 ?_
 by_cases he : e = 0
 ·subst he
  refine G tt_ok pk194 ?_
  cases is <;> (
   refine G tt_ok pk194 ?_
   exact CW.ret (fin_ret rfl pk_ ⟨by simp; rfl, rfl⟩))
 ·rw [show (e == 0) = false by simp [he], if_neg (fun h => he h.1)]
  refine G tt_ok pk194 ?_
  exact CW.ret (fin_ret rfl pk_ ⟨rfl, rfl⟩)
@[reducible] def pk158 : List (Nat × Plan) := []
variable {T : Nat}
theorem deviceV_ok (B : List Nat) (p id : Int) : okDv (deviceV B p id).1 := tabGet_ok B 1024 256 p id
def eventV (B : List Nat) (p id ev : Int) : Rt × Int := if (deviceV B p id).2 ≠ 0 then ((0, 0, false), (deviceV B p id).2) else
 ((devRt B (deviceV B p id).1 ev).1, if (devRt B (deviceV B p id).1 ev).2 = 0 ∧ (devRt B (deviceV B p id).1 ev).1.2.2 = false then 182 else (devRt B (deviceV B p id).1 ev).2)
set_option maxHeartbeats 4000000 in
theorem event43 (β : Base) (s : Sr) (m : Nat) (g : Gr) (B : List Nat) (hB : okT T B.length) (hb : byOk B) (on st : Bool) (i j : Nat) {p : Int} (hp : p = 0 ∨ p = 64) (id ev : Int) : Tri Tryz.prog β 158 [.pointer (some ⟨s.1, 4, none⟩), .pointer (some ⟨m, 0, none⟩), .int .i64 id, .int .i64 ev] (pt s.1 (itH s.2 on st i j p) :: memA m g B)
  (fun v L => v = .tuple #[.agg #[.int .i64 (eventV B p id ev).1.1, .int .i64 (eventV B p id ev).1.2.1, .bool (eventV B p id ev).1.2.2], .int .i64 (eventV B p id ev).2] ∧ L = pt s.1 (itH s.2 on st i j p) :: memA m g B) := by
 refine Tri.intro tt_ok Tryz.func158 rfl rfl Tryz.ntmps158 rfl fun F => ?_
 unfold eventV
 (refine G tt_ok pk158 ?_; repeat (refine G1 tt_ok pk158 ?_; intro _))
 refine ke rfl rfl (device83 β s m g B hB hb on st i j hp id) ?_
 have hd := deviceV_ok B p id
 generalize deviceV B p id = x at hd ⊢
 obtain ⟨d, e⟩ := x
 simp only at hd ⊢
 (refine G tt_ok pk158 ?_; repeat (refine G1 tt_ok pk158 ?_; intro _))
 by_cases he : e = 0
 ·subst he
  rw [if_neg (by simp)]
  refine G tt_ok pk158 ?_
  refine ke rfl rfl (route84 β m g B (by omega) hb d hd ev) ?_
  generalize devRt B d ev = y
  obtain ⟨⟨r0, r1, r2⟩, e⟩ := y
  simp only
  (refine G tt_ok pk158 ?_; repeat (refine G1 tt_ok pk158 ?_; intro _))
  by_cases he : e = 0
  ·subst he
   refine G tt_ok pk158 ?_
   cases r2 <;> (
    refine G tt_ok pk158 ?_
    exact CW.ret (fin_cells [_, _] ⟨cl_, rfl, trivial⟩ pk_ ⟨by simp; rfl, rfl⟩))
  ·rw [show (e == 0) = false by simp [he], if_neg (fun h => he h.1)]
   refine G tt_ok pk158 ?_
   exact CW.ret (fin_cells [_, _] ⟨cl_, rfl, trivial⟩ pk_ ⟨rfl, rfl⟩)
 ·rw [show (e != 0) = true by simp [he], if_pos he]
  refine G tt_ok pk158 ?_
  exact CW.ret (fin_cells [_, _] ⟨cl_, rfl, trivial⟩ pk_ ⟨rfl, rfl⟩)
@[reducible] def pk92 : List (Nat × Plan) := [(6, [(0, 0, []), (1, 0, []), (2, 0, []), (3, 0, []), (4, 0, []), (5, 0, []), (6, 0, []), (7, 0, []), (8, 0, []), (10, 0, []), (11, 0, []), (9, 1, [2, 5]), (12, 0, []), (13, 1, [2, 5]), (14, 0, [])])]
variable {T : Nat}
def leadV (B : List Nat) (k : Nat) : List Nat := wrN B (1024 + 8 * k) 8 (2 ^ 63 + 1280 + 64 * k)
theorem lead_or {x : Nat} (hx : x < 2048) : IntKind.u64.wrap ((BitVec.ofInt IntKind.u64.bits ((2 ^ 63 : Nat) : Int) ||| BitVec.ofInt IntKind.u64.bits (x : Int)).toNat : Int) = ((2 ^ 63 + x : Nat) : Int) := by
 have := or_add (k := 11) (q := 2 ^ 52) (b := x) hx (by omega)
 simpa using this
theorem leadV_ok {B : List Nat} (hB : okT T B.length) (hb : byOk B) {k : Nat} (hk : k < 4) : okT T (leadV B k).length ∧ byOk (leadV B k) := by
 unfold leadV
 exact ⟨by rw [wrN_len _ (by omega)]; exact hB, wrN_ok _ _ _ hb⟩
set_option maxHeartbeats 4000000 in
theorem lead54 (β : Base) (m : Nat) (g : Gr) (B : List Nat) (hB : okT T B.length) {k : Nat} (hk : k < 4) : Tri Tryz.prog β 92 [.agg #[.int .i64 1024, .int .i64 256, .int .i64 64], .pointer (some ⟨m, 0, none⟩), .int .i64 ((8 * k : Nat) : Int), .int .i64 ((1280 + 64 * k : Nat) : Int)] (memA m g B)
  (fun v L => v = .int .i64 0 ∧ L = memA m g (leadV B k)) := by
 refine Tri.intro tt_ok Tryz.func92 rfl rfl Tryz.ntmps92 rfl fun F => ?_
 have hh : holdsV B.length 1024 256 = true := by unfold holdsV; simp; omega
 have h2 : holdsV B.length ((1280 + 64 * k : Nat) : Int) 64 = true := by unfold holdsV; simp; omega
 have hr := right97 β m (some ⟨g.1, 0, none⟩) (B.length + g.2.length) (show B.length ≤ 1000000 by omega) (.inr rfl : (64 : Int) = 0 ∨ (64 : Int) = 64) hh
 have hw : memWr B 1024 256 ((8 * k : Nat) : Int) 8 (2 ^ 63 + (1280 + 64 * k)) = (leadV B k, 0) := by
  unfold memWr leadV
  have hh2 : accV B.length 1024 256 ((8 * k : Nat) : Int) 8 = 0 := by
   unfold accV mayV
   rw [if_pos hh, if_neg (by simp), if_neg (by rw [Int.tmod_eq_emod_of_nonneg (by omega)]; omega), wrap_id (by omega) (by omega), if_neg (by omega)]
  rw [if_pos hh2, show (1024 + ((8 * k : Nat) : Int)).toNat = 1024 + 8 * k by omega, show 2 ^ 63 + 1280 + 64 * k = 2 ^ 63 + (1280 + 64 * k) by omega]
  rfl
 unfold memA
 (refine G tt_ok pk92 ?_; repeat (refine G1 tt_ok pk92 ?_; intro _))
 refine ke rfl rfl (hr) ?_
 refine G tt_ok pk92 ?_
 rw [decide_eq_false (show ¬ ((8 * k : Nat) : Int) < 0 by omega)]
 refine G tt_ok pk92 ?_
 rw [decide_eq_false (show ¬ ((8 * k : Nat) : Int) ≥ 131072 by omega)]
 refine G tt_ok pk92 ?_
 refine ke rfl rfl (holds29 β m (some ⟨g.1, 0, none⟩) (B.length + g.2.length) (show B.length ≤ 1000000 by omega) ((1280 + 64 * k : Nat) : Int) 64) ?_
 rw [h2]
 refine G tt_ok pk92 ?_
 rw [wN (show 1280 + 64 * k < 2 ^ 64 by omega), show IntKind.i64.wrap (IntKind.i64.wrap (((8 * k : Nat) : Int).tdiv (IntKind.i64.wrap (Int.tdiv 64 8))) * 8) = ((8 * k : Nat) : Int) by match k, hk with | 0, _ | 1, _ | 2, _ | 3, _ => rfl]
 refine ke rfl rfl (flag98 β true) ?_
 refine G tt_ok pk92 ?_
 rw [if_pos rfl, lead_or (show 1280 + 64 * k < 2048 by omega)]
 refine ke rfl rfl (write68 β m g B (by omega) 1024 256 ((8 * k : Nat) : Int) 8 (2 ^ 63 + (1280 + 64 * k)) (by omega)) ?_
 rw [hw]
 refine G tt_ok pk92 ?_
 exact CW.ret (fin_ret rfl pk_ ⟨rfl, rfl⟩)
variable {T nc : Nat}
@[reducible] def pk159 : List (Nat × Plan) := []
variable {T nc : Nat}
@[reducible] def ptC (x : Nat) : List Value := [.pointer (some ⟨x, 0, none⟩)]
theorem ptC_at : ∀ {ids : List Nat} {k x : Nat}, ids[k]? = some x → (ids.flatMap ptC)[k]? = some (.pointer (some ⟨x, 0, none⟩))
 | [], _, _, h => by simp at h
 | a :: r, 0, x, h => by simp at h; subst h; rfl
 | a :: r, k + 1, x, h => by
  have := ptC_at (ids := r) (k := k) (x := x) (by simpa using h)
  simpa [List.flatMap_cons, ptC] using this
theorem pt_cur {cs : List Value} {off n : Nat} {ids : List Nat} (h : (cs.drop off).take (n * 1) = ids.flatMap ptC) {k : Nat} {x : Nat} (hk : ids[k]? = some x) : rdv ti90 cs (off + k * 1) = some (.pointer (some ⟨x, 0, none⟩)) := by
 have h1 := ptC_at hk
 rw [← h] at h1
 have h2 := cells_at (cs := cs) (off := off) (m := n * 1) (j := k) rfl h1
 have h3 : aggD ti90.desc = false := rfl
 have hlt := (List.getElem?_eq_some_iff.1 h2).1
 simp only [rdv, h3, takeN_eq, dropN_eq, Nat.mul_one]
 rw [List.drop_eq_getElem_cons hlt]
 have := (List.getElem?_eq_some_iff.1 h2).2
 simp [this]
theorem targetW_pos (B : List Nat) (c : Int) : 0 ≤ (targetW B c).1 := by
 unfold targetW targetV
 simp only
 split
 ·simp
 ·split
  ·simp
  ·split
   ·simp
   ·simp only; omega
def sideV (nc : Nat) (B : List Nat) (c : Int) : Option Nat × Int := if (targetW B c).2 ≠ 0 then (none, (targetW B c).2) else if (targetW B c).1 ≥ nc then (none, 130) else (some (targetW B c).1.toNat, 0)
def sideP (ps : List Nat) (r : Option Nat) : Value := match r with
 | some k => .pointer (some ⟨ps.getD k 0, 0, none⟩)
 | none => .pointer none
set_option maxHeartbeats 4000000 in
theorem side40 (β : Base) (s : Sr) (m : Nat) (g : Gr) (B : List Nat) (hB : okT T B.length) (hb : byOk B) (on st : Bool) (i j : Nat) (p : Int) {q : Option Addr} {cp : Nat} {ps : List Nat} {A : Atom} (hS : SlR β A q nc 1 (ps.flatMap ptC)) (hps : ps.length = nc) (c : Int) :
  Tri Tryz.prog β 159 [.pointer (some ⟨s.1, 4, none⟩), .pointer (some ⟨m, 0, none⟩), .slice q nc cp, .int .i64 c] (pt s.1 (itH s.2 on st i j p) :: A :: memA m g B)
  (fun v L => v = .tuple #[sideP ps (sideV nc B c).1, .int .i64 (sideV nc B c).2] ∧ L = pt s.1 (itH s.2 on st i j p) :: A :: memA m g B) := by
 refine Tri.intro tt_ok Tryz.func159 rfl rfl Tryz.ntmps159 rfl fun F => ?_
 unfold sideV
 refine G tt_ok pk159 ?_
 refine ke rfl rfl (target44 β s m g B hB hb on st i j p c) ?_
 have hpos := targetW_pos B c
 generalize targetW B c = x at hpos ⊢
 obtain ⟨t, e⟩ := x
 simp only at hpos ⊢
 refine G tt_ok pk159 ?_
 by_cases he : e = 0
 ·subst he
  rw [if_neg (by simp)]
  refine G tt_ok pk159 ?_
  by_cases ht : t ≥ nc
  ·rw [if_pos ht, decide_eq_true (show t ≥ ((nc : Nat) : Int) from ht)]
   refine G tt_ok pk159 ?_
   exact CW.ret (fin_ret rfl pk_ ⟨rfl, rfl⟩)
  ·rw [if_neg ht, decide_eq_false (show ¬ t ≥ ((nc : Nat) : Int) from ht)]
   obtain ⟨k, rfl⟩ : ∃ k : Nat, t = (k : Int) := ⟨t.toNat, by omega⟩
   have hk : k < nc := by omega
   obtain ⟨y, hy⟩ : ∃ y, ps[k]? = some y := ⟨_, List.getElem?_eq_getElem (by omega)⟩
   refine G tt_ok pk159 ?_
   (refine SQ.idxG tt_ok rfl rfl (hS) (by repeat (first | exact .h | apply AtA.t)) (k) (rfl) (hk) rfl ?_)
   refine G tt_ok pk159 ?_
   (refine SQ.ldG tt_ok rfl rfl (hS) (by repeat (first | exact .h | apply AtA.t)) (by omega) (fun cur hcs => pt_cur hcs hy) ?_)
   refine G tt_ok pk159 ?_
   refine CW.ret (fin_ret rfl pk_ ⟨?_, rfl⟩)
   simp only [sideP, Int.toNat_natCast, List.getD_eq_getElem?_getD, hy]
   rfl
 ·rw [show (e != 0) = true by simp [he], if_pos he]
  refine G tt_ok pk159 ?_
  exact CW.ret (fin_ret rfl pk_ ⟨rfl, rfl⟩)
variable {T nc : Nat}
theorem devRt_lt (B : List Nat) (d : Dv) (ev : Int) : 0 ≤ (devRt B d ev).1.1 ∧ (devRt B d ev).1.1 ≤ 9223372036854775807 ∧ 0 ≤ (devRt B d ev).1.2.1 := by
 unfold devRt
 split
 ·unfold routeV
  split
  ·simp
  ·simp only
   refine ⟨by omega, by omega, by omega⟩
 ·simp
theorem eventV_lt (B : List Nat) (p id ev : Int) : 0 ≤ (eventV B p id ev).1.1 ∧ (eventV B p id ev).1.1 ≤ 9223372036854775807 ∧ 0 ≤ (eventV B p id ev).1.2.1 := by
 unfold eventV
 split
 ·simp
 ·exact devRt_lt B _ ev
structure Lp where
 p : Nat
 r : Gr
 S : Nat
 k : Nat
 q : Option Addr
 c : Nat
 on : Bool
 U : List Nat
 C : List Nat
def colF (x : Lp) : List Atom := colA x.p x.r x.S x.q x.c x.k x.on x.U ++ [pt x.r.1 (bys x.C ++ x.r.2)]
end Go.Proofs.YtakkogdmlbkdaaaGreatDoor.Sl.It
namespace Go.Proofs.YtakkogdmlbkdaaaGreatDoor.Sl.It
attribute [local irreducible] CW Tri OW
attribute [local irreducible] invK enK enV
variable {T nc : Nat}
end Go.Proofs.YtakkogdmlbkdaaaGreatDoor.Sl.It
namespace Go.Proofs.YtakkogdmlbkdaaaGreatDoor.Sl
theorem Tri.post {P : Program} {β : Base} {g : FuncId} {args : List Value} {A : List Atom} {R R' : Value → List Atom → Prop} (h : Tri P β g args A R) (hr : ∀ v L, R v L → ∃ L', Ent L L' ∧ R' v L') : Tri P β g args A R' := by
 unfold Tri at h ⊢
 exact ⟨h.1, fun F n w s => (h.2 F n w s).mono fun e w' ⟨v, A', he, hs, r⟩ => let ⟨L', e', r'⟩ := hr v A' r; ⟨v, L', he, hs.ent (Ent.append (Ent.refl F) e'), r'⟩⟩
theorem Tri.fr {P : Program} {β : Base} {g : FuncId} {args : List Value} {A L F : List Atom} {R : Value → List Atom → Prop} (h : Tri P β g args A R) (hk : Tk A L F := by repeat (first | exact .n | exact Rm.h | apply Tk.c | apply Rm.t)) : Tri P β g args L fun v L' => ∃ A', R v A' ∧ L' = A' ++ F :=
 Tri.mono (Tri.post (Tri.ent (hk.gives.trans (Ent.perm List.perm_append_comm)) (Tri.frame h F)) (R' := fun v L' => ∃ A', R v A' ∧ L' = A' ++ F) fun v L ⟨A', e, r⟩ => ⟨_, Ent.perm (by rw [e]; exact List.perm_append_comm), A', r, rfl⟩) fun _ _ h => h
theorem Tri.en {P : Program} {β : Base} {g : FuncId} {args : List Value} {A : List Atom} {R : Value → List Atom → Prop} (h : Tri P β g args A R) : Enters P g := by
 unfold Tri at h
 exact h.1
end Go.Proofs.YtakkogdmlbkdaaaGreatDoor.Sl
namespace Go.Proofs.YtakkogdmlbkdaaaGreatDoor.Sl.It
attribute [local irreducible] CW Tri OW
attribute [local irreducible] invK enK enV
variable {T nc : Nat}
structure Pc where
 on : Bool
 U : List Nat
 C : List Nat
def Lp.pc (x : Lp) : Pc := ⟨x.on, x.U, x.C⟩
def pc0 : Pc := ⟨false, [], []⟩
def pcsOk (nc : Nat) (cs : List Pc) : Prop := cs.length = nc ∧ ∀ k, k < nc → setOk (cs.getD k pc0).U ∧ (cs.getD k pc0).C.length = 512 ∧ k < 8
def Cols (ps : List Nat) (cs : List Pc) (l : List Lp) : Prop := l.map Lp.p = ps ∧ l.map Lp.pc = cs ∧ l.map Lp.k = List.range cs.length
def colsA (ps : List Nat) (cs : List Pc) : Atom := exA fun l : List Lp => [pureA (Cols ps cs l), pkA colF l]
theorem Cols.at_ {ps : List Nat} {cs : List Pc} {l : List Lp} (h : Cols ps cs l) {k : Nat} (hk : k < cs.length) : ∃ x, l[k]? = some x ∧ x.p = ps.getD k 0 ∧ x.k = k ∧ x.pc = cs.getD k pc0 := by
 obtain ⟨h1, h2, h3⟩ := h
 have hl : l.length = cs.length := by have := congrArg List.length h3; simpa using this
 refine ⟨l[k], List.getElem?_eq_getElem (by omega), ?_, ?_, ?_⟩
 ·subst h1; simp [List.getD_eq_getElem?_getD, show k < l.length by omega]
 ·have e : (l.map Lp.k)[k]? = (List.range cs.length)[k]? := by rw [h3]
  rw [List.getElem?_map, List.getElem?_eq_getElem (by omega), List.getElem?_range hk] at e
  simpa using e
 ·have hk2 : k < l.length := by omega
  subst h2; simp [List.getD_eq_getElem?_getD, hk2]
theorem Cols.set_ {ps : List Nat} {cs : List Pc} {l : List Lp} (h : Cols ps cs l) {k : Nat} (hk : k < cs.length) {x' : Lp} (hp : x'.p = ps.getD k 0) (hx : x'.k = k) : Cols ps (cs.set k x'.pc) (l.set k x') := by
 obtain ⟨x, hx1, hx2, hx3, hx4⟩ := h.at_ hk
 obtain ⟨h1, h2, h3⟩ := h
 refine ⟨?_, ?_, ?_⟩
 ·rw [List.map_set, h1, hp]
  refine set_same_ ?_
  rw [← hx2, ← h1, List.getElem?_map, hx1]; rfl
 ·rw [List.map_set, h2]
 ·rw [List.map_set, h3, hx, List.length_set]
  refine set_same_ ?_
  rw [List.getElem?_range hk]
theorem Tri.cols {P : Program} {β : Base} {g : FuncId} {args : List Value} {A : List Atom} {R : Value → Pc → List Atom → Prop} {ps : List Nat} {cs : List Pc} {k : Nat} (hE : Enters P g) (hk : k < cs.length)
  (h : ∀ x : Lp, x.p = ps.getD k 0 → x.k = k → x.pc = cs.getD k pc0 → Tri P β g args (colF x ++ A) fun v L => ∃ x' A', x'.p = x.p ∧ x'.k = k ∧ R v x'.pc A' ∧ L = colF x' ++ A') :
  Tri P β g args (colsA ps cs :: A) fun v L => ∃ c' A', R v c' A' ∧ L = colsA ps (cs.set k c') :: A' := by
 refine Tri.open_ (fun l => ?_) hE
 refine Tri.pure_ (fun hC => ?_) hE
 obtain ⟨x, hx1, hx2, hx3, hx4⟩ := hC.at_ hk
 have hlen : k < l.length := (List.getElem?_eq_some_iff.1 hx1).1
 have e1 : Ent (pkA colF l :: A) ((colF x ++ A) ++ [pkA colF (l.eraseIdx k)]) := by
  refine (Ent.head (L := A) (pk_open hx1)).trans (Ent.perm ?_)
  rw [List.append_assoc, List.append_assoc]
  exact List.Perm.append_left _ (List.perm_append_comm (l₁ := [pkA colF (l.eraseIdx k)]) (l₂ := A))
 refine Tri.post (Tri.ent (e1.trans (Ent.perm List.perm_append_comm)) (Tri.frame (h x hx2 hx3 hx4) [pkA colF (l.eraseIdx k)])) ?_
 rintro v L ⟨A1, rfl, x', A', hp, hk', hR, rfl⟩
 refine ⟨colsA ps (cs.set k x'.pc) :: A', ?_, x'.pc, A', hR, rfl⟩
 have e2 : Ent ([pkA colF (l.eraseIdx k)] ++ (colF x' ++ A')) ((colF x' ++ [pkA colF (l.eraseIdx k)]) ++ A') := by
  refine Ent.perm ?_
  rw [List.append_assoc]
  exact List.perm_append_comm_assoc _ _ _
 refine e2.trans ?_
 refine Ent.trans (Ent.append (pk_close x' hlen) (Ent.refl A')) ?_
 have hC' := hC.set_ hk (x' := x') (by rw [hp, hx2]) hk'
 have e3 : Ent [pkA colF (l.set k x')] [colsA ps (cs.set k x'.pc)] := (Ent.pureA (L := [pkA colF (l.set k x')]) hC').trans (Ent.exA (f := fun l : List Lp => [pureA (Cols ps (cs.set k x'.pc) l), pkA colF l]) (l.set k x'))
 exact Ent.append e3 (Ent.refl A')
structure SW where
 B : List Nat
 cs : List Pc
def SW.ok (T nc : Nat) (w : SW) : Prop := okT T w.B.length ∧ byOk w.B ∧ pcsOk nc w.cs
def swA (m : Nat) (g : Gr) (ps : List Nat) (w : SW) : List Atom := colsA ps w.cs :: memA m g w.B
def SW.at_ (w : SW) (k : Nat) : Pc := w.cs.getD k pc0
@[reducible] def cpV (ps : List Nat) (k : Nat) : Value := .pointer (some ⟨ps.getD k 0, 0, none⟩)
theorem getD_set {α : Type} {l : List α} {k j : Nat} {x d : α} (hk : k < l.length) : (l.set k x).getD j d = if j = k then x else l.getD j d := by
 simp only [List.getD_eq_getElem?_getD, List.getElem?_set]
 by_cases h : k = j
 ·subst h; simp [hk]
 ·rw [if_neg h, if_neg (fun e => h e.symm)]
theorem pcsOk.set {cs : List Pc} (h : pcsOk nc cs) {k : Nat} (hk : k < nc) {c : Pc} (h1 : setOk c.U) (h2 : c.C.length = 512) : pcsOk nc (cs.set k c) := by
 refine ⟨by rw [List.length_set]; exact h.1, fun j hj => ?_⟩
 rw [getD_set (by rw [h.1]; exact hk)]
 split
 ·rename_i e; subst e; exact ⟨h1, h2, (h.2 j hj).2.2⟩
 ·exact h.2 j hj
def SW.has (w : SW) (k : Nat) (n : Int) : Bool := hasL k (w.at_ k).on (w.at_ k).U w.B n
theorem set_get {cs : List Pc} {k : Nat} : cs.set k (cs.getD k pc0) = cs := by
 by_cases h : k < cs.length
 ·exact set_same_ (by simp [List.getD_eq_getElem?_getD, h])
 ·exact List.set_eq_of_length_le (by omega)
theorem SW.same (w : SW) (k : Nat) : (⟨w.B, w.cs.set k (w.at_ k)⟩ : SW) = w := by
 unfold SW.at_
 rw [set_get]
theorem Tri.colsE {P : Program} {β : Base} {f : FuncId} (args : Nat → List Value) {m : Nat} {g : Gr} {ps : List Nat} {w : SW} {V : Value} {k : Nat} {c' : Pc} {B' : List Nat} (hE : Enters P f) (hk : k < w.cs.length)
  (h : ∀ p r S q c, Tri P β f (args p) (colA p r S q c k (w.at_ k).on (w.at_ k).U ++ (pt r.1 (bys (w.at_ k).C ++ r.2) :: memA m g w.B)) fun v L => ∃ q' c1, v = V ∧ L = colA p r S q' c1 k c'.on c'.U ++ (pt r.1 (bys c'.C ++ r.2) :: memA m g B')) :
  Tri P β f (args (ps.getD k 0)) (swA m g ps w) fun v L => v = V ∧ L = swA m g ps ⟨B', w.cs.set k c'⟩ := by
 refine Tri.mono (Tri.cols (R := fun v c2 A' => v = V ∧ c2 = c' ∧ A' = memA m g B') hE hk ?_) ?_
 ·rintro ⟨p, r, S, k', q, c, on, U, C⟩ hp hk' hpc
  simp only at hp hk'
  subst hk'
  rw [← hp]
  have e1 : on = (w.at_ k').on := by unfold SW.at_; rw [← hpc]; rfl
  have e2 : U = (w.at_ k').U := by unfold SW.at_; rw [← hpc]; rfl
  have e3 : C = (w.at_ k').C := by unfold SW.at_; rw [← hpc]; rfl
  subst e1 e2 e3
  refine Tri.mono (Tri.ent (Ent.perm ?_) (h p r S q c)) ?_
  ·unfold colF
   rw [List.append_assoc]
   exact List.Perm.refl _
  ·rintro v L ⟨q', c1, rfl, rfl⟩
   refine ⟨⟨p, r, S, k', q', c1, c'.on, c'.U, c'.C⟩, memA m g B', rfl, rfl, ⟨rfl, rfl, rfl⟩, ?_⟩
   unfold colF
   rw [List.append_assoc]
   rfl
 ·rintro v L ⟨c2, A', ⟨rfl, rfl, rfl⟩, rfl⟩
  exact ⟨rfl, rfl⟩
set_option maxHeartbeats 4000000 in
theorem has17C (β : Base) (m : Nat) (g : Gr) (ps : List Nat) {w : SW} (hw : w.ok T nc) {k : Nat} (hk : k < nc) {n : Int} (hn : n ≤ 9223372036854775807) :
  Tri Tryz.prog β 57 [cpV ps k, .pointer (some ⟨m, 0, none⟩), .int .i64 n] (swA m g ps w) (fun v L => v = .bool (w.has k n) ∧ L = swA m g ps w) := by
 obtain ⟨hB, hb, hc⟩ := hw
 obtain ⟨hU, hC, hk8⟩ := hc.2 k hk
 have T := fun p r S q c => has17 β p r S m g q c hk8 (w.at_ k).on hU w.B hB hb hn
 refine Tri.mono (Tri.colsE (fun p => [.pointer (some ⟨p, 0, none⟩), .pointer (some ⟨m, 0, none⟩), .int .i64 n]) (V := .bool (w.has k n)) (c' := w.at_ k) (B' := w.B) (T 0 (0, []) 0 none 0).en (by have := hc.1; omega) ?_) ?_
 ·intro p r S q c
  unfold colA setL memA
  have T1 := T p r S q c
  unfold colA setL memA at T1
  refine Tri.post (T1.fr (F := [pt r.1 (bys (w.at_ k).C ++ r.2)])) ?_
  rintro v L ⟨A', ⟨rfl, rfl⟩, rfl⟩
  exact ⟨_, pk_, q, c, rfl, rfl⟩
 ·rintro v L ⟨rfl, rfl⟩
  rw [SW.same]
  exact ⟨rfl, rfl⟩
def SW.set (w : SW) (k : Nat) (n : Int) (v : Bool) : SW := ⟨(setLV k (w.at_ k).on (w.at_ k).U w.B n v).2, w.cs.set k ⟨(w.at_ k).on, (setLV k (w.at_ k).on (w.at_ k).U w.B n v).1, (w.at_ k).C⟩⟩
theorem SW.set_ok {w : SW} (hw : w.ok T nc) {k : Nat} (hk : k < nc) {n : Int} (hn : n ≤ 9223372036854775807) (v : Bool) : (w.set k n v).ok T nc := by
 obtain ⟨hB, hb, hc⟩ := hw
 obtain ⟨hU, hC, hk8⟩ := hc.2 k hk
 obtain ⟨h1, h2, h3⟩ := setLV_ok hk8 (w.at_ k).on hU hB hb hn v
 exact ⟨h2, h3, hc.set hk h1 hC⟩
set_option maxHeartbeats 4000000 in
theorem set89C (β : Base) (m : Nat) (g : Gr) (ps : List Nat) {w : SW} (hw : w.ok T nc) {k : Nat} (hk : k < nc) {n : Int} (hn : n ≤ 9223372036854775807) (v : Bool) :
  Tri Tryz.prog β 61 [cpV ps k, .pointer (some ⟨m, 0, none⟩), .int .i64 n, .bool v] (swA m g ps w) (fun u L => u = .tuple #[.bool (w.has k n), .int .i64 (if idxV n then 0 else 150)] ∧ L = swA m g ps (w.set k n v)) := by
 obtain ⟨hB, hb, hc⟩ := hw
 obtain ⟨hU, hC, hk8⟩ := hc.2 k hk
 have T := fun p r S q c => set89 β p r S m g q c hk8 (w.at_ k).on hU w.B hB hb hn v
 refine Tri.colsE (fun p => [.pointer (some ⟨p, 0, none⟩), .pointer (some ⟨m, 0, none⟩), .int .i64 n, .bool v]) (T 0 (0, []) 0 none 0).en (by have := hc.1; omega) ?_
 intro p r S q c
 unfold colA setL memA
 have T1 := T p r S q c
 unfold colA setL memA at T1
 refine Tri.post (T1.fr (F := [pt r.1 (bys (w.at_ k).C ++ r.2)])) ?_
 rintro v L ⟨A', ⟨q', c', rfl, rfl⟩, rfl⟩
 exact ⟨_, pk_, q', c', rfl, rfl⟩
def SW.inv (w : SW) (k : Nat) (n : Int) : SW := ⟨w.B, w.cs.set k ⟨(w.at_ k).on, (w.at_ k).U, invV k (w.at_ k).C w.B n⟩⟩
theorem invV_len (k : Nat) (C B : List Nat) (n : Int) : (invV k C B n).length = C.length := by
 unfold invV
 split <;> simp
theorem SW.inv_ok {w : SW} (hw : w.ok T nc) {k : Nat} (hk : k < nc) (n : Int) : (w.inv k n).ok T nc := by
 obtain ⟨hB, hb, hc⟩ := hw
 obtain ⟨hU, hC, hk8⟩ := hc.2 k hk
 exact ⟨hB, hb, hc.set hk hU (by rw [invV_len]; exact hC)⟩
set_option maxHeartbeats 4000000 in
theorem inv86C (β : Base) (m : Nat) (g : Gr) (ps : List Nat) {w : SW} (hw : w.ok T nc) {k : Nat} (hk : k < nc) {n : Int} (hn : n ≤ 9223372036854775807) :
  Tri Tryz.prog β 149 [cpV ps k, .pointer (some ⟨m, 0, none⟩), .int .i64 n] (swA m g ps w) (fun u L => u = .int .i64 (if idxV n then 0 else 150) ∧ L = swA m g ps (w.inv k n)) := by
 obtain ⟨hB, hb, hc⟩ := hw
 obtain ⟨hU, hC, hk8⟩ := hc.2 k hk
 have T := fun p r S => inv86 β p r S m g hk8 (w.at_ k).on (w.at_ k).C hC w.B hB hb hn
 refine Tri.colsE (fun p => [.pointer (some ⟨p, 0, none⟩), .pointer (some ⟨m, 0, none⟩), .int .i64 n]) (T 0 (0, []) 0).en (by have := hc.1; omega) ?_
 intro p r S q c
 unfold colA setL memA
 have T1 := T p r S
 unfold memA at T1
 refine Tri.post (T1.fr (F := [pt S [.slice q (w.at_ k).U.length c], own 121 1 (.slice q (w.at_ k).U.length c) (w.at_ k).U.length ((w.at_ k).U.flatMap wC)])) ?_
 rintro v L ⟨A', ⟨rfl, rfl⟩, rfl⟩
 exact ⟨_, pk_, q, c, rfl, rfl⟩
def SW.invA (w : SW) (k : Nat) : SW := ⟨w.B, w.cs.set k ⟨(w.at_ k).on, (w.at_ k).U, invK k (w.at_ k).C w.B 512⟩⟩
theorem SW.invA_ok {w : SW} (hw : w.ok T nc) {k : Nat} (hk : k < nc) : (w.invA k).ok T nc := by
 obtain ⟨hB, hb, hc⟩ := hw
 obtain ⟨hU, hC, hk8⟩ := hc.2 k hk
 exact ⟨hB, hb, hc.set hk hU (by rw [invK_len]; exact hC)⟩
set_option maxHeartbeats 4000000 in
theorem invAll41C (β : Base) (m : Nat) (g : Gr) (ps : List Nat) {w : SW} (hw : w.ok T nc) {k : Nat} (hk : k < nc) :
  Tri Tryz.prog β 97 [cpV ps k, .pointer (some ⟨m, 0, none⟩)] (swA m g ps w) (fun u L => u = .tuple #[] ∧ L = swA m g ps (w.invA k)) := by
 obtain ⟨hB, hb, hc⟩ := hw
 obtain ⟨hU, hC, hk8⟩ := hc.2 k hk
 have T := fun p r S => invAll41 β p r S m g hk8 (w.at_ k).on (w.at_ k).C hC w.B hB hb
 refine Tri.colsE (fun p => [.pointer (some ⟨p, 0, none⟩), .pointer (some ⟨m, 0, none⟩)]) (T 0 (0, []) 0).en (by have := hc.1; omega) ?_
 intro p r S q c
 unfold colA setL memA
 have T1 := T p r S
 unfold memA at T1
 refine Tri.post (T1.fr (F := [pt S [.slice q (w.at_ k).U.length c], own 121 1 (.slice q (w.at_ k).U.length c) (w.at_ k).U.length ((w.at_ k).U.flatMap wC)])) ?_
 rintro v L ⟨A', ⟨rfl, rfl⟩, rfl⟩
 exact ⟨_, pk_, q, c, rfl, rfl⟩
def SW.en (w : SW) (k : Nat) : SW := ⟨(enV k (w.at_ k).on (w.at_ k).U (w.at_ k).C w.B).2.2, w.cs.set k ⟨true, (enV k (w.at_ k).on (w.at_ k).U (w.at_ k).C w.B).1, (enV k (w.at_ k).on (w.at_ k).U (w.at_ k).C w.B).2.1⟩⟩
theorem SW.en_ok {w : SW} (hw : w.ok T nc) {k : Nat} (hk : k < nc) : (w.en k).ok T nc := by
 obtain ⟨hB, hb, hc⟩ := hw
 obtain ⟨hU, hC, hk8⟩ := hc.2 k hk
 obtain ⟨h1, h2, h3, h4⟩ := enV_ok hk8 (w.at_ k).on hU (C := (w.at_ k).C) hB hb
 exact ⟨h3, h4, hc.set hk h1 (h2.trans hC)⟩
set_option maxHeartbeats 4000000 in
theorem enable59C (β : Base) (m : Nat) (g : Gr) (ps : List Nat) {w : SW} (hw : w.ok T nc) {k : Nat} (hk : k < nc) :
  Tri Tryz.prog β 50 [cpV ps k, .pointer (some ⟨m, 0, none⟩)] (swA m g ps w) (fun u L => u = .tuple #[] ∧ L = swA m g ps (w.en k)) := by
 obtain ⟨hB, hb, hc⟩ := hw
 obtain ⟨hU, hC, hk8⟩ := hc.2 k hk
 have T := fun p r S q c => enable59 β p r S m g q c hk8 (w.at_ k).on hU (w.at_ k).C hC w.B hB hb
 exact Tri.colsE (fun p => [.pointer (some ⟨p, 0, none⟩), .pointer (some ⟨m, 0, none⟩)]) (T 0 (0, []) 0 none 0).en (by have := hc.1; omega) T
set_option maxHeartbeats 4000000 in
theorem index45C (β : Base) (m : Nat) (g : Gr) (ps : List Nat) (w : SW) {k : Nat} (hk : k < w.cs.length) (n : Int) :
  Tri Tryz.prog β 107 [cpV ps k, .int .i64 n] (swA m g ps w) (fun u L => u = .tuple #[.int .i64 (IntKind.i64.wrap (n - 8192)), .bool (idxV n)] ∧ L = swA m g ps w) := by
 have T := fun p r S => index45 β p k (w.at_ k).on r S n
 refine Tri.mono (Tri.colsE (fun p => [.pointer (some ⟨p, 0, none⟩), .int .i64 n]) (V := .tuple #[.int .i64 (IntKind.i64.wrap (n - 8192)), .bool (idxV n)]) (c' := w.at_ k) (B' := w.B) (T 0 (0, []) 0).en hk ?_) ?_
 ·intro p r S q c
  unfold colA setL memA
  refine Tri.post ((T p r S).fr (F := [pt S [.slice q (w.at_ k).U.length c], own 121 1 (.slice q (w.at_ k).U.length c) (w.at_ k).U.length ((w.at_ k).U.flatMap wC), pt r.1 (bys (w.at_ k).C ++ r.2), pt m [.slice (some ⟨g.1, 0, none⟩) w.B.length (w.B.length + g.2.length)], pt g.1 (bys w.B ++ g.2)])) ?_
  rintro v L ⟨A', ⟨rfl, rfl⟩, rfl⟩
  exact ⟨_, pk_, q, c, rfl, rfl⟩
 ·rintro v L ⟨rfl, rfl⟩
  rw [SW.same]
  exact ⟨rfl, rfl⟩
end Go.Proofs.YtakkogdmlbkdaaaGreatDoor.Sl.It
namespace Go.Proofs.YtakkogdmlbkdaaaGreatDoor.Sl.It
attribute [local irreducible] CW Tri OW
@[reducible] def pk241 : List (Nat × Plan) := []
attribute [local irreducible] invK enK enV
variable {T nc : Nat}
def colR (ps : List Nat) (cs : List Pc) (k : Nat) (x : Lp) : Atom := exA fun l : List Lp => [pureA (Cols ps cs l ∧ l[k]? = some x), pt x.S [.slice x.q x.U.length x.c], own 121 1 (.slice x.q x.U.length x.c) x.U.length (x.U.flatMap wC), pt x.r.1 (bys x.C ++ x.r.2), pkA colF (l.eraseIdx k)]
theorem cols_open (ps : List Nat) (cs : List Pc) {k : Nat} (hk : k < cs.length) : Ent [colsA ps cs] [exA fun x : Lp => [pureA (x.p = ps.getD k 0 ∧ x.k = k ∧ x.pc = cs.getD k pc0), pt (ps.getD k 0) (lpC k x.on x.r x.S), colR ps cs k x]] := by
 rintro h ⟨h1, h2, ⟨l, s⟩, rfl, d, rfl⟩
 obtain ⟨u1, u2, ⟨hC, rfl⟩, s2, _, rfl⟩ := s
 rw [Hp.emp_add] at d ⊢
 rw [Hp.add_emp]
 obtain ⟨x, hx1, hx2, hx3, hx4⟩ := hC.at_ hk
 have e1 := pk_open (f := colF) hx1
 have e2 : Ent (colF x ++ [pkA colF (l.eraseIdx k)]) [exA fun x : Lp => [pureA (x.p = ps.getD k 0 ∧ x.k = k ∧ x.pc = cs.getD k pc0), pt (ps.getD k 0) (lpC k x.on x.r x.S), colR ps cs k x]] := by
  refine Ent.trans ?_ (Ent.exA x)
  refine Ent.trans ?_ (Ent.pureA ⟨hx2, hx3, hx4⟩)
  rw [← hx2]
  subst hx3
  exact Ent.cons _ (Ent.trans (Ent.pureA (p := Cols ps cs l ∧ l[x.k]? = some x) ⟨hC, hx1⟩) (Ent.exA (f := fun l : List Lp => [pureA (Cols ps cs l ∧ l[x.k]? = some x), pt x.S [.slice x.q x.U.length x.c], own 121 1 (.slice x.q x.U.length x.c) x.U.length (x.U.flatMap wC), pt x.r.1 (bys x.C ++ x.r.2), pkA colF (l.eraseIdx x.k)]) l))
 exact (e1.trans e2) _ s2
theorem cols_shut {ps : List Nat} {cs : List Pc} {k : Nat} {x : Lp} (hp : x.p = ps.getD k 0) (hk : x.k = k) : Ent [pt (ps.getD k 0) (lpC k x.on x.r x.S), colR ps cs k x] [colsA ps cs] := by
 rintro h ⟨h1, h2, hpt, ⟨h3, h4, ⟨l, s⟩, rfl, d2, rfl⟩, d, rfl⟩
 rw [Hp.add_emp] at d
 obtain ⟨u1, u2, ⟨⟨hC, hx⟩, rfl⟩, s2, _, rfl⟩ := s
 rw [Hp.emp_add] at d
 rw [Hp.emp_add, Hp.add_emp]
 have e1 : Ent (pt (ps.getD k 0) (lpC k x.on x.r x.S) :: [pt x.S [.slice x.q x.U.length x.c], own 121 1 (.slice x.q x.U.length x.c) x.U.length (x.U.flatMap wC), pt x.r.1 (bys x.C ++ x.r.2), pkA colF (l.eraseIdx k)]) [colsA ps cs] := by
  rw [← hp]
  subst hk
  refine Ent.trans (M := [pkA colF l]) (pk_shut (f := colF) hx) ?_
  exact (Ent.pureA (L := [pkA colF l]) hC).trans (Ent.exA (f := fun l : List Lp => [pureA (Cols ps cs l), pkA colF l]) l)
 exact e1 _ ⟨h1, u2, hpt, s2, d, rfl⟩
def SW.moves (w : SW) (n : Int) (a b : Nat) : Bool := decide (a ≠ b) && (w.has a n && idxV n)
def SW.move (w : SW) (n : Int) (a b : Nat) : SW := if w.moves n a b then (w.set a n false).set b n true else w
theorem SW.move_ok {w : SW} (hw : w.ok T nc) {n : Int} (hn : n ≤ 9223372036854775807) {a b : Nat} (ha : a < nc) (hb : b < nc) : (w.move n a b).ok T nc := by
 unfold SW.move
 split
 ·exact SW.set_ok (SW.set_ok hw ha hn false) hb hn true
 ·exact hw
theorem nodup_ne {ps : List Nat} (hps : ps.Nodup) {a b : Nat} (ha : a < ps.length) (hb : b < ps.length) (h : a ≠ b) : ps.getD a 0 ≠ ps.getD b 0 := by
 simp only [List.getD_eq_getElem?_getD, ha, hb, List.getElem?_eq_getElem, Option.getD_some]
 intro e
 exact h ((List.getElem_inj hps).1 e)
theorem cols_row {β : Base} (ps : List Nat) (cs : List Pc) {k : Nat} (hk : k < cs.length) : RowIn β [colsA ps cs] (ps.getD k 0) := fun w s => by
 obtain ⟨x, s2⟩ := (s.ent (cols_open ps cs hk)).exA
 obtain ⟨_, s3⟩ := s2.pureA
 exact (RowIn.of_at (L := [pt (ps.getD k 0) (lpC k x.on x.r x.S), colR ps cs k x]) .h) w s3
set_option maxHeartbeats 4000000 in
theorem move88 (β : Base) (m : Nat) (g : Gr) {ps : List Nat} (hpl : ps.length = nc) (hps : ps.Nodup) {w : SW} (hw : w.ok T nc) {a b : Nat} (ha : a < nc) (hb : b < nc) {n : Int} (hn : n ≤ 9223372036854775807) :
  Tri Tryz.prog β 241 [.pointer (some ⟨m, 0, none⟩), .int .i64 n, cpV ps a, cpV ps b] (swA m g ps w) (fun v L => v = .bool (w.moves n a b) ∧ L = swA m g ps (w.move n a b)) := by
 refine Tri.intro tt_ok Tryz.func241 rfl rfl Tryz.ntmps241 rfl fun F => ?_
 have hcl := hw.2.2.1
 unfold SW.move SW.moves
 refine G tt_ok pk241 ?_
 by_cases hab : a = b
 ·subst hab
  refine SQ.eqpS tt_ok rfl rfl rfl ?_
  rw [decide_eq_false (show ¬ (a ≠ a) by simp), Bool.false_and, if_neg (by simp)]
  refine G tt_ok pk241 ?_
  exact CW.ret (fin_ret rfl pk_ ⟨rfl, rfl⟩)
 ·rw [decide_eq_true (show a ≠ b from hab), Bool.true_and]
  have hra : RowIn β (swA m g ps w) (ps.getD a 0) := (cols_row ps w.cs (by omega)).rm Rm.h
  have hrb : RowIn β (swA m g ps w) (ps.getD b 0) := (cols_row ps w.cs (by omega)).rm Rm.h
  refine SQ.eqpN tt_ok rfl rfl (by decide) (nodup_ne hps (by omega) (by omega) hab) hra hrb trivial ?_
  refine G tt_ok pk241 ?_
  refine ke rfl rfl (has17C β m g ps hw ha hn) ?_
  cases h1 : w.has a n with
  | false =>
   rw [Bool.false_and, if_neg (by simp)]
   refine G tt_ok pk241 ?_
   exact CW.ret (fin_ret rfl pk_ ⟨rfl, rfl⟩)
  | true =>
   rw [Bool.true_and]
   refine G tt_ok pk241 ?_
   refine ke rfl rfl (index45C β m g ps w (by omega) n) ?_
   cases h2 : idxV n with
   | false =>
    rw [if_neg (by simp)]
    refine G tt_ok pk241 ?_
    exact CW.ret (fin_ret rfl pk_ ⟨rfl, rfl⟩)
   | true =>
    rw [if_pos rfl]
    refine G tt_ok pk241 ?_
    refine ke rfl rfl (set89C β m g ps hw ha hn false) ?_
    refine G tt_ok pk241 ?_
    refine ke rfl rfl (set89C β m g ps (SW.set_ok hw ha hn false) hb hn true) ?_
    refine G tt_ok pk241 ?_
    exact CW.ret (fin_ret rfl pk_ ⟨rfl, rfl⟩)
end Go.Proofs.YtakkogdmlbkdaaaGreatDoor.Sl.It
namespace Go.Proofs.YtakkogdmlbkdaaaGreatDoor.Sl.It
attribute [local irreducible] CW Tri OW
@[reducible] def pk247 : List (Nat × Plan) := []
@[reducible] def pk246 : List (Nat × Plan) := []
attribute [local irreducible] invK enK enV
variable {T nc : Nat}
@[reducible] def iC (x : Int) : List Value := [.int .i64 x]
def waitL (k : Nat) (step : SW → Int → SW) : Nat → SW → List Int
 | 0, _ => []
 | r + 1, w => if w.has k ((8192 + (512 - (r + 1)) : Nat) : Int) then ((8192 + (512 - (r + 1)) : Nat) : Int) :: waitL k step r (step w ((8192 + (512 - (r + 1)) : Nat) : Int)) else waitL k step r w
theorem waitL_s (k : Nat) (step : SW → Int → SW) (r : Nat) (w : SW) : waitL k step (r + 1) w = if w.has k ((8192 + (512 - (r + 1)) : Nat) : Int) then ((8192 + (512 - (r + 1)) : Nat) : Int) :: waitL k step r (step w ((8192 + (512 - (r + 1)) : Nat) : Int)) else waitL k step r w := rfl
theorem waitL_z (k : Nat) (step : SW → Int → SW) (w : SW) : waitL k step 0 w = [] := rfl
attribute [local irreducible] waitL
theorem fold_ok {step : SW → Int → SW} (hs : ∀ w x, x ≤ 9000 → w.ok T nc → (step w x).ok T nc) {w : SW} (hw : w.ok T nc) : ∀ {pre : List Int}, (∀ x ∈ pre, x ≤ 9000) → (pre.foldl step w).ok T nc := by
 intro pre
 induction pre generalizing w with
 | nil => exact fun _ => hw
 | cons x pre ih => exact fun h => ih (hs _ _ (h x (by simp)) hw) fun y hy => h y (by simp [hy])
set_option maxHeartbeats 4000000 in
theorem iter31 (β : Base) (m : Nat) (g : Gr) (b2 b3 : Nat) (ps : List Nat) {step : SW → Int → SW} (hs : ∀ w x, x ≤ 9000 → w.ok T nc → (step w x).ok T nc) {w : SW} (hw : w.ok T nc) {k : Nat} (hk : k < nc) :
  IterD Tryz.prog β 247 [.pointer (some ⟨b2, 0, none⟩), .pointer (some ⟨b3, 0, none⟩)] (fun pre => pt b2 [cpV ps k] :: pt b3 [.pointer (some ⟨m, 0, none⟩)] :: swA m g ps (pre.foldl step w)) iC (waitL k step 512 w) := by
 intro l J Jx hY
 generalize hWL : waitL k step 512 w = WL at hY ⊢
 obtain ⟨M, hM⟩ : ∃ M : Nat, M = 512 := ⟨_, rfl⟩
 rw [← hM] at hWL
 refine Tri.intro tt_ok Tryz.func247 rfl rfl Tryz.ntmps247 rfl fun F => ?_
 refine G tt_ok pk247 ?_
 unfold swA
 refine SQ.ent _ (Rm.to (A := colsA ps w.cs) (by repeat (first | exact Rm.h | apply Rm.t)) (cols_open ps w.cs (show k < w.cs.length by have := hw.2.2.1; omega))) ?_
 refine SQ.open_ fun x => ?_
 refine SQ.pure_ fun hx => ?_
 refine G tt_ok pk247 ?_
 refine CW.ent (L' := J [] :: pt b2 [cpV ps k] :: pt b3 [.pointer (some ⟨m, 0, none⟩)] :: swA m g ps w) ?_ ?_
 ·refine (tk_ (As := [pt (ps.getD k 0) (lpC k x.on x.r x.S), colR ps w.cs k x]) (cols_shut hx.1 hx.2.1)).trans ?_
  unfold swA
  exact pk_
 refine CW.loop (α := Nat × List Int) (fun x => x.1 ≤ M ∧ (∀ y ∈ x.2, y ≤ 9000) ∧ x.2 ++ waitL k step (M - x.1) (x.2.foldl step w) = WL)
  (fun x => [(10, .int .i64 x.1), (9, .int .i64 512), (0, .func (.yield l) #[] #[]), (1, .pointer (some ⟨b2, 0, none⟩)), (2, .pointer (some ⟨b3, 0, none⟩))])
  (fun x => J x.2 :: pt b2 [cpV ps k] :: pt b3 [.pointer (some ⟨m, 0, none⟩)] :: swA m g ps (x.2.foldl step w)) (fun x => M - x.1) (0, []) ⟨Nat.zero_le _, fun _ h => (by cases h), (by rw [List.nil_append]; exact hWL)⟩ ⟨rfl, rfl, rfl, rfl, rfl, trivial⟩ pk_ ?_
 rintro ⟨i, pre⟩ ⟨hi, hp, hE⟩
 simp only at hi hp hE ⊢
 have hok := fold_ok hs hw hp
 generalize hv : pre.foldl step w = v at hE hok ⊢
 refine G tt_ok pk247 ?_
 by_cases hlt : i < M
 ·rw [decide_eq_true (show (i : Int) < 512 by omega)]
  have hwr : IntKind.i64.wrap ((i : Int) + 1) = ((i + 1 : Nat) : Int) := by rw [wrap_i64]; split <;> omega
  obtain ⟨r, hr⟩ : ∃ r, M - i = r + 1 := ⟨M - i - 1, by omega⟩
  rw [hr, waitL_s] at hE
  have hid : ((8192 + (512 - (r + 1)) : Nat) : Int) = ((8192 + i : Nat) : Int) := by omega
  rw [hid] at hE
  refine G tt_ok pk247 ?_
  rw [show IntKind.i64.wrap (8192 + (i : Int)) = ((8192 + i : Nat) : Int) by rw [wrap_id (by omega) (by omega)]; omega]
  refine G tt_ok pk247 ?_
  refine ke rfl rfl (has17C β m g ps hok hk (n := ((8192 + i : Nat) : Int)) (by omega)) ?_
  cases hh : v.has k ((8192 + i : Nat) : Int) with
  | true =>
   rw [hh, if_pos rfl] at hE
   refine G tt_ok pk247 ?_
   have hpre : (pre ++ [((8192 + i : Nat) : Int)]) <+: WL := ⟨waitL k step r (step v ((8192 + i : Nat) : Int)), by rw [← hE]; simp⟩
   have hy := hY pre _ hpre
   simp only [List.foldl_append, List.foldl_cons, List.foldl_nil, hv] at hy
   (refine SQ.yieldA rfl rfl (hy) (by repeat (first | exact .n | exact Rm.h | exact Rm.of own_row | exact Rm.of row_close0 | apply Tk.c | apply Rm.t)) ?_; rintro _ _ (⟨rfl, rfl⟩ | ⟨rfl, rfl⟩) <;> refine w_ ?_)
   ·refine G tt_ok pk247 ?_
    refine ⟨(i + 1, pre ++ [((8192 + i : Nat) : Int)]), ⟨by simp; omega, ?_, ?_⟩, by simp; omega, ⟨by rw [← hwr]; rfl, rfl, rfl, rfl, rfl, trivial⟩, ?_⟩
    ·intro y hy
     simp only [List.mem_append, List.mem_singleton] at hy
     rcases hy with h | h
     ·exact hp y h
     ·omega
    ·simp only [List.foldl_append, List.foldl_cons, List.foldl_nil, hv]
     rw [show M - (i + 1) = r by omega, ← hE]
     simp
    ·simp only [List.foldl_append, List.foldl_cons, List.foldl_nil, hv]
     exact pk_
   ·refine G tt_ok pk247 ?_
    exact CW.ret (fin_ret (vs := []) rfl (A := Jx (pre ++ [((8192 + i : Nat) : Int)]) :: pt b2 [cpV ps k] :: pt b3 [.pointer (some ⟨m, 0, none⟩)] :: swA m g ps (step v ((8192 + i : Nat) : Int))) pk_ (.inr ⟨pre ++ [((8192 + i : Nat) : Int)], by simp only [List.foldl_append, List.foldl_cons, List.foldl_nil, hv]; rfl⟩))
  | false =>
   rw [hh, if_neg (by simp)] at hE
   refine G tt_ok pk247 ?_
   refine ⟨(i + 1, pre), ⟨by simp; omega, hp, ?_⟩, by simp; omega, ⟨by rw [← hwr]; rfl, rfl, rfl, rfl, rfl, trivial⟩, ?_⟩
   ·simp only [hv]
    rw [show M - (i + 1) = r by omega, ← hE]
   ·simp only [hv]
    exact pk_
 ·rw [decide_eq_false (show ¬ (i : Int) < 512 by omega)]
  refine G tt_ok pk247 ?_
  refine CW.exit ?_
  refine G tt_ok pk247 ?_
  rw [show M - i = 0 by omega] at hE
  have hE2 : pre = WL := by rw [← hE, waitL_z]; simp
  exact fin_normal (vs := []) rfl (A := J pre :: pt b2 [cpV ps k] :: pt b3 [.pointer (some ⟨m, 0, none⟩)] :: swA m g ps v) pk_ (.inl (by rw [← hE2, hv]; rfl))
theorem waiting13 (β : Base) (m : Nat) (ps : List Nat) (k : Nat) : Tri Tryz.prog β 246 [cpV ps k, .pointer (some ⟨m, 0, none⟩)] [] (fun v L => ∃ b2 b3, v = .func (.func 247) #[] #[.pointer (some ⟨b2, 0, none⟩), .pointer (some ⟨b3, 0, none⟩)] ∧ L = [pt b2 [cpV ps k], pt b3 [.pointer (some ⟨m, 0, none⟩)]]) := by
 refine Tri.intro tt_ok Tryz.func246 rfl rfl Tryz.ntmps246 rfl fun F => ?_
 (refine G tt_ok pk246 ?_; repeat (refine G1 tt_ok pk246 ?_; intro _))
 rename_i b2 b3
 exact CW.ret (fin_ret rfl (A := [pt b2 [cpV ps k], pt b3 [.pointer (some ⟨m, 0, none⟩)]]) pk_ ⟨b2, b3, rfl, rfl⟩)
end Go.Proofs.YtakkogdmlbkdaaaGreatDoor.Sl.It
namespace Go.Proofs.YtakkogdmlbkdaaaGreatDoor.Sl.It
attribute [local irreducible] CW Tri OW
@[reducible] def pk242 : List (Nat × Plan) := []
attribute [local irreducible] invK enK enV waitL
variable {T nc : Nat}
def mvS (a b : Nat) (w : SW) (x : Int) : SW := w.move x a b
def SW.moveL (w : SW) (a b : Nat) : List Int := waitL a (mvS a b) 512 w
def SW.moveA (w : SW) (a b : Nat) : SW := (w.moveL a b).foldl (mvS a b) w
theorem mvS_ok {a b : Nat} (ha : a < nc) (hb : b < nc) : ∀ w x, x ≤ 9000 → w.ok T nc → (mvS a b w x).ok T nc := fun w x hx hw => SW.move_ok hw (by omega) ha hb
theorem waitL_le (k : Nat) (step : SW → Int → SW) : ∀ r w, r ≤ 512 → ∀ x ∈ waitL k step r w, x ≤ 9000
 | 0, _, _ => by rw [waitL_z]; simp
 | r + 1, w, h => by
  rw [waitL_s]
  split
  ·intro x hx
   rcases List.mem_cons.1 hx with rfl | hx
   ·omega
   ·exact waitL_le k step r _ (by omega) x hx
  ·exact waitL_le k step r w (by omega)
theorem SW.moveA_ok {w : SW} (hw : w.ok T nc) {a b : Nat} (ha : a < nc) (hb : b < nc) : (w.moveA a b).ok T nc := fold_ok (mvS_ok ha hb) hw (waitL_le a _ _ _ (Nat.le_refl _))
set_option maxHeartbeats 4000000 in
theorem moveAll90 (β : Base) (m : Nat) (g : Gr) {ps : List Nat} (hpl : ps.length = nc) (hps : ps.Nodup) {w : SW} (hw : w.ok T nc) {a b : Nat} (ha : a < nc) (hb : b < nc) :
  Tri Tryz.prog β 242 [.pointer (some ⟨m, 0, none⟩), cpV ps a, cpV ps b] (swA m g ps w) (fun v L => (∃ n, v = .int .i64 n) ∧ L = swA m g ps (w.moveA a b)) := by
 refine Tri.intro tt_ok Tryz.func242 rfl rfl Tryz.ntmps242 rfl fun F => ?_
 (refine G tt_ok pk242 ?_; repeat (refine G1 tt_ok pk242 ?_; intro _))
 rename_i c1 c2 c3 c4
 (refine ka rfl rfl (waiting13 β m ps a) ?_; rintro _ _ ⟨b2, b3, rfl, rfl⟩; refine w_ ?_)
 refine G tt_ok pk242 ?_
 have hI := iter31 β m g b2 b3 ps (mvS_ok ha hb) hw ha
 refine CW.ent (L' := (pt b2 [cpV ps a] :: pt b3 [.pointer (some ⟨m, 0, none⟩)] :: swA m g ps w) ++ [exA fun n : Int => [pt c4 [.int .i64 n], pt c1 [.pointer (some ⟨m, 0, none⟩)], pt c2 [cpV ps a], pt c3 [cpV ps b]]]) ?_ ?_
 ·refine Ent.trans ?_ (Ent.append (Ent.refl _) (Ent.exA (f := fun n : Int => [pt c4 [.int .i64 n], pt c1 [.pointer (some ⟨m, 0, none⟩)], pt c2 [cpV ps a], pt c3 [cpV ps b]]) 0))
  unfold swA
  exact pk_
 refine CW.rangeFuncD rfl hI (List.replicate 5 0) (sel_front (pt b2 [cpV ps a] :: pt b3 [.pointer (some ⟨m, 0, none⟩)] :: swA m g ps w))
  (fun pre => [exA fun n : Int => [pt c4 [.int .i64 n], pt c1 [.pointer (some ⟨m, 0, none⟩)], pt c2 [cpV ps a], pt c3 [cpV ps b]]])
  (fun _ _ => False) (Ent.refl _) (fun _ => rfl) (by decide) ?_ ?_ (fun _ _ _ h => h.elim)
 ·intro pre x hpre lp fm rec1
  have hx : x ≤ 9000 := waitL_le a _ _ _ (Nat.le_refl _) x (hpre.subset (by simp))
  have hpl : ∀ y ∈ pre, y ≤ 9000 := fun y hy => waitL_le a _ _ _ (Nat.le_refl _) y (hpre.subset (by simp [hy]))
  have hok := fold_ok (mvS_ok ha hb) hw hpl
  have e1 : (pre ++ [x]).foldl (mvS a b) w = (pre.foldl (mvS a b) w).move x a b := by rw [List.foldl_append]; rfl
  simp only [e1]
  generalize pre.foldl (mvS a b) w = v at hok ⊢
  refine CW.open_ fun n => ?_
  refine G tt_ok pk242 ?_
  intro fm2 rec2
  refine G tt_ok pk242 ?_
  refine ke rfl rfl (move88 β m g (by omega) hps hok ha hb (n := x) (by omega)) ?_
  generalize v.moves x a b = t
  have e2 : ∀ n : Int, Ent [pt c4 [.int .i64 n], pt c1 [.pointer (some ⟨m, 0, none⟩)], pt c2 [cpV ps a], pt c3 [cpV ps b]] [exA fun n : Int => [pt c4 [.int .i64 n], pt c1 [.pointer (some ⟨m, 0, none⟩)], pt c2 [cpV ps a], pt c3 [cpV ps b]]] := fun n => Ent.exA (f := fun n : Int => [pt c4 [.int .i64 n], pt c1 [.pointer (some ⟨m, 0, none⟩)], pt c2 [cpV ps a], pt c3 [cpV ps b]]) n
  cases t with
  | true =>
   refine G tt_ok pk242 ?_
   exact Ent.trans pk_ (Ent.append (e2 _) (Ent.refl _))
  | false =>
   refine G tt_ok pk242 ?_
   exact Ent.trans pk_ (Ent.append (e2 n) (Ent.refl _))
 ·refine CW.open_ fun n => ?_
  refine G tt_ok pk242 ?_
  exact CW.ret (fin_ret rfl (A := swA m g ps (w.moveA a b)) pk_ ⟨⟨n, rfl⟩, rfl⟩)
end Go.Proofs.YtakkogdmlbkdaaaGreatDoor.Sl.It
namespace Go.Proofs.YtakkogdmlbkdaaaGreatDoor.Sl.It
attribute [local irreducible] CW Tri OW
@[reducible] def pk235 : List (Nat × Plan) := []
@[reducible] def pk245 : List (Nat × Plan) := []
attribute [local irreducible] invK enK enV waitL
variable {T nc : Nat}
abbrev Er := Int × Rt
@[reducible] def erC (x : Er) : List Value := [.int .i64 x.1, .agg #[.int .i64 x.2.1, .int .i64 x.2.2.1, .bool x.2.2.2]]
def evC (d : Dv) : Nat := min (evN d.2.1).toNat 16384
def routesL (d : Dv) (step : SW → Er → SW) : Nat → SW → List Er
 | 0, _ => []
 | r + 1, w => if (devRt w.B d ((evC d - (r + 1) : Nat) : Int)).2 ≠ 0 then [] else
  if (devRt w.B d ((evC d - (r + 1) : Nat) : Int)).1.2.2 then (((evC d - (r + 1) : Nat) : Int), (devRt w.B d ((evC d - (r + 1) : Nat) : Int)).1) :: routesL d step r (step w (((evC d - (r + 1) : Nat) : Int), (devRt w.B d ((evC d - (r + 1) : Nat) : Int)).1))
  else routesL d step r w
theorem routesL_s (d : Dv) (step : SW → Er → SW) (r : Nat) (w : SW) : routesL d step (r + 1) w = if (devRt w.B d ((evC d - (r + 1) : Nat) : Int)).2 ≠ 0 then [] else
  if (devRt w.B d ((evC d - (r + 1) : Nat) : Int)).1.2.2 then (((evC d - (r + 1) : Nat) : Int), (devRt w.B d ((evC d - (r + 1) : Nat) : Int)).1) :: routesL d step r (step w (((evC d - (r + 1) : Nat) : Int), (devRt w.B d ((evC d - (r + 1) : Nat) : Int)).1))
  else routesL d step r w := rfl
theorem foldE_ok {step : SW → Er → SW} (hs : ∀ w (x : Er), 0 ≤ x.1 → x.2.1 ≤ 9223372036854775807 → 0 ≤ x.2.1 → w.ok T nc → (step w x).ok T nc) {w : SW} (hw : w.ok T nc) : ∀ {pre : List Er}, (∀ x ∈ pre, 0 ≤ x.1 ∧ x.2.1 ≤ 9223372036854775807 ∧ 0 ≤ x.2.1) → (pre.foldl step w).ok T nc := by
 intro pre
 induction pre generalizing w with
 | nil => exact fun _ => hw
 | cons x pre ih => exact fun h => ih (hs _ _ (h x (by simp)).1 (h x (by simp)).2.1 (h x (by simp)).2.2 hw) fun y hy => h y (by simp [hy])
theorem routesL_in (d : Dv) (step : SW → Er → SW) : ∀ r w, ∀ x ∈ routesL d step r w, 0 ≤ x.1 ∧ x.2.1 ≤ 9223372036854775807 ∧ 0 ≤ x.2.1
 | 0, _ => by simp [routesL]
 | r + 1, w => by
  rw [routesL_s]
  split
  ·simp
  ·split
   ·intro x hx
    rcases List.mem_cons.1 hx with rfl | hx
    ·have := devRt_lt w.B d ((evC d - (r + 1) : Nat) : Int)
     exact ⟨by simp only; omega, this.2.1, this.1⟩
    ·exact routesL_in d step r _ x hx
   ·exact routesL_in d step r w
theorem routes78 (β : Base) (m : Nat) (d : Dv) : Tri Tryz.prog β 235 [.agg #[.bool d.1, .int .i64 d.2.1, .int .i64 d.2.2], .pointer (some ⟨m, 0, none⟩)] [] (fun v L => ∃ b2 b3, v = .func (.func 245) #[] #[.pointer (some ⟨b2, 0, none⟩), .pointer (some ⟨b3, 0, none⟩)] ∧ L = [pt b2 [.bool d.1, .int .i64 d.2.1, .int .i64 d.2.2], pt b3 [.pointer (some ⟨m, 0, none⟩)]]) := by
 refine Tri.intro tt_ok Tryz.func235 rfl rfl Tryz.ntmps235 rfl fun F => ?_
 (refine G tt_ok pk235 ?_; repeat (refine G1 tt_ok pk235 ?_; intro _))
 rename_i b2 b3
 exact CW.ret (fin_ret rfl (A := [pt b2 [.bool d.1, .int .i64 d.2.1, .int .i64 d.2.2], pt b3 [.pointer (some ⟨m, 0, none⟩)]]) pk_ ⟨b2, b3, rfl, rfl⟩)
set_option maxHeartbeats 4000000 in
theorem iter130 (β : Base) (m : Nat) (g : Gr) (b2 b3 : Nat) (ps : List Nat) {step : SW → Er → SW} (hs : ∀ w (x : Er), 0 ≤ x.1 → x.2.1 ≤ 9223372036854775807 → 0 ≤ x.2.1 → w.ok T nc → (step w x).ok T nc) {w : SW} (hw : w.ok T nc) (d : Dv) (hd : okDv d) :
  IterD Tryz.prog β 245 [.pointer (some ⟨b2, 0, none⟩), .pointer (some ⟨b3, 0, none⟩)] (fun pre => pt b2 [.bool d.1, .int .i64 d.2.1, .int .i64 d.2.2] :: pt b3 [.pointer (some ⟨m, 0, none⟩)] :: swA m g ps (pre.foldl step w)) erC (routesL d step (evC d) w) := by
 intro l J Jx hY
 refine Tri.intro tt_ok Tryz.func245 rfl rfl Tryz.ntmps245 rfl fun F => ?_
 refine G tt_ok pk245 ?_
 refine ke rfl rfl (events76 β d.1 d.2.2 hd.1 hd.2.1) ?_
 refine G tt_ok pk245 ?_
 have hm : (if (16384 : Int) < evN d.2.1 then 16384 else evN d.2.1) = ((evC d : Nat) : Int) := by
  have := evN_le hd.2.1
  unfold evC; split <;> omega
 rw [hm]
 refine CW.loop (α := Nat × List Er) (fun x => x.1 ≤ evC d ∧ (∀ y ∈ x.2, 0 ≤ y.1 ∧ y.2.1 ≤ 9223372036854775807 ∧ 0 ≤ y.2.1) ∧ x.2 ++ routesL d step (evC d - x.1) (x.2.foldl step w) = routesL d step (evC d) w)
  (fun x => [(10, .int .i64 x.1), (9, .int .i64 ((evC d : Nat) : Int)), (0, .func (.yield l) #[] #[]), (1, .pointer (some ⟨b2, 0, none⟩)), (2, .pointer (some ⟨b3, 0, none⟩))])
  (fun x => J x.2 :: pt b2 [.bool d.1, .int .i64 d.2.1, .int .i64 d.2.2] :: pt b3 [.pointer (some ⟨m, 0, none⟩)] :: swA m g ps (x.2.foldl step w)) (fun x => evC d - x.1) (0, []) ⟨by simp, by simp, by simp⟩ ⟨rfl, rfl, rfl, rfl, rfl, trivial⟩ pk_ ?_
 have hle : evC d ≤ 16384 := by unfold evC; omega
 rintro ⟨i, pre⟩ ⟨hi, hp, hE⟩
 simp only at hi hp hE ⊢
 have hok := foldE_ok hs hw hp
 generalize hv : pre.foldl step w = v at hE hok ⊢
 refine G tt_ok pk245 ?_
 by_cases hlt : i < evC d
 ·rw [decide_eq_true (show (i : Int) < ((evC d : Nat) : Int) by omega)]
  have hwr : IntKind.i64.wrap ((i : Int) + 1) = ((i + 1 : Nat) : Int) := by rw [wrap_i64]; split <;> omega
  obtain ⟨r, hr⟩ : ∃ r, evC d - i = r + 1 := ⟨evC d - i - 1, by omega⟩
  rw [hr, routesL_s] at hE
  rw [show evC d - (r + 1) = i by omega] at hE
  refine G tt_ok pk245 ?_
  unfold swA
  refine ke rfl rfl (route84 β m g v.B (by have := hok.1; omega) hok.2.1 d hd (i : Int)) ?_
  generalize hrt : devRt v.B d (i : Int) = y at hE ⊢
  obtain ⟨⟨r0, r1, r2⟩, e⟩ := y
  simp only at hE ⊢
  (refine G tt_ok pk245 ?_; repeat (refine G1 tt_ok pk245 ?_; intro _))
  by_cases he : e = 0
  ·subst he
   rw [if_neg (by simp)] at hE
   refine G tt_ok pk245 ?_
   cases r2 with
   | true =>
    rw [if_pos rfl] at hE
    refine G tt_ok pk245 ?_
    have hpre : (pre ++ [((i : Int), ((r0, r1, true) : Rt))]) <+: routesL d step (evC d) w := ⟨routesL d step r (step v ((i : Int), ((r0, r1, true) : Rt))), by rw [← hE]; simp⟩
    have hy := hY pre _ hpre
    simp only [List.foldl_append, List.foldl_cons, List.foldl_nil, hv] at hy
    unfold swA at hy
    (refine SQ.yieldA rfl rfl (hy) (by repeat (first | exact .n | exact Rm.h | exact Rm.of own_row | exact Rm.of row_close0 | apply Tk.c | apply Rm.t)) ?_; rintro _ _ (⟨rfl, rfl⟩ | ⟨rfl, rfl⟩) <;> refine w_ ?_)
    ·refine G tt_ok pk245 ?_
     refine ⟨(i + 1, pre ++ [((i : Int), ((r0, r1, true) : Rt))]), ⟨by simp; omega, ?_, ?_⟩, by simp; omega, ⟨by rw [← hwr]; rfl, rfl, rfl, rfl, rfl, trivial⟩, ?_⟩
     ·intro y hy
      simp only [List.mem_append, List.mem_singleton] at hy
      rcases hy with h | h
      ·exact hp y h
      ·have := devRt_lt v.B d (i : Int)
       rw [hrt] at this
       subst h
       exact ⟨by simp only; omega, this.2.1, this.1⟩
     ·simp only [List.foldl_append, List.foldl_cons, List.foldl_nil, hv]
      rw [show evC d - (i + 1) = r by omega, ← hE]
      simp
     ·simp only [List.foldl_append, List.foldl_cons, List.foldl_nil, hv]
      exact pk_
    ·refine G tt_ok pk245 ?_
     exact CW.ret (fin_ret (vs := []) rfl (A := Jx (pre ++ [((i : Int), ((r0, r1, true) : Rt))]) :: pt b2 [.bool d.1, .int .i64 d.2.1, .int .i64 d.2.2] :: pt b3 [.pointer (some ⟨m, 0, none⟩)] :: swA m g ps (step v ((i : Int), ((r0, r1, true) : Rt)))) pk_ (.inr ⟨pre ++ [((i : Int), ((r0, r1, true) : Rt))], by simp only [List.foldl_append, List.foldl_cons, List.foldl_nil, hv]; rfl⟩))
   | false =>
    rw [if_neg (by simp)] at hE
    refine G tt_ok pk245 ?_
    refine ⟨(i + 1, pre), ⟨by simp; omega, hp, ?_⟩, by simp; omega, ⟨by rw [← hwr]; rfl, rfl, rfl, rfl, rfl, trivial⟩, ?_⟩
    ·simp only [hv]
     rw [show evC d - (i + 1) = r by omega, ← hE]
    ·simp only [hv]
     exact pk_
  ·rw [if_pos he] at hE
   rw [show (e != 0) = true by simp [he]]
   refine G tt_ok pk245 ?_
   have hE2 : pre = routesL d step (evC d) w := by rw [← hE]; simp
   exact CW.ret (fin_ret (vs := []) rfl (A := J pre :: pt b2 [.bool d.1, .int .i64 d.2.1, .int .i64 d.2.2] :: pt b3 [.pointer (some ⟨m, 0, none⟩)] :: swA m g ps v) pk_ (.inl (by rw [← hE2, hv]; rfl)))
 ·rw [decide_eq_false (show ¬ (i : Int) < ((evC d : Nat) : Int) by omega)]
  refine G tt_ok pk245 ?_
  refine CW.exit ?_
  refine G tt_ok pk245 ?_
  rw [show evC d - i = 0 by omega] at hE
  have hE2 : pre = routesL d step (evC d) w := by rw [← hE]; simp [routesL]
  exact fin_normal (vs := []) rfl (A := J pre :: pt b2 [.bool d.1, .int .i64 d.2.1, .int .i64 d.2.2] :: pt b3 [.pointer (some ⟨m, 0, none⟩)] :: swA m g ps v) pk_ (.inl (by rw [← hE2, hv]))
end Go.Proofs.YtakkogdmlbkdaaaGreatDoor.Sl.It
namespace Go.Proofs.YtakkogdmlbkdaaaGreatDoor.Sl.It
attribute [local irreducible] CW Tri OW
@[reducible] def pk106 : List (Nat × Plan) := []
@[reducible] def pk56 : List (Nat × Plan) := []
@[reducible] def pk236 : List (Nat × Plan) := []
attribute [local irreducible] invK enK enV waitL
variable {T nc : Nat}
structure TsOk (β : Base) (A : Atom) (q : Option Addr) (ps : List Nat) (nc : Nat) : Prop where
 hS : SlR β A q nc 1 (ps.flatMap ptC)
 hl : ps.length = nc
 hn : ps.Nodup
theorem sideV_cases (nc : Nat) (B : List Nat) (c : Int) : (∃ e, e ≠ 0 ∧ sideV nc B c = (none, e)) ∨ ∃ k, k < nc ∧ sideV nc B c = (some k, 0) := by
 have hpos := targetW_pos B c
 unfold sideV
 by_cases h : (targetW B c).2 ≠ 0
 ·exact .inl ⟨_, h, by rw [if_pos h]⟩
 ·rw [if_neg h]
  by_cases h3 : (targetW B c).1 ≥ nc
  ·exact .inl ⟨130, by decide, by rw [if_pos h3]⟩
  ·exact .inr ⟨(targetW B c).1.toNat, by omega, by rw [if_neg h3]⟩
def waitsV (p : Int) (w : SW) (dev ev : Int) (v : Bool) : SW × Int := if (eventV w.B p dev ev).2 ≠ 0 then (w, (eventV w.B p dev ev).2) else
 match sideV w.cs.length w.B (eventV w.B p dev ev).1.2.1 with
 | (some k, _) => (w.set k (eventV w.B p dev ev).1.1 v, if idxV (eventV w.B p dev ev).1.1 then 0 else 150)
 | (none, e) => (w, e)
set_option maxHeartbeats 4000000 in
theorem waits38 (β : Base) (s : Sr) (m : Nat) (g : Gr) {ps : List Nat} {A : Atom} {q : Option Addr} (cp : Nat) (hS : TsOk β A q ps nc) {p : Int} (hp : p = 0 ∨ p = 64) {w : SW} (hw : w.ok T nc) (on st : Bool) (i j : Nat) (dev ev : Int) (v : Bool) :
  Tri Tryz.prog β 106 [.pointer (some ⟨s.1, 4, none⟩), .pointer (some ⟨m, 0, none⟩), .slice q nc cp, .int .i64 dev, .int .i64 ev, .bool v] (pt s.1 (itH s.2 on st i j p) :: A :: swA m g ps w) (fun u L => u = .int .i64 (waitsV p w dev ev v).2 ∧ L = pt s.1 (itH s.2 on st i j p) :: A :: swA m g ps (waitsV p w dev ev v).1) := by
 refine Tri.intro tt_ok Tryz.func106 rfl rfl Tryz.ntmps106 rfl fun F => ?_
 unfold waitsV
 rw [hw.2.2.1]
 refine G tt_ok pk106 ?_
 refine ke rfl rfl (event43 β s m g w.B hw.1 hw.2.1 on st i j hp dev ev) ?_
 have hlt := eventV_lt w.B p dev ev
 generalize eventV w.B p dev ev = x at hlt ⊢
 obtain ⟨⟨r0, r1, r2⟩, e⟩ := x
 simp only at hlt ⊢
 (refine G tt_ok pk106 ?_; repeat (refine G1 tt_ok pk106 ?_; intro _))
 by_cases he : e = 0
 ·subst he
  rw [if_neg (by simp)]
  refine G tt_ok pk106 ?_
  refine ke rfl rfl (side40 β s m g w.B hw.1 hw.2.1 on st i j p (cp := cp) hS.hS hS.hl r1) ?_
  rcases sideV_cases nc w.B r1 with ⟨e, he, h⟩ | ⟨k, hk, h⟩
  ·rw [h]
   refine G tt_ok pk106 ?_
   rw [show (e != 0) = true by simp [he]]
   refine G tt_ok pk106 ?_
   exact CW.ret (fin_ret rfl pk_ ⟨rfl, rfl⟩)
  ·rw [h]
   refine G tt_ok pk106 ?_
   refine ke rfl rfl (set89C β m g ps hw hk (n := r0) hlt.2.1 v) ?_
   refine G tt_ok pk106 ?_
   exact CW.ret (fin_ret rfl pk_ ⟨rfl, rfl⟩)
 ·rw [show (e != 0) = true by simp [he], if_pos he]
  refine G tt_ok pk106 ?_
  exact CW.ret (fin_ret rfl pk_ ⟨rfl, rfl⟩)
def messageV (p : Int) (w : SW) (on : Bool) (dev ev : Int) : SW × Int := if on then waitsV p w dev ev true else (w, 191)
set_option maxHeartbeats 4000000 in
theorem message24 (β : Base) (s : Sr) (m : Nat) (g : Gr) {ps : List Nat} {A : Atom} {q : Option Addr} (cp : Nat) (hS : TsOk β A q ps nc) {p : Int} (hp : p = 0 ∨ p = 64) {w : SW} (hw : w.ok T nc) (on st : Bool) (i j : Nat) (dev ev : Int) :
  Tri Tryz.prog β 56 [.pointer (some ⟨s.1, 4, none⟩), .pointer (some ⟨m, 0, none⟩), .slice q nc cp, .int .i64 dev, .int .i64 ev] (pt s.1 (itH s.2 on st i j p) :: A :: swA m g ps w) (fun u L => u = .int .i64 (messageV p w on dev ev).2 ∧ L = pt s.1 (itH s.2 on st i j p) :: A :: swA m g ps (messageV p w on dev ev).1) := by
 refine Tri.intro tt_ok Tryz.func56 rfl rfl Tryz.ntmps56 rfl fun F => ?_
 unfold messageV
 refine G tt_ok pk56 ?_
 cases on with
 | false =>
  refine G tt_ok pk56 ?_
  exact CW.ret (fin_ret rfl pk_ ⟨rfl, rfl⟩)
 | true =>
  refine G tt_ok pk56 ?_
  refine ke rfl rfl (waits38 β s m g cp hS hp hw true st i j dev ev true) ?_
  refine G tt_ok pk56 ?_
  exact CW.ret (fin_ret rfl pk_ ⟨rfl, rfl⟩)
def fgW (w : SW) (r : Rt) : SW := match sideV w.cs.length w.B r.2.1 with
 | (some k, _) => w.set k r.1 false
 | (none, _) => w
def fgV (d : Dv) (w : SW) (x : Er) : SW := ⟨(devSet (fgW w x.2).B d x.1 (0, 0, false)).1, (fgW w x.2).cs⟩
theorem fgW_ok {w : SW} (hw : w.ok T nc) {r : Rt} (hr : r.1 ≤ 9223372036854775807) : (fgW w r).ok T nc := by
 unfold fgW
 rw [hw.2.2.1]
 rcases sideV_cases nc w.B r.2.1 with ⟨e, he, h⟩ | ⟨k, hk, h⟩
 ·rw [h]; exact hw
 ·rw [h]; exact SW.set_ok hw hk hr false
theorem devSet_in {B : List Nat} (hB : okT T B.length) (hb : byOk B) {d : Dv} (hd : okDv d) (ev : Int) (r : Rt) : okT T (devSet B d ev r).1.length ∧ byOk (devSet B d ev r).1 := by
 unfold devSet
 cases h : evA B.length d ev with
 | mk a e =>
  cases a with
  | none => exact ⟨hB, hb⟩
  | some a =>
   have h1 := (evA_some hd h).2.2.1
   simp only
   repeat' split
   all_goals first | exact ⟨hB, hb⟩ | exact ⟨by rw [wrN_len _ h1]; exact hB, wrN_ok _ _ _ hb⟩
theorem fgV_ok {d : Dv} (hd : okDv d) (w : SW) (x : Er) (h0 : 0 ≤ x.1) (h1 : x.2.1 ≤ 9223372036854775807) (h2 : 0 ≤ x.2.1) (hw : w.ok T nc) : (fgV d w x).ok T nc := by
 have h := fgW_ok hw h1
 obtain ⟨hB, hb⟩ := devSet_in h.1 h.2.1 hd x.1 (0, 0, false)
 exact ⟨hB, hb, h.2.2⟩
set_option maxHeartbeats 4000000 in
theorem forget79 (β : Base) (s : Sr) (m : Nat) (g : Gr) {ps : List Nat} {A : Atom} {q : Option Addr} (cp : Nat) (hS : TsOk β A q ps nc) {p : Int} (hp : p = 0 ∨ p = 64) {w : SW} (hw : w.ok T nc) (on st : Bool) (i j : Nat) {d : Dv} (hd : okDv d) (x : Er) (hx : x.2.1 ≤ 9223372036854775807) :
  Tri Tryz.prog β 236 [.pointer (some ⟨s.1, 4, none⟩), .pointer (some ⟨m, 0, none⟩), .slice q nc cp, .agg #[.bool d.1, .int .i64 d.2.1, .int .i64 d.2.2], .int .i64 x.1, .agg #[.int .i64 x.2.1, .int .i64 x.2.2.1, .bool x.2.2.2]] (pt s.1 (itH s.2 on st i j p) :: A :: swA m g ps w) (fun u L => u = .tuple #[] ∧ L = pt s.1 (itH s.2 on st i j p) :: A :: swA m g ps (fgV d w x)) := by
 refine Tri.intro tt_ok Tryz.func236 rfl rfl Tryz.ntmps236 rfl fun F => ?_
 have hok := fgW_ok hw hx
 unfold fgV
 obtain ⟨ev, r0, r1, r2⟩ := x
 simp only at hx hok ⊢
 (refine G tt_ok pk236 ?_; repeat (refine G1 tt_ok pk236 ?_; intro _))
 refine ke rfl rfl (side40 β s m g w.B hw.1 hw.2.1 on st i j p (cp := cp) hS.hS hS.hl r1) ?_
 unfold fgW at hok ⊢
 rw [hw.2.2.1] at hok ⊢
 simp only at hok ⊢
 rcases sideV_cases nc w.B r1 with ⟨e, he, h⟩ | ⟨k, hk, h⟩
 ·rw [h] at hok ⊢
  simp only at hok ⊢
  refine G tt_ok pk236 ?_
  rw [show (e == 0) = false by simp [he]]
  refine G tt_ok pk236 ?_
  refine ke rfl rfl (setRoute87 β m g w.B (by have := hw.1; omega) hw.2.1 d hd ev (0, 0, false)) ?_
  refine G tt_ok pk236 ?_
  exact fin_normal (vs := []) rfl pk_ ⟨rfl, rfl⟩
 ·rw [h] at hok ⊢
  simp only at hok ⊢
  refine G tt_ok pk236 ?_
  refine ke rfl rfl (set89C β m g ps hw hk (n := r0) hx false) ?_
  refine G tt_ok pk236 ?_
  refine ke rfl rfl (setRoute87 β m g (w.set k r0 false).B (by have := hok.1; omega) hok.2.1 d hd ev (0, 0, false)) ?_
  refine G tt_ok pk236 ?_
  exact fin_normal (vs := []) rfl pk_ ⟨rfl, rfl⟩
end Go.Proofs.YtakkogdmlbkdaaaGreatDoor.Sl.It
