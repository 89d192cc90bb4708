import Derived.Test.YtmaheecbohbilaaFj
namespace Go.Proofs.Ytmaheecbohbilaa.Sl
open Go Go.RowKit Go.Proofs
set_option linter.unusedVariables false
set_option linter.unusedSimpArgs false
set_option maxRecDepth 10000
def aw0 (tx : ByteArray) : List En := List.replicate 64 (zeroE.1, tx)
def aw1 (tx : ByteArray) : List En := (wrK 32 (aw0 tx) 5 32 32 5 32).1
def aw2 (tx : ByteArray) : List En := (wrK 32 (aw1 tx) 6 32 32 4 32).1
def aw3 (tx : ByteArray) : List En := (wrK 32 (aw2 tx) 11 36 4 255 4).1
theorem aw_a (tx : ByteArray) : (wrK 32 (aw0 tx) 5 32 32 5 32).2 = 2 := by kernel_rfl
theorem aw_b (tx : ByteArray) : rdK 32 (aw1 tx) 5 32 32 32 = 5 := by kernel_rfl
theorem aw_c (tx : ByteArray) : (wrK 32 (aw1 tx) 6 32 32 4 32).2 = 1 := by kernel_rfl
theorem aw_d (tx : ByteArray) : rdK 32 (aw2 tx) 6 32 32 32 = 1 := by kernel_rfl
theorem aw_e (tx : ByteArray) : (wrK 32 (aw2 tx) 11 36 4 255 4).2 = 1 := by kernel_rfl
theorem aw_f (tx : ByteArray) : rdK 32 (aw3 tx) 11 36 4 4 = 248 := by kernel_rfl
end Go.Proofs.Ytmaheecbohbilaa.Sl
