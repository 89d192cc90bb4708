/-
  No cell of these rows narrows 'for every input' (looked for: loops, veiled, ifaces, maps, wideKeys, modest, calm, conditions, laid).
  DERIVED. THE GIVEN ROWS OF THIS SEAT. 6 by the template 'for every input the law returns true; each argument reads behind the call as it read before'; 0 by the template 'total and deterministic' (their statements: YtmaheecbohbilaaTotals.lean).
  GIVEN WITH THE SEED: the statements are not yours to turn. If you find one false, say at which input.
  Laid BY PROGRAM, IN A SANDBOX (cutbox-rows.mjs): the forced cells as the released guide's own fill.sh prints them over the translation 73654278d75aea11… (all of the seat's roots in one cut). By AI agents, Wed Nov 11 2026. No macro, syntax, notation, axiom, sorry.
-/
import Derived.Test.YtmaheecbohbilaaChecked
import GoSem.Claim
import GoSem.ClaimJoined
import GoSem.ClaimMapViews
import Derived.JoinedTies
import Derived.KernelRfl
namespace Go.Proofs.Ytmaheecbohbilaa
/- THE CELL 'sum', in the pinned program and in every row, IS THE sha256 OF THE DUMP (.gsa) THAT YtmaheecbohbilaaProg.lean LOADS. Nothing in Lean hashes anything: it is a label: what it is worth is what the hold of that sum in a sandbox is worth. -/
noncomputable def Try.pinned : Pinned := { name := "ytmaheecbohbilaa", sum := "73654278d75aea111eff0e613dfa0fb69640c92e62fe60319092ba579de64db2", checked := Try.checked }
namespace Rows
def none {H : Type} : Left H := { results := [], args := [] }

/-- 'crierlaw11.FrameSets': WHATEVER THE INPUT: true; the input reads as it did. -/
def frameSetsSpec : ChangeSpec := { name := "frameSets", fn := fun _ => fun
  | [d1, d2, d3, d4, d5] => { results := [.lit (.bool true)], args := [d1, d2, d3, d4, d5] }
  | _ => none }
def frameSetsRow : OpenClaim := { program := "ytmaheecbohbilaa", sum := "73654278d75aea111eff0e613dfa0fb69640c92e62fe60319092ba579de64db2", func := "crier/crierlaw11.FrameSets", spec := "frameSets", unfollowed := true, recurses := true, apart := false }
def FrameSetsSaid : Prop := frameSetsRow.holds Try.pinned (OpenSpec.ofChange frameSetsSpec)

/-- ITS FALSE NEIGHBOUR: 'it returns false'. Refute it at one input. -/
def frameSetsWrong : ChangeSpec := { name := "frameSets", fn := fun _ => fun
  | [d1, d2, d3, d4, d5] => { results := [.lit (.bool false)], args := [d1, d2, d3, d4, d5] }
  | _ => none }
def FrameSetsWrongFalsely : Prop := frameSetsRow.holds Try.pinned (OpenSpec.ofChange frameSetsWrong)

/-- 'crierlaw11.FrameHolds': WHATEVER THE INPUT: true; the input reads as it did. -/
def frameHoldsSpec : ChangeSpec := { name := "frameHolds", fn := fun _ => fun
  | [d1, d2, d3, d4, d5] => { results := [.lit (.bool true)], args := [d1, d2, d3, d4, d5] }
  | _ => none }
def frameHoldsRow : OpenClaim := { program := "ytmaheecbohbilaa", sum := "73654278d75aea111eff0e613dfa0fb69640c92e62fe60319092ba579de64db2", func := "crier/crierlaw11.FrameHolds", spec := "frameHolds", unfollowed := true, recurses := true, apart := false }
def FrameHoldsSaid : Prop := frameHoldsRow.holds Try.pinned (OpenSpec.ofChange frameHoldsSpec)

/-- ITS FALSE NEIGHBOUR: 'it returns false'. Refute it at one input. -/
def frameHoldsWrong : ChangeSpec := { name := "frameHolds", fn := fun _ => fun
  | [d1, d2, d3, d4, d5] => { results := [.lit (.bool false)], args := [d1, d2, d3, d4, d5] }
  | _ => none }
def FrameHoldsWrongFalsely : Prop := frameHoldsRow.holds Try.pinned (OpenSpec.ofChange frameHoldsWrong)

/-- 'crierlaw11.FrameAgain': WHATEVER THE INPUT: true; the input reads as it did. -/
def frameAgainSpec : ChangeSpec := { name := "frameAgain", fn := fun _ => fun
  | [d1, d2, d3, d4] => { results := [.lit (.bool true)], args := [d1, d2, d3, d4] }
  | _ => none }
def frameAgainRow : OpenClaim := { program := "ytmaheecbohbilaa", sum := "73654278d75aea111eff0e613dfa0fb69640c92e62fe60319092ba579de64db2", func := "crier/crierlaw11.FrameAgain", spec := "frameAgain", unfollowed := true, recurses := true, apart := false }
def FrameAgainSaid : Prop := frameAgainRow.holds Try.pinned (OpenSpec.ofChange frameAgainSpec)

/-- ITS FALSE NEIGHBOUR: 'it returns false'. Refute it at one input. -/
def frameAgainWrong : ChangeSpec := { name := "frameAgain", fn := fun _ => fun
  | [d1, d2, d3, d4] => { results := [.lit (.bool false)], args := [d1, d2, d3, d4] }
  | _ => none }
def FrameAgainWrongFalsely : Prop := frameAgainRow.holds Try.pinned (OpenSpec.ofChange frameAgainWrong)

/-- 'crierlaw11.FrameOdd': WHATEVER THE INPUT: true; the input reads as it did. -/
def frameOddSpec : ChangeSpec := { name := "frameOdd", fn := fun _ => fun
  | [d1, d2, d3, d4, d5, d6] => { results := [.lit (.bool true)], args := [d1, d2, d3, d4, d5, d6] }
  | _ => none }
def frameOddRow : OpenClaim := { program := "ytmaheecbohbilaa", sum := "73654278d75aea111eff0e613dfa0fb69640c92e62fe60319092ba579de64db2", func := "crier/crierlaw11.FrameOdd", spec := "frameOdd", unfollowed := true, recurses := true, apart := false }
def FrameOddSaid : Prop := frameOddRow.holds Try.pinned (OpenSpec.ofChange frameOddSpec)

/-- ITS FALSE NEIGHBOUR: 'it returns false'. Refute it at one input. -/
def frameOddWrong : ChangeSpec := { name := "frameOdd", fn := fun _ => fun
  | [d1, d2, d3, d4, d5, d6] => { results := [.lit (.bool false)], args := [d1, d2, d3, d4, d5, d6] }
  | _ => none }
def FrameOddWrongFalsely : Prop := frameOddRow.holds Try.pinned (OpenSpec.ofChange frameOddWrong)

/-- 'crierlaw11.FrameDoes': WHATEVER THE INPUT: true; the input reads as it did. -/
def frameDoesSpec : ChangeSpec := { name := "frameDoes", fn := fun _ => fun
  | [d1, d2, d3, d4] => { results := [.lit (.bool true)], args := [d1, d2, d3, d4] }
  | _ => none }
def frameDoesRow : OpenClaim := { program := "ytmaheecbohbilaa", sum := "73654278d75aea111eff0e613dfa0fb69640c92e62fe60319092ba579de64db2", func := "crier/crierlaw11.FrameDoes", spec := "frameDoes", unfollowed := true, recurses := true, apart := false }
def FrameDoesSaid : Prop := frameDoesRow.holds Try.pinned (OpenSpec.ofChange frameDoesSpec)

/-- ITS FALSE NEIGHBOUR: 'it returns false'. Refute it at one input. -/
def frameDoesWrong : ChangeSpec := { name := "frameDoes", fn := fun _ => fun
  | [d1, d2, d3, d4] => { results := [.lit (.bool false)], args := [d1, d2, d3, d4] }
  | _ => none }
def FrameDoesWrongFalsely : Prop := frameDoesRow.holds Try.pinned (OpenSpec.ofChange frameDoesWrong)

/-- 'crierlaw11.FrameOnly': WHATEVER THE INPUT: true; the input reads as it did. -/
def frameOnlySpec : ChangeSpec := { name := "frameOnly", fn := fun _ => fun
  | [d1, d2, d3, d4, d5] => { results := [.lit (.bool true)], args := [d1, d2, d3, d4, d5] }
  | _ => none }
def frameOnlyRow : OpenClaim := { program := "ytmaheecbohbilaa", sum := "73654278d75aea111eff0e613dfa0fb69640c92e62fe60319092ba579de64db2", func := "crier/crierlaw11.FrameOnly", spec := "frameOnly", unfollowed := true, recurses := true, apart := false }
def FrameOnlySaid : Prop := frameOnlyRow.holds Try.pinned (OpenSpec.ofChange frameOnlySpec)

/-- ITS FALSE NEIGHBOUR: 'it returns false'. Refute it at one input. -/
def frameOnlyWrong : ChangeSpec := { name := "frameOnly", fn := fun _ => fun
  | [d1, d2, d3, d4, d5] => { results := [.lit (.bool false)], args := [d1, d2, d3, d4, d5] }
  | _ => none }
def FrameOnlyWrongFalsely : Prop := frameOnlyRow.holds Try.pinned (OpenSpec.ofChange frameOnlyWrong)

/- THE SECOND FORM. 'bulk': how many values and letters a reading holds, each counted each time it is reached (what is shared counts as often as it is met; a slice's spare places count too). A statement '..UptoSaid' is the law's where the arguments, and the package variables that the reading takes, are together of bulk at most 1048576: NARROWER than '..Said'. Prove '..Said' where nothing that the law and all that it calls make is longer than what came in: it says more and counts as full. Else prove '..UptoSaid'. A law counts once. -/
mutual
def uptoBulk {H : Type} : DataW H → Nat
  | .lit (.string bytes) => bytes.length + 1
  | .lit _ => 1
  | .nil => 1
  | .ptr d => uptoBulk d + 1
  | .slice elems spare => uptoBulkAll elems + uptoBulkAll spare + 1
  | .agg parts => uptoBulkAll parts + 1
  | .iface _ d => uptoBulk d + 1
  | .map entries => uptoBulkEntries entries + 1
  | .held _ => 1
def uptoBulkAll {H : Type} : List (DataW H) → Nat
  | [] => 0
  | d :: r => uptoBulk d + uptoBulkAll r
def uptoBulkEntries {H : Type} : List (Lit × DataW H) → Nat
  | [] => 0
  | x :: r => uptoBulkEntry x + uptoBulkEntries r
def uptoBulkEntry {H : Type} : Lit × DataW H → Nat
  | (.string bytes, d) => bytes.length + uptoBulk d + 1
  | (_, d) => uptoBulk d + 1
 end
def uptoSmall : (H : Type) → List (DataW H) → Bool := fun _ ds => decide (uptoBulkAll ds ≤ 1048576)
def OpenSpec.upto (s : _root_.Go.ChangeSpec) : _root_.Go.OpenSpec := { _root_.Go.OpenSpec.ofChange s with cond := some uptoSmall }

/-- 'crierlaw11.FrameSets', WHERE WHAT IT READS IS OF BULK AT MOST 1048576: true; the input reads as it did. -/
def frameSetsUptoRow : OpenClaim := { program := "ytmaheecbohbilaa", sum := "73654278d75aea111eff0e613dfa0fb69640c92e62fe60319092ba579de64db2", func := "crier/crierlaw11.FrameSets", spec := "frameSets", unfollowed := true, recurses := true, apart := false, narrowed := true }
def FrameSetsUptoSaid : Prop := frameSetsUptoRow.holds Try.pinned (OpenSpec.upto frameSetsSpec)

/-- 'crierlaw11.FrameHolds', WHERE WHAT IT READS IS OF BULK AT MOST 1048576: true; the input reads as it did. -/
def frameHoldsUptoRow : OpenClaim := { program := "ytmaheecbohbilaa", sum := "73654278d75aea111eff0e613dfa0fb69640c92e62fe60319092ba579de64db2", func := "crier/crierlaw11.FrameHolds", spec := "frameHolds", unfollowed := true, recurses := true, apart := false, narrowed := true }
def FrameHoldsUptoSaid : Prop := frameHoldsUptoRow.holds Try.pinned (OpenSpec.upto frameHoldsSpec)

/-- 'crierlaw11.FrameAgain', WHERE WHAT IT READS IS OF BULK AT MOST 1048576: true; the input reads as it did. -/
def frameAgainUptoRow : OpenClaim := { program := "ytmaheecbohbilaa", sum := "73654278d75aea111eff0e613dfa0fb69640c92e62fe60319092ba579de64db2", func := "crier/crierlaw11.FrameAgain", spec := "frameAgain", unfollowed := true, recurses := true, apart := false, narrowed := true }
def FrameAgainUptoSaid : Prop := frameAgainUptoRow.holds Try.pinned (OpenSpec.upto frameAgainSpec)

/-- 'crierlaw11.FrameOdd', WHERE WHAT IT READS IS OF BULK AT MOST 1048576: true; the input reads as it did. -/
def frameOddUptoRow : OpenClaim := { program := "ytmaheecbohbilaa", sum := "73654278d75aea111eff0e613dfa0fb69640c92e62fe60319092ba579de64db2", func := "crier/crierlaw11.FrameOdd", spec := "frameOdd", unfollowed := true, recurses := true, apart := false, narrowed := true }
def FrameOddUptoSaid : Prop := frameOddUptoRow.holds Try.pinned (OpenSpec.upto frameOddSpec)

/-- 'crierlaw11.FrameDoes', WHERE WHAT IT READS IS OF BULK AT MOST 1048576: true; the input reads as it did. -/
def frameDoesUptoRow : OpenClaim := { program := "ytmaheecbohbilaa", sum := "73654278d75aea111eff0e613dfa0fb69640c92e62fe60319092ba579de64db2", func := "crier/crierlaw11.FrameDoes", spec := "frameDoes", unfollowed := true, recurses := true, apart := false, narrowed := true }
def FrameDoesUptoSaid : Prop := frameDoesUptoRow.holds Try.pinned (OpenSpec.upto frameDoesSpec)

/-- 'crierlaw11.FrameOnly', WHERE WHAT IT READS IS OF BULK AT MOST 1048576: true; the input reads as it did. -/
def frameOnlyUptoRow : OpenClaim := { program := "ytmaheecbohbilaa", sum := "73654278d75aea111eff0e613dfa0fb69640c92e62fe60319092ba579de64db2", func := "crier/crierlaw11.FrameOnly", spec := "frameOnly", unfollowed := true, recurses := true, apart := false, narrowed := true }
def FrameOnlyUptoSaid : Prop := frameOnlyUptoRow.holds Try.pinned (OpenSpec.upto frameOnlySpec)

end Rows
end Go.Proofs.Ytmaheecbohbilaa
