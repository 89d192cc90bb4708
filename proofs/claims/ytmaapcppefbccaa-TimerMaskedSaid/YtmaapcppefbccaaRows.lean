/-
  No cell of these rows narrows 'for every input' (looked for: loops, veiled, ifaces, maps, wideKeys, modest, calm, conditions, laid).
  DERIVED. THE GIVEN ROWS OF THIS SEAT. 6 by the template 'for every input the law returns true; each argument reads behind the call as it read before'; 0 by the template 'total and deterministic' (their statements: YtmaapcppefbccaaTotals.lean).
  GIVEN WITH THE SEED: the statements are not yours to turn. If you find one false, say at which input.
  Laid BY PROGRAM, IN A SANDBOX (cutbox-rows.mjs): the forced cells as the released guide's own fill.sh prints them over the translation 6e40dd287b2fd06c… (all of the seat's roots in one cut). By AI agents, Wed Nov 11 2026. No macro, syntax, notation, axiom, sorry.
-/
import Derived.Test.YtmaapcppefbccaaChecked
import GoSem.Claim
import GoSem.ClaimJoined
import GoSem.ClaimMapViews
import Derived.JoinedTies
import Derived.KernelRfl
namespace Go.Proofs.Ytmaapcppefbccaa
/- THE CELL 'sum', in the pinned program and in every row, IS THE sha256 OF THE DUMP (.gsa) THAT YtmaapcppefbccaaProg.lean LOADS. Nothing in Lean hashes anything: it is a label: what it is worth is what the hold of that sum in a sandbox is worth. -/
noncomputable def Try.pinned : Pinned := { name := "ytmaapcppefbccaa", sum := "6e40dd287b2fd06cb60bcb435300fec8b4e69d7fd3e5b217f9a0d958d56e0bbd", checked := Try.checked }
namespace Rows
def none {H : Type} : Left H := { results := [], args := [] }

/-- 'crierlaw22.TimerDoes': WHATEVER THE INPUT: true; the input reads as it did. -/
def timerDoesSpec : ChangeSpec := { name := "timerDoes", fn := fun _ => fun
  | [d1, d2, d3, d4] => { results := [.lit (.bool true)], args := [d1, d2, d3, d4] }
  | _ => none }
def timerDoesRow : OpenClaim := { program := "ytmaapcppefbccaa", sum := "6e40dd287b2fd06cb60bcb435300fec8b4e69d7fd3e5b217f9a0d958d56e0bbd", func := "crier/crierlaw22.TimerDoes", spec := "timerDoes", unfollowed := true, recurses := true, apart := false }
def TimerDoesSaid : Prop := timerDoesRow.holds Try.pinned (OpenSpec.ofChange timerDoesSpec)

/-- ITS FALSE NEIGHBOUR: 'it returns false'. Refute it at one input. -/
def timerDoesWrong : ChangeSpec := { name := "timerDoes", fn := fun _ => fun
  | [d1, d2, d3, d4] => { results := [.lit (.bool false)], args := [d1, d2, d3, d4] }
  | _ => none }
def TimerDoesWrongFalsely : Prop := timerDoesRow.holds Try.pinned (OpenSpec.ofChange timerDoesWrong)

/-- 'crierlaw22.TimerOnce': WHATEVER THE INPUT: true; the input reads as it did. -/
def timerOnceSpec : ChangeSpec := { name := "timerOnce", fn := fun _ => fun
  | [d1, d2, d3] => { results := [.lit (.bool true)], args := [d1, d2, d3] }
  | _ => none }
def timerOnceRow : OpenClaim := { program := "ytmaapcppefbccaa", sum := "6e40dd287b2fd06cb60bcb435300fec8b4e69d7fd3e5b217f9a0d958d56e0bbd", func := "crier/crierlaw22.TimerOnce", spec := "timerOnce", unfollowed := true, recurses := true, apart := false }
def TimerOnceSaid : Prop := timerOnceRow.holds Try.pinned (OpenSpec.ofChange timerOnceSpec)

/-- ITS FALSE NEIGHBOUR: 'it returns false'. Refute it at one input. -/
def timerOnceWrong : ChangeSpec := { name := "timerOnce", fn := fun _ => fun
  | [d1, d2, d3] => { results := [.lit (.bool false)], args := [d1, d2, d3] }
  | _ => none }
def TimerOnceWrongFalsely : Prop := timerOnceRow.holds Try.pinned (OpenSpec.ofChange timerOnceWrong)

/-- 'crierlaw22.TimerBack': WHATEVER THE INPUT: true; the input reads as it did. -/
def timerBackSpec : ChangeSpec := { name := "timerBack", fn := fun _ => fun
  | [d1, d2, d3, d4] => { results := [.lit (.bool true)], args := [d1, d2, d3, d4] }
  | _ => none }
def timerBackRow : OpenClaim := { program := "ytmaapcppefbccaa", sum := "6e40dd287b2fd06cb60bcb435300fec8b4e69d7fd3e5b217f9a0d958d56e0bbd", func := "crier/crierlaw22.TimerBack", spec := "timerBack", unfollowed := true, recurses := true, apart := false }
def TimerBackSaid : Prop := timerBackRow.holds Try.pinned (OpenSpec.ofChange timerBackSpec)

/-- ITS FALSE NEIGHBOUR: 'it returns false'. Refute it at one input. -/
def timerBackWrong : ChangeSpec := { name := "timerBack", fn := fun _ => fun
  | [d1, d2, d3, d4] => { results := [.lit (.bool false)], args := [d1, d2, d3, d4] }
  | _ => none }
def TimerBackWrongFalsely : Prop := timerBackRow.holds Try.pinned (OpenSpec.ofChange timerBackWrong)

/-- 'crierlaw22.TimerMasked': WHATEVER THE INPUT: true; the input reads as it did. -/
def timerMaskedSpec : ChangeSpec := { name := "timerMasked", fn := fun _ => fun
  | [d1, d2] => { results := [.lit (.bool true)], args := [d1, d2] }
  | _ => none }
def timerMaskedRow : OpenClaim := { program := "ytmaapcppefbccaa", sum := "6e40dd287b2fd06cb60bcb435300fec8b4e69d7fd3e5b217f9a0d958d56e0bbd", func := "crier/crierlaw22.TimerMasked", spec := "timerMasked", unfollowed := true, recurses := true, apart := false }
def TimerMaskedSaid : Prop := timerMaskedRow.holds Try.pinned (OpenSpec.ofChange timerMaskedSpec)

/-- ITS FALSE NEIGHBOUR: 'it returns false'. Refute it at one input. -/
def timerMaskedWrong : ChangeSpec := { name := "timerMasked", fn := fun _ => fun
  | [d1, d2] => { results := [.lit (.bool false)], args := [d1, d2] }
  | _ => none }
def TimerMaskedWrongFalsely : Prop := timerMaskedRow.holds Try.pinned (OpenSpec.ofChange timerMaskedWrong)

/-- 'crierlaw22.TimerOdd': WHATEVER THE INPUT: true; the input reads as it did. -/
def timerOddSpec : ChangeSpec := { name := "timerOdd", fn := fun _ => fun
  | [d1, d2, d3, d4] => { results := [.lit (.bool true)], args := [d1, d2, d3, d4] }
  | _ => none }
def timerOddRow : OpenClaim := { program := "ytmaapcppefbccaa", sum := "6e40dd287b2fd06cb60bcb435300fec8b4e69d7fd3e5b217f9a0d958d56e0bbd", func := "crier/crierlaw22.TimerOdd", spec := "timerOdd", unfollowed := true, recurses := true, apart := false }
def TimerOddSaid : Prop := timerOddRow.holds Try.pinned (OpenSpec.ofChange timerOddSpec)

/-- ITS FALSE NEIGHBOUR: 'it returns false'. Refute it at one input. -/
def timerOddWrong : ChangeSpec := { name := "timerOdd", fn := fun _ => fun
  | [d1, d2, d3, d4] => { results := [.lit (.bool false)], args := [d1, d2, d3, d4] }
  | _ => none }
def TimerOddWrongFalsely : Prop := timerOddRow.holds Try.pinned (OpenSpec.ofChange timerOddWrong)

/-- 'crierlaw22.TimerSoon': WHATEVER THE INPUT: true; the input reads as it did. -/
def timerSoonSpec : ChangeSpec := { name := "timerSoon", fn := fun _ => fun
  | [d1, d2, d3] => { results := [.lit (.bool true)], args := [d1, d2, d3] }
  | _ => none }
def timerSoonRow : OpenClaim := { program := "ytmaapcppefbccaa", sum := "6e40dd287b2fd06cb60bcb435300fec8b4e69d7fd3e5b217f9a0d958d56e0bbd", func := "crier/crierlaw22.TimerSoon", spec := "timerSoon", unfollowed := true, recurses := true, apart := false }
def TimerSoonSaid : Prop := timerSoonRow.holds Try.pinned (OpenSpec.ofChange timerSoonSpec)

/-- ITS FALSE NEIGHBOUR: 'it returns false'. Refute it at one input. -/
def timerSoonWrong : ChangeSpec := { name := "timerSoon", fn := fun _ => fun
  | [d1, d2, d3] => { results := [.lit (.bool false)], args := [d1, d2, d3] }
  | _ => none }
def TimerSoonWrongFalsely : Prop := timerSoonRow.holds Try.pinned (OpenSpec.ofChange timerSoonWrong)

/- THE SECOND FORM. 'bulk': how many values and letters a reading holds, each counted each time it is reached (what is shared counts as often as it is met; a slice's spare places count too). A statement '..UptoSaid' is the law's where the arguments, and the package variables that the reading takes, are together of bulk at most 1048576: NARROWER than '..Said'. Prove '..Said' where nothing that the law and all that it calls make is longer than what came in: it says more and counts as full. Else prove '..UptoSaid'. A law counts once. -/
mutual
def uptoBulk {H : Type} : DataW H → Nat
  | .lit (.string bytes) => bytes.length + 1
  | .lit _ => 1
  | .nil => 1
  | .ptr d => uptoBulk d + 1
  | .slice elems spare => uptoBulkAll elems + uptoBulkAll spare + 1
  | .agg parts => uptoBulkAll parts + 1
  | .iface _ d => uptoBulk d + 1
  | .map entries => uptoBulkEntries entries + 1
  | .held _ => 1
def uptoBulkAll {H : Type} : List (DataW H) → Nat
  | [] => 0
  | d :: r => uptoBulk d + uptoBulkAll r
def uptoBulkEntries {H : Type} : List (Lit × DataW H) → Nat
  | [] => 0
  | x :: r => uptoBulkEntry x + uptoBulkEntries r
def uptoBulkEntry {H : Type} : Lit × DataW H → Nat
  | (.string bytes, d) => bytes.length + uptoBulk d + 1
  | (_, d) => uptoBulk d + 1
 end
def uptoSmall : (H : Type) → List (DataW H) → Bool := fun _ ds => decide (uptoBulkAll ds ≤ 1048576)
def OpenSpec.upto (s : _root_.Go.ChangeSpec) : _root_.Go.OpenSpec := { _root_.Go.OpenSpec.ofChange s with cond := some uptoSmall }

/-- 'crierlaw22.TimerDoes', WHERE WHAT IT READS IS OF BULK AT MOST 1048576: true; the input reads as it did. -/
def timerDoesUptoRow : OpenClaim := { program := "ytmaapcppefbccaa", sum := "6e40dd287b2fd06cb60bcb435300fec8b4e69d7fd3e5b217f9a0d958d56e0bbd", func := "crier/crierlaw22.TimerDoes", spec := "timerDoes", unfollowed := true, recurses := true, apart := false, narrowed := true }
def TimerDoesUptoSaid : Prop := timerDoesUptoRow.holds Try.pinned (OpenSpec.upto timerDoesSpec)

/-- 'crierlaw22.TimerOnce', WHERE WHAT IT READS IS OF BULK AT MOST 1048576: true; the input reads as it did. -/
def timerOnceUptoRow : OpenClaim := { program := "ytmaapcppefbccaa", sum := "6e40dd287b2fd06cb60bcb435300fec8b4e69d7fd3e5b217f9a0d958d56e0bbd", func := "crier/crierlaw22.TimerOnce", spec := "timerOnce", unfollowed := true, recurses := true, apart := false, narrowed := true }
def TimerOnceUptoSaid : Prop := timerOnceUptoRow.holds Try.pinned (OpenSpec.upto timerOnceSpec)

/-- 'crierlaw22.TimerBack', WHERE WHAT IT READS IS OF BULK AT MOST 1048576: true; the input reads as it did. -/
def timerBackUptoRow : OpenClaim := { program := "ytmaapcppefbccaa", sum := "6e40dd287b2fd06cb60bcb435300fec8b4e69d7fd3e5b217f9a0d958d56e0bbd", func := "crier/crierlaw22.TimerBack", spec := "timerBack", unfollowed := true, recurses := true, apart := false, narrowed := true }
def TimerBackUptoSaid : Prop := timerBackUptoRow.holds Try.pinned (OpenSpec.upto timerBackSpec)

/-- 'crierlaw22.TimerMasked', WHERE WHAT IT READS IS OF BULK AT MOST 1048576: true; the input reads as it did. -/
def timerMaskedUptoRow : OpenClaim := { program := "ytmaapcppefbccaa", sum := "6e40dd287b2fd06cb60bcb435300fec8b4e69d7fd3e5b217f9a0d958d56e0bbd", func := "crier/crierlaw22.TimerMasked", spec := "timerMasked", unfollowed := true, recurses := true, apart := false, narrowed := true }
def TimerMaskedUptoSaid : Prop := timerMaskedUptoRow.holds Try.pinned (OpenSpec.upto timerMaskedSpec)

/-- 'crierlaw22.TimerOdd', WHERE WHAT IT READS IS OF BULK AT MOST 1048576: true; the input reads as it did. -/
def timerOddUptoRow : OpenClaim := { program := "ytmaapcppefbccaa", sum := "6e40dd287b2fd06cb60bcb435300fec8b4e69d7fd3e5b217f9a0d958d56e0bbd", func := "crier/crierlaw22.TimerOdd", spec := "timerOdd", unfollowed := true, recurses := true, apart := false, narrowed := true }
def TimerOddUptoSaid : Prop := timerOddUptoRow.holds Try.pinned (OpenSpec.upto timerOddSpec)

/-- 'crierlaw22.TimerSoon', WHERE WHAT IT READS IS OF BULK AT MOST 1048576: true; the input reads as it did. -/
def timerSoonUptoRow : OpenClaim := { program := "ytmaapcppefbccaa", sum := "6e40dd287b2fd06cb60bcb435300fec8b4e69d7fd3e5b217f9a0d958d56e0bbd", func := "crier/crierlaw22.TimerSoon", spec := "timerSoon", unfollowed := true, recurses := true, apart := false, narrowed := true }
def TimerSoonUptoSaid : Prop := timerSoonUptoRow.holds Try.pinned (OpenSpec.upto timerSoonSpec)

end Rows
end Go.Proofs.Ytmaapcppefbccaa
