/-
  No cell of these rows narrows 'for every input' (looked for: loops, veiled, ifaces, maps, wideKeys, modest, calm, conditions, laid).
  DERIVED. THE GIVEN ROWS OF THIS SEAT. 7 by the template 'for every input the law returns true; each argument reads behind the call as it read before'; 0 by the template 'total and deterministic' (their statements: YtjphlcfplcacnaaGreatTotals.lean).
  GIVEN WITH THE SEED: the statements are not yours to turn. If you find one false, say at which input.
  Laid BY PROGRAM, IN A SANDBOX (cutbox-rows.mjs): the forced cells as the released guide's own fill.sh prints them over the translation 2368064fbecaf109… (all of the seat's roots in one cut). By AI agents, Wed Nov 11 2026. No macro, syntax, notation, axiom, sorry.
-/
import Derived.Test.YtjphlcfplcacnaaGreatChecked
import GoSem.Claim
import GoSem.ClaimJoined
import GoSem.ClaimMapViews
import Derived.JoinedTies
import Derived.KernelRfl
namespace Go.Proofs.YtjphlcfplcacnaaGreat
/- THE CELL 'sum', in the pinned program and in every row, IS THE sha256 OF THE DUMP (.gsa) THAT YtjphlcfplcacnaaGreatProg.lean LOADS. Nothing in Lean hashes anything: it is a label: what it is worth is what the hold of that sum in a sandbox is worth. -/
noncomputable def Tryz.pinned : Pinned := { name := "ytjphlcfplcacnaagreat", sum := "2368064fbecaf1094fcef1b38b82d1da702fc7e974da5745b9713887da3d8c15", checked := Tryz.checked }
namespace Rows
def none {H : Type} : Left H := { results := [], args := [] }

/-- 'crierlaw13.DistNews': WHATEVER THE INPUT: true; the input reads as it did. -/
def distNewsSpec : ChangeSpec := { name := "distNews", fn := fun _ => fun
  | [d1, d2, d3] => { results := [.lit (.bool true)], args := [d1, d2, d3] }
  | _ => none }
def distNewsRow : OpenClaim := { program := "ytjphlcfplcacnaagreat", sum := "2368064fbecaf1094fcef1b38b82d1da702fc7e974da5745b9713887da3d8c15", func := "crier/crierlaw13.DistNews", spec := "distNews", unfollowed := true, recurses := true, apart := false }
def DistNewsSaid : Prop := distNewsRow.holds Tryz.pinned (OpenSpec.ofChange distNewsSpec)

/-- ITS FALSE NEIGHBOUR: 'it returns false'. Refute it at one input. -/
def distNewsWrong : ChangeSpec := { name := "distNews", fn := fun _ => fun
  | [d1, d2, d3] => { results := [.lit (.bool false)], args := [d1, d2, d3] }
  | _ => none }
def DistNewsWrongFalsely : Prop := distNewsRow.holds Tryz.pinned (OpenSpec.ofChange distNewsWrong)

/-- 'crierlaw13.DistOne': WHATEVER THE INPUT: true; the input reads as it did. -/
def distOneSpec : ChangeSpec := { name := "distOne", fn := fun _ => fun
  | [d1, d2, d3] => { results := [.lit (.bool true)], args := [d1, d2, d3] }
  | _ => none }
def distOneRow : OpenClaim := { program := "ytjphlcfplcacnaagreat", sum := "2368064fbecaf1094fcef1b38b82d1da702fc7e974da5745b9713887da3d8c15", func := "crier/crierlaw13.DistOne", spec := "distOne", unfollowed := true, recurses := true, apart := false }
def DistOneSaid : Prop := distOneRow.holds Tryz.pinned (OpenSpec.ofChange distOneSpec)

/-- ITS FALSE NEIGHBOUR: 'it returns false'. Refute it at one input. -/
def distOneWrong : ChangeSpec := { name := "distOne", fn := fun _ => fun
  | [d1, d2, d3] => { results := [.lit (.bool false)], args := [d1, d2, d3] }
  | _ => none }
def DistOneWrongFalsely : Prop := distOneRow.holds Tryz.pinned (OpenSpec.ofChange distOneWrong)

/-- 'crierlaw13.DistBest': WHATEVER THE INPUT: true; the input reads as it did. -/
def distBestSpec : ChangeSpec := { name := "distBest", fn := fun _ => fun
  | [d1, d2, d3, d4] => { results := [.lit (.bool true)], args := [d1, d2, d3, d4] }
  | _ => none }
def distBestRow : OpenClaim := { program := "ytjphlcfplcacnaagreat", sum := "2368064fbecaf1094fcef1b38b82d1da702fc7e974da5745b9713887da3d8c15", func := "crier/crierlaw13.DistBest", spec := "distBest", unfollowed := true, recurses := true, apart := false }
def DistBestSaid : Prop := distBestRow.holds Tryz.pinned (OpenSpec.ofChange distBestSpec)

/-- ITS FALSE NEIGHBOUR: 'it returns false'. Refute it at one input. -/
def distBestWrong : ChangeSpec := { name := "distBest", fn := fun _ => fun
  | [d1, d2, d3, d4] => { results := [.lit (.bool false)], args := [d1, d2, d3, d4] }
  | _ => none }
def DistBestWrongFalsely : Prop := distBestRow.holds Tryz.pinned (OpenSpec.ofChange distBestWrong)

/-- 'crierlaw13.DistApart': WHATEVER THE INPUT: true; the input reads as it did. -/
def distApartSpec : ChangeSpec := { name := "distApart", fn := fun _ => fun
  | [d1, d2, d3, d4, d5] => { results := [.lit (.bool true)], args := [d1, d2, d3, d4, d5] }
  | _ => none }
def distApartRow : OpenClaim := { program := "ytjphlcfplcacnaagreat", sum := "2368064fbecaf1094fcef1b38b82d1da702fc7e974da5745b9713887da3d8c15", func := "crier/crierlaw13.DistApart", spec := "distApart", unfollowed := true, recurses := true, apart := false }
def DistApartSaid : Prop := distApartRow.holds Tryz.pinned (OpenSpec.ofChange distApartSpec)

/-- ITS FALSE NEIGHBOUR: 'it returns false'. Refute it at one input. -/
def distApartWrong : ChangeSpec := { name := "distApart", fn := fun _ => fun
  | [d1, d2, d3, d4, d5] => { results := [.lit (.bool false)], args := [d1, d2, d3, d4, d5] }
  | _ => none }
def DistApartWrongFalsely : Prop := distApartRow.holds Tryz.pinned (OpenSpec.ofChange distApartWrong)

/-- 'crierlaw13.DistCalls': WHATEVER THE INPUT: true; the input reads as it did. -/
def distCallsSpec : ChangeSpec := { name := "distCalls", fn := fun _ => fun
  | [d1, d2, d3, d4, d5] => { results := [.lit (.bool true)], args := [d1, d2, d3, d4, d5] }
  | _ => none }
def distCallsRow : OpenClaim := { program := "ytjphlcfplcacnaagreat", sum := "2368064fbecaf1094fcef1b38b82d1da702fc7e974da5745b9713887da3d8c15", func := "crier/crierlaw13.DistCalls", spec := "distCalls", unfollowed := true, recurses := true, apart := false }
def DistCallsSaid : Prop := distCallsRow.holds Tryz.pinned (OpenSpec.ofChange distCallsSpec)

/-- ITS FALSE NEIGHBOUR: 'it returns false'. Refute it at one input. -/
def distCallsWrong : ChangeSpec := { name := "distCalls", fn := fun _ => fun
  | [d1, d2, d3, d4, d5] => { results := [.lit (.bool false)], args := [d1, d2, d3, d4, d5] }
  | _ => none }
def DistCallsWrongFalsely : Prop := distCallsRow.holds Tryz.pinned (OpenSpec.ofChange distCallsWrong)

/-- 'crierlaw13.DistWakes': WHATEVER THE INPUT: true; the input reads as it did. -/
def distWakesSpec : ChangeSpec := { name := "distWakes", fn := fun _ => fun
  | [d1, d2, d3] => { results := [.lit (.bool true)], args := [d1, d2, d3] }
  | _ => none }
def distWakesRow : OpenClaim := { program := "ytjphlcfplcacnaagreat", sum := "2368064fbecaf1094fcef1b38b82d1da702fc7e974da5745b9713887da3d8c15", func := "crier/crierlaw13.DistWakes", spec := "distWakes", unfollowed := true, recurses := true, apart := false }
def DistWakesSaid : Prop := distWakesRow.holds Tryz.pinned (OpenSpec.ofChange distWakesSpec)

/-- ITS FALSE NEIGHBOUR: 'it returns false'. Refute it at one input. -/
def distWakesWrong : ChangeSpec := { name := "distWakes", fn := fun _ => fun
  | [d1, d2, d3] => { results := [.lit (.bool false)], args := [d1, d2, d3] }
  | _ => none }
def DistWakesWrongFalsely : Prop := distWakesRow.holds Tryz.pinned (OpenSpec.ofChange distWakesWrong)

/-- 'crierlaw13.DistDoes': WHATEVER THE INPUT: true; the input reads as it did. -/
def distDoesSpec : ChangeSpec := { name := "distDoes", fn := fun _ => fun
  | [d1, d2, d3] => { results := [.lit (.bool true)], args := [d1, d2, d3] }
  | _ => none }
def distDoesRow : OpenClaim := { program := "ytjphlcfplcacnaagreat", sum := "2368064fbecaf1094fcef1b38b82d1da702fc7e974da5745b9713887da3d8c15", func := "crier/crierlaw13.DistDoes", spec := "distDoes", unfollowed := true, recurses := true, apart := false }
def DistDoesSaid : Prop := distDoesRow.holds Tryz.pinned (OpenSpec.ofChange distDoesSpec)

/-- ITS FALSE NEIGHBOUR: 'it returns false'. Refute it at one input. -/
def distDoesWrong : ChangeSpec := { name := "distDoes", fn := fun _ => fun
  | [d1, d2, d3] => { results := [.lit (.bool false)], args := [d1, d2, d3] }
  | _ => none }
def DistDoesWrongFalsely : Prop := distDoesRow.holds Tryz.pinned (OpenSpec.ofChange distDoesWrong)

/- THE SECOND FORM. 'bulk': how many values and letters a reading holds, each counted each time it is reached (what is shared counts as often as it is met; a slice's spare places count too). A statement '..UptoSaid' is the law's where the arguments, and the package variables that the reading takes, are together of bulk at most 1048576: NARROWER than '..Said'. Prove '..Said' where nothing that the law and all that it calls make is longer than what came in: it says more and counts as full. Else prove '..UptoSaid'. A law counts once. -/
mutual
def uptoBulk {H : Type} : DataW H → Nat
  | .lit (.string bytes) => bytes.length + 1
  | .lit _ => 1
  | .nil => 1
  | .ptr d => uptoBulk d + 1
  | .slice elems spare => uptoBulkAll elems + uptoBulkAll spare + 1
  | .agg parts => uptoBulkAll parts + 1
  | .iface _ d => uptoBulk d + 1
  | .map entries => uptoBulkEntries entries + 1
  | .held _ => 1
def uptoBulkAll {H : Type} : List (DataW H) → Nat
  | [] => 0
  | d :: r => uptoBulk d + uptoBulkAll r
def uptoBulkEntries {H : Type} : List (Lit × DataW H) → Nat
  | [] => 0
  | x :: r => uptoBulkEntry x + uptoBulkEntries r
def uptoBulkEntry {H : Type} : Lit × DataW H → Nat
  | (.string bytes, d) => bytes.length + uptoBulk d + 1
  | (_, d) => uptoBulk d + 1
 end
def uptoSmall : (H : Type) → List (DataW H) → Bool := fun _ ds => decide (uptoBulkAll ds ≤ 1048576)
def OpenSpec.upto (s : _root_.Go.ChangeSpec) : _root_.Go.OpenSpec := { _root_.Go.OpenSpec.ofChange s with cond := some uptoSmall }

/-- 'crierlaw13.DistNews', WHERE WHAT IT READS IS OF BULK AT MOST 1048576: true; the input reads as it did. -/
def distNewsUptoRow : OpenClaim := { program := "ytjphlcfplcacnaagreat", sum := "2368064fbecaf1094fcef1b38b82d1da702fc7e974da5745b9713887da3d8c15", func := "crier/crierlaw13.DistNews", spec := "distNews", unfollowed := true, recurses := true, apart := false, narrowed := true }
def DistNewsUptoSaid : Prop := distNewsUptoRow.holds Tryz.pinned (OpenSpec.upto distNewsSpec)

/-- 'crierlaw13.DistOne', WHERE WHAT IT READS IS OF BULK AT MOST 1048576: true; the input reads as it did. -/
def distOneUptoRow : OpenClaim := { program := "ytjphlcfplcacnaagreat", sum := "2368064fbecaf1094fcef1b38b82d1da702fc7e974da5745b9713887da3d8c15", func := "crier/crierlaw13.DistOne", spec := "distOne", unfollowed := true, recurses := true, apart := false, narrowed := true }
def DistOneUptoSaid : Prop := distOneUptoRow.holds Tryz.pinned (OpenSpec.upto distOneSpec)

/-- 'crierlaw13.DistBest', WHERE WHAT IT READS IS OF BULK AT MOST 1048576: true; the input reads as it did. -/
def distBestUptoRow : OpenClaim := { program := "ytjphlcfplcacnaagreat", sum := "2368064fbecaf1094fcef1b38b82d1da702fc7e974da5745b9713887da3d8c15", func := "crier/crierlaw13.DistBest", spec := "distBest", unfollowed := true, recurses := true, apart := false, narrowed := true }
def DistBestUptoSaid : Prop := distBestUptoRow.holds Tryz.pinned (OpenSpec.upto distBestSpec)

/-- 'crierlaw13.DistApart', WHERE WHAT IT READS IS OF BULK AT MOST 1048576: true; the input reads as it did. -/
def distApartUptoRow : OpenClaim := { program := "ytjphlcfplcacnaagreat", sum := "2368064fbecaf1094fcef1b38b82d1da702fc7e974da5745b9713887da3d8c15", func := "crier/crierlaw13.DistApart", spec := "distApart", unfollowed := true, recurses := true, apart := false, narrowed := true }
def DistApartUptoSaid : Prop := distApartUptoRow.holds Tryz.pinned (OpenSpec.upto distApartSpec)

/-- 'crierlaw13.DistCalls', WHERE WHAT IT READS IS OF BULK AT MOST 1048576: true; the input reads as it did. -/
def distCallsUptoRow : OpenClaim := { program := "ytjphlcfplcacnaagreat", sum := "2368064fbecaf1094fcef1b38b82d1da702fc7e974da5745b9713887da3d8c15", func := "crier/crierlaw13.DistCalls", spec := "distCalls", unfollowed := true, recurses := true, apart := false, narrowed := true }
def DistCallsUptoSaid : Prop := distCallsUptoRow.holds Tryz.pinned (OpenSpec.upto distCallsSpec)

/-- 'crierlaw13.DistWakes', WHERE WHAT IT READS IS OF BULK AT MOST 1048576: true; the input reads as it did. -/
def distWakesUptoRow : OpenClaim := { program := "ytjphlcfplcacnaagreat", sum := "2368064fbecaf1094fcef1b38b82d1da702fc7e974da5745b9713887da3d8c15", func := "crier/crierlaw13.DistWakes", spec := "distWakes", unfollowed := true, recurses := true, apart := false, narrowed := true }
def DistWakesUptoSaid : Prop := distWakesUptoRow.holds Tryz.pinned (OpenSpec.upto distWakesSpec)

/-- 'crierlaw13.DistDoes', WHERE WHAT IT READS IS OF BULK AT MOST 1048576: true; the input reads as it did. -/
def distDoesUptoRow : OpenClaim := { program := "ytjphlcfplcacnaagreat", sum := "2368064fbecaf1094fcef1b38b82d1da702fc7e974da5745b9713887da3d8c15", func := "crier/crierlaw13.DistDoes", spec := "distDoes", unfollowed := true, recurses := true, apart := false, narrowed := true }
def DistDoesUptoSaid : Prop := distDoesUptoRow.holds Tryz.pinned (OpenSpec.upto distDoesSpec)

end Rows
end Go.Proofs.YtjphlcfplcacnaaGreat
