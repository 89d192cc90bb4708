/-
  DERIVED. GIVEN WITH THE SEED: THE CARDS: each row of YtakkogdmlbkdaaaGreatDoorRows.lean that lists a variable, with what it lists TIED to the program's text (the seventh form; the later family's looks); each row that meets fmt, with fmt's text TOLD by the authors' own Lean function (tested against real Go, not proved from fmt's source: count such statements apart). THE CARD IS WHAT COUNTS. Prove the row's statement (the work); the ties are given (YtakkogdmlbkdaaaGreatDoorTie.lean); close each card by the builder's one call (the guide's Derived/Test/ToyasCard.lean, 'card_holds'). Laid BY PROGRAM, IN A SANDBOX (cutbox-door.mjs). By AI agents, Wed Nov 11 2026. No macro, syntax, notation, axiom, sorry.
-/
import Derived.Test.YtakkogdmlbkdaaaGreatDoorRows
import GoSem.ClaimSeven
namespace Go.Proofs.YtakkogdmlbkdaaaGreatDoor
namespace Rows

/-- THE TIED CARD OF 'crierlaw26.HostNews'. -/
def hostNewsCard : Claim7 := { stood := { row := hostNewsRow, standIns := [], harness := (true, "454d82305c91318bb33524456962d31546a67009f313a1441e97f81d9bb9fd0b"), looks := false }, kinds := [], alts := [], laidByText := true, laidKinds := [.data], laidTests := true, laidLooks := .later }
def HostNewsCardSaid : Prop := Claim7.holds Tryz.pinned (.plain (OpenSpec.ofChange hostNewsSpec)) hostNewsCard

/-- THE TIED CARD OF 'crierlaw26.HostLevels'. -/
def hostLevelsCard : Claim7 := { stood := { row := hostLevelsRow, standIns := [], harness := (true, "454d82305c91318bb33524456962d31546a67009f313a1441e97f81d9bb9fd0b"), looks := false }, kinds := [], alts := [], laidByText := true, laidKinds := [.data], laidTests := true, laidLooks := .later }
def HostLevelsCardSaid : Prop := Claim7.holds Tryz.pinned (.plain (OpenSpec.ofChange hostLevelsSpec)) hostLevelsCard

/-- THE TIED CARD OF 'crierlaw26.HostOnce'. -/
def hostOnceCard : Claim7 := { stood := { row := hostOnceRow, standIns := [], harness := (true, "454d82305c91318bb33524456962d31546a67009f313a1441e97f81d9bb9fd0b"), looks := false }, kinds := [], alts := [], laidByText := true, laidKinds := [.data], laidTests := true, laidLooks := .later }
def HostOnceCardSaid : Prop := Claim7.holds Tryz.pinned (.plain (OpenSpec.ofChange hostOnceSpec)) hostOnceCard

/-- THE TIED CARD OF 'crierlaw26.HostKeeps'. -/
def hostKeepsCard : Claim7 := { stood := { row := hostKeepsRow, standIns := [], harness := (true, "454d82305c91318bb33524456962d31546a67009f313a1441e97f81d9bb9fd0b"), looks := false }, kinds := [], alts := [], laidByText := true, laidKinds := [.data], laidTests := true, laidLooks := .later }
def HostKeepsCardSaid : Prop := Claim7.holds Tryz.pinned (.plain (OpenSpec.ofChange hostKeepsSpec)) hostKeepsCard

/-- THE TIED CARD OF 'crierlaw26.HostMoves'. -/
def hostMovesCard : Claim7 := { stood := { row := hostMovesRow, standIns := [], harness := (true, "454d82305c91318bb33524456962d31546a67009f313a1441e97f81d9bb9fd0b"), looks := false }, kinds := [], alts := [], laidByText := true, laidKinds := [.data], laidTests := true, laidLooks := .later }
def HostMovesCardSaid : Prop := Claim7.holds Tryz.pinned (.plain (OpenSpec.ofChange hostMovesSpec)) hostMovesCard

/-- THE TIED CARD OF 'crierlaw26.HostSleeps'. -/
def hostSleepsCard : Claim7 := { stood := { row := hostSleepsRow, standIns := [], harness := (true, "454d82305c91318bb33524456962d31546a67009f313a1441e97f81d9bb9fd0b"), looks := false }, kinds := [], alts := [], laidByText := true, laidKinds := [.data], laidTests := true, laidLooks := .later }
def HostSleepsCardSaid : Prop := Claim7.holds Tryz.pinned (.plain (OpenSpec.ofChange hostSleepsSpec)) hostSleepsCard

/-- THE TIED CARD OF 'crierlaw26.HostDoes'. -/
def hostDoesCard : Claim7 := { stood := { row := hostDoesRow, standIns := [], harness := (true, "454d82305c91318bb33524456962d31546a67009f313a1441e97f81d9bb9fd0b"), looks := false }, kinds := [], alts := [], laidByText := true, laidKinds := [.data], laidTests := true, laidLooks := .later }
def HostDoesCardSaid : Prop := Claim7.holds Tryz.pinned (.plain (OpenSpec.ofChange hostDoesSpec)) hostDoesCard

/-- THE SECOND FORM's CARD OF 'crierlaw26.HostNews'. -/
def hostNewsUptoCard : Claim7 := { stood := { row := hostNewsUptoRow, standIns := [], harness := (true, "454d82305c91318bb33524456962d31546a67009f313a1441e97f81d9bb9fd0b"), looks := false }, kinds := [], alts := [], laidByText := true, laidKinds := [.data], laidTests := true, laidLooks := .later }
def HostNewsUptoCardSaid : Prop := Claim7.holds Tryz.pinned (.plain (OpenSpec.upto hostNewsSpec)) hostNewsUptoCard

/-- THE SECOND FORM's CARD OF 'crierlaw26.HostLevels'. -/
def hostLevelsUptoCard : Claim7 := { stood := { row := hostLevelsUptoRow, standIns := [], harness := (true, "454d82305c91318bb33524456962d31546a67009f313a1441e97f81d9bb9fd0b"), looks := false }, kinds := [], alts := [], laidByText := true, laidKinds := [.data], laidTests := true, laidLooks := .later }
def HostLevelsUptoCardSaid : Prop := Claim7.holds Tryz.pinned (.plain (OpenSpec.upto hostLevelsSpec)) hostLevelsUptoCard

/-- THE SECOND FORM's CARD OF 'crierlaw26.HostOnce'. -/
def hostOnceUptoCard : Claim7 := { stood := { row := hostOnceUptoRow, standIns := [], harness := (true, "454d82305c91318bb33524456962d31546a67009f313a1441e97f81d9bb9fd0b"), looks := false }, kinds := [], alts := [], laidByText := true, laidKinds := [.data], laidTests := true, laidLooks := .later }
def HostOnceUptoCardSaid : Prop := Claim7.holds Tryz.pinned (.plain (OpenSpec.upto hostOnceSpec)) hostOnceUptoCard

/-- THE SECOND FORM's CARD OF 'crierlaw26.HostKeeps'. -/
def hostKeepsUptoCard : Claim7 := { stood := { row := hostKeepsUptoRow, standIns := [], harness := (true, "454d82305c91318bb33524456962d31546a67009f313a1441e97f81d9bb9fd0b"), looks := false }, kinds := [], alts := [], laidByText := true, laidKinds := [.data], laidTests := true, laidLooks := .later }
def HostKeepsUptoCardSaid : Prop := Claim7.holds Tryz.pinned (.plain (OpenSpec.upto hostKeepsSpec)) hostKeepsUptoCard

/-- THE SECOND FORM's CARD OF 'crierlaw26.HostMoves'. -/
def hostMovesUptoCard : Claim7 := { stood := { row := hostMovesUptoRow, standIns := [], harness := (true, "454d82305c91318bb33524456962d31546a67009f313a1441e97f81d9bb9fd0b"), looks := false }, kinds := [], alts := [], laidByText := true, laidKinds := [.data], laidTests := true, laidLooks := .later }
def HostMovesUptoCardSaid : Prop := Claim7.holds Tryz.pinned (.plain (OpenSpec.upto hostMovesSpec)) hostMovesUptoCard

/-- THE SECOND FORM's CARD OF 'crierlaw26.HostSleeps'. -/
def hostSleepsUptoCard : Claim7 := { stood := { row := hostSleepsUptoRow, standIns := [], harness := (true, "454d82305c91318bb33524456962d31546a67009f313a1441e97f81d9bb9fd0b"), looks := false }, kinds := [], alts := [], laidByText := true, laidKinds := [.data], laidTests := true, laidLooks := .later }
def HostSleepsUptoCardSaid : Prop := Claim7.holds Tryz.pinned (.plain (OpenSpec.upto hostSleepsSpec)) hostSleepsUptoCard

/-- THE SECOND FORM's CARD OF 'crierlaw26.HostDoes'. -/
def hostDoesUptoCard : Claim7 := { stood := { row := hostDoesUptoRow, standIns := [], harness := (true, "454d82305c91318bb33524456962d31546a67009f313a1441e97f81d9bb9fd0b"), looks := false }, kinds := [], alts := [], laidByText := true, laidKinds := [.data], laidTests := true, laidLooks := .later }
def HostDoesUptoCardSaid : Prop := Claim7.holds Tryz.pinned (.plain (OpenSpec.upto hostDoesSpec)) hostDoesUptoCard
end Rows
end Go.Proofs.YtakkogdmlbkdaaaGreatDoor
