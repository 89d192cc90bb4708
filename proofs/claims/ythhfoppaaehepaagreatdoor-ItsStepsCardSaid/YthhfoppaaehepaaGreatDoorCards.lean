/-
  DERIVED. GIVEN WITH THE SEED: THE CARDS: each row of YthhfoppaaehepaaGreatDoorRows.lean that lists a variable, with what it lists TIED to the program's text (the seventh form; the later family's looks); each row that meets fmt, with fmt's text TOLD by the authors' own Lean function (tested against real Go, not proved from fmt's source: count such statements apart). THE CARD IS WHAT COUNTS. Prove the row's statement (the work); the ties are given (YthhfoppaaehepaaGreatDoorTie.lean); close each card by the builder's one call (the guide's Derived/Test/ToyasCard.lean, 'card_holds'). Laid BY PROGRAM, IN A SANDBOX (cutbox-door.mjs). By AI agents, Wed Nov 11 2026. No macro, syntax, notation, axiom, sorry.
-/
import Derived.Test.YthhfoppaaehepaaGreatDoorRows
import GoSem.ClaimSeven
namespace Go.Proofs.YthhfoppaaehepaaGreatDoor
namespace Rows

/-- THE TIED CARD OF 'crierlaw19.ItsWhole'. -/
def itsWholeCard : Claim7 := { stood := { row := itsWholeRow, standIns := [], harness := (true, "283f196f4ea650de2151b98360c33ffa1b97361e6bfc35bfb46c4b540a3a23f6"), looks := false }, kinds := [], alts := [], laidByText := true, laidKinds := [.data], laidTests := true, laidLooks := .later }
def ItsWholeCardSaid : Prop := Claim7.holds Tryz.pinned (.plain (OpenSpec.ofChange itsWholeSpec)) itsWholeCard

/-- THE TIED CARD OF 'crierlaw19.ItsForgets'. -/
def itsForgetsCard : Claim7 := { stood := { row := itsForgetsRow, standIns := [], harness := (true, "283f196f4ea650de2151b98360c33ffa1b97361e6bfc35bfb46c4b540a3a23f6"), looks := false }, kinds := [], alts := [], laidByText := true, laidKinds := [.data], laidTests := true, laidLooks := .later }
def ItsForgetsCardSaid : Prop := Claim7.holds Tryz.pinned (.plain (OpenSpec.ofChange itsForgetsSpec)) itsForgetsCard

/-- THE TIED CARD OF 'crierlaw19.ItsSteps'. -/
def itsStepsCard : Claim7 := { stood := { row := itsStepsRow, standIns := [], harness := (true, "283f196f4ea650de2151b98360c33ffa1b97361e6bfc35bfb46c4b540a3a23f6"), looks := false }, kinds := [], alts := [], laidByText := true, laidKinds := [.data], laidTests := true, laidLooks := .later }
def ItsStepsCardSaid : Prop := Claim7.holds Tryz.pinned (.plain (OpenSpec.ofChange itsStepsSpec)) itsStepsCard

/-- THE TIED CARD OF 'crierlaw19.ItsGoes'. -/
def itsGoesCard : Claim7 := { stood := { row := itsGoesRow, standIns := [], harness := (true, "283f196f4ea650de2151b98360c33ffa1b97361e6bfc35bfb46c4b540a3a23f6"), looks := false }, kinds := [], alts := [], laidByText := true, laidKinds := [.data], laidTests := true, laidLooks := .later }
def ItsGoesCardSaid : Prop := Claim7.holds Tryz.pinned (.plain (OpenSpec.ofChange itsGoesSpec)) itsGoesCard

/-- THE TIED CARD OF 'crierlaw19.ItsMoves'. -/
def itsMovesCard : Claim7 := { stood := { row := itsMovesRow, standIns := [], harness := (true, "283f196f4ea650de2151b98360c33ffa1b97361e6bfc35bfb46c4b540a3a23f6"), looks := false }, kinds := [], alts := [], laidByText := true, laidKinds := [.data], laidTests := true, laidLooks := .later }
def ItsMovesCardSaid : Prop := Claim7.holds Tryz.pinned (.plain (OpenSpec.ofChange itsMovesSpec)) itsMovesCard

/-- THE SECOND FORM's CARD OF 'crierlaw19.ItsWhole'. -/
def itsWholeUptoCard : Claim7 := { stood := { row := itsWholeUptoRow, standIns := [], harness := (true, "283f196f4ea650de2151b98360c33ffa1b97361e6bfc35bfb46c4b540a3a23f6"), looks := false }, kinds := [], alts := [], laidByText := true, laidKinds := [.data], laidTests := true, laidLooks := .later }
def ItsWholeUptoCardSaid : Prop := Claim7.holds Tryz.pinned (.plain (OpenSpec.upto itsWholeSpec)) itsWholeUptoCard

/-- THE SECOND FORM's CARD OF 'crierlaw19.ItsForgets'. -/
def itsForgetsUptoCard : Claim7 := { stood := { row := itsForgetsUptoRow, standIns := [], harness := (true, "283f196f4ea650de2151b98360c33ffa1b97361e6bfc35bfb46c4b540a3a23f6"), looks := false }, kinds := [], alts := [], laidByText := true, laidKinds := [.data], laidTests := true, laidLooks := .later }
def ItsForgetsUptoCardSaid : Prop := Claim7.holds Tryz.pinned (.plain (OpenSpec.upto itsForgetsSpec)) itsForgetsUptoCard

/-- THE SECOND FORM's CARD OF 'crierlaw19.ItsSteps'. -/
def itsStepsUptoCard : Claim7 := { stood := { row := itsStepsUptoRow, standIns := [], harness := (true, "283f196f4ea650de2151b98360c33ffa1b97361e6bfc35bfb46c4b540a3a23f6"), looks := false }, kinds := [], alts := [], laidByText := true, laidKinds := [.data], laidTests := true, laidLooks := .later }
def ItsStepsUptoCardSaid : Prop := Claim7.holds Tryz.pinned (.plain (OpenSpec.upto itsStepsSpec)) itsStepsUptoCard

/-- THE SECOND FORM's CARD OF 'crierlaw19.ItsGoes'. -/
def itsGoesUptoCard : Claim7 := { stood := { row := itsGoesUptoRow, standIns := [], harness := (true, "283f196f4ea650de2151b98360c33ffa1b97361e6bfc35bfb46c4b540a3a23f6"), looks := false }, kinds := [], alts := [], laidByText := true, laidKinds := [.data], laidTests := true, laidLooks := .later }
def ItsGoesUptoCardSaid : Prop := Claim7.holds Tryz.pinned (.plain (OpenSpec.upto itsGoesSpec)) itsGoesUptoCard

/-- THE SECOND FORM's CARD OF 'crierlaw19.ItsMoves'. -/
def itsMovesUptoCard : Claim7 := { stood := { row := itsMovesUptoRow, standIns := [], harness := (true, "283f196f4ea650de2151b98360c33ffa1b97361e6bfc35bfb46c4b540a3a23f6"), looks := false }, kinds := [], alts := [], laidByText := true, laidKinds := [.data], laidTests := true, laidLooks := .later }
def ItsMovesUptoCardSaid : Prop := Claim7.holds Tryz.pinned (.plain (OpenSpec.upto itsMovesSpec)) itsMovesUptoCard
end Rows
end Go.Proofs.YthhfoppaaehepaaGreatDoor
