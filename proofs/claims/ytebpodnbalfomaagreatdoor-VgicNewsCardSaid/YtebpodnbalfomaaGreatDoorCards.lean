/-
  DERIVED. GIVEN WITH THE SEED: THE CARDS: each row of YtebpodnbalfomaaGreatDoorRows.lean that lists a variable, with what it lists TIED to the program's text (the seventh form; the later family's looks); each row that meets fmt, with fmt's text TOLD by the authors' own Lean function (tested against real Go, not proved from fmt's source: count such statements apart). THE CARD IS WHAT COUNTS. Prove the row's statement (the work); the ties are given (YtebpodnbalfomaaGreatDoorTie.lean); close each card by the builder's one call (the guide's Derived/Test/ToyasCard.lean, 'card_holds'). Laid BY PROGRAM, IN A SANDBOX (cutbox-door.mjs). By AI agents, Wed Nov 11 2026. No macro, syntax, notation, axiom, sorry.
-/
import Derived.Test.YtebpodnbalfomaaGreatDoorRows
import GoSem.ClaimSeven
namespace Go.Proofs.YtebpodnbalfomaaGreatDoor
namespace Rows

/-- THE TIED CARD OF 'crierlaw23.VgicOrder'. -/
def vgicOrderCard : Claim7 := { stood := { row := vgicOrderRow, standIns := [], harness := (true, "edd4e86b91c59d118d9e5f01844e720af46ec8cba84d8c4c30208c92c6b98c46"), looks := false }, kinds := [], alts := [], laidByText := true, laidKinds := [.data], laidTests := true, laidLooks := .later }
def VgicOrderCardSaid : Prop := Claim7.holds Tryz.pinned (.plain (OpenSpec.ofChange vgicOrderSpec)) vgicOrderCard

/-- THE TIED CARD OF 'crierlaw23.VgicMessages'. -/
def vgicMessagesCard : Claim7 := { stood := { row := vgicMessagesRow, standIns := [], harness := (true, "edd4e86b91c59d118d9e5f01844e720af46ec8cba84d8c4c30208c92c6b98c46"), looks := false }, kinds := [], alts := [], laidByText := true, laidKinds := [.data], laidTests := true, laidLooks := .later }
def VgicMessagesCardSaid : Prop := Claim7.holds Tryz.pinned (.plain (OpenSpec.ofChange vgicMessagesSpec)) vgicMessagesCard

/-- THE TIED CARD OF 'crierlaw23.VgicTakes'. -/
def vgicTakesCard : Claim7 := { stood := { row := vgicTakesRow, standIns := [], harness := (true, "edd4e86b91c59d118d9e5f01844e720af46ec8cba84d8c4c30208c92c6b98c46"), looks := false }, kinds := [], alts := [], laidByText := true, laidKinds := [.data], laidTests := true, laidLooks := .later }
def VgicTakesCardSaid : Prop := Claim7.holds Tryz.pinned (.plain (OpenSpec.ofChange vgicTakesSpec)) vgicTakesCard

/-- THE TIED CARD OF 'crierlaw23.VgicApart'. -/
def vgicApartCard : Claim7 := { stood := { row := vgicApartRow, standIns := [], harness := (true, "edd4e86b91c59d118d9e5f01844e720af46ec8cba84d8c4c30208c92c6b98c46"), looks := false }, kinds := [], alts := [], laidByText := true, laidKinds := [.data], laidTests := true, laidLooks := .later }
def VgicApartCardSaid : Prop := Claim7.holds Tryz.pinned (.plain (OpenSpec.ofChange vgicApartSpec)) vgicApartCard

/-- THE TIED CARD OF 'crierlaw23.VgicEnds'. -/
def vgicEndsCard : Claim7 := { stood := { row := vgicEndsRow, standIns := [], harness := (true, "edd4e86b91c59d118d9e5f01844e720af46ec8cba84d8c4c30208c92c6b98c46"), looks := false }, kinds := [], alts := [], laidByText := true, laidKinds := [.data], laidTests := true, laidLooks := .later }
def VgicEndsCardSaid : Prop := Claim7.holds Tryz.pinned (.plain (OpenSpec.ofChange vgicEndsSpec)) vgicEndsCard

/-- THE TIED CARD OF 'crierlaw23.VgicNews'. -/
def vgicNewsCard : Claim7 := { stood := { row := vgicNewsRow, standIns := [], harness := (true, "edd4e86b91c59d118d9e5f01844e720af46ec8cba84d8c4c30208c92c6b98c46"), looks := false }, kinds := [], alts := [], laidByText := true, laidKinds := [.data], laidTests := true, laidLooks := .later }
def VgicNewsCardSaid : Prop := Claim7.holds Tryz.pinned (.plain (OpenSpec.ofChange vgicNewsSpec)) vgicNewsCard

/-- THE SECOND FORM's CARD OF 'crierlaw23.VgicOrder'. -/
def vgicOrderUptoCard : Claim7 := { stood := { row := vgicOrderUptoRow, standIns := [], harness := (true, "edd4e86b91c59d118d9e5f01844e720af46ec8cba84d8c4c30208c92c6b98c46"), looks := false }, kinds := [], alts := [], laidByText := true, laidKinds := [.data], laidTests := true, laidLooks := .later }
def VgicOrderUptoCardSaid : Prop := Claim7.holds Tryz.pinned (.plain (OpenSpec.upto vgicOrderSpec)) vgicOrderUptoCard

/-- THE SECOND FORM's CARD OF 'crierlaw23.VgicMessages'. -/
def vgicMessagesUptoCard : Claim7 := { stood := { row := vgicMessagesUptoRow, standIns := [], harness := (true, "edd4e86b91c59d118d9e5f01844e720af46ec8cba84d8c4c30208c92c6b98c46"), looks := false }, kinds := [], alts := [], laidByText := true, laidKinds := [.data], laidTests := true, laidLooks := .later }
def VgicMessagesUptoCardSaid : Prop := Claim7.holds Tryz.pinned (.plain (OpenSpec.upto vgicMessagesSpec)) vgicMessagesUptoCard

/-- THE SECOND FORM's CARD OF 'crierlaw23.VgicTakes'. -/
def vgicTakesUptoCard : Claim7 := { stood := { row := vgicTakesUptoRow, standIns := [], harness := (true, "edd4e86b91c59d118d9e5f01844e720af46ec8cba84d8c4c30208c92c6b98c46"), looks := false }, kinds := [], alts := [], laidByText := true, laidKinds := [.data], laidTests := true, laidLooks := .later }
def VgicTakesUptoCardSaid : Prop := Claim7.holds Tryz.pinned (.plain (OpenSpec.upto vgicTakesSpec)) vgicTakesUptoCard

/-- THE SECOND FORM's CARD OF 'crierlaw23.VgicApart'. -/
def vgicApartUptoCard : Claim7 := { stood := { row := vgicApartUptoRow, standIns := [], harness := (true, "edd4e86b91c59d118d9e5f01844e720af46ec8cba84d8c4c30208c92c6b98c46"), looks := false }, kinds := [], alts := [], laidByText := true, laidKinds := [.data], laidTests := true, laidLooks := .later }
def VgicApartUptoCardSaid : Prop := Claim7.holds Tryz.pinned (.plain (OpenSpec.upto vgicApartSpec)) vgicApartUptoCard

/-- THE SECOND FORM's CARD OF 'crierlaw23.VgicEnds'. -/
def vgicEndsUptoCard : Claim7 := { stood := { row := vgicEndsUptoRow, standIns := [], harness := (true, "edd4e86b91c59d118d9e5f01844e720af46ec8cba84d8c4c30208c92c6b98c46"), looks := false }, kinds := [], alts := [], laidByText := true, laidKinds := [.data], laidTests := true, laidLooks := .later }
def VgicEndsUptoCardSaid : Prop := Claim7.holds Tryz.pinned (.plain (OpenSpec.upto vgicEndsSpec)) vgicEndsUptoCard

/-- THE SECOND FORM's CARD OF 'crierlaw23.VgicNews'. -/
def vgicNewsUptoCard : Claim7 := { stood := { row := vgicNewsUptoRow, standIns := [], harness := (true, "edd4e86b91c59d118d9e5f01844e720af46ec8cba84d8c4c30208c92c6b98c46"), looks := false }, kinds := [], alts := [], laidByText := true, laidKinds := [.data], laidTests := true, laidLooks := .later }
def VgicNewsUptoCardSaid : Prop := Claim7.holds Tryz.pinned (.plain (OpenSpec.upto vgicNewsSpec)) vgicNewsUptoCard
end Rows
end Go.Proofs.YtebpodnbalfomaaGreatDoor
