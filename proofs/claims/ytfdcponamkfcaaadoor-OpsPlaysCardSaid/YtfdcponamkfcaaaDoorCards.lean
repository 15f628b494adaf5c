/-
  DERIVED. GIVEN WITH THE SEED: THE CARDS: each row of YtfdcponamkfcaaaDoorRows.lean that lists a variable, with what it lists TIED to the program's text (the seventh form; the later family's looks); each row that meets fmt, with fmt's text TOLD by the authors' own Lean function (tested against real Go, not proved from fmt's source: count such statements apart). THE CARD IS WHAT COUNTS. Prove the row's statement (the work); the ties are given (YtfdcponamkfcaaaDoorTie.lean); close each card by the builder's one call (the guide's Derived/Test/ToyasCard.lean, 'card_holds'). Laid BY PROGRAM, IN A SANDBOX (cutbox-door.mjs). By AI agents, Wed Nov 11 2026. No macro, syntax, notation, axiom, sorry.
-/
import Derived.Test.YtfdcponamkfcaaaDoorRows
import GoSem.ClaimSeven
namespace Go.Proofs.YtfdcponamkfcaaaDoor
namespace Rows

/-- THE TIED CARD OF 'hornbeamlaw04.OpsTypes'. -/
def opsTypesCard : Claim7 := { stood := { row := opsTypesRow, standIns := [], harness := (true, "ed70790ea00b55d4ce98abd0caac452ac0d17b82893782257c6c6b7a4115e922"), looks := true }, kinds := [], alts := [], laidByText := true, laidKinds := [.listed, .data], laidTests := true, laidLooks := .later }
def OpsTypesCardSaid : Prop := Claim7.holds Tryd.pinned (.plain (OpenSpec.ofChange opsTypesSpec)) opsTypesCard

/-- THE TIED CARD OF 'hornbeamlaw04.OpsAdds'. -/
def opsAddsCard : Claim7 := { stood := { row := opsAddsRow, standIns := [], harness := (true, "ed70790ea00b55d4ce98abd0caac452ac0d17b82893782257c6c6b7a4115e922"), looks := true }, kinds := [], alts := [], laidByText := true, laidKinds := [.listed, .data], laidTests := true, laidLooks := .later }
def OpsAddsCardSaid : Prop := Claim7.holds Tryd.pinned (.plain (OpenSpec.ofChange opsAddsSpec)) opsAddsCard

/-- THE TIED CARD OF 'hornbeamlaw04.OpsApart'. -/
def opsApartCard : Claim7 := { stood := { row := opsApartRow, standIns := [], harness := (true, "ed70790ea00b55d4ce98abd0caac452ac0d17b82893782257c6c6b7a4115e922"), looks := true }, kinds := [], alts := [], laidByText := true, laidKinds := [.listed, .data], laidTests := true, laidLooks := .later }
def OpsApartCardSaid : Prop := Claim7.holds Tryd.pinned (.plain (OpenSpec.ofChange opsApartSpec)) opsApartCard

/-- THE TIED CARD OF 'hornbeamlaw04.OpsCopies'. -/
def opsCopiesCard : Claim7 := { stood := { row := opsCopiesRow, standIns := [], harness := (true, "ed70790ea00b55d4ce98abd0caac452ac0d17b82893782257c6c6b7a4115e922"), looks := true }, kinds := [], alts := [], laidByText := true, laidKinds := [.listed, .data], laidTests := true, laidLooks := .later }
def OpsCopiesCardSaid : Prop := Claim7.holds Tryd.pinned (.plain (OpenSpec.ofChange opsCopiesSpec)) opsCopiesCard

/-- THE TIED CARD OF 'hornbeamlaw04.OpsPlays'. -/
def opsPlaysCard : Claim7 := { stood := { row := opsPlaysRow, standIns := [], harness := (true, "ed70790ea00b55d4ce98abd0caac452ac0d17b82893782257c6c6b7a4115e922"), looks := true }, kinds := [], alts := [], laidByText := true, laidKinds := [.listed, .data], laidTests := true, laidLooks := .later }
def OpsPlaysCardSaid : Prop := Claim7.holds Tryd.pinned (.plain (OpenSpec.ofChange opsPlaysSpec)) opsPlaysCard

/-- THE SECOND FORM's CARD OF 'hornbeamlaw04.OpsTypes'. -/
def opsTypesUptoCard : Claim7 := { stood := { row := opsTypesUptoRow, standIns := [], harness := (true, "ed70790ea00b55d4ce98abd0caac452ac0d17b82893782257c6c6b7a4115e922"), looks := true }, kinds := [], alts := [], laidByText := true, laidKinds := [.listed, .data], laidTests := true, laidLooks := .later }
def OpsTypesUptoCardSaid : Prop := Claim7.holds Tryd.pinned (.plain (OpenSpec.upto opsTypesSpec)) opsTypesUptoCard

/-- THE SECOND FORM's CARD OF 'hornbeamlaw04.OpsAdds'. -/
def opsAddsUptoCard : Claim7 := { stood := { row := opsAddsUptoRow, standIns := [], harness := (true, "ed70790ea00b55d4ce98abd0caac452ac0d17b82893782257c6c6b7a4115e922"), looks := true }, kinds := [], alts := [], laidByText := true, laidKinds := [.listed, .data], laidTests := true, laidLooks := .later }
def OpsAddsUptoCardSaid : Prop := Claim7.holds Tryd.pinned (.plain (OpenSpec.upto opsAddsSpec)) opsAddsUptoCard

/-- THE SECOND FORM's CARD OF 'hornbeamlaw04.OpsApart'. -/
def opsApartUptoCard : Claim7 := { stood := { row := opsApartUptoRow, standIns := [], harness := (true, "ed70790ea00b55d4ce98abd0caac452ac0d17b82893782257c6c6b7a4115e922"), looks := true }, kinds := [], alts := [], laidByText := true, laidKinds := [.listed, .data], laidTests := true, laidLooks := .later }
def OpsApartUptoCardSaid : Prop := Claim7.holds Tryd.pinned (.plain (OpenSpec.upto opsApartSpec)) opsApartUptoCard

/-- THE SECOND FORM's CARD OF 'hornbeamlaw04.OpsCopies'. -/
def opsCopiesUptoCard : Claim7 := { stood := { row := opsCopiesUptoRow, standIns := [], harness := (true, "ed70790ea00b55d4ce98abd0caac452ac0d17b82893782257c6c6b7a4115e922"), looks := true }, kinds := [], alts := [], laidByText := true, laidKinds := [.listed, .data], laidTests := true, laidLooks := .later }
def OpsCopiesUptoCardSaid : Prop := Claim7.holds Tryd.pinned (.plain (OpenSpec.upto opsCopiesSpec)) opsCopiesUptoCard

/-- THE SECOND FORM's CARD OF 'hornbeamlaw04.OpsPlays'. -/
def opsPlaysUptoCard : Claim7 := { stood := { row := opsPlaysUptoRow, standIns := [], harness := (true, "ed70790ea00b55d4ce98abd0caac452ac0d17b82893782257c6c6b7a4115e922"), looks := true }, kinds := [], alts := [], laidByText := true, laidKinds := [.listed, .data], laidTests := true, laidLooks := .later }
def OpsPlaysUptoCardSaid : Prop := Claim7.holds Tryd.pinned (.plain (OpenSpec.upto opsPlaysSpec)) opsPlaysUptoCard
end Rows
end Go.Proofs.YtfdcponamkfcaaaDoor
