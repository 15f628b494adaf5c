/-
  DERIVED. GIVEN WITH THE SEED: THE CARDS: each row of YtjpnmmjgdiiahaaGreatDoorRows.lean that lists a variable, with what it lists TIED to the program's text (the seventh form; the later family's looks); each row that meets fmt, with fmt's text TOLD by the authors' own Lean function (tested against real Go, not proved from fmt's source: count such statements apart). THE CARD IS WHAT COUNTS. Prove the row's statement (the work); the ties are given (YtjpnmmjgdiiahaaGreatDoorTie.lean); close each card by the builder's one call (the guide's Derived/Test/ToyasCard.lean, 'card_holds'). Laid BY PROGRAM, IN A SANDBOX (cutbox-door.mjs). By AI agents, Wed Nov 11 2026. No macro, syntax, notation, axiom, sorry.
-/
import Derived.Test.YtjpnmmjgdiiahaaGreatDoorRows
import GoSem.ClaimSeven
namespace Go.Proofs.YtjpnmmjgdiiahaaGreatDoor
namespace Rows

/-- THE TIED CARD OF 'hornbeamlaw07.ArithEvals'. -/
def arithEvalsCard : Claim7 := { stood := { row := arithEvalsRow, standIns := [], harness := (true, "04ef9438cbe70b8ecb3cc3822e7832c98b2b4065b5d05dd85fcb76f962ebc34a"), looks := true }, kinds := [], alts := [], laidByText := true, laidKinds := [.data, .data, .data, .data, .pinned], laidTests := true, laidLooks := .later }
def ArithEvalsCardSaid : Prop := Claim7.holds Tryz.pinned (.plain (OpenSpec.ofChange arithEvalsSpec)) arithEvalsCard

/-- THE TIED CARD OF 'hornbeamlaw07.ArithEach'. -/
def arithEachCard : Claim7 := { stood := { row := arithEachRow, standIns := [], harness := (true, "04ef9438cbe70b8ecb3cc3822e7832c98b2b4065b5d05dd85fcb76f962ebc34a"), looks := true }, kinds := [], alts := [], laidByText := true, laidKinds := [.data, .data, .data, .data, .pinned], laidTests := true, laidLooks := .later }
def ArithEachCardSaid : Prop := Claim7.holds Tryz.pinned (.plain (OpenSpec.ofChange arithEachSpec)) arithEachCard

/-- THE TIED CARD OF 'hornbeamlaw07.ArithCompares'. -/
def arithComparesCard : Claim7 := { stood := { row := arithComparesRow, standIns := [], harness := (true, "04ef9438cbe70b8ecb3cc3822e7832c98b2b4065b5d05dd85fcb76f962ebc34a"), looks := true }, kinds := [], alts := [], laidByText := true, laidKinds := [.data, .data, .data, .data, .pinned], laidTests := true, laidLooks := .later }
def ArithComparesCardSaid : Prop := Claim7.holds Tryz.pinned (.plain (OpenSpec.ofChange arithComparesSpec)) arithComparesCard

/-- THE TIED CARD OF 'hornbeamlaw07.ArithOrders'. -/
def arithOrdersCard : Claim7 := { stood := { row := arithOrdersRow, standIns := [], harness := (true, "04ef9438cbe70b8ecb3cc3822e7832c98b2b4065b5d05dd85fcb76f962ebc34a"), looks := true }, kinds := [], alts := [], laidByText := true, laidKinds := [.data, .data, .data, .data, .pinned], laidTests := true, laidLooks := .later }
def ArithOrdersCardSaid : Prop := Claim7.holds Tryz.pinned (.plain (OpenSpec.ofChange arithOrdersSpec)) arithOrdersCard

/-- THE TIED CARD OF 'hornbeamlaw07.ArithParts'. -/
def arithPartsCard : Claim7 := { stood := { row := arithPartsRow, standIns := [], harness := (true, "04ef9438cbe70b8ecb3cc3822e7832c98b2b4065b5d05dd85fcb76f962ebc34a"), looks := true }, kinds := [], alts := [], laidByText := true, laidKinds := [.data, .data, .data, .data, .pinned], laidTests := true, laidLooks := .later }
def ArithPartsCardSaid : Prop := Claim7.holds Tryz.pinned (.plain (OpenSpec.ofChange arithPartsSpec)) arithPartsCard

/-- THE TIED CARD OF 'hornbeamlaw07.ArithTurns'. -/
def arithTurnsCard : Claim7 := { stood := { row := arithTurnsRow, standIns := [], harness := (true, "04ef9438cbe70b8ecb3cc3822e7832c98b2b4065b5d05dd85fcb76f962ebc34a"), looks := true }, kinds := [], alts := [], laidByText := true, laidKinds := [.data, .data, .data, .data, .pinned], laidTests := true, laidLooks := .later }
def ArithTurnsCardSaid : Prop := Claim7.holds Tryz.pinned (.plain (OpenSpec.ofChange arithTurnsSpec)) arithTurnsCard

/-- THE TIED CARD OF 'hornbeamlaw07.ArithSound'. -/
def arithSoundCard : Claim7 := { stood := { row := arithSoundRow, standIns := [], harness := (true, "04ef9438cbe70b8ecb3cc3822e7832c98b2b4065b5d05dd85fcb76f962ebc34a"), looks := true }, kinds := [], alts := [], laidByText := true, laidKinds := [.data, .data, .data, .data, .pinned], laidTests := true, laidLooks := .later }
def ArithSoundCardSaid : Prop := Claim7.holds Tryz.pinned (.plain (OpenSpec.ofChange arithSoundSpec)) arithSoundCard

/-- THE SECOND FORM's CARD OF 'hornbeamlaw07.ArithEvals'. -/
def arithEvalsUptoCard : Claim7 := { stood := { row := arithEvalsUptoRow, standIns := [], harness := (true, "04ef9438cbe70b8ecb3cc3822e7832c98b2b4065b5d05dd85fcb76f962ebc34a"), looks := true }, kinds := [], alts := [], laidByText := true, laidKinds := [.data, .data, .data, .data, .pinned], laidTests := true, laidLooks := .later }
def ArithEvalsUptoCardSaid : Prop := Claim7.holds Tryz.pinned (.plain (OpenSpec.upto arithEvalsSpec)) arithEvalsUptoCard

/-- THE SECOND FORM's CARD OF 'hornbeamlaw07.ArithEach'. -/
def arithEachUptoCard : Claim7 := { stood := { row := arithEachUptoRow, standIns := [], harness := (true, "04ef9438cbe70b8ecb3cc3822e7832c98b2b4065b5d05dd85fcb76f962ebc34a"), looks := true }, kinds := [], alts := [], laidByText := true, laidKinds := [.data, .data, .data, .data, .pinned], laidTests := true, laidLooks := .later }
def ArithEachUptoCardSaid : Prop := Claim7.holds Tryz.pinned (.plain (OpenSpec.upto arithEachSpec)) arithEachUptoCard

/-- THE SECOND FORM's CARD OF 'hornbeamlaw07.ArithCompares'. -/
def arithComparesUptoCard : Claim7 := { stood := { row := arithComparesUptoRow, standIns := [], harness := (true, "04ef9438cbe70b8ecb3cc3822e7832c98b2b4065b5d05dd85fcb76f962ebc34a"), looks := true }, kinds := [], alts := [], laidByText := true, laidKinds := [.data, .data, .data, .data, .pinned], laidTests := true, laidLooks := .later }
def ArithComparesUptoCardSaid : Prop := Claim7.holds Tryz.pinned (.plain (OpenSpec.upto arithComparesSpec)) arithComparesUptoCard

/-- THE SECOND FORM's CARD OF 'hornbeamlaw07.ArithOrders'. -/
def arithOrdersUptoCard : Claim7 := { stood := { row := arithOrdersUptoRow, standIns := [], harness := (true, "04ef9438cbe70b8ecb3cc3822e7832c98b2b4065b5d05dd85fcb76f962ebc34a"), looks := true }, kinds := [], alts := [], laidByText := true, laidKinds := [.data, .data, .data, .data, .pinned], laidTests := true, laidLooks := .later }
def ArithOrdersUptoCardSaid : Prop := Claim7.holds Tryz.pinned (.plain (OpenSpec.upto arithOrdersSpec)) arithOrdersUptoCard

/-- THE SECOND FORM's CARD OF 'hornbeamlaw07.ArithParts'. -/
def arithPartsUptoCard : Claim7 := { stood := { row := arithPartsUptoRow, standIns := [], harness := (true, "04ef9438cbe70b8ecb3cc3822e7832c98b2b4065b5d05dd85fcb76f962ebc34a"), looks := true }, kinds := [], alts := [], laidByText := true, laidKinds := [.data, .data, .data, .data, .pinned], laidTests := true, laidLooks := .later }
def ArithPartsUptoCardSaid : Prop := Claim7.holds Tryz.pinned (.plain (OpenSpec.upto arithPartsSpec)) arithPartsUptoCard

/-- THE SECOND FORM's CARD OF 'hornbeamlaw07.ArithTurns'. -/
def arithTurnsUptoCard : Claim7 := { stood := { row := arithTurnsUptoRow, standIns := [], harness := (true, "04ef9438cbe70b8ecb3cc3822e7832c98b2b4065b5d05dd85fcb76f962ebc34a"), looks := true }, kinds := [], alts := [], laidByText := true, laidKinds := [.data, .data, .data, .data, .pinned], laidTests := true, laidLooks := .later }
def ArithTurnsUptoCardSaid : Prop := Claim7.holds Tryz.pinned (.plain (OpenSpec.upto arithTurnsSpec)) arithTurnsUptoCard

/-- THE SECOND FORM's CARD OF 'hornbeamlaw07.ArithSound'. -/
def arithSoundUptoCard : Claim7 := { stood := { row := arithSoundUptoRow, standIns := [], harness := (true, "04ef9438cbe70b8ecb3cc3822e7832c98b2b4065b5d05dd85fcb76f962ebc34a"), looks := true }, kinds := [], alts := [], laidByText := true, laidKinds := [.data, .data, .data, .data, .pinned], laidTests := true, laidLooks := .later }
def ArithSoundUptoCardSaid : Prop := Claim7.holds Tryz.pinned (.plain (OpenSpec.upto arithSoundSpec)) arithSoundUptoCard
end Rows
end Go.Proofs.YtjpnmmjgdiiahaaGreatDoor
