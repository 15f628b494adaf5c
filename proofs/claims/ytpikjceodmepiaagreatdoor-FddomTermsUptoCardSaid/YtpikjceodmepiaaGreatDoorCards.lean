/-
  DERIVED. GIVEN WITH THE SEED: THE CARDS: each row of YtpikjceodmepiaaGreatDoorRows.lean that lists a variable, with what it lists TIED to the program's text (the seventh form; the later family's looks); each row that meets fmt, with fmt's text TOLD by the authors' own Lean function (tested against real Go, not proved from fmt's source: count such statements apart). THE CARD IS WHAT COUNTS. Prove the row's statement (the work); the ties are given (YtpikjceodmepiaaGreatDoorTie.lean); close each card by the builder's one call (the guide's Derived/Test/ToyasCard.lean, 'card_holds'). Laid BY PROGRAM, IN A SANDBOX (cutbox-door.mjs). By AI agents, Wed Nov 11 2026. No macro, syntax, notation, axiom, sorry.
-/
import Derived.Test.YtpikjceodmepiaaGreatDoorRows
import GoSem.ClaimSeven
namespace Go.Proofs.YtpikjceodmepiaaGreatDoor
namespace Rows

/-- THE TIED CARD OF 'hornbeamlaw09.FddomTerms'. -/
def fddomTermsCard : Claim7 := { stood := { row := fddomTermsRow, standIns := [], harness := (true, "95b22a34eb36c6719f010bc51eb18304c45eebc514c788e64743cd819f2a34d2"), looks := true }, kinds := [], alts := [], laidByText := true, laidKinds := [.data, .pinned], laidTests := true, laidLooks := .later }
def FddomTermsCardSaid : Prop := Claim7.holds Tryz.pinned (.plain (OpenSpec.ofChange fddomTermsSpec)) fddomTermsCard

/-- THE TIED CARD OF 'hornbeamlaw09.FddomBack'. -/
def fddomBackCard : Claim7 := { stood := { row := fddomBackRow, standIns := [], harness := (true, "95b22a34eb36c6719f010bc51eb18304c45eebc514c788e64743cd819f2a34d2"), looks := true }, kinds := [], alts := [], laidByText := true, laidKinds := [.data, .pinned], laidTests := true, laidLooks := .later }
def FddomBackCardSaid : Prop := Claim7.holds Tryz.pinned (.plain (OpenSpec.ofChange fddomBackSpec)) fddomBackCard

/-- THE SECOND FORM's CARD OF 'hornbeamlaw09.FddomTerms'. -/
def fddomTermsUptoCard : Claim7 := { stood := { row := fddomTermsUptoRow, standIns := [], harness := (true, "95b22a34eb36c6719f010bc51eb18304c45eebc514c788e64743cd819f2a34d2"), looks := true }, kinds := [], alts := [], laidByText := true, laidKinds := [.data, .pinned], laidTests := true, laidLooks := .later }
def FddomTermsUptoCardSaid : Prop := Claim7.holds Tryz.pinned (.plain (OpenSpec.upto fddomTermsSpec)) fddomTermsUptoCard

/-- THE SECOND FORM's CARD OF 'hornbeamlaw09.FddomBack'. -/
def fddomBackUptoCard : Claim7 := { stood := { row := fddomBackUptoRow, standIns := [], harness := (true, "95b22a34eb36c6719f010bc51eb18304c45eebc514c788e64743cd819f2a34d2"), looks := true }, kinds := [], alts := [], laidByText := true, laidKinds := [.data, .pinned], laidTests := true, laidLooks := .later }
def FddomBackUptoCardSaid : Prop := Claim7.holds Tryz.pinned (.plain (OpenSpec.upto fddomBackSpec)) fddomBackUptoCard
end Rows
end Go.Proofs.YtpikjceodmepiaaGreatDoor
