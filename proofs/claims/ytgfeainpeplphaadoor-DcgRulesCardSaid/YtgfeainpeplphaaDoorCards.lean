/-
  DERIVED. GIVEN WITH THE SEED: THE CARDS: each row of YtgfeainpeplphaaDoorRows.lean that lists a variable, with what it lists TIED to the program's text (the seventh form; the later family's looks); each row that meets fmt, with fmt's text TOLD by the authors' own Lean function (tested against real Go, not proved from fmt's source: count such statements apart). THE CARD IS WHAT COUNTS. Prove the row's statement (the work); the ties are given (YtgfeainpeplphaaDoorTie.lean); close each card by the builder's one call (the guide's Derived/Test/ToyasCard.lean, 'card_holds'). Laid BY PROGRAM, IN A SANDBOX (cutbox-door.mjs). By AI agents, Wed Nov 11 2026. No macro, syntax, notation, axiom, sorry.
-/
import Derived.Test.YtgfeainpeplphaaDoorRows
import GoSem.ClaimSeven
namespace Go.Proofs.YtgfeainpeplphaaDoor
namespace Rows

/-- THE TIED CARD OF 'hornbeamlaw10.DcgRules'. -/
def dcgRulesCard : Claim7 := { stood := { row := dcgRulesRow, standIns := [], harness := (true, "9de435dc85c6d1266f7ac103b0c051fcd36b5780c9caa5553b377b65a43b3cb3"), looks := true }, kinds := [], alts := [], laidByText := true, laidKinds := [.data, .pinned], laidTests := true, laidLooks := .later }
def DcgRulesCardSaid : Prop := Claim7.holds Tryd.pinned (.plain (OpenSpec.ofChange dcgRulesSpec)) dcgRulesCard

/-- THE TIED CARD OF 'hornbeamlaw10.DcgBodies'. -/
def dcgBodiesCard : Claim7 := { stood := { row := dcgBodiesRow, standIns := [], harness := (true, "9de435dc85c6d1266f7ac103b0c051fcd36b5780c9caa5553b377b65a43b3cb3"), looks := true }, kinds := [], alts := [], laidByText := true, laidKinds := [.data, .pinned], laidTests := true, laidLooks := .later }
def DcgBodiesCardSaid : Prop := Claim7.holds Tryd.pinned (.plain (OpenSpec.ofChange dcgBodiesSpec)) dcgBodiesCard

/-- THE TIED CARD OF 'hornbeamlaw10.DcgLists'. -/
def dcgListsCard : Claim7 := { stood := { row := dcgListsRow, standIns := [], harness := (true, "9de435dc85c6d1266f7ac103b0c051fcd36b5780c9caa5553b377b65a43b3cb3"), looks := true }, kinds := [], alts := [], laidByText := true, laidKinds := [.data, .pinned], laidTests := true, laidLooks := .later }
def DcgListsCardSaid : Prop := Claim7.holds Tryd.pinned (.plain (OpenSpec.ofChange dcgListsSpec)) dcgListsCard

/-- THE TIED CARD OF 'hornbeamlaw10.DcgFresh'. -/
def dcgFreshCard : Claim7 := { stood := { row := dcgFreshRow, standIns := [], harness := (true, "9de435dc85c6d1266f7ac103b0c051fcd36b5780c9caa5553b377b65a43b3cb3"), looks := true }, kinds := [], alts := [], laidByText := true, laidKinds := [.data, .pinned], laidTests := true, laidLooks := .later }
def DcgFreshCardSaid : Prop := Claim7.holds Tryd.pinned (.plain (OpenSpec.ofChange dcgFreshSpec)) dcgFreshCard

/-- THE SECOND FORM's CARD OF 'hornbeamlaw10.DcgRules'. -/
def dcgRulesUptoCard : Claim7 := { stood := { row := dcgRulesUptoRow, standIns := [], harness := (true, "9de435dc85c6d1266f7ac103b0c051fcd36b5780c9caa5553b377b65a43b3cb3"), looks := true }, kinds := [], alts := [], laidByText := true, laidKinds := [.data, .pinned], laidTests := true, laidLooks := .later }
def DcgRulesUptoCardSaid : Prop := Claim7.holds Tryd.pinned (.plain (OpenSpec.upto dcgRulesSpec)) dcgRulesUptoCard

/-- THE SECOND FORM's CARD OF 'hornbeamlaw10.DcgBodies'. -/
def dcgBodiesUptoCard : Claim7 := { stood := { row := dcgBodiesUptoRow, standIns := [], harness := (true, "9de435dc85c6d1266f7ac103b0c051fcd36b5780c9caa5553b377b65a43b3cb3"), looks := true }, kinds := [], alts := [], laidByText := true, laidKinds := [.data, .pinned], laidTests := true, laidLooks := .later }
def DcgBodiesUptoCardSaid : Prop := Claim7.holds Tryd.pinned (.plain (OpenSpec.upto dcgBodiesSpec)) dcgBodiesUptoCard

/-- THE SECOND FORM's CARD OF 'hornbeamlaw10.DcgLists'. -/
def dcgListsUptoCard : Claim7 := { stood := { row := dcgListsUptoRow, standIns := [], harness := (true, "9de435dc85c6d1266f7ac103b0c051fcd36b5780c9caa5553b377b65a43b3cb3"), looks := true }, kinds := [], alts := [], laidByText := true, laidKinds := [.data, .pinned], laidTests := true, laidLooks := .later }
def DcgListsUptoCardSaid : Prop := Claim7.holds Tryd.pinned (.plain (OpenSpec.upto dcgListsSpec)) dcgListsUptoCard

/-- THE SECOND FORM's CARD OF 'hornbeamlaw10.DcgFresh'. -/
def dcgFreshUptoCard : Claim7 := { stood := { row := dcgFreshUptoRow, standIns := [], harness := (true, "9de435dc85c6d1266f7ac103b0c051fcd36b5780c9caa5553b377b65a43b3cb3"), looks := true }, kinds := [], alts := [], laidByText := true, laidKinds := [.data, .pinned], laidTests := true, laidLooks := .later }
def DcgFreshUptoCardSaid : Prop := Claim7.holds Tryd.pinned (.plain (OpenSpec.upto dcgFreshSpec)) dcgFreshUptoCard
end Rows
end Go.Proofs.YtgfeainpeplphaaDoor
