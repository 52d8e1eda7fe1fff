/-
  DERIVED. GIVEN WITH THE SEED: THE CARDS: each row of YtohbipkmfhmibaaGreatDoorRows.lean that lists a variable, with what it lists TIED to the program's text (the seventh form; the later family's looks); each row that meets fmt, with fmt's text TOLD by the authors' own Lean function (tested against real Go, not proved from fmt's source: count such statements apart). THE CARD IS WHAT COUNTS. Prove the row's statement (the work); the ties are given (YtohbipkmfhmibaaGreatDoorTie.lean); close each card by the builder's one call (the guide's Derived/Test/ToyasCard.lean, 'card_holds'). Laid BY PROGRAM, IN A SANDBOX (cutbox-door.mjs). By AI agents, Wed Nov 11 2026. No macro, syntax, notation, axiom, sorry.
-/
import Derived.Test.YtohbipkmfhmibaaGreatDoorRows
import GoSem.ClaimSeven
namespace Go.Proofs.YtohbipkmfhmibaaGreatDoor
namespace Rows

/-- THE TIED CARD OF 'linkboylaw42.WatchKeeps'. -/
def watchKeepsCard : Claim7 := { stood := { row := watchKeepsRow, standIns := [], harness := (true, "a54ff6ef5081c546b7f47320bff99572791d127918f81b3e09f4c8c76e1ad1cf"), looks := true }, kinds := [], alts := [], laidByText := true, laidKinds := [.data, .sentinel, .sentinel, .sentinel, .sentinel, .data, .pinned], laidTests := true, laidLooks := .later }
def WatchKeepsCardSaid : Prop := Claim7.holds Tryz.pinned (.plain (OpenSpec.ofChange watchKeepsSpec)) watchKeepsCard

/-- THE TIED CARD OF 'linkboylaw42.WatchDo'. -/
def watchDoCard : Claim7 := { stood := { row := watchDoRow, standIns := [], harness := (true, "a54ff6ef5081c546b7f47320bff99572791d127918f81b3e09f4c8c76e1ad1cf"), looks := true }, kinds := [], alts := [], laidByText := true, laidKinds := [.data, .sentinel, .sentinel, .sentinel, .sentinel, .sentinel, .sentinel, .sentinel, .sentinel, .sentinel, .sentinel, .sentinel, .sentinel, .sentinel, .sentinel, .sentinel, .sentinel, .sentinel, .sentinel, .data, .pinned], laidTests := true, laidLooks := .later }
def WatchDoCardSaid : Prop := Claim7.holds Tryz.pinned (.plain (OpenSpec.ofChange watchDoSpec)) watchDoCard

/-- THE TIED CARD OF 'linkboylaw13.ObjectNodes'. -/
def objectNodesCard : Claim7 := { stood := { row := objectNodesRow, standIns := [], harness := (true, "a54ff6ef5081c546b7f47320bff99572791d127918f81b3e09f4c8c76e1ad1cf"), looks := true }, kinds := [], alts := [], laidByText := true, laidKinds := [.data, .sentinel, .sentinel, .sentinel, .sentinel, .sentinel, .sentinel, .sentinel, .sentinel, .sentinel, .sentinel, .sentinel, .sentinel, .sentinel, .sentinel, .sentinel, .sentinel, .sentinel, .sentinel, .pinned], laidTests := true, laidLooks := .later }
def ObjectNodesCardSaid : Prop := Claim7.holds Tryz.pinned (.plain (OpenSpec.ofChange objectNodesSpec)) objectNodesCard

/-- THE TIED CARD OF 'linkboylaw13.ObjectSlices'. -/
def objectSlicesCard : Claim7 := { stood := { row := objectSlicesRow, standIns := [], harness := (true, "a54ff6ef5081c546b7f47320bff99572791d127918f81b3e09f4c8c76e1ad1cf"), looks := true }, kinds := [], alts := [], laidByText := true, laidKinds := [.data, .sentinel, .sentinel, .sentinel, .sentinel, .sentinel, .sentinel, .sentinel, .sentinel, .sentinel, .sentinel, .sentinel, .sentinel, .sentinel, .sentinel, .sentinel, .sentinel, .sentinel, .sentinel, .pinned], laidTests := true, laidLooks := .later }
def ObjectSlicesCardSaid : Prop := Claim7.holds Tryz.pinned (.plain (OpenSpec.ofChange objectSlicesSpec)) objectSlicesCard

/-- THE TIED CARD OF 'linkboylaw13.ObjectServices'. -/
def objectServicesCard : Claim7 := { stood := { row := objectServicesRow, standIns := [], harness := (true, "a54ff6ef5081c546b7f47320bff99572791d127918f81b3e09f4c8c76e1ad1cf"), looks := true }, kinds := [], alts := [], laidByText := true, laidKinds := [.data, .sentinel, .sentinel, .sentinel, .sentinel, .sentinel, .sentinel, .sentinel, .sentinel, .sentinel, .sentinel, .sentinel, .sentinel, .sentinel, .sentinel, .sentinel, .sentinel, .sentinel, .sentinel, .pinned], laidTests := true, laidLooks := .later }
def ObjectServicesCardSaid : Prop := Claim7.holds Tryz.pinned (.plain (OpenSpec.ofChange objectServicesSpec)) objectServicesCard

/-- THE TIED CARD OF 'linkboylaw14.EventFrames'. -/
def eventFramesCard : Claim7 := { stood := { row := eventFramesRow, standIns := [], harness := (true, "a54ff6ef5081c546b7f47320bff99572791d127918f81b3e09f4c8c76e1ad1cf"), looks := true }, kinds := [], alts := [], laidByText := true, laidKinds := [.data, .sentinel, .sentinel, .sentinel, .sentinel, .sentinel, .sentinel, .sentinel, .sentinel, .sentinel, .sentinel, .sentinel, .sentinel, .sentinel, .sentinel, .sentinel, .sentinel, .sentinel, .sentinel, .pinned], laidTests := true, laidLooks := .later }
def EventFramesCardSaid : Prop := Claim7.holds Tryz.pinned (.plain (OpenSpec.ofChange eventFramesSpec)) eventFramesCard

/-- THE SECOND FORM's CARD OF 'linkboylaw42.WatchKeeps'. -/
def watchKeepsUptoCard : Claim7 := { stood := { row := watchKeepsUptoRow, standIns := [], harness := (true, "a54ff6ef5081c546b7f47320bff99572791d127918f81b3e09f4c8c76e1ad1cf"), looks := true }, kinds := [], alts := [], laidByText := true, laidKinds := [.data, .sentinel, .sentinel, .sentinel, .sentinel, .data, .pinned], laidTests := true, laidLooks := .later }
def WatchKeepsUptoCardSaid : Prop := Claim7.holds Tryz.pinned (.plain (OpenSpec.upto watchKeepsSpec)) watchKeepsUptoCard

/-- THE SECOND FORM's CARD OF 'linkboylaw42.WatchDo'. -/
def watchDoUptoCard : Claim7 := { stood := { row := watchDoUptoRow, standIns := [], harness := (true, "a54ff6ef5081c546b7f47320bff99572791d127918f81b3e09f4c8c76e1ad1cf"), looks := true }, kinds := [], alts := [], laidByText := true, laidKinds := [.data, .sentinel, .sentinel, .sentinel, .sentinel, .sentinel, .sentinel, .sentinel, .sentinel, .sentinel, .sentinel, .sentinel, .sentinel, .sentinel, .sentinel, .sentinel, .sentinel, .sentinel, .sentinel, .data, .pinned], laidTests := true, laidLooks := .later }
def WatchDoUptoCardSaid : Prop := Claim7.holds Tryz.pinned (.plain (OpenSpec.upto watchDoSpec)) watchDoUptoCard

/-- THE SECOND FORM's CARD OF 'linkboylaw13.ObjectNodes'. -/
def objectNodesUptoCard : Claim7 := { stood := { row := objectNodesUptoRow, standIns := [], harness := (true, "a54ff6ef5081c546b7f47320bff99572791d127918f81b3e09f4c8c76e1ad1cf"), looks := true }, kinds := [], alts := [], laidByText := true, laidKinds := [.data, .sentinel, .sentinel, .sentinel, .sentinel, .sentinel, .sentinel, .sentinel, .sentinel, .sentinel, .sentinel, .sentinel, .sentinel, .sentinel, .sentinel, .sentinel, .sentinel, .sentinel, .sentinel, .pinned], laidTests := true, laidLooks := .later }
def ObjectNodesUptoCardSaid : Prop := Claim7.holds Tryz.pinned (.plain (OpenSpec.upto objectNodesSpec)) objectNodesUptoCard

/-- THE SECOND FORM's CARD OF 'linkboylaw13.ObjectSlices'. -/
def objectSlicesUptoCard : Claim7 := { stood := { row := objectSlicesUptoRow, standIns := [], harness := (true, "a54ff6ef5081c546b7f47320bff99572791d127918f81b3e09f4c8c76e1ad1cf"), looks := true }, kinds := [], alts := [], laidByText := true, laidKinds := [.data, .sentinel, .sentinel, .sentinel, .sentinel, .sentinel, .sentinel, .sentinel, .sentinel, .sentinel, .sentinel, .sentinel, .sentinel, .sentinel, .sentinel, .sentinel, .sentinel, .sentinel, .sentinel, .pinned], laidTests := true, laidLooks := .later }
def ObjectSlicesUptoCardSaid : Prop := Claim7.holds Tryz.pinned (.plain (OpenSpec.upto objectSlicesSpec)) objectSlicesUptoCard

/-- THE SECOND FORM's CARD OF 'linkboylaw13.ObjectServices'. -/
def objectServicesUptoCard : Claim7 := { stood := { row := objectServicesUptoRow, standIns := [], harness := (true, "a54ff6ef5081c546b7f47320bff99572791d127918f81b3e09f4c8c76e1ad1cf"), looks := true }, kinds := [], alts := [], laidByText := true, laidKinds := [.data, .sentinel, .sentinel, .sentinel, .sentinel, .sentinel, .sentinel, .sentinel, .sentinel, .sentinel, .sentinel, .sentinel, .sentinel, .sentinel, .sentinel, .sentinel, .sentinel, .sentinel, .sentinel, .pinned], laidTests := true, laidLooks := .later }
def ObjectServicesUptoCardSaid : Prop := Claim7.holds Tryz.pinned (.plain (OpenSpec.upto objectServicesSpec)) objectServicesUptoCard

/-- THE SECOND FORM's CARD OF 'linkboylaw14.EventFrames'. -/
def eventFramesUptoCard : Claim7 := { stood := { row := eventFramesUptoRow, standIns := [], harness := (true, "a54ff6ef5081c546b7f47320bff99572791d127918f81b3e09f4c8c76e1ad1cf"), looks := true }, kinds := [], alts := [], laidByText := true, laidKinds := [.data, .sentinel, .sentinel, .sentinel, .sentinel, .sentinel, .sentinel, .sentinel, .sentinel, .sentinel, .sentinel, .sentinel, .sentinel, .sentinel, .sentinel, .sentinel, .sentinel, .sentinel, .sentinel, .pinned], laidTests := true, laidLooks := .later }
def EventFramesUptoCardSaid : Prop := Claim7.holds Tryz.pinned (.plain (OpenSpec.upto eventFramesSpec)) eventFramesUptoCard
end Rows
end Go.Proofs.YtohbipkmfhmibaaGreatDoor
