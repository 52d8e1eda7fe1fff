/-
  DERIVED. GIVEN WITH THE SEED: THE CARDS: each row of YtcifkcijohlamaaDoorRows.lean that lists a variable, with what it lists TIED to the program's text (the seventh form; the later family's looks); each row that meets fmt, with fmt's text TOLD by the authors' own Lean function (tested against real Go, not proved from fmt's source: count such statements apart). THE CARD IS WHAT COUNTS. Prove the row's statement (the work); the ties are given (YtcifkcijohlamaaDoorTie.lean); close each card by the builder's one call (the guide's Derived/Test/ToyasCard.lean, 'card_holds'). Laid BY PROGRAM, IN A SANDBOX (cutbox-door.mjs). By AI agents, Wed Nov 11 2026. No macro, syntax, notation, axiom, sorry.
-/
import Derived.Test.YtcifkcijohlamaaDoorRows
import GoSem.ClaimSeven
namespace Go.Proofs.YtcifkcijohlamaaDoor
namespace Rows

/-- THE TIED CARD OF 'linkboylaw42.WatchDelays'. -/
def watchDelaysCard : Claim7 := { stood := { row := watchDelaysRow, standIns := [], harness := (true, "99ee01a9a617d2351c33ca55bf5c8cb0f6c3dacf86e07d7490b5aa74d6e0bfe0"), looks := true }, kinds := [], alts := [], laidByText := true, laidKinds := [.sentinel, .sentinel, .sentinel, .data], laidTests := true, laidLooks := .later }
def WatchDelaysCardSaid : Prop := Claim7.holds Tryd.pinned (.plain (OpenSpec.ofChange watchDelaysSpec)) watchDelaysCard

/-- THE TIED CARD OF 'linkboylaw34.ScriptEncodes'. -/
def scriptEncodesCard : Claim7 := { stood := { row := scriptEncodesRow, standIns := [], harness := (true, "99ee01a9a617d2351c33ca55bf5c8cb0f6c3dacf86e07d7490b5aa74d6e0bfe0"), looks := true }, kinds := [], alts := [], laidByText := true, laidKinds := [.sentinel, .sentinel, .sentinel, .sentinel, .sentinel, .sentinel, .sentinel, .sentinel, .sentinel, .sentinel, .sentinel, .sentinel, .sentinel, .sentinel, .sentinel, .sentinel, .sentinel, .sentinel], laidTests := true, laidLooks := .later }
def ScriptEncodesCardSaid : Prop := Claim7.holds Tryd.pinned (.plain (OpenSpec.ofChange scriptEncodesSpec)) scriptEncodesCard

/-- THE SECOND FORM's CARD OF 'linkboylaw42.WatchDelays'. -/
def watchDelaysUptoCard : Claim7 := { stood := { row := watchDelaysUptoRow, standIns := [], harness := (true, "99ee01a9a617d2351c33ca55bf5c8cb0f6c3dacf86e07d7490b5aa74d6e0bfe0"), looks := true }, kinds := [], alts := [], laidByText := true, laidKinds := [.sentinel, .sentinel, .sentinel, .data], laidTests := true, laidLooks := .later }
def WatchDelaysUptoCardSaid : Prop := Claim7.holds Tryd.pinned (.plain (OpenSpec.upto watchDelaysSpec)) watchDelaysUptoCard

/-- THE SECOND FORM's CARD OF 'linkboylaw34.ScriptEncodes'. -/
def scriptEncodesUptoCard : Claim7 := { stood := { row := scriptEncodesUptoRow, standIns := [], harness := (true, "99ee01a9a617d2351c33ca55bf5c8cb0f6c3dacf86e07d7490b5aa74d6e0bfe0"), looks := true }, kinds := [], alts := [], laidByText := true, laidKinds := [.sentinel, .sentinel, .sentinel, .sentinel, .sentinel, .sentinel, .sentinel, .sentinel, .sentinel, .sentinel, .sentinel, .sentinel, .sentinel, .sentinel, .sentinel, .sentinel, .sentinel, .sentinel], laidTests := true, laidLooks := .later }
def ScriptEncodesUptoCardSaid : Prop := Claim7.holds Tryd.pinned (.plain (OpenSpec.upto scriptEncodesSpec)) scriptEncodesUptoCard
end Rows
end Go.Proofs.YtcifkcijohlamaaDoor
