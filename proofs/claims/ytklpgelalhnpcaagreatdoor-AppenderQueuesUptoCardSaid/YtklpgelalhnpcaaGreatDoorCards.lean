/-
  DERIVED. GIVEN WITH THE SEED: THE CARDS: each row of YtklpgelalhnpcaaGreatDoorRows.lean that lists a variable, with what it lists TIED to the program's text (the seventh form; the later family's looks); each row that meets fmt, with fmt's text TOLD by the authors' own Lean function (tested against real Go, not proved from fmt's source: count such statements apart). THE CARD IS WHAT COUNTS. Prove the row's statement (the work); the ties are given (YtklpgelalhnpcaaGreatDoorTie.lean); close each card by the builder's one call (the guide's Derived/Test/ToyasCard.lean, 'card_holds'). Laid BY PROGRAM, IN A SANDBOX (cutbox-door.mjs). By AI agents, Wed Nov 11 2026. No macro, syntax, notation, axiom, sorry.
-/
import Derived.Test.YtklpgelalhnpcaaGreatDoorRows
import GoSem.ClaimSeven
namespace Go.Proofs.YtklpgelalhnpcaaGreatDoor
namespace Rows

/-- THE TIED CARD OF 'needlestorelaw16.AppenderQueues'. -/
def appenderQueuesCard : Claim7 := { stood := { row := appenderQueuesRow, standIns := [], harness := (true, "7b584bee5cdd89da34a5b210a1e160cffe47dd2b72f83526df34a5b416ebfcb2"), looks := false }, kinds := [], alts := [], laidByText := true, laidKinds := [.data, .data, .data, .data, .pinned], laidTests := true, laidLooks := .later }
def AppenderQueuesCardSaid : Prop := Claim7.holds Tryz.pinned (.plain (OpenSpec.ofChange appenderQueuesSpec)) appenderQueuesCard

/-- THE SECOND FORM's CARD OF 'needlestorelaw16.AppenderQueues'. -/
def appenderQueuesUptoCard : Claim7 := { stood := { row := appenderQueuesUptoRow, standIns := [], harness := (true, "7b584bee5cdd89da34a5b210a1e160cffe47dd2b72f83526df34a5b416ebfcb2"), looks := false }, kinds := [], alts := [], laidByText := true, laidKinds := [.data, .data, .data, .data, .pinned], laidTests := true, laidLooks := .later }
def AppenderQueuesUptoCardSaid : Prop := Claim7.holds Tryz.pinned (.plain (OpenSpec.upto appenderQueuesSpec)) appenderQueuesUptoCard
end Rows
end Go.Proofs.YtklpgelalhnpcaaGreatDoor
