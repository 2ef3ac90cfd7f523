/-
  DERIVED. GIVEN WITH THE SEED: THE CARDS: each row of YtdbihpcdlmaejaaGreatDoorRows.lean that lists a variable, with what it lists TIED to the program's text (the seventh form; the later family's looks); each row that meets fmt, with fmt's text TOLD by the authors' own Lean function (tested against real Go, not proved from fmt's source: count such statements apart). THE CARD IS WHAT COUNTS. Prove the row's statement (the work); the ties are given (YtdbihpcdlmaejaaGreatDoorTie.lean); close each card by the builder's one call (the guide's Derived/Test/ToyasCard.lean, 'card_holds'). Laid BY PROGRAM, IN A SANDBOX (cutbox-door.mjs). By AI agents, Wed Nov 11 2026. No macro, syntax, notation, axiom, sorry.
-/
import Derived.Test.YtdbihpcdlmaejaaGreatDoorRows
import GoSem.ClaimSeven
namespace Go.Proofs.YtdbihpcdlmaejaaGreatDoor
namespace Rows

/-- THE TIED CARD OF 'tollbarlaw22.WorldTries'. -/
def worldTriesCard : Claim7 := { stood := { row := worldTriesRow, standIns := [], harness := (true, "9ef214f28e57c0fc1075401ded1fc397fb1b6930cb2d66168b83dae77a41973d"), looks := true }, kinds := [], alts := [], laidByText := true, laidKinds := [.data, .data, .data, .data, .pinned], laidTests := true, laidLooks := .later }
def WorldTriesCardSaid : Prop := Claim7.holds Tryz.pinned (.plain (OpenSpec.ofChange worldTriesSpec)) worldTriesCard

/-- THE SECOND FORM's CARD OF 'tollbarlaw22.WorldTries'. -/
def worldTriesUptoCard : Claim7 := { stood := { row := worldTriesUptoRow, standIns := [], harness := (true, "9ef214f28e57c0fc1075401ded1fc397fb1b6930cb2d66168b83dae77a41973d"), looks := true }, kinds := [], alts := [], laidByText := true, laidKinds := [.data, .data, .data, .data, .pinned], laidTests := true, laidLooks := .later }
def WorldTriesUptoCardSaid : Prop := Claim7.holds Tryz.pinned (.plain (OpenSpec.upto worldTriesSpec)) worldTriesUptoCard
end Rows
end Go.Proofs.YtdbihpcdlmaejaaGreatDoor
