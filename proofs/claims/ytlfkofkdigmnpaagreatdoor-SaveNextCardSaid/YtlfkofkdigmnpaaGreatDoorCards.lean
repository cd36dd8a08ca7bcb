/-
  DERIVED. GIVEN WITH THE SEED: THE CARDS: each row of YtlfkofkdigmnpaaGreatDoorRows.lean that lists a variable, with what it lists TIED to the program's text (the seventh form; the later family's looks); each row that meets fmt, with fmt's text TOLD by the authors' own Lean function (tested against real Go, not proved from fmt's source: count such statements apart). THE CARD IS WHAT COUNTS. Prove the row's statement (the work); the ties are given (YtlfkofkdigmnpaaGreatDoorTie.lean); close each card by the builder's one call (the guide's Derived/Test/ToyasCard.lean, 'card_holds'). Laid BY PROGRAM, IN A SANDBOX (cutbox-door.mjs). By AI agents, Wed Nov 11 2026. No macro, syntax, notation, axiom, sorry.
-/
import Derived.Test.YtlfkofkdigmnpaaGreatDoorRows
import GoSem.ClaimSeven
namespace Go.Proofs.YtlfkofkdigmnpaaGreatDoor
namespace Rows

/-- THE TIED CARD OF 'wealdlaw14.SaveNext'. -/
def saveNextCard : Claim7 := { stood := { row := saveNextRow, standIns := [], harness := (true, "05e5753c07624ce4a53636bd6d899c12cf92f0efea35b33806de67371e5ba3ef"), looks := true }, kinds := [], alts := [], laidByText := true, laidKinds := [.data], laidTests := true, laidLooks := .later }
def SaveNextCardSaid : Prop := Claim7.holds Tryz.pinned (.plain (OpenSpec.ofChange saveNextSpec)) saveNextCard

/-- THE SECOND FORM's CARD OF 'wealdlaw14.SaveNext'. -/
def saveNextUptoCard : Claim7 := { stood := { row := saveNextUptoRow, standIns := [], harness := (true, "05e5753c07624ce4a53636bd6d899c12cf92f0efea35b33806de67371e5ba3ef"), looks := true }, kinds := [], alts := [], laidByText := true, laidKinds := [.data], laidTests := true, laidLooks := .later }
def SaveNextUptoCardSaid : Prop := Claim7.holds Tryz.pinned (.plain (OpenSpec.upto saveNextSpec)) saveNextUptoCard
end Rows
end Go.Proofs.YtlfkofkdigmnpaaGreatDoor
