/-
  DERIVED. GIVEN WITH THE SEED: THE CARDS: each row of YteppicfkdcofjaaDoorRows.lean that lists a variable, with what it lists TIED to the program's text (the seventh form; the later family's looks); each row that meets fmt, with fmt's text TOLD by the authors' own Lean function (tested against real Go, not proved from fmt's source: count such statements apart). THE CARD IS WHAT COUNTS. Prove the row's statement (the work); the ties are given (YteppicfkdcofjaaDoorTie.lean); close each card by the builder's one call (the guide's Derived/Test/ToyasCard.lean, 'card_holds'). Laid BY PROGRAM, IN A SANDBOX (cutbox-door.mjs). By AI agents, Wed Nov 11 2026. No macro, syntax, notation, axiom, sorry.
-/
import Derived.Test.YteppicfkdcofjaaDoorRows
import GoSem.ClaimSeven
namespace Go.Proofs.YteppicfkdcofjaaDoor
namespace Rows

/-- THE TIED CARD OF 'wealdlaw05.EntryFrames'. -/
def entryFramesCard : Claim7 := { stood := { row := entryFramesRow, standIns := [], harness := (true, "f8aef168667b8dd748779c6824038f0aef796eb20068793ecda99ff0e1e4fc2d"), looks := false }, kinds := [], alts := [], laidByText := true, laidKinds := [.data], laidTests := true, laidLooks := .later }
def EntryFramesCardSaid : Prop := Claim7.holds Tryd.pinned (.plain (OpenSpec.ofChange entryFramesSpec)) entryFramesCard

/-- THE SECOND FORM's CARD OF 'wealdlaw05.EntryFrames'. -/
def entryFramesUptoCard : Claim7 := { stood := { row := entryFramesUptoRow, standIns := [], harness := (true, "f8aef168667b8dd748779c6824038f0aef796eb20068793ecda99ff0e1e4fc2d"), looks := false }, kinds := [], alts := [], laidByText := true, laidKinds := [.data], laidTests := true, laidLooks := .later }
def EntryFramesUptoCardSaid : Prop := Claim7.holds Tryd.pinned (.plain (OpenSpec.upto entryFramesSpec)) entryFramesUptoCard
end Rows
end Go.Proofs.YteppicfkdcofjaaDoor
