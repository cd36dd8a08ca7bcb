/-
  DERIVED. GIVEN WITH THE SEED: THE CARDS: each row of YtohlllohmoojiaaGreatDoorRows.lean that lists a variable, with what it lists TIED to the program's text (the seventh form; the later family's looks); each row that meets fmt, with fmt's text TOLD by the authors' own Lean function (tested against real Go, not proved from fmt's source: count such statements apart). THE CARD IS WHAT COUNTS. Prove the row's statement (the work); the ties are given (YtohlllohmoojiaaGreatDoorTie.lean); close each card by the builder's one call (the guide's Derived/Test/ToyasCard.lean, 'card_holds'). Laid BY PROGRAM, IN A SANDBOX (cutbox-door.mjs). By AI agents, Wed Nov 11 2026. No macro, syntax, notation, axiom, sorry.
-/
import Derived.Test.YtohlllohmoojiaaGreatDoorRows
import GoSem.ClaimSeven
namespace Go.Proofs.YtohlllohmoojiaaGreatDoor
namespace Rows

/-- THE TIED CARD OF 'wealdlaw15.ListNext'. -/
def listNextCard : Claim7 := { stood := { row := listNextRow, standIns := [], harness := (true, "d2a95fee5ace5814599e849bc3cc99279dc65638d7c4d66e1665723e3c191017"), looks := true }, kinds := [], alts := [], laidByText := true, laidKinds := [.data], laidTests := true, laidLooks := .later }
def ListNextCardSaid : Prop := Claim7.holds Tryz.pinned (.plain (OpenSpec.ofChange listNextSpec)) listNextCard

/-- THE TIED CARD OF 'wealdlaw16.VertNext'. -/
def vertNextCard : Claim7 := { stood := { row := vertNextRow, standIns := [], harness := (true, "d2a95fee5ace5814599e849bc3cc99279dc65638d7c4d66e1665723e3c191017"), looks := true }, kinds := [], alts := [], laidByText := true, laidKinds := [.data], laidTests := true, laidLooks := .later }
def VertNextCardSaid : Prop := Claim7.holds Tryz.pinned (.plain (OpenSpec.ofChange vertNextSpec)) vertNextCard

/-- THE TIED CARD OF 'wealdlaw17.EdgeNext'. -/
def edgeNextCard : Claim7 := { stood := { row := edgeNextRow, standIns := [], harness := (true, "d2a95fee5ace5814599e849bc3cc99279dc65638d7c4d66e1665723e3c191017"), looks := true }, kinds := [], alts := [], laidByText := true, laidKinds := [.data], laidTests := true, laidLooks := .later }
def EdgeNextCardSaid : Prop := Claim7.holds Tryz.pinned (.plain (OpenSpec.ofChange edgeNextSpec)) edgeNextCard

/-- THE TIED CARD OF 'wealdlaw18.NearNext'. -/
def nearNextCard : Claim7 := { stood := { row := nearNextRow, standIns := [], harness := (true, "d2a95fee5ace5814599e849bc3cc99279dc65638d7c4d66e1665723e3c191017"), looks := true }, kinds := [], alts := [], laidByText := true, laidKinds := [.data], laidTests := true, laidLooks := .later }
def NearNextCardSaid : Prop := Claim7.holds Tryz.pinned (.plain (OpenSpec.ofChange nearNextSpec)) nearNextCard

/-- THE SECOND FORM's CARD OF 'wealdlaw15.ListNext'. -/
def listNextUptoCard : Claim7 := { stood := { row := listNextUptoRow, standIns := [], harness := (true, "d2a95fee5ace5814599e849bc3cc99279dc65638d7c4d66e1665723e3c191017"), looks := true }, kinds := [], alts := [], laidByText := true, laidKinds := [.data], laidTests := true, laidLooks := .later }
def ListNextUptoCardSaid : Prop := Claim7.holds Tryz.pinned (.plain (OpenSpec.upto listNextSpec)) listNextUptoCard

/-- THE SECOND FORM's CARD OF 'wealdlaw16.VertNext'. -/
def vertNextUptoCard : Claim7 := { stood := { row := vertNextUptoRow, standIns := [], harness := (true, "d2a95fee5ace5814599e849bc3cc99279dc65638d7c4d66e1665723e3c191017"), looks := true }, kinds := [], alts := [], laidByText := true, laidKinds := [.data], laidTests := true, laidLooks := .later }
def VertNextUptoCardSaid : Prop := Claim7.holds Tryz.pinned (.plain (OpenSpec.upto vertNextSpec)) vertNextUptoCard

/-- THE SECOND FORM's CARD OF 'wealdlaw17.EdgeNext'. -/
def edgeNextUptoCard : Claim7 := { stood := { row := edgeNextUptoRow, standIns := [], harness := (true, "d2a95fee5ace5814599e849bc3cc99279dc65638d7c4d66e1665723e3c191017"), looks := true }, kinds := [], alts := [], laidByText := true, laidKinds := [.data], laidTests := true, laidLooks := .later }
def EdgeNextUptoCardSaid : Prop := Claim7.holds Tryz.pinned (.plain (OpenSpec.upto edgeNextSpec)) edgeNextUptoCard

/-- THE SECOND FORM's CARD OF 'wealdlaw18.NearNext'. -/
def nearNextUptoCard : Claim7 := { stood := { row := nearNextUptoRow, standIns := [], harness := (true, "d2a95fee5ace5814599e849bc3cc99279dc65638d7c4d66e1665723e3c191017"), looks := true }, kinds := [], alts := [], laidByText := true, laidKinds := [.data], laidTests := true, laidLooks := .later }
def NearNextUptoCardSaid : Prop := Claim7.holds Tryz.pinned (.plain (OpenSpec.upto nearNextSpec)) nearNextUptoCard
end Rows
end Go.Proofs.YtohlllohmoojiaaGreatDoor
