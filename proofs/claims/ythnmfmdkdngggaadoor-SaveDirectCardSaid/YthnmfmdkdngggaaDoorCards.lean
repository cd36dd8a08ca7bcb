/-
  DERIVED. GIVEN WITH THE SEED: THE CARDS: each row of YthnmfmdkdngggaaDoorRows.lean that lists a variable, with what it lists TIED to the program's text (the seventh form; the later family's looks); each row that meets fmt, with fmt's text TOLD by the authors' own Lean function (tested against real Go, not proved from fmt's source: count such statements apart). THE CARD IS WHAT COUNTS. Prove the row's statement (the work); the ties are given (YthnmfmdkdngggaaDoorTie.lean); close each card by the builder's one call (the guide's Derived/Test/ToyasCard.lean, 'card_holds'). Laid BY PROGRAM, IN A SANDBOX (cutbox-door.mjs). By AI agents, Wed Nov 11 2026. No macro, syntax, notation, axiom, sorry.
-/
import Derived.Test.YthnmfmdkdngggaaDoorRows
import GoSem.ClaimSeven
namespace Go.Proofs.YthnmfmdkdngggaaDoor
namespace Rows

/-- THE TIED CARD OF 'wealdlaw14.SaveBehind'. -/
def saveBehindCard : Claim7 := { stood := { row := saveBehindRow, standIns := [], harness := (true, "2fb43c0deadbe9af7de9fd3aaa444727e05a9c5e462189d7aaacd0a7516a4d36"), looks := true }, kinds := [], alts := [], laidByText := true, laidKinds := [.data], laidTests := true, laidLooks := .later }
def SaveBehindCardSaid : Prop := Claim7.holds Tryd.pinned (.plain (OpenSpec.ofChange saveBehindSpec)) saveBehindCard

/-- THE TIED CARD OF 'wealdlaw14.SaveHelped'. -/
def saveHelpedCard : Claim7 := { stood := { row := saveHelpedRow, standIns := [], harness := (true, "2fb43c0deadbe9af7de9fd3aaa444727e05a9c5e462189d7aaacd0a7516a4d36"), looks := true }, kinds := [], alts := [], laidByText := true, laidKinds := [.data], laidTests := true, laidLooks := .later }
def SaveHelpedCardSaid : Prop := Claim7.holds Tryd.pinned (.plain (OpenSpec.ofChange saveHelpedSpec)) saveHelpedCard

/-- THE TIED CARD OF 'wealdlaw14.SaveTwice'. -/
def saveTwiceCard : Claim7 := { stood := { row := saveTwiceRow, standIns := [], harness := (true, "2fb43c0deadbe9af7de9fd3aaa444727e05a9c5e462189d7aaacd0a7516a4d36"), looks := true }, kinds := [], alts := [], laidByText := true, laidKinds := [.data], laidTests := true, laidLooks := .later }
def SaveTwiceCardSaid : Prop := Claim7.holds Tryd.pinned (.plain (OpenSpec.ofChange saveTwiceSpec)) saveTwiceCard

/-- THE TIED CARD OF 'wealdlaw14.SaveDirect'. -/
def saveDirectCard : Claim7 := { stood := { row := saveDirectRow, standIns := [], harness := (true, "2fb43c0deadbe9af7de9fd3aaa444727e05a9c5e462189d7aaacd0a7516a4d36"), looks := true }, kinds := [], alts := [], laidByText := true, laidKinds := [.data], laidTests := true, laidLooks := .later }
def SaveDirectCardSaid : Prop := Claim7.holds Tryd.pinned (.plain (OpenSpec.ofChange saveDirectSpec)) saveDirectCard

/-- THE SECOND FORM's CARD OF 'wealdlaw14.SaveBehind'. -/
def saveBehindUptoCard : Claim7 := { stood := { row := saveBehindUptoRow, standIns := [], harness := (true, "2fb43c0deadbe9af7de9fd3aaa444727e05a9c5e462189d7aaacd0a7516a4d36"), looks := true }, kinds := [], alts := [], laidByText := true, laidKinds := [.data], laidTests := true, laidLooks := .later }
def SaveBehindUptoCardSaid : Prop := Claim7.holds Tryd.pinned (.plain (OpenSpec.upto saveBehindSpec)) saveBehindUptoCard

/-- THE SECOND FORM's CARD OF 'wealdlaw14.SaveHelped'. -/
def saveHelpedUptoCard : Claim7 := { stood := { row := saveHelpedUptoRow, standIns := [], harness := (true, "2fb43c0deadbe9af7de9fd3aaa444727e05a9c5e462189d7aaacd0a7516a4d36"), looks := true }, kinds := [], alts := [], laidByText := true, laidKinds := [.data], laidTests := true, laidLooks := .later }
def SaveHelpedUptoCardSaid : Prop := Claim7.holds Tryd.pinned (.plain (OpenSpec.upto saveHelpedSpec)) saveHelpedUptoCard

/-- THE SECOND FORM's CARD OF 'wealdlaw14.SaveTwice'. -/
def saveTwiceUptoCard : Claim7 := { stood := { row := saveTwiceUptoRow, standIns := [], harness := (true, "2fb43c0deadbe9af7de9fd3aaa444727e05a9c5e462189d7aaacd0a7516a4d36"), looks := true }, kinds := [], alts := [], laidByText := true, laidKinds := [.data], laidTests := true, laidLooks := .later }
def SaveTwiceUptoCardSaid : Prop := Claim7.holds Tryd.pinned (.plain (OpenSpec.upto saveTwiceSpec)) saveTwiceUptoCard

/-- THE SECOND FORM's CARD OF 'wealdlaw14.SaveDirect'. -/
def saveDirectUptoCard : Claim7 := { stood := { row := saveDirectUptoRow, standIns := [], harness := (true, "2fb43c0deadbe9af7de9fd3aaa444727e05a9c5e462189d7aaacd0a7516a4d36"), looks := true }, kinds := [], alts := [], laidByText := true, laidKinds := [.data], laidTests := true, laidLooks := .later }
def SaveDirectUptoCardSaid : Prop := Claim7.holds Tryd.pinned (.plain (OpenSpec.upto saveDirectSpec)) saveDirectUptoCard
end Rows
end Go.Proofs.YthnmfmdkdngggaaDoor
