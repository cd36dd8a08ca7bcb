/-
  DERIVED. GIVEN WITH THE SEED: THE CARDS: each row of YteadaggehndacaaDoorRows.lean that lists a variable, with what it lists TIED to the program's text (the seventh form; the later family's looks); each row that meets fmt, with fmt's text TOLD by the authors' own Lean function (tested against real Go, not proved from fmt's source: count such statements apart). THE CARD IS WHAT COUNTS. Prove the row's statement (the work); the ties are given (YteadaggehndacaaDoorTie.lean); close each card by the builder's one call (the guide's Derived/Test/ToyasCard.lean, 'card_holds'). Laid BY PROGRAM, IN A SANDBOX (cutbox-door.mjs). By AI agents, Wed Nov 11 2026. No macro, syntax, notation, axiom, sorry.
-/
import Derived.Test.YteadaggehndacaaDoorRows
import GoSem.ClaimSeven
namespace Go.Proofs.YteadaggehndacaaDoor
namespace Rows

/-- THE TIED CARD OF 'wealdlaw15.ListAlone'. -/
def listAloneCard : Claim7 := { stood := { row := listAloneRow, standIns := [], harness := (true, "938dcfe22f2f8887859498de01cacb6603ba86e1ec96a9574298998c4d81d66c"), looks := true }, kinds := [], alts := [], laidByText := true, laidKinds := [.data], laidTests := true, laidLooks := .later }
def ListAloneCardSaid : Prop := Claim7.holds Tryd.pinned (.plain (OpenSpec.ofChange listAloneSpec)) listAloneCard

/-- THE TIED CARD OF 'wealdlaw15.ListSwept'. -/
def listSweptCard : Claim7 := { stood := { row := listSweptRow, standIns := [], harness := (true, "938dcfe22f2f8887859498de01cacb6603ba86e1ec96a9574298998c4d81d66c"), looks := true }, kinds := [], alts := [], laidByText := true, laidKinds := [.data], laidTests := true, laidLooks := .later }
def ListSweptCardSaid : Prop := Claim7.holds Tryd.pinned (.plain (OpenSpec.ofChange listSweptSpec)) listSweptCard

/-- THE TIED CARD OF 'wealdlaw15.ListSeeks'. -/
def listSeeksCard : Claim7 := { stood := { row := listSeeksRow, standIns := [], harness := (true, "938dcfe22f2f8887859498de01cacb6603ba86e1ec96a9574298998c4d81d66c"), looks := true }, kinds := [], alts := [], laidByText := true, laidKinds := [.data], laidTests := true, laidLooks := .later }
def ListSeeksCardSaid : Prop := Claim7.holds Tryd.pinned (.plain (OpenSpec.ofChange listSeeksSpec)) listSeeksCard

/-- THE TIED CARD OF 'wealdlaw15.ListDirect'. -/
def listDirectCard : Claim7 := { stood := { row := listDirectRow, standIns := [], harness := (true, "938dcfe22f2f8887859498de01cacb6603ba86e1ec96a9574298998c4d81d66c"), looks := true }, kinds := [], alts := [], laidByText := true, laidKinds := [.data], laidTests := true, laidLooks := .later }
def ListDirectCardSaid : Prop := Claim7.holds Tryd.pinned (.plain (OpenSpec.ofChange listDirectSpec)) listDirectCard

/-- THE SECOND FORM's CARD OF 'wealdlaw15.ListAlone'. -/
def listAloneUptoCard : Claim7 := { stood := { row := listAloneUptoRow, standIns := [], harness := (true, "938dcfe22f2f8887859498de01cacb6603ba86e1ec96a9574298998c4d81d66c"), looks := true }, kinds := [], alts := [], laidByText := true, laidKinds := [.data], laidTests := true, laidLooks := .later }
def ListAloneUptoCardSaid : Prop := Claim7.holds Tryd.pinned (.plain (OpenSpec.upto listAloneSpec)) listAloneUptoCard

/-- THE SECOND FORM's CARD OF 'wealdlaw15.ListSwept'. -/
def listSweptUptoCard : Claim7 := { stood := { row := listSweptUptoRow, standIns := [], harness := (true, "938dcfe22f2f8887859498de01cacb6603ba86e1ec96a9574298998c4d81d66c"), looks := true }, kinds := [], alts := [], laidByText := true, laidKinds := [.data], laidTests := true, laidLooks := .later }
def ListSweptUptoCardSaid : Prop := Claim7.holds Tryd.pinned (.plain (OpenSpec.upto listSweptSpec)) listSweptUptoCard

/-- THE SECOND FORM's CARD OF 'wealdlaw15.ListSeeks'. -/
def listSeeksUptoCard : Claim7 := { stood := { row := listSeeksUptoRow, standIns := [], harness := (true, "938dcfe22f2f8887859498de01cacb6603ba86e1ec96a9574298998c4d81d66c"), looks := true }, kinds := [], alts := [], laidByText := true, laidKinds := [.data], laidTests := true, laidLooks := .later }
def ListSeeksUptoCardSaid : Prop := Claim7.holds Tryd.pinned (.plain (OpenSpec.upto listSeeksSpec)) listSeeksUptoCard

/-- THE SECOND FORM's CARD OF 'wealdlaw15.ListDirect'. -/
def listDirectUptoCard : Claim7 := { stood := { row := listDirectUptoRow, standIns := [], harness := (true, "938dcfe22f2f8887859498de01cacb6603ba86e1ec96a9574298998c4d81d66c"), looks := true }, kinds := [], alts := [], laidByText := true, laidKinds := [.data], laidTests := true, laidLooks := .later }
def ListDirectUptoCardSaid : Prop := Claim7.holds Tryd.pinned (.plain (OpenSpec.upto listDirectSpec)) listDirectUptoCard
end Rows
end Go.Proofs.YteadaggehndacaaDoor
