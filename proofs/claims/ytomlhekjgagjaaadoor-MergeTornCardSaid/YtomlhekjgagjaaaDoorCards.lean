/-
  DERIVED. GIVEN WITH THE SEED: THE CARDS: each row of YtomlhekjgagjaaaDoorRows.lean that lists a variable, with what it lists TIED to the program's text (the seventh form; the later family's looks); each row that meets fmt, with fmt's text TOLD by the authors' own Lean function (tested against real Go, not proved from fmt's source: count such statements apart). THE CARD IS WHAT COUNTS. Prove the row's statement (the work); the ties are given (YtomlhekjgagjaaaDoorTie.lean); close each card by the builder's one call (the guide's Derived/Test/ToyasCard.lean, 'card_holds'). Laid BY PROGRAM, IN A SANDBOX (cutbox-door.mjs). By AI agents, Wed Nov 11 2026. No macro, syntax, notation, axiom, sorry.
-/
import Derived.Test.YtomlhekjgagjaaaDoorRows
import GoSem.ClaimSeven
namespace Go.Proofs.YtomlhekjgagjaaaDoor
namespace Rows

/-- THE TIED CARD OF 'wealdlaw22.MergeTells'. -/
def mergeTellsCard : Claim7 := { stood := { row := mergeTellsRow, standIns := [], harness := (true, "7f5a261a6fc3e401d019a4357fc14d60570876bfe24a86532e971a81f563c479"), looks := true }, kinds := [], alts := [], laidByText := true, laidKinds := [.data], laidTests := true, laidLooks := .later }
def MergeTellsCardSaid : Prop := Claim7.holds Tryd.pinned (.plain (OpenSpec.ofChange mergeTellsSpec)) mergeTellsCard

/-- THE TIED CARD OF 'wealdlaw22.MergeLays'. -/
def mergeLaysCard : Claim7 := { stood := { row := mergeLaysRow, standIns := [], harness := (true, "7f5a261a6fc3e401d019a4357fc14d60570876bfe24a86532e971a81f563c479"), looks := true }, kinds := [], alts := [], laidByText := true, laidKinds := [.data], laidTests := true, laidLooks := .later }
def MergeLaysCardSaid : Prop := Claim7.holds Tryd.pinned (.plain (OpenSpec.ofChange mergeLaysSpec)) mergeLaysCard

/-- THE TIED CARD OF 'wealdlaw22.MergeFree'. -/
def mergeFreeCard : Claim7 := { stood := { row := mergeFreeRow, standIns := [], harness := (true, "7f5a261a6fc3e401d019a4357fc14d60570876bfe24a86532e971a81f563c479"), looks := true }, kinds := [], alts := [], laidByText := true, laidKinds := [.data], laidTests := true, laidLooks := .later }
def MergeFreeCardSaid : Prop := Claim7.holds Tryd.pinned (.plain (OpenSpec.ofChange mergeFreeSpec)) mergeFreeCard

/-- THE TIED CARD OF 'wealdlaw22.MergeTorn'. -/
def mergeTornCard : Claim7 := { stood := { row := mergeTornRow, standIns := [], harness := (true, "7f5a261a6fc3e401d019a4357fc14d60570876bfe24a86532e971a81f563c479"), looks := true }, kinds := [], alts := [], laidByText := true, laidKinds := [.data], laidTests := true, laidLooks := .later }
def MergeTornCardSaid : Prop := Claim7.holds Tryd.pinned (.plain (OpenSpec.ofChange mergeTornSpec)) mergeTornCard

/-- THE TIED CARD OF 'wealdlaw22.MergeAgain'. -/
def mergeAgainCard : Claim7 := { stood := { row := mergeAgainRow, standIns := [], harness := (true, "7f5a261a6fc3e401d019a4357fc14d60570876bfe24a86532e971a81f563c479"), looks := true }, kinds := [], alts := [], laidByText := true, laidKinds := [.data], laidTests := true, laidLooks := .later }
def MergeAgainCardSaid : Prop := Claim7.holds Tryd.pinned (.plain (OpenSpec.ofChange mergeAgainSpec)) mergeAgainCard

/-- THE TIED CARD OF 'wealdlaw22.MergeApart'. -/
def mergeApartCard : Claim7 := { stood := { row := mergeApartRow, standIns := [], harness := (true, "7f5a261a6fc3e401d019a4357fc14d60570876bfe24a86532e971a81f563c479"), looks := true }, kinds := [], alts := [], laidByText := true, laidKinds := [.data], laidTests := true, laidLooks := .later }
def MergeApartCardSaid : Prop := Claim7.holds Tryd.pinned (.plain (OpenSpec.ofChange mergeApartSpec)) mergeApartCard

/-- THE TIED CARD OF 'wealdlaw22.MergeHeads'. -/
def mergeHeadsCard : Claim7 := { stood := { row := mergeHeadsRow, standIns := [], harness := (true, "7f5a261a6fc3e401d019a4357fc14d60570876bfe24a86532e971a81f563c479"), looks := true }, kinds := [], alts := [], laidByText := true, laidKinds := [.data], laidTests := true, laidLooks := .later }
def MergeHeadsCardSaid : Prop := Claim7.holds Tryd.pinned (.plain (OpenSpec.ofChange mergeHeadsSpec)) mergeHeadsCard

/-- THE SECOND FORM's CARD OF 'wealdlaw22.MergeTells'. -/
def mergeTellsUptoCard : Claim7 := { stood := { row := mergeTellsUptoRow, standIns := [], harness := (true, "7f5a261a6fc3e401d019a4357fc14d60570876bfe24a86532e971a81f563c479"), looks := true }, kinds := [], alts := [], laidByText := true, laidKinds := [.data], laidTests := true, laidLooks := .later }
def MergeTellsUptoCardSaid : Prop := Claim7.holds Tryd.pinned (.plain (OpenSpec.upto mergeTellsSpec)) mergeTellsUptoCard

/-- THE SECOND FORM's CARD OF 'wealdlaw22.MergeLays'. -/
def mergeLaysUptoCard : Claim7 := { stood := { row := mergeLaysUptoRow, standIns := [], harness := (true, "7f5a261a6fc3e401d019a4357fc14d60570876bfe24a86532e971a81f563c479"), looks := true }, kinds := [], alts := [], laidByText := true, laidKinds := [.data], laidTests := true, laidLooks := .later }
def MergeLaysUptoCardSaid : Prop := Claim7.holds Tryd.pinned (.plain (OpenSpec.upto mergeLaysSpec)) mergeLaysUptoCard

/-- THE SECOND FORM's CARD OF 'wealdlaw22.MergeFree'. -/
def mergeFreeUptoCard : Claim7 := { stood := { row := mergeFreeUptoRow, standIns := [], harness := (true, "7f5a261a6fc3e401d019a4357fc14d60570876bfe24a86532e971a81f563c479"), looks := true }, kinds := [], alts := [], laidByText := true, laidKinds := [.data], laidTests := true, laidLooks := .later }
def MergeFreeUptoCardSaid : Prop := Claim7.holds Tryd.pinned (.plain (OpenSpec.upto mergeFreeSpec)) mergeFreeUptoCard

/-- THE SECOND FORM's CARD OF 'wealdlaw22.MergeTorn'. -/
def mergeTornUptoCard : Claim7 := { stood := { row := mergeTornUptoRow, standIns := [], harness := (true, "7f5a261a6fc3e401d019a4357fc14d60570876bfe24a86532e971a81f563c479"), looks := true }, kinds := [], alts := [], laidByText := true, laidKinds := [.data], laidTests := true, laidLooks := .later }
def MergeTornUptoCardSaid : Prop := Claim7.holds Tryd.pinned (.plain (OpenSpec.upto mergeTornSpec)) mergeTornUptoCard

/-- THE SECOND FORM's CARD OF 'wealdlaw22.MergeAgain'. -/
def mergeAgainUptoCard : Claim7 := { stood := { row := mergeAgainUptoRow, standIns := [], harness := (true, "7f5a261a6fc3e401d019a4357fc14d60570876bfe24a86532e971a81f563c479"), looks := true }, kinds := [], alts := [], laidByText := true, laidKinds := [.data], laidTests := true, laidLooks := .later }
def MergeAgainUptoCardSaid : Prop := Claim7.holds Tryd.pinned (.plain (OpenSpec.upto mergeAgainSpec)) mergeAgainUptoCard

/-- THE SECOND FORM's CARD OF 'wealdlaw22.MergeApart'. -/
def mergeApartUptoCard : Claim7 := { stood := { row := mergeApartUptoRow, standIns := [], harness := (true, "7f5a261a6fc3e401d019a4357fc14d60570876bfe24a86532e971a81f563c479"), looks := true }, kinds := [], alts := [], laidByText := true, laidKinds := [.data], laidTests := true, laidLooks := .later }
def MergeApartUptoCardSaid : Prop := Claim7.holds Tryd.pinned (.plain (OpenSpec.upto mergeApartSpec)) mergeApartUptoCard

/-- THE SECOND FORM's CARD OF 'wealdlaw22.MergeHeads'. -/
def mergeHeadsUptoCard : Claim7 := { stood := { row := mergeHeadsUptoRow, standIns := [], harness := (true, "7f5a261a6fc3e401d019a4357fc14d60570876bfe24a86532e971a81f563c479"), looks := true }, kinds := [], alts := [], laidByText := true, laidKinds := [.data], laidTests := true, laidLooks := .later }
def MergeHeadsUptoCardSaid : Prop := Claim7.holds Tryd.pinned (.plain (OpenSpec.upto mergeHeadsSpec)) mergeHeadsUptoCard
end Rows
end Go.Proofs.YtomlhekjgagjaaaDoor
