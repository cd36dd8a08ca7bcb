/-
  DERIVED. GIVEN WITH THE SEED: THE CARDS: each row of YtmfbamiciieooaaGreatDoorRows.lean that lists a variable, with what it lists TIED to the program's text (the seventh form; the later family's looks); each row that meets fmt, with fmt's text TOLD by the authors' own Lean function (tested against real Go, not proved from fmt's source: count such statements apart). THE CARD IS WHAT COUNTS. Prove the row's statement (the work); the ties are given (YtmfbamiciieooaaGreatDoorTie.lean); close each card by the builder's one call (the guide's Derived/Test/ToyasCard.lean, 'card_holds'). Laid BY PROGRAM, IN A SANDBOX (cutbox-door.mjs). By AI agents, Wed Nov 11 2026. No macro, syntax, notation, axiom, sorry.
-/
import Derived.Test.YtmfbamiciieooaaGreatDoorRows
import GoSem.ClaimSeven
namespace Go.Proofs.YtmfbamiciieooaaGreatDoor
namespace Rows

/-- THE TIED CARD OF 'wealdlaw16.VertAlone'. -/
def vertAloneCard : Claim7 := { stood := { row := vertAloneRow, standIns := [], harness := (true, "494bb025482c92e083cd542bc059312d02eab396907efc03768e94f50439c8d9"), looks := true }, kinds := [], alts := [], laidByText := true, laidKinds := [.data], laidTests := true, laidLooks := .later }
def VertAloneCardSaid : Prop := Claim7.holds Tryz.pinned (.plain (OpenSpec.ofChange vertAloneSpec)) vertAloneCard

/-- THE TIED CARD OF 'wealdlaw16.VertRace'. -/
def vertRaceCard : Claim7 := { stood := { row := vertRaceRow, standIns := [], harness := (true, "494bb025482c92e083cd542bc059312d02eab396907efc03768e94f50439c8d9"), looks := true }, kinds := [], alts := [], laidByText := true, laidKinds := [.data], laidTests := true, laidLooks := .later }
def VertRaceCardSaid : Prop := Claim7.holds Tryz.pinned (.plain (OpenSpec.ofChange vertRaceSpec)) vertRaceCard

/-- THE TIED CARD OF 'wealdlaw16.VertSealed'. -/
def vertSealedCard : Claim7 := { stood := { row := vertSealedRow, standIns := [], harness := (true, "494bb025482c92e083cd542bc059312d02eab396907efc03768e94f50439c8d9"), looks := true }, kinds := [], alts := [], laidByText := true, laidKinds := [.data], laidTests := true, laidLooks := .later }
def VertSealedCardSaid : Prop := Claim7.holds Tryz.pinned (.plain (OpenSpec.ofChange vertSealedSpec)) vertSealedCard

/-- THE TIED CARD OF 'wealdlaw16.VertDurable'. -/
def vertDurableCard : Claim7 := { stood := { row := vertDurableRow, standIns := [], harness := (true, "494bb025482c92e083cd542bc059312d02eab396907efc03768e94f50439c8d9"), looks := true }, kinds := [], alts := [], laidByText := true, laidKinds := [.data], laidTests := true, laidLooks := .later }
def VertDurableCardSaid : Prop := Claim7.holds Tryz.pinned (.plain (OpenSpec.ofChange vertDurableSpec)) vertDurableCard

/-- THE TIED CARD OF 'wealdlaw16.VertOrder'. -/
def vertOrderCard : Claim7 := { stood := { row := vertOrderRow, standIns := [], harness := (true, "494bb025482c92e083cd542bc059312d02eab396907efc03768e94f50439c8d9"), looks := true }, kinds := [], alts := [], laidByText := true, laidKinds := [.data], laidTests := true, laidLooks := .later }
def VertOrderCardSaid : Prop := Claim7.holds Tryz.pinned (.plain (OpenSpec.ofChange vertOrderSpec)) vertOrderCard

/-- THE SECOND FORM's CARD OF 'wealdlaw16.VertAlone'. -/
def vertAloneUptoCard : Claim7 := { stood := { row := vertAloneUptoRow, standIns := [], harness := (true, "494bb025482c92e083cd542bc059312d02eab396907efc03768e94f50439c8d9"), looks := true }, kinds := [], alts := [], laidByText := true, laidKinds := [.data], laidTests := true, laidLooks := .later }
def VertAloneUptoCardSaid : Prop := Claim7.holds Tryz.pinned (.plain (OpenSpec.upto vertAloneSpec)) vertAloneUptoCard

/-- THE SECOND FORM's CARD OF 'wealdlaw16.VertRace'. -/
def vertRaceUptoCard : Claim7 := { stood := { row := vertRaceUptoRow, standIns := [], harness := (true, "494bb025482c92e083cd542bc059312d02eab396907efc03768e94f50439c8d9"), looks := true }, kinds := [], alts := [], laidByText := true, laidKinds := [.data], laidTests := true, laidLooks := .later }
def VertRaceUptoCardSaid : Prop := Claim7.holds Tryz.pinned (.plain (OpenSpec.upto vertRaceSpec)) vertRaceUptoCard

/-- THE SECOND FORM's CARD OF 'wealdlaw16.VertSealed'. -/
def vertSealedUptoCard : Claim7 := { stood := { row := vertSealedUptoRow, standIns := [], harness := (true, "494bb025482c92e083cd542bc059312d02eab396907efc03768e94f50439c8d9"), looks := true }, kinds := [], alts := [], laidByText := true, laidKinds := [.data], laidTests := true, laidLooks := .later }
def VertSealedUptoCardSaid : Prop := Claim7.holds Tryz.pinned (.plain (OpenSpec.upto vertSealedSpec)) vertSealedUptoCard

/-- THE SECOND FORM's CARD OF 'wealdlaw16.VertDurable'. -/
def vertDurableUptoCard : Claim7 := { stood := { row := vertDurableUptoRow, standIns := [], harness := (true, "494bb025482c92e083cd542bc059312d02eab396907efc03768e94f50439c8d9"), looks := true }, kinds := [], alts := [], laidByText := true, laidKinds := [.data], laidTests := true, laidLooks := .later }
def VertDurableUptoCardSaid : Prop := Claim7.holds Tryz.pinned (.plain (OpenSpec.upto vertDurableSpec)) vertDurableUptoCard

/-- THE SECOND FORM's CARD OF 'wealdlaw16.VertOrder'. -/
def vertOrderUptoCard : Claim7 := { stood := { row := vertOrderUptoRow, standIns := [], harness := (true, "494bb025482c92e083cd542bc059312d02eab396907efc03768e94f50439c8d9"), looks := true }, kinds := [], alts := [], laidByText := true, laidKinds := [.data], laidTests := true, laidLooks := .later }
def VertOrderUptoCardSaid : Prop := Claim7.holds Tryz.pinned (.plain (OpenSpec.upto vertOrderSpec)) vertOrderUptoCard
end Rows
end Go.Proofs.YtmfbamiciieooaaGreatDoor
