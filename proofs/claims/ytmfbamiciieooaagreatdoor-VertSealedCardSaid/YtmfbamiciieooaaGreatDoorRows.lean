/-
  NARROWER THAN 'FOR EVERY INPUT', by the rows' own cells (each row's printed sentence says how): VertAlone: laid · VertRace: laid · VertSealed: laid · VertDurable: laid · VertOrder: laid.
  DERIVED. THE GIVEN ROWS OF THIS SEAT. 5 by the template 'for every input the law returns true; each argument reads behind the call as it read before'; 0 by the template 'total and deterministic' (their statements: YtmfbamiciieooaaGreatDoorTotals.lean).
  GIVEN WITH THE SEED: the statements are not yours to turn. If you find one false, say at which input.
  Laid BY PROGRAM, IN A SANDBOX (cutbox-rows.mjs): the forced cells as the released guide's own fill.sh prints them over the translation 8d47ce4150a90fc5… (all of the seat's roots in one cut). By AI agents, Wed Nov 11 2026. No macro, syntax, notation, axiom, sorry.
-/
import Derived.Test.YtmfbamiciieooaaGreatDoorChecked
import GoSem.Claim
import GoSem.ClaimJoined
import GoSem.ClaimMapViews
import Derived.JoinedTies
import Derived.KernelRfl
namespace Go.Proofs.YtmfbamiciieooaaGreatDoor
/- THE CELL 'sum', in the pinned program and in every row, IS THE sha256 OF THE DUMP (.gsa) THAT YtmfbamiciieooaaGreatDoorProg.lean LOADS. Nothing in Lean hashes anything: it is a label: what it is worth is what the hold of that sum in a sandbox is worth. -/
noncomputable def Tryz.pinned : Pinned := { name := "ytmfbamiciieooaagreatdoor", sum := "8d47ce4150a90fc582db88203e6a2e58bf88b5c40aa1bf2f031fff23be10b058", checked := Tryz.checked }
namespace Rows
def none {H : Type} : Left H := { results := [], args := [] }

/- WHAT THE LISTED PACKAGE-LEVEL VARIABLES READ AS WHEN THE CALL BEGINS. Each datum BY PROGRAM (the guide's laid-datum.mjs) off the statement by which the dump's own 'gosem.cut.vars' lays the variable. In a bare row this is a premise. The card (YtmfbamiciieooaaGreatDoorCards.lean) ties it to the program's text. -/
def laid_weald_crc_halves {H : Type} : DataW H := .agg [.lit (.int .u32 0), .lit (.int .u32 498536548), .lit (.int .u32 997073096), .lit (.int .u32 651767980), .lit (.int .u32 1994146192), .lit (.int .u32 1802195444), .lit (.int .u32 1303535960), .lit (.int .u32 1342533948), .lit (.int .u32 3988292384), .lit (.int .u32 4027552580), .lit (.int .u32 3604390888), .lit (.int .u32 3412177804), .lit (.int .u32 2607071920), .lit (.int .u32 2262029012), .lit (.int .u32 2685067896), .lit (.int .u32 3183342108)]

/-- 'wealdlaw16.VertAlone': WHATEVER THE INPUT: true; the input reads as it did. -/
def vertAloneSpec : ChangeSpec := { name := "vertAlone", fn := fun _ => fun
  | [d1, d2] => { results := [.lit (.bool true)], args := [d1, d2] }
  | _ => none }
def vertAloneRow : OpenClaim := { program := "ytmfbamiciieooaagreatdoor", sum := "8d47ce4150a90fc582db88203e6a2e58bf88b5c40aa1bf2f031fff23be10b058", func := "weald/wealdlaw16.VertAlone", spec := "vertAlone", inPlace := ["slices.overlaps[*uint64]"], unfollowed := true, recurses := true, named := ["weald/crc.halves"], apart := false, laid := [("weald/crc.halves", laid_weald_crc_halves)] }
def VertAloneSaid : Prop := vertAloneRow.holds Tryz.pinned (OpenSpec.ofChange vertAloneSpec)

/-- ITS FALSE NEIGHBOUR: 'it returns false'. Refute it at one input. -/
def vertAloneWrong : ChangeSpec := { name := "vertAlone", fn := fun _ => fun
  | [d1, d2] => { results := [.lit (.bool false)], args := [d1, d2] }
  | _ => none }
def VertAloneWrongFalsely : Prop := vertAloneRow.holds Tryz.pinned (OpenSpec.ofChange vertAloneWrong)

/-- 'wealdlaw16.VertRace': WHATEVER THE INPUT: true; the input reads as it did. -/
def vertRaceSpec : ChangeSpec := { name := "vertRace", fn := fun _ => fun
  | [d1, d2, d3] => { results := [.lit (.bool true)], args := [d1, d2, d3] }
  | _ => none }
def vertRaceRow : OpenClaim := { program := "ytmfbamiciieooaagreatdoor", sum := "8d47ce4150a90fc582db88203e6a2e58bf88b5c40aa1bf2f031fff23be10b058", func := "weald/wealdlaw16.VertRace", spec := "vertRace", inPlace := ["slices.overlaps[*uint64]"], unfollowed := true, recurses := true, named := ["weald/crc.halves"], apart := false, laid := [("weald/crc.halves", laid_weald_crc_halves)] }
def VertRaceSaid : Prop := vertRaceRow.holds Tryz.pinned (OpenSpec.ofChange vertRaceSpec)

/-- ITS FALSE NEIGHBOUR: 'it returns false'. Refute it at one input. -/
def vertRaceWrong : ChangeSpec := { name := "vertRace", fn := fun _ => fun
  | [d1, d2, d3] => { results := [.lit (.bool false)], args := [d1, d2, d3] }
  | _ => none }
def VertRaceWrongFalsely : Prop := vertRaceRow.holds Tryz.pinned (OpenSpec.ofChange vertRaceWrong)

/-- 'wealdlaw16.VertSealed': WHATEVER THE INPUT: true; the input reads as it did. -/
def vertSealedSpec : ChangeSpec := { name := "vertSealed", fn := fun _ => fun
  | [d1, d2, d3] => { results := [.lit (.bool true)], args := [d1, d2, d3] }
  | _ => none }
def vertSealedRow : OpenClaim := { program := "ytmfbamiciieooaagreatdoor", sum := "8d47ce4150a90fc582db88203e6a2e58bf88b5c40aa1bf2f031fff23be10b058", func := "weald/wealdlaw16.VertSealed", spec := "vertSealed", inPlace := ["slices.overlaps[*uint64]"], unfollowed := true, recurses := true, named := ["weald/crc.halves"], apart := false, laid := [("weald/crc.halves", laid_weald_crc_halves)] }
def VertSealedSaid : Prop := vertSealedRow.holds Tryz.pinned (OpenSpec.ofChange vertSealedSpec)

/-- ITS FALSE NEIGHBOUR: 'it returns false'. Refute it at one input. -/
def vertSealedWrong : ChangeSpec := { name := "vertSealed", fn := fun _ => fun
  | [d1, d2, d3] => { results := [.lit (.bool false)], args := [d1, d2, d3] }
  | _ => none }
def VertSealedWrongFalsely : Prop := vertSealedRow.holds Tryz.pinned (OpenSpec.ofChange vertSealedWrong)

/-- 'wealdlaw16.VertDurable': WHATEVER THE INPUT: true; the input reads as it did. -/
def vertDurableSpec : ChangeSpec := { name := "vertDurable", fn := fun _ => fun
  | [d] => { results := [.lit (.bool true)], args := [d] }
  | _ => none }
def vertDurableRow : OpenClaim := { program := "ytmfbamiciieooaagreatdoor", sum := "8d47ce4150a90fc582db88203e6a2e58bf88b5c40aa1bf2f031fff23be10b058", func := "weald/wealdlaw16.VertDurable", spec := "vertDurable", inPlace := ["slices.overlaps[*uint64]"], unfollowed := true, recurses := true, named := ["weald/crc.halves"], apart := false, laid := [("weald/crc.halves", laid_weald_crc_halves)] }
def VertDurableSaid : Prop := vertDurableRow.holds Tryz.pinned (OpenSpec.ofChange vertDurableSpec)

/-- ITS FALSE NEIGHBOUR: 'it returns false'. Refute it at one input. -/
def vertDurableWrong : ChangeSpec := { name := "vertDurable", fn := fun _ => fun
  | [d] => { results := [.lit (.bool false)], args := [d] }
  | _ => none }
def VertDurableWrongFalsely : Prop := vertDurableRow.holds Tryz.pinned (OpenSpec.ofChange vertDurableWrong)

/-- 'wealdlaw16.VertOrder': WHATEVER THE INPUT: true; the input reads as it did. -/
def vertOrderSpec : ChangeSpec := { name := "vertOrder", fn := fun _ => fun
  | [d] => { results := [.lit (.bool true)], args := [d] }
  | _ => none }
def vertOrderRow : OpenClaim := { program := "ytmfbamiciieooaagreatdoor", sum := "8d47ce4150a90fc582db88203e6a2e58bf88b5c40aa1bf2f031fff23be10b058", func := "weald/wealdlaw16.VertOrder", spec := "vertOrder", inPlace := ["slices.overlaps[*uint64]"], unfollowed := true, recurses := true, named := ["weald/crc.halves"], apart := false, laid := [("weald/crc.halves", laid_weald_crc_halves)] }
def VertOrderSaid : Prop := vertOrderRow.holds Tryz.pinned (OpenSpec.ofChange vertOrderSpec)

/-- ITS FALSE NEIGHBOUR: 'it returns false'. Refute it at one input. -/
def vertOrderWrong : ChangeSpec := { name := "vertOrder", fn := fun _ => fun
  | [d] => { results := [.lit (.bool false)], args := [d] }
  | _ => none }
def VertOrderWrongFalsely : Prop := vertOrderRow.holds Tryz.pinned (OpenSpec.ofChange vertOrderWrong)

/- THE SECOND FORM. 'bulk': how many values and letters a reading holds, each counted each time it is reached (what is shared counts as often as it is met; a slice's spare places count too). A statement '..UptoSaid' is the law's where the arguments, and the package variables that the reading takes, are together of bulk at most 1048576: NARROWER than '..Said'. Prove '..Said' where nothing that the law and all that it calls make is longer than what came in: it says more and counts as full. Else prove '..UptoSaid'. A law counts once. -/
mutual
def uptoBulk {H : Type} : DataW H → Nat
  | .lit (.string bytes) => bytes.length + 1
  | .lit _ => 1
  | .nil => 1
  | .ptr d => uptoBulk d + 1
  | .slice elems spare => uptoBulkAll elems + uptoBulkAll spare + 1
  | .agg parts => uptoBulkAll parts + 1
  | .iface _ d => uptoBulk d + 1
  | .map entries => uptoBulkEntries entries + 1
  | .held _ => 1
def uptoBulkAll {H : Type} : List (DataW H) → Nat
  | [] => 0
  | d :: r => uptoBulk d + uptoBulkAll r
def uptoBulkEntries {H : Type} : List (Lit × DataW H) → Nat
  | [] => 0
  | x :: r => uptoBulkEntry x + uptoBulkEntries r
def uptoBulkEntry {H : Type} : Lit × DataW H → Nat
  | (.string bytes, d) => bytes.length + uptoBulk d + 1
  | (_, d) => uptoBulk d + 1
 end
def uptoSmall : (H : Type) → List (DataW H) → Bool := fun _ ds => decide (uptoBulkAll ds ≤ 1048576)
def OpenSpec.upto (s : _root_.Go.ChangeSpec) : _root_.Go.OpenSpec := { _root_.Go.OpenSpec.ofChange s with cond := some uptoSmall }

/-- 'wealdlaw16.VertAlone', WHERE WHAT IT READS IS OF BULK AT MOST 1048576: true; the input reads as it did. -/
def vertAloneUptoRow : OpenClaim := { program := "ytmfbamiciieooaagreatdoor", sum := "8d47ce4150a90fc582db88203e6a2e58bf88b5c40aa1bf2f031fff23be10b058", func := "weald/wealdlaw16.VertAlone", spec := "vertAlone", inPlace := ["slices.overlaps[*uint64]"], unfollowed := true, recurses := true, named := ["weald/crc.halves"], apart := false, laid := [("weald/crc.halves", laid_weald_crc_halves)], narrowed := true }
def VertAloneUptoSaid : Prop := vertAloneUptoRow.holds Tryz.pinned (OpenSpec.upto vertAloneSpec)

/-- 'wealdlaw16.VertRace', WHERE WHAT IT READS IS OF BULK AT MOST 1048576: true; the input reads as it did. -/
def vertRaceUptoRow : OpenClaim := { program := "ytmfbamiciieooaagreatdoor", sum := "8d47ce4150a90fc582db88203e6a2e58bf88b5c40aa1bf2f031fff23be10b058", func := "weald/wealdlaw16.VertRace", spec := "vertRace", inPlace := ["slices.overlaps[*uint64]"], unfollowed := true, recurses := true, named := ["weald/crc.halves"], apart := false, laid := [("weald/crc.halves", laid_weald_crc_halves)], narrowed := true }
def VertRaceUptoSaid : Prop := vertRaceUptoRow.holds Tryz.pinned (OpenSpec.upto vertRaceSpec)

/-- 'wealdlaw16.VertSealed', WHERE WHAT IT READS IS OF BULK AT MOST 1048576: true; the input reads as it did. -/
def vertSealedUptoRow : OpenClaim := { program := "ytmfbamiciieooaagreatdoor", sum := "8d47ce4150a90fc582db88203e6a2e58bf88b5c40aa1bf2f031fff23be10b058", func := "weald/wealdlaw16.VertSealed", spec := "vertSealed", inPlace := ["slices.overlaps[*uint64]"], unfollowed := true, recurses := true, named := ["weald/crc.halves"], apart := false, laid := [("weald/crc.halves", laid_weald_crc_halves)], narrowed := true }
def VertSealedUptoSaid : Prop := vertSealedUptoRow.holds Tryz.pinned (OpenSpec.upto vertSealedSpec)

/-- 'wealdlaw16.VertDurable', WHERE WHAT IT READS IS OF BULK AT MOST 1048576: true; the input reads as it did. -/
def vertDurableUptoRow : OpenClaim := { program := "ytmfbamiciieooaagreatdoor", sum := "8d47ce4150a90fc582db88203e6a2e58bf88b5c40aa1bf2f031fff23be10b058", func := "weald/wealdlaw16.VertDurable", spec := "vertDurable", inPlace := ["slices.overlaps[*uint64]"], unfollowed := true, recurses := true, named := ["weald/crc.halves"], apart := false, laid := [("weald/crc.halves", laid_weald_crc_halves)], narrowed := true }
def VertDurableUptoSaid : Prop := vertDurableUptoRow.holds Tryz.pinned (OpenSpec.upto vertDurableSpec)

/-- 'wealdlaw16.VertOrder', WHERE WHAT IT READS IS OF BULK AT MOST 1048576: true; the input reads as it did. -/
def vertOrderUptoRow : OpenClaim := { program := "ytmfbamiciieooaagreatdoor", sum := "8d47ce4150a90fc582db88203e6a2e58bf88b5c40aa1bf2f031fff23be10b058", func := "weald/wealdlaw16.VertOrder", spec := "vertOrder", inPlace := ["slices.overlaps[*uint64]"], unfollowed := true, recurses := true, named := ["weald/crc.halves"], apart := false, laid := [("weald/crc.halves", laid_weald_crc_halves)], narrowed := true }
def VertOrderUptoSaid : Prop := vertOrderUptoRow.holds Tryz.pinned (OpenSpec.upto vertOrderSpec)

end Rows
end Go.Proofs.YtmfbamiciieooaaGreatDoor
