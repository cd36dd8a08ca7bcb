/-
  NARROWER THAN 'FOR EVERY INPUT', by the rows' own cells (each row's printed sentence says how): MergeTells: laid · MergeLays: laid · MergeFree: laid · MergeTorn: laid · MergeAgain: laid · MergeApart: laid · MergeHeads: laid.
  DERIVED. THE GIVEN ROWS OF THIS SEAT. 7 by the template 'for every input the law returns true; each argument reads behind the call as it read before'; 0 by the template 'total and deterministic' (their statements: YtomlhekjgagjaaaDoorTotals.lean).
  GIVEN WITH THE SEED: the statements are not yours to turn. If you find one false, say at which input.
  Laid BY PROGRAM, IN A SANDBOX (cutbox-rows.mjs): the forced cells as the released guide's own fill.sh prints them over the translation 1917f7f6e3239387… (all of the seat's roots in one cut). By AI agents, Wed Nov 11 2026. No macro, syntax, notation, axiom, sorry.
-/
import Derived.Test.YtomlhekjgagjaaaDoorChecked
import GoSem.Claim
import GoSem.ClaimJoined
import GoSem.ClaimMapViews
import Derived.JoinedTies
import Derived.KernelRfl
namespace Go.Proofs.YtomlhekjgagjaaaDoor
/- THE CELL 'sum', in the pinned program and in every row, IS THE sha256 OF THE DUMP (.gsa) THAT YtomlhekjgagjaaaDoorProg.lean LOADS. Nothing in Lean hashes anything: it is a label: what it is worth is what the hold of that sum in a sandbox is worth. -/
noncomputable def Tryd.pinned : Pinned := { name := "ytomlhekjgagjaaadoor", sum := "1917f7f6e323938776d938a368c637960059a31cd33ce22c868a85667f3ef1f6", checked := Tryd.checked }
namespace Rows
def none {H : Type} : Left H := { results := [], args := [] }

/- WHAT THE LISTED PACKAGE-LEVEL VARIABLES READ AS WHEN THE CALL BEGINS. Each datum BY PROGRAM (the guide's laid-datum.mjs) off the statement by which the dump's own 'gosem.cut.vars' lays the variable. In a bare row this is a premise. The card (YtomlhekjgagjaaaDoorCards.lean) ties it to the program's text. -/
def laid_weald_crc_halves {H : Type} : DataW H := .agg [.lit (.int .u32 0), .lit (.int .u32 498536548), .lit (.int .u32 997073096), .lit (.int .u32 651767980), .lit (.int .u32 1994146192), .lit (.int .u32 1802195444), .lit (.int .u32 1303535960), .lit (.int .u32 1342533948), .lit (.int .u32 3988292384), .lit (.int .u32 4027552580), .lit (.int .u32 3604390888), .lit (.int .u32 3412177804), .lit (.int .u32 2607071920), .lit (.int .u32 2262029012), .lit (.int .u32 2685067896), .lit (.int .u32 3183342108)]

/-- 'wealdlaw22.MergeTells': WHATEVER THE INPUT: true; the input reads as it did. -/
def mergeTellsSpec : ChangeSpec := { name := "mergeTells", fn := fun _ => fun
  | [d1, d2] => { results := [.lit (.bool true)], args := [d1, d2] }
  | _ => none }
def mergeTellsRow : OpenClaim := { program := "ytomlhekjgagjaaadoor", sum := "1917f7f6e323938776d938a368c637960059a31cd33ce22c868a85667f3ef1f6", func := "weald/wealdlaw22.MergeTells", spec := "mergeTells", inPlace := ["slices.overlaps[*uint64]"], unfollowed := true, recurses := true, named := ["weald/crc.halves"], apart := false, laid := [("weald/crc.halves", laid_weald_crc_halves)] }
def MergeTellsSaid : Prop := mergeTellsRow.holds Tryd.pinned (OpenSpec.ofChange mergeTellsSpec)

/-- ITS FALSE NEIGHBOUR: 'it returns false'. Refute it at one input. -/
def mergeTellsWrong : ChangeSpec := { name := "mergeTells", fn := fun _ => fun
  | [d1, d2] => { results := [.lit (.bool false)], args := [d1, d2] }
  | _ => none }
def MergeTellsWrongFalsely : Prop := mergeTellsRow.holds Tryd.pinned (OpenSpec.ofChange mergeTellsWrong)

/-- 'wealdlaw22.MergeLays': WHATEVER THE INPUT: true; the input reads as it did. -/
def mergeLaysSpec : ChangeSpec := { name := "mergeLays", fn := fun _ => fun
  | [d] => { results := [.lit (.bool true)], args := [d] }
  | _ => none }
def mergeLaysRow : OpenClaim := { program := "ytomlhekjgagjaaadoor", sum := "1917f7f6e323938776d938a368c637960059a31cd33ce22c868a85667f3ef1f6", func := "weald/wealdlaw22.MergeLays", spec := "mergeLays", inPlace := ["slices.overlaps[*uint64]"], unfollowed := true, recurses := true, named := ["weald/crc.halves"], apart := false, laid := [("weald/crc.halves", laid_weald_crc_halves)] }
def MergeLaysSaid : Prop := mergeLaysRow.holds Tryd.pinned (OpenSpec.ofChange mergeLaysSpec)

/-- ITS FALSE NEIGHBOUR: 'it returns false'. Refute it at one input. -/
def mergeLaysWrong : ChangeSpec := { name := "mergeLays", fn := fun _ => fun
  | [d] => { results := [.lit (.bool false)], args := [d] }
  | _ => none }
def MergeLaysWrongFalsely : Prop := mergeLaysRow.holds Tryd.pinned (OpenSpec.ofChange mergeLaysWrong)

/-- 'wealdlaw22.MergeFree': WHATEVER THE INPUT: true; the input reads as it did. -/
def mergeFreeSpec : ChangeSpec := { name := "mergeFree", fn := fun _ => fun
  | [d] => { results := [.lit (.bool true)], args := [d] }
  | _ => none }
def mergeFreeRow : OpenClaim := { program := "ytomlhekjgagjaaadoor", sum := "1917f7f6e323938776d938a368c637960059a31cd33ce22c868a85667f3ef1f6", func := "weald/wealdlaw22.MergeFree", spec := "mergeFree", inPlace := ["slices.overlaps[*uint64]"], unfollowed := true, recurses := true, named := ["weald/crc.halves"], apart := false, laid := [("weald/crc.halves", laid_weald_crc_halves)] }
def MergeFreeSaid : Prop := mergeFreeRow.holds Tryd.pinned (OpenSpec.ofChange mergeFreeSpec)

/-- ITS FALSE NEIGHBOUR: 'it returns false'. Refute it at one input. -/
def mergeFreeWrong : ChangeSpec := { name := "mergeFree", fn := fun _ => fun
  | [d] => { results := [.lit (.bool false)], args := [d] }
  | _ => none }
def MergeFreeWrongFalsely : Prop := mergeFreeRow.holds Tryd.pinned (OpenSpec.ofChange mergeFreeWrong)

/-- 'wealdlaw22.MergeTorn': WHATEVER THE INPUT: true; the input reads as it did. -/
def mergeTornSpec : ChangeSpec := { name := "mergeTorn", fn := fun _ => fun
  | [d] => { results := [.lit (.bool true)], args := [d] }
  | _ => none }
def mergeTornRow : OpenClaim := { program := "ytomlhekjgagjaaadoor", sum := "1917f7f6e323938776d938a368c637960059a31cd33ce22c868a85667f3ef1f6", func := "weald/wealdlaw22.MergeTorn", spec := "mergeTorn", inPlace := ["slices.overlaps[*uint64]"], unfollowed := true, recurses := true, named := ["weald/crc.halves"], apart := false, laid := [("weald/crc.halves", laid_weald_crc_halves)] }
def MergeTornSaid : Prop := mergeTornRow.holds Tryd.pinned (OpenSpec.ofChange mergeTornSpec)

/-- ITS FALSE NEIGHBOUR: 'it returns false'. Refute it at one input. -/
def mergeTornWrong : ChangeSpec := { name := "mergeTorn", fn := fun _ => fun
  | [d] => { results := [.lit (.bool false)], args := [d] }
  | _ => none }
def MergeTornWrongFalsely : Prop := mergeTornRow.holds Tryd.pinned (OpenSpec.ofChange mergeTornWrong)

/-- 'wealdlaw22.MergeAgain': WHATEVER THE INPUT: true; the input reads as it did. -/
def mergeAgainSpec : ChangeSpec := { name := "mergeAgain", fn := fun _ => fun
  | [d] => { results := [.lit (.bool true)], args := [d] }
  | _ => none }
def mergeAgainRow : OpenClaim := { program := "ytomlhekjgagjaaadoor", sum := "1917f7f6e323938776d938a368c637960059a31cd33ce22c868a85667f3ef1f6", func := "weald/wealdlaw22.MergeAgain", spec := "mergeAgain", inPlace := ["slices.overlaps[*uint64]"], unfollowed := true, recurses := true, named := ["weald/crc.halves"], apart := false, laid := [("weald/crc.halves", laid_weald_crc_halves)] }
def MergeAgainSaid : Prop := mergeAgainRow.holds Tryd.pinned (OpenSpec.ofChange mergeAgainSpec)

/-- ITS FALSE NEIGHBOUR: 'it returns false'. Refute it at one input. -/
def mergeAgainWrong : ChangeSpec := { name := "mergeAgain", fn := fun _ => fun
  | [d] => { results := [.lit (.bool false)], args := [d] }
  | _ => none }
def MergeAgainWrongFalsely : Prop := mergeAgainRow.holds Tryd.pinned (OpenSpec.ofChange mergeAgainWrong)

/-- 'wealdlaw22.MergeApart': WHATEVER THE INPUT: true; the input reads as it did. -/
def mergeApartSpec : ChangeSpec := { name := "mergeApart", fn := fun _ => fun
  | [d1, d2] => { results := [.lit (.bool true)], args := [d1, d2] }
  | _ => none }
def mergeApartRow : OpenClaim := { program := "ytomlhekjgagjaaadoor", sum := "1917f7f6e323938776d938a368c637960059a31cd33ce22c868a85667f3ef1f6", func := "weald/wealdlaw22.MergeApart", spec := "mergeApart", inPlace := ["slices.overlaps[*uint64]"], unfollowed := true, recurses := true, named := ["weald/crc.halves"], apart := false, laid := [("weald/crc.halves", laid_weald_crc_halves)] }
def MergeApartSaid : Prop := mergeApartRow.holds Tryd.pinned (OpenSpec.ofChange mergeApartSpec)

/-- ITS FALSE NEIGHBOUR: 'it returns false'. Refute it at one input. -/
def mergeApartWrong : ChangeSpec := { name := "mergeApart", fn := fun _ => fun
  | [d1, d2] => { results := [.lit (.bool false)], args := [d1, d2] }
  | _ => none }
def MergeApartWrongFalsely : Prop := mergeApartRow.holds Tryd.pinned (OpenSpec.ofChange mergeApartWrong)

/-- 'wealdlaw22.MergeHeads': WHATEVER THE INPUT: true; the input reads as it did. -/
def mergeHeadsSpec : ChangeSpec := { name := "mergeHeads", fn := fun _ => fun
  | [d1, d2, d3] => { results := [.lit (.bool true)], args := [d1, d2, d3] }
  | _ => none }
def mergeHeadsRow : OpenClaim := { program := "ytomlhekjgagjaaadoor", sum := "1917f7f6e323938776d938a368c637960059a31cd33ce22c868a85667f3ef1f6", func := "weald/wealdlaw22.MergeHeads", spec := "mergeHeads", inPlace := ["slices.overlaps[*uint64]"], unfollowed := true, recurses := true, named := ["weald/crc.halves"], apart := false, laid := [("weald/crc.halves", laid_weald_crc_halves)] }
def MergeHeadsSaid : Prop := mergeHeadsRow.holds Tryd.pinned (OpenSpec.ofChange mergeHeadsSpec)

/-- ITS FALSE NEIGHBOUR: 'it returns false'. Refute it at one input. -/
def mergeHeadsWrong : ChangeSpec := { name := "mergeHeads", fn := fun _ => fun
  | [d1, d2, d3] => { results := [.lit (.bool false)], args := [d1, d2, d3] }
  | _ => none }
def MergeHeadsWrongFalsely : Prop := mergeHeadsRow.holds Tryd.pinned (OpenSpec.ofChange mergeHeadsWrong)

/- THE SECOND FORM. 'bulk': how many values and letters a reading holds, each counted each time it is reached (what is shared counts as often as it is met; a slice's spare places count too). A statement '..UptoSaid' is the law's where the arguments, and the package variables that the reading takes, are together of bulk at most 1048576: NARROWER than '..Said'. Prove '..Said' where nothing that the law and all that it calls make is longer than what came in: it says more and counts as full. Else prove '..UptoSaid'. A law counts once. -/
mutual
def uptoBulk {H : Type} : DataW H → Nat
  | .lit (.string bytes) => bytes.length + 1
  | .lit _ => 1
  | .nil => 1
  | .ptr d => uptoBulk d + 1
  | .slice elems spare => uptoBulkAll elems + uptoBulkAll spare + 1
  | .agg parts => uptoBulkAll parts + 1
  | .iface _ d => uptoBulk d + 1
  | .map entries => uptoBulkEntries entries + 1
  | .held _ => 1
def uptoBulkAll {H : Type} : List (DataW H) → Nat
  | [] => 0
  | d :: r => uptoBulk d + uptoBulkAll r
def uptoBulkEntries {H : Type} : List (Lit × DataW H) → Nat
  | [] => 0
  | x :: r => uptoBulkEntry x + uptoBulkEntries r
def uptoBulkEntry {H : Type} : Lit × DataW H → Nat
  | (.string bytes, d) => bytes.length + uptoBulk d + 1
  | (_, d) => uptoBulk d + 1
 end
def uptoSmall : (H : Type) → List (DataW H) → Bool := fun _ ds => decide (uptoBulkAll ds ≤ 1048576)
def OpenSpec.upto (s : _root_.Go.ChangeSpec) : _root_.Go.OpenSpec := { _root_.Go.OpenSpec.ofChange s with cond := some uptoSmall }

/-- 'wealdlaw22.MergeTells', WHERE WHAT IT READS IS OF BULK AT MOST 1048576: true; the input reads as it did. -/
def mergeTellsUptoRow : OpenClaim := { program := "ytomlhekjgagjaaadoor", sum := "1917f7f6e323938776d938a368c637960059a31cd33ce22c868a85667f3ef1f6", func := "weald/wealdlaw22.MergeTells", spec := "mergeTells", inPlace := ["slices.overlaps[*uint64]"], unfollowed := true, recurses := true, named := ["weald/crc.halves"], apart := false, laid := [("weald/crc.halves", laid_weald_crc_halves)], narrowed := true }
def MergeTellsUptoSaid : Prop := mergeTellsUptoRow.holds Tryd.pinned (OpenSpec.upto mergeTellsSpec)

/-- 'wealdlaw22.MergeLays', WHERE WHAT IT READS IS OF BULK AT MOST 1048576: true; the input reads as it did. -/
def mergeLaysUptoRow : OpenClaim := { program := "ytomlhekjgagjaaadoor", sum := "1917f7f6e323938776d938a368c637960059a31cd33ce22c868a85667f3ef1f6", func := "weald/wealdlaw22.MergeLays", spec := "mergeLays", inPlace := ["slices.overlaps[*uint64]"], unfollowed := true, recurses := true, named := ["weald/crc.halves"], apart := false, laid := [("weald/crc.halves", laid_weald_crc_halves)], narrowed := true }
def MergeLaysUptoSaid : Prop := mergeLaysUptoRow.holds Tryd.pinned (OpenSpec.upto mergeLaysSpec)

/-- 'wealdlaw22.MergeFree', WHERE WHAT IT READS IS OF BULK AT MOST 1048576: true; the input reads as it did. -/
def mergeFreeUptoRow : OpenClaim := { program := "ytomlhekjgagjaaadoor", sum := "1917f7f6e323938776d938a368c637960059a31cd33ce22c868a85667f3ef1f6", func := "weald/wealdlaw22.MergeFree", spec := "mergeFree", inPlace := ["slices.overlaps[*uint64]"], unfollowed := true, recurses := true, named := ["weald/crc.halves"], apart := false, laid := [("weald/crc.halves", laid_weald_crc_halves)], narrowed := true }
def MergeFreeUptoSaid : Prop := mergeFreeUptoRow.holds Tryd.pinned (OpenSpec.upto mergeFreeSpec)

/-- 'wealdlaw22.MergeTorn', WHERE WHAT IT READS IS OF BULK AT MOST 1048576: true; the input reads as it did. -/
def mergeTornUptoRow : OpenClaim := { program := "ytomlhekjgagjaaadoor", sum := "1917f7f6e323938776d938a368c637960059a31cd33ce22c868a85667f3ef1f6", func := "weald/wealdlaw22.MergeTorn", spec := "mergeTorn", inPlace := ["slices.overlaps[*uint64]"], unfollowed := true, recurses := true, named := ["weald/crc.halves"], apart := false, laid := [("weald/crc.halves", laid_weald_crc_halves)], narrowed := true }
def MergeTornUptoSaid : Prop := mergeTornUptoRow.holds Tryd.pinned (OpenSpec.upto mergeTornSpec)

/-- 'wealdlaw22.MergeAgain', WHERE WHAT IT READS IS OF BULK AT MOST 1048576: true; the input reads as it did. -/
def mergeAgainUptoRow : OpenClaim := { program := "ytomlhekjgagjaaadoor", sum := "1917f7f6e323938776d938a368c637960059a31cd33ce22c868a85667f3ef1f6", func := "weald/wealdlaw22.MergeAgain", spec := "mergeAgain", inPlace := ["slices.overlaps[*uint64]"], unfollowed := true, recurses := true, named := ["weald/crc.halves"], apart := false, laid := [("weald/crc.halves", laid_weald_crc_halves)], narrowed := true }
def MergeAgainUptoSaid : Prop := mergeAgainUptoRow.holds Tryd.pinned (OpenSpec.upto mergeAgainSpec)

/-- 'wealdlaw22.MergeApart', WHERE WHAT IT READS IS OF BULK AT MOST 1048576: true; the input reads as it did. -/
def mergeApartUptoRow : OpenClaim := { program := "ytomlhekjgagjaaadoor", sum := "1917f7f6e323938776d938a368c637960059a31cd33ce22c868a85667f3ef1f6", func := "weald/wealdlaw22.MergeApart", spec := "mergeApart", inPlace := ["slices.overlaps[*uint64]"], unfollowed := true, recurses := true, named := ["weald/crc.halves"], apart := false, laid := [("weald/crc.halves", laid_weald_crc_halves)], narrowed := true }
def MergeApartUptoSaid : Prop := mergeApartUptoRow.holds Tryd.pinned (OpenSpec.upto mergeApartSpec)

/-- 'wealdlaw22.MergeHeads', WHERE WHAT IT READS IS OF BULK AT MOST 1048576: true; the input reads as it did. -/
def mergeHeadsUptoRow : OpenClaim := { program := "ytomlhekjgagjaaadoor", sum := "1917f7f6e323938776d938a368c637960059a31cd33ce22c868a85667f3ef1f6", func := "weald/wealdlaw22.MergeHeads", spec := "mergeHeads", inPlace := ["slices.overlaps[*uint64]"], unfollowed := true, recurses := true, named := ["weald/crc.halves"], apart := false, laid := [("weald/crc.halves", laid_weald_crc_halves)], narrowed := true }
def MergeHeadsUptoSaid : Prop := mergeHeadsUptoRow.holds Tryd.pinned (OpenSpec.upto mergeHeadsSpec)

end Rows
end Go.Proofs.YtomlhekjgagjaaaDoor
