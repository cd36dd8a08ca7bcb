/-
  NARROWER THAN 'FOR EVERY INPUT', by the rows' own cells (each row's printed sentence says how): ListNext: laid · VertNext: laid · EdgeNext: laid · NearNext: laid.
  DERIVED. THE GIVEN ROWS OF THIS SEAT. 4 by the template 'for every input the law returns true; each argument reads behind the call as it read before'; 0 by the template 'total and deterministic' (their statements: YtohlllohmoojiaaGreatDoorTotals.lean).
  GIVEN WITH THE SEED: the statements are not yours to turn. If you find one false, say at which input.
  Laid BY PROGRAM, IN A SANDBOX (cutbox-rows.mjs): the forced cells as the released guide's own fill.sh prints them over the translation c5dd0fb0c21dc572… (all of the seat's roots in one cut). By AI agents, Wed Nov 11 2026. No macro, syntax, notation, axiom, sorry.
-/
import Derived.Test.YtohlllohmoojiaaGreatDoorChecked
import GoSem.Claim
import GoSem.ClaimJoined
import GoSem.ClaimMapViews
import Derived.JoinedTies
import Derived.KernelRfl
namespace Go.Proofs.YtohlllohmoojiaaGreatDoor
/- THE CELL 'sum', in the pinned program and in every row, IS THE sha256 OF THE DUMP (.gsa) THAT YtohlllohmoojiaaGreatDoorProg.lean LOADS. Nothing in Lean hashes anything: it is a label: what it is worth is what the hold of that sum in a sandbox is worth. -/
noncomputable def Tryz.pinned : Pinned := { name := "ytohlllohmoojiaagreatdoor", sum := "c5dd0fb0c21dc572f73f5c02e10e0b639e477f3b43ab986c31476d1ac8105643", checked := Tryz.checked }
namespace Rows
def none {H : Type} : Left H := { results := [], args := [] }

/- WHAT THE LISTED PACKAGE-LEVEL VARIABLES READ AS WHEN THE CALL BEGINS. Each datum BY PROGRAM (the guide's laid-datum.mjs) off the statement by which the dump's own 'gosem.cut.vars' lays the variable. In a bare row this is a premise. The card (YtohlllohmoojiaaGreatDoorCards.lean) ties it to the program's text. -/
def laid_weald_crc_halves {H : Type} : DataW H := .agg [.lit (.int .u32 0), .lit (.int .u32 498536548), .lit (.int .u32 997073096), .lit (.int .u32 651767980), .lit (.int .u32 1994146192), .lit (.int .u32 1802195444), .lit (.int .u32 1303535960), .lit (.int .u32 1342533948), .lit (.int .u32 3988292384), .lit (.int .u32 4027552580), .lit (.int .u32 3604390888), .lit (.int .u32 3412177804), .lit (.int .u32 2607071920), .lit (.int .u32 2262029012), .lit (.int .u32 2685067896), .lit (.int .u32 3183342108)]

/-- 'wealdlaw15.ListNext': WHATEVER THE INPUT: true; the input reads as it did. -/
def listNextSpec : ChangeSpec := { name := "listNext", fn := fun _ => fun
  | [d] => { results := [.lit (.bool true)], args := [d] }
  | _ => none }
def listNextRow : OpenClaim := { program := "ytohlllohmoojiaagreatdoor", sum := "c5dd0fb0c21dc572f73f5c02e10e0b639e477f3b43ab986c31476d1ac8105643", func := "weald/wealdlaw15.ListNext", spec := "listNext", inPlace := ["slices.overlaps[*uint64]"], unfollowed := true, recurses := true, named := ["weald/crc.halves"], apart := false, laid := [("weald/crc.halves", laid_weald_crc_halves)] }
def ListNextSaid : Prop := listNextRow.holds Tryz.pinned (OpenSpec.ofChange listNextSpec)

/-- ITS FALSE NEIGHBOUR: 'it returns false'. Refute it at one input. -/
def listNextWrong : ChangeSpec := { name := "listNext", fn := fun _ => fun
  | [d] => { results := [.lit (.bool false)], args := [d] }
  | _ => none }
def ListNextWrongFalsely : Prop := listNextRow.holds Tryz.pinned (OpenSpec.ofChange listNextWrong)

/-- 'wealdlaw16.VertNext': WHATEVER THE INPUT: true; the input reads as it did. -/
def vertNextSpec : ChangeSpec := { name := "vertNext", fn := fun _ => fun
  | [d] => { results := [.lit (.bool true)], args := [d] }
  | _ => none }
def vertNextRow : OpenClaim := { program := "ytohlllohmoojiaagreatdoor", sum := "c5dd0fb0c21dc572f73f5c02e10e0b639e477f3b43ab986c31476d1ac8105643", func := "weald/wealdlaw16.VertNext", spec := "vertNext", inPlace := ["slices.overlaps[*uint64]"], unfollowed := true, recurses := true, named := ["weald/crc.halves"], apart := false, laid := [("weald/crc.halves", laid_weald_crc_halves)] }
def VertNextSaid : Prop := vertNextRow.holds Tryz.pinned (OpenSpec.ofChange vertNextSpec)

/-- ITS FALSE NEIGHBOUR: 'it returns false'. Refute it at one input. -/
def vertNextWrong : ChangeSpec := { name := "vertNext", fn := fun _ => fun
  | [d] => { results := [.lit (.bool false)], args := [d] }
  | _ => none }
def VertNextWrongFalsely : Prop := vertNextRow.holds Tryz.pinned (OpenSpec.ofChange vertNextWrong)

/-- 'wealdlaw17.EdgeNext': WHATEVER THE INPUT: true; the input reads as it did. -/
def edgeNextSpec : ChangeSpec := { name := "edgeNext", fn := fun _ => fun
  | [d] => { results := [.lit (.bool true)], args := [d] }
  | _ => none }
def edgeNextRow : OpenClaim := { program := "ytohlllohmoojiaagreatdoor", sum := "c5dd0fb0c21dc572f73f5c02e10e0b639e477f3b43ab986c31476d1ac8105643", func := "weald/wealdlaw17.EdgeNext", spec := "edgeNext", inPlace := ["slices.overlaps[*uint64]"], unfollowed := true, recurses := true, named := ["weald/crc.halves"], apart := false, laid := [("weald/crc.halves", laid_weald_crc_halves)] }
def EdgeNextSaid : Prop := edgeNextRow.holds Tryz.pinned (OpenSpec.ofChange edgeNextSpec)

/-- ITS FALSE NEIGHBOUR: 'it returns false'. Refute it at one input. -/
def edgeNextWrong : ChangeSpec := { name := "edgeNext", fn := fun _ => fun
  | [d] => { results := [.lit (.bool false)], args := [d] }
  | _ => none }
def EdgeNextWrongFalsely : Prop := edgeNextRow.holds Tryz.pinned (OpenSpec.ofChange edgeNextWrong)

/-- 'wealdlaw18.NearNext': WHATEVER THE INPUT: true; the input reads as it did. -/
def nearNextSpec : ChangeSpec := { name := "nearNext", fn := fun _ => fun
  | [d] => { results := [.lit (.bool true)], args := [d] }
  | _ => none }
def nearNextRow : OpenClaim := { program := "ytohlllohmoojiaagreatdoor", sum := "c5dd0fb0c21dc572f73f5c02e10e0b639e477f3b43ab986c31476d1ac8105643", func := "weald/wealdlaw18.NearNext", spec := "nearNext", inPlace := ["slices.overlaps[*uint64]"], unfollowed := true, recurses := true, named := ["weald/crc.halves"], apart := false, laid := [("weald/crc.halves", laid_weald_crc_halves)] }
def NearNextSaid : Prop := nearNextRow.holds Tryz.pinned (OpenSpec.ofChange nearNextSpec)

/-- ITS FALSE NEIGHBOUR: 'it returns false'. Refute it at one input. -/
def nearNextWrong : ChangeSpec := { name := "nearNext", fn := fun _ => fun
  | [d] => { results := [.lit (.bool false)], args := [d] }
  | _ => none }
def NearNextWrongFalsely : Prop := nearNextRow.holds Tryz.pinned (OpenSpec.ofChange nearNextWrong)

/- THE SECOND FORM. 'bulk': how many values and letters a reading holds, each counted each time it is reached (what is shared counts as often as it is met; a slice's spare places count too). A statement '..UptoSaid' is the law's where the arguments, and the package variables that the reading takes, are together of bulk at most 1048576: NARROWER than '..Said'. Prove '..Said' where nothing that the law and all that it calls make is longer than what came in: it says more and counts as full. Else prove '..UptoSaid'. A law counts once. -/
mutual
def uptoBulk {H : Type} : DataW H → Nat
  | .lit (.string bytes) => bytes.length + 1
  | .lit _ => 1
  | .nil => 1
  | .ptr d => uptoBulk d + 1
  | .slice elems spare => uptoBulkAll elems + uptoBulkAll spare + 1
  | .agg parts => uptoBulkAll parts + 1
  | .iface _ d => uptoBulk d + 1
  | .map entries => uptoBulkEntries entries + 1
  | .held _ => 1
def uptoBulkAll {H : Type} : List (DataW H) → Nat
  | [] => 0
  | d :: r => uptoBulk d + uptoBulkAll r
def uptoBulkEntries {H : Type} : List (Lit × DataW H) → Nat
  | [] => 0
  | x :: r => uptoBulkEntry x + uptoBulkEntries r
def uptoBulkEntry {H : Type} : Lit × DataW H → Nat
  | (.string bytes, d) => bytes.length + uptoBulk d + 1
  | (_, d) => uptoBulk d + 1
 end
def uptoSmall : (H : Type) → List (DataW H) → Bool := fun _ ds => decide (uptoBulkAll ds ≤ 1048576)
def OpenSpec.upto (s : _root_.Go.ChangeSpec) : _root_.Go.OpenSpec := { _root_.Go.OpenSpec.ofChange s with cond := some uptoSmall }

/-- 'wealdlaw15.ListNext', WHERE WHAT IT READS IS OF BULK AT MOST 1048576: true; the input reads as it did. -/
def listNextUptoRow : OpenClaim := { program := "ytohlllohmoojiaagreatdoor", sum := "c5dd0fb0c21dc572f73f5c02e10e0b639e477f3b43ab986c31476d1ac8105643", func := "weald/wealdlaw15.ListNext", spec := "listNext", inPlace := ["slices.overlaps[*uint64]"], unfollowed := true, recurses := true, named := ["weald/crc.halves"], apart := false, laid := [("weald/crc.halves", laid_weald_crc_halves)], narrowed := true }
def ListNextUptoSaid : Prop := listNextUptoRow.holds Tryz.pinned (OpenSpec.upto listNextSpec)

/-- 'wealdlaw16.VertNext', WHERE WHAT IT READS IS OF BULK AT MOST 1048576: true; the input reads as it did. -/
def vertNextUptoRow : OpenClaim := { program := "ytohlllohmoojiaagreatdoor", sum := "c5dd0fb0c21dc572f73f5c02e10e0b639e477f3b43ab986c31476d1ac8105643", func := "weald/wealdlaw16.VertNext", spec := "vertNext", inPlace := ["slices.overlaps[*uint64]"], unfollowed := true, recurses := true, named := ["weald/crc.halves"], apart := false, laid := [("weald/crc.halves", laid_weald_crc_halves)], narrowed := true }
def VertNextUptoSaid : Prop := vertNextUptoRow.holds Tryz.pinned (OpenSpec.upto vertNextSpec)

/-- 'wealdlaw17.EdgeNext', WHERE WHAT IT READS IS OF BULK AT MOST 1048576: true; the input reads as it did. -/
def edgeNextUptoRow : OpenClaim := { program := "ytohlllohmoojiaagreatdoor", sum := "c5dd0fb0c21dc572f73f5c02e10e0b639e477f3b43ab986c31476d1ac8105643", func := "weald/wealdlaw17.EdgeNext", spec := "edgeNext", inPlace := ["slices.overlaps[*uint64]"], unfollowed := true, recurses := true, named := ["weald/crc.halves"], apart := false, laid := [("weald/crc.halves", laid_weald_crc_halves)], narrowed := true }
def EdgeNextUptoSaid : Prop := edgeNextUptoRow.holds Tryz.pinned (OpenSpec.upto edgeNextSpec)

/-- 'wealdlaw18.NearNext', WHERE WHAT IT READS IS OF BULK AT MOST 1048576: true; the input reads as it did. -/
def nearNextUptoRow : OpenClaim := { program := "ytohlllohmoojiaagreatdoor", sum := "c5dd0fb0c21dc572f73f5c02e10e0b639e477f3b43ab986c31476d1ac8105643", func := "weald/wealdlaw18.NearNext", spec := "nearNext", inPlace := ["slices.overlaps[*uint64]"], unfollowed := true, recurses := true, named := ["weald/crc.halves"], apart := false, laid := [("weald/crc.halves", laid_weald_crc_halves)], narrowed := true }
def NearNextUptoSaid : Prop := nearNextUptoRow.holds Tryz.pinned (OpenSpec.upto nearNextSpec)

end Rows
end Go.Proofs.YtohlllohmoojiaaGreatDoor
