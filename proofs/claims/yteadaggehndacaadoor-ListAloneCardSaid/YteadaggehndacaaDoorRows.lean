/-
  NARROWER THAN 'FOR EVERY INPUT', by the rows' own cells (each row's printed sentence says how): ListAlone: laid · ListSwept: laid · ListSeeks: laid · ListDirect: laid.
  DERIVED. THE GIVEN ROWS OF THIS SEAT. 4 by the template 'for every input the law returns true; each argument reads behind the call as it read before'; 0 by the template 'total and deterministic' (their statements: YteadaggehndacaaDoorTotals.lean).
  GIVEN WITH THE SEED: the statements are not yours to turn. If you find one false, say at which input.
  Laid BY PROGRAM, IN A SANDBOX (cutbox-rows.mjs): the forced cells as the released guide's own fill.sh prints them over the translation 81a85bfafae50c9a… (all of the seat's roots in one cut). By AI agents, Wed Nov 11 2026. No macro, syntax, notation, axiom, sorry.
-/
import Derived.Test.YteadaggehndacaaDoorChecked
import GoSem.Claim
import GoSem.ClaimJoined
import GoSem.ClaimMapViews
import Derived.JoinedTies
import Derived.KernelRfl
namespace Go.Proofs.YteadaggehndacaaDoor
/- THE CELL 'sum', in the pinned program and in every row, IS THE sha256 OF THE DUMP (.gsa) THAT YteadaggehndacaaDoorProg.lean LOADS. Nothing in Lean hashes anything: it is a label: what it is worth is what the hold of that sum in a sandbox is worth. -/
noncomputable def Tryd.pinned : Pinned := { name := "yteadaggehndacaadoor", sum := "81a85bfafae50c9a0671de1a95368728b42e099ed7e3e10a89978fe552631d77", checked := Tryd.checked }
namespace Rows
def none {H : Type} : Left H := { results := [], args := [] }

/- WHAT THE LISTED PACKAGE-LEVEL VARIABLES READ AS WHEN THE CALL BEGINS. Each datum BY PROGRAM (the guide's laid-datum.mjs) off the statement by which the dump's own 'gosem.cut.vars' lays the variable. In a bare row this is a premise. The card (YteadaggehndacaaDoorCards.lean) ties it to the program's text. -/
def laid_weald_crc_halves {H : Type} : DataW H := .agg [.lit (.int .u32 0), .lit (.int .u32 498536548), .lit (.int .u32 997073096), .lit (.int .u32 651767980), .lit (.int .u32 1994146192), .lit (.int .u32 1802195444), .lit (.int .u32 1303535960), .lit (.int .u32 1342533948), .lit (.int .u32 3988292384), .lit (.int .u32 4027552580), .lit (.int .u32 3604390888), .lit (.int .u32 3412177804), .lit (.int .u32 2607071920), .lit (.int .u32 2262029012), .lit (.int .u32 2685067896), .lit (.int .u32 3183342108)]

/-- 'wealdlaw15.ListAlone': WHATEVER THE INPUT: true; the input reads as it did. -/
def listAloneSpec : ChangeSpec := { name := "listAlone", fn := fun _ => fun
  | [d] => { results := [.lit (.bool true)], args := [d] }
  | _ => none }
def listAloneRow : OpenClaim := { program := "yteadaggehndacaadoor", sum := "81a85bfafae50c9a0671de1a95368728b42e099ed7e3e10a89978fe552631d77", func := "weald/wealdlaw15.ListAlone", spec := "listAlone", inPlace := ["slices.overlaps[*uint64]"], unfollowed := true, recurses := true, named := ["weald/crc.halves"], apart := false, laid := [("weald/crc.halves", laid_weald_crc_halves)] }
def ListAloneSaid : Prop := listAloneRow.holds Tryd.pinned (OpenSpec.ofChange listAloneSpec)

/-- ITS FALSE NEIGHBOUR: 'it returns false'. Refute it at one input. -/
def listAloneWrong : ChangeSpec := { name := "listAlone", fn := fun _ => fun
  | [d] => { results := [.lit (.bool false)], args := [d] }
  | _ => none }
def ListAloneWrongFalsely : Prop := listAloneRow.holds Tryd.pinned (OpenSpec.ofChange listAloneWrong)

/-- 'wealdlaw15.ListSwept': WHATEVER THE INPUT: true; the input reads as it did. -/
def listSweptSpec : ChangeSpec := { name := "listSwept", fn := fun _ => fun
  | [d1, d2, d3] => { results := [.lit (.bool true)], args := [d1, d2, d3] }
  | _ => none }
def listSweptRow : OpenClaim := { program := "yteadaggehndacaadoor", sum := "81a85bfafae50c9a0671de1a95368728b42e099ed7e3e10a89978fe552631d77", func := "weald/wealdlaw15.ListSwept", spec := "listSwept", inPlace := ["slices.overlaps[*uint64]"], unfollowed := true, recurses := true, named := ["weald/crc.halves"], apart := false, laid := [("weald/crc.halves", laid_weald_crc_halves)] }
def ListSweptSaid : Prop := listSweptRow.holds Tryd.pinned (OpenSpec.ofChange listSweptSpec)

/-- ITS FALSE NEIGHBOUR: 'it returns false'. Refute it at one input. -/
def listSweptWrong : ChangeSpec := { name := "listSwept", fn := fun _ => fun
  | [d1, d2, d3] => { results := [.lit (.bool false)], args := [d1, d2, d3] }
  | _ => none }
def ListSweptWrongFalsely : Prop := listSweptRow.holds Tryd.pinned (OpenSpec.ofChange listSweptWrong)

/-- 'wealdlaw15.ListSeeks': WHATEVER THE INPUT: true; the input reads as it did. -/
def listSeeksSpec : ChangeSpec := { name := "listSeeks", fn := fun _ => fun
  | [d1, d2, d3] => { results := [.lit (.bool true)], args := [d1, d2, d3] }
  | _ => none }
def listSeeksRow : OpenClaim := { program := "yteadaggehndacaadoor", sum := "81a85bfafae50c9a0671de1a95368728b42e099ed7e3e10a89978fe552631d77", func := "weald/wealdlaw15.ListSeeks", spec := "listSeeks", inPlace := ["slices.overlaps[*uint64]"], unfollowed := true, recurses := true, named := ["weald/crc.halves"], apart := false, laid := [("weald/crc.halves", laid_weald_crc_halves)] }
def ListSeeksSaid : Prop := listSeeksRow.holds Tryd.pinned (OpenSpec.ofChange listSeeksSpec)

/-- ITS FALSE NEIGHBOUR: 'it returns false'. Refute it at one input. -/
def listSeeksWrong : ChangeSpec := { name := "listSeeks", fn := fun _ => fun
  | [d1, d2, d3] => { results := [.lit (.bool false)], args := [d1, d2, d3] }
  | _ => none }
def ListSeeksWrongFalsely : Prop := listSeeksRow.holds Tryd.pinned (OpenSpec.ofChange listSeeksWrong)

/-- 'wealdlaw15.ListDirect': WHATEVER THE INPUT: true; the input reads as it did. -/
def listDirectSpec : ChangeSpec := { name := "listDirect", fn := fun _ => fun
  | [d1, d2] => { results := [.lit (.bool true)], args := [d1, d2] }
  | _ => none }
def listDirectRow : OpenClaim := { program := "yteadaggehndacaadoor", sum := "81a85bfafae50c9a0671de1a95368728b42e099ed7e3e10a89978fe552631d77", func := "weald/wealdlaw15.ListDirect", spec := "listDirect", inPlace := ["slices.overlaps[*uint64]"], unfollowed := true, recurses := true, named := ["weald/crc.halves"], apart := false, laid := [("weald/crc.halves", laid_weald_crc_halves)] }
def ListDirectSaid : Prop := listDirectRow.holds Tryd.pinned (OpenSpec.ofChange listDirectSpec)

/-- ITS FALSE NEIGHBOUR: 'it returns false'. Refute it at one input. -/
def listDirectWrong : ChangeSpec := { name := "listDirect", fn := fun _ => fun
  | [d1, d2] => { results := [.lit (.bool false)], args := [d1, d2] }
  | _ => none }
def ListDirectWrongFalsely : Prop := listDirectRow.holds Tryd.pinned (OpenSpec.ofChange listDirectWrong)

/- THE SECOND FORM. 'bulk': how many values and letters a reading holds, each counted each time it is reached (what is shared counts as often as it is met; a slice's spare places count too). A statement '..UptoSaid' is the law's where the arguments, and the package variables that the reading takes, are together of bulk at most 1048576: NARROWER than '..Said'. Prove '..Said' where nothing that the law and all that it calls make is longer than what came in: it says more and counts as full. Else prove '..UptoSaid'. A law counts once. -/
mutual
def uptoBulk {H : Type} : DataW H → Nat
  | .lit (.string bytes) => bytes.length + 1
  | .lit _ => 1
  | .nil => 1
  | .ptr d => uptoBulk d + 1
  | .slice elems spare => uptoBulkAll elems + uptoBulkAll spare + 1
  | .agg parts => uptoBulkAll parts + 1
  | .iface _ d => uptoBulk d + 1
  | .map entries => uptoBulkEntries entries + 1
  | .held _ => 1
def uptoBulkAll {H : Type} : List (DataW H) → Nat
  | [] => 0
  | d :: r => uptoBulk d + uptoBulkAll r
def uptoBulkEntries {H : Type} : List (Lit × DataW H) → Nat
  | [] => 0
  | x :: r => uptoBulkEntry x + uptoBulkEntries r
def uptoBulkEntry {H : Type} : Lit × DataW H → Nat
  | (.string bytes, d) => bytes.length + uptoBulk d + 1
  | (_, d) => uptoBulk d + 1
 end
def uptoSmall : (H : Type) → List (DataW H) → Bool := fun _ ds => decide (uptoBulkAll ds ≤ 1048576)
def OpenSpec.upto (s : _root_.Go.ChangeSpec) : _root_.Go.OpenSpec := { _root_.Go.OpenSpec.ofChange s with cond := some uptoSmall }

/-- 'wealdlaw15.ListAlone', WHERE WHAT IT READS IS OF BULK AT MOST 1048576: true; the input reads as it did. -/
def listAloneUptoRow : OpenClaim := { program := "yteadaggehndacaadoor", sum := "81a85bfafae50c9a0671de1a95368728b42e099ed7e3e10a89978fe552631d77", func := "weald/wealdlaw15.ListAlone", spec := "listAlone", inPlace := ["slices.overlaps[*uint64]"], unfollowed := true, recurses := true, named := ["weald/crc.halves"], apart := false, laid := [("weald/crc.halves", laid_weald_crc_halves)], narrowed := true }
def ListAloneUptoSaid : Prop := listAloneUptoRow.holds Tryd.pinned (OpenSpec.upto listAloneSpec)

/-- 'wealdlaw15.ListSwept', WHERE WHAT IT READS IS OF BULK AT MOST 1048576: true; the input reads as it did. -/
def listSweptUptoRow : OpenClaim := { program := "yteadaggehndacaadoor", sum := "81a85bfafae50c9a0671de1a95368728b42e099ed7e3e10a89978fe552631d77", func := "weald/wealdlaw15.ListSwept", spec := "listSwept", inPlace := ["slices.overlaps[*uint64]"], unfollowed := true, recurses := true, named := ["weald/crc.halves"], apart := false, laid := [("weald/crc.halves", laid_weald_crc_halves)], narrowed := true }
def ListSweptUptoSaid : Prop := listSweptUptoRow.holds Tryd.pinned (OpenSpec.upto listSweptSpec)

/-- 'wealdlaw15.ListSeeks', WHERE WHAT IT READS IS OF BULK AT MOST 1048576: true; the input reads as it did. -/
def listSeeksUptoRow : OpenClaim := { program := "yteadaggehndacaadoor", sum := "81a85bfafae50c9a0671de1a95368728b42e099ed7e3e10a89978fe552631d77", func := "weald/wealdlaw15.ListSeeks", spec := "listSeeks", inPlace := ["slices.overlaps[*uint64]"], unfollowed := true, recurses := true, named := ["weald/crc.halves"], apart := false, laid := [("weald/crc.halves", laid_weald_crc_halves)], narrowed := true }
def ListSeeksUptoSaid : Prop := listSeeksUptoRow.holds Tryd.pinned (OpenSpec.upto listSeeksSpec)

/-- 'wealdlaw15.ListDirect', WHERE WHAT IT READS IS OF BULK AT MOST 1048576: true; the input reads as it did. -/
def listDirectUptoRow : OpenClaim := { program := "yteadaggehndacaadoor", sum := "81a85bfafae50c9a0671de1a95368728b42e099ed7e3e10a89978fe552631d77", func := "weald/wealdlaw15.ListDirect", spec := "listDirect", inPlace := ["slices.overlaps[*uint64]"], unfollowed := true, recurses := true, named := ["weald/crc.halves"], apart := false, laid := [("weald/crc.halves", laid_weald_crc_halves)], narrowed := true }
def ListDirectUptoSaid : Prop := listDirectUptoRow.holds Tryd.pinned (OpenSpec.upto listDirectSpec)

end Rows
end Go.Proofs.YteadaggehndacaaDoor
