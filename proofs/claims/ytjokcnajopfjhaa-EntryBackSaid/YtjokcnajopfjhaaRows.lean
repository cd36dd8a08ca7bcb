/-
  No cell of these rows narrows 'for every input' (looked for: loops, veiled, ifaces, maps, wideKeys, modest, calm, conditions, laid).
  DERIVED. THE GIVEN ROWS OF THIS SEAT. 4 by the template 'for every input the law returns true; each argument reads behind the call as it read before'; 0 by the template 'total and deterministic' (their statements: YtjokcnajopfjhaaTotals.lean).
  GIVEN WITH THE SEED: the statements are not yours to turn. If you find one false, say at which input.
  Laid BY PROGRAM, IN A SANDBOX (cutbox-rows.mjs): the forced cells as the released guide's own fill.sh prints them over the translation 340f45b72a413e2b… (all of the seat's roots in one cut). By AI agents, Wed Nov 11 2026. No macro, syntax, notation, axiom, sorry.
-/
import Derived.Test.YtjokcnajopfjhaaChecked
import GoSem.Claim
import GoSem.ClaimJoined
import GoSem.ClaimMapViews
import Derived.JoinedTies
import Derived.KernelRfl
namespace Go.Proofs.Ytjokcnajopfjhaa
/- THE CELL 'sum', in the pinned program and in every row, IS THE sha256 OF THE DUMP (.gsa) THAT YtjokcnajopfjhaaProg.lean LOADS. Nothing in Lean hashes anything: it is a label: what it is worth is what the hold of that sum in a sandbox is worth. -/
noncomputable def Try.pinned : Pinned := { name := "ytjokcnajopfjhaa", sum := "340f45b72a413e2b9d9ce777dad2a3986c3077e2bfbf6dc63f6c8d6e19ca1df2", checked := Try.checked }
namespace Rows
def none {H : Type} : Left H := { results := [], args := [] }

/-- 'wealdlaw05.EntryTells': WHATEVER THE INPUT: true; the input reads as it did. -/
def entryTellsSpec : ChangeSpec := { name := "entryTells", fn := fun _ => fun
  | [d1, d2] => { results := [.lit (.bool true)], args := [d1, d2] }
  | _ => none }
def entryTellsRow : OpenClaim := { program := "ytjokcnajopfjhaa", sum := "340f45b72a413e2b9d9ce777dad2a3986c3077e2bfbf6dc63f6c8d6e19ca1df2", func := "weald/wealdlaw05.EntryTells", spec := "entryTells", inPlace := ["slices.overlaps[*uint64]"], apart := false }
def EntryTellsSaid : Prop := entryTellsRow.holds Try.pinned (OpenSpec.ofChange entryTellsSpec)

/-- ITS FALSE NEIGHBOUR: 'it returns false'. Refute it at one input. -/
def entryTellsWrong : ChangeSpec := { name := "entryTells", fn := fun _ => fun
  | [d1, d2] => { results := [.lit (.bool false)], args := [d1, d2] }
  | _ => none }
def EntryTellsWrongFalsely : Prop := entryTellsRow.holds Try.pinned (OpenSpec.ofChange entryTellsWrong)

/-- 'wealdlaw05.EntryBack': WHATEVER THE INPUT: true; the input reads as it did. -/
def entryBackSpec : ChangeSpec := { name := "entryBack", fn := fun _ => fun
  | [d1, d2] => { results := [.lit (.bool true)], args := [d1, d2] }
  | _ => none }
def entryBackRow : OpenClaim := { program := "ytjokcnajopfjhaa", sum := "340f45b72a413e2b9d9ce777dad2a3986c3077e2bfbf6dc63f6c8d6e19ca1df2", func := "weald/wealdlaw05.EntryBack", spec := "entryBack", inPlace := ["slices.overlaps[*uint64]"], apart := false }
def EntryBackSaid : Prop := entryBackRow.holds Try.pinned (OpenSpec.ofChange entryBackSpec)

/-- ITS FALSE NEIGHBOUR: 'it returns false'. Refute it at one input. -/
def entryBackWrong : ChangeSpec := { name := "entryBack", fn := fun _ => fun
  | [d1, d2] => { results := [.lit (.bool false)], args := [d1, d2] }
  | _ => none }
def EntryBackWrongFalsely : Prop := entryBackRow.holds Try.pinned (OpenSpec.ofChange entryBackWrong)

/-- 'wealdlaw05.EntryCut': WHATEVER THE INPUT: true; the input reads as it did. -/
def entryCutSpec : ChangeSpec := { name := "entryCut", fn := fun _ => fun
  | [d1, d2, d3] => { results := [.lit (.bool true)], args := [d1, d2, d3] }
  | _ => none }
def entryCutRow : OpenClaim := { program := "ytjokcnajopfjhaa", sum := "340f45b72a413e2b9d9ce777dad2a3986c3077e2bfbf6dc63f6c8d6e19ca1df2", func := "weald/wealdlaw05.EntryCut", spec := "entryCut", inPlace := ["slices.overlaps[*uint64]"], apart := false }
def EntryCutSaid : Prop := entryCutRow.holds Try.pinned (OpenSpec.ofChange entryCutSpec)

/-- ITS FALSE NEIGHBOUR: 'it returns false'. Refute it at one input. -/
def entryCutWrong : ChangeSpec := { name := "entryCut", fn := fun _ => fun
  | [d1, d2, d3] => { results := [.lit (.bool false)], args := [d1, d2, d3] }
  | _ => none }
def EntryCutWrongFalsely : Prop := entryCutRow.holds Try.pinned (OpenSpec.ofChange entryCutWrong)

/-- 'wealdlaw05.EntryApart': WHATEVER THE INPUT: true; the input reads as it did. -/
def entryApartSpec : ChangeSpec := { name := "entryApart", fn := fun _ => fun
  | [d1, d2] => { results := [.lit (.bool true)], args := [d1, d2] }
  | _ => none }
def entryApartRow : OpenClaim := { program := "ytjokcnajopfjhaa", sum := "340f45b72a413e2b9d9ce777dad2a3986c3077e2bfbf6dc63f6c8d6e19ca1df2", func := "weald/wealdlaw05.EntryApart", spec := "entryApart", inPlace := ["slices.overlaps[*uint64]"], apart := false }
def EntryApartSaid : Prop := entryApartRow.holds Try.pinned (OpenSpec.ofChange entryApartSpec)

/-- ITS FALSE NEIGHBOUR: 'it returns false'. Refute it at one input. -/
def entryApartWrong : ChangeSpec := { name := "entryApart", fn := fun _ => fun
  | [d1, d2] => { results := [.lit (.bool false)], args := [d1, d2] }
  | _ => none }
def EntryApartWrongFalsely : Prop := entryApartRow.holds Try.pinned (OpenSpec.ofChange entryApartWrong)

/- THE SECOND FORM. 'bulk': how many values and letters a reading holds, each counted each time it is reached (what is shared counts as often as it is met; a slice's spare places count too). A statement '..UptoSaid' is the law's where the arguments, and the package variables that the reading takes, are together of bulk at most 1048576: NARROWER than '..Said'. Prove '..Said' where nothing that the law and all that it calls make is longer than what came in: it says more and counts as full. Else prove '..UptoSaid'. A law counts once. -/
mutual
def uptoBulk {H : Type} : DataW H → Nat
  | .lit (.string bytes) => bytes.length + 1
  | .lit _ => 1
  | .nil => 1
  | .ptr d => uptoBulk d + 1
  | .slice elems spare => uptoBulkAll elems + uptoBulkAll spare + 1
  | .agg parts => uptoBulkAll parts + 1
  | .iface _ d => uptoBulk d + 1
  | .map entries => uptoBulkEntries entries + 1
  | .held _ => 1
def uptoBulkAll {H : Type} : List (DataW H) → Nat
  | [] => 0
  | d :: r => uptoBulk d + uptoBulkAll r
def uptoBulkEntries {H : Type} : List (Lit × DataW H) → Nat
  | [] => 0
  | x :: r => uptoBulkEntry x + uptoBulkEntries r
def uptoBulkEntry {H : Type} : Lit × DataW H → Nat
  | (.string bytes, d) => bytes.length + uptoBulk d + 1
  | (_, d) => uptoBulk d + 1
 end
def uptoSmall : (H : Type) → List (DataW H) → Bool := fun _ ds => decide (uptoBulkAll ds ≤ 1048576)
def OpenSpec.upto (s : _root_.Go.ChangeSpec) : _root_.Go.OpenSpec := { _root_.Go.OpenSpec.ofChange s with cond := some uptoSmall }

/-- 'wealdlaw05.EntryTells', WHERE WHAT IT READS IS OF BULK AT MOST 1048576: true; the input reads as it did. -/
def entryTellsUptoRow : OpenClaim := { program := "ytjokcnajopfjhaa", sum := "340f45b72a413e2b9d9ce777dad2a3986c3077e2bfbf6dc63f6c8d6e19ca1df2", func := "weald/wealdlaw05.EntryTells", spec := "entryTells", inPlace := ["slices.overlaps[*uint64]"], apart := false, narrowed := true }
def EntryTellsUptoSaid : Prop := entryTellsUptoRow.holds Try.pinned (OpenSpec.upto entryTellsSpec)

/-- 'wealdlaw05.EntryBack', WHERE WHAT IT READS IS OF BULK AT MOST 1048576: true; the input reads as it did. -/
def entryBackUptoRow : OpenClaim := { program := "ytjokcnajopfjhaa", sum := "340f45b72a413e2b9d9ce777dad2a3986c3077e2bfbf6dc63f6c8d6e19ca1df2", func := "weald/wealdlaw05.EntryBack", spec := "entryBack", inPlace := ["slices.overlaps[*uint64]"], apart := false, narrowed := true }
def EntryBackUptoSaid : Prop := entryBackUptoRow.holds Try.pinned (OpenSpec.upto entryBackSpec)

/-- 'wealdlaw05.EntryCut', WHERE WHAT IT READS IS OF BULK AT MOST 1048576: true; the input reads as it did. -/
def entryCutUptoRow : OpenClaim := { program := "ytjokcnajopfjhaa", sum := "340f45b72a413e2b9d9ce777dad2a3986c3077e2bfbf6dc63f6c8d6e19ca1df2", func := "weald/wealdlaw05.EntryCut", spec := "entryCut", inPlace := ["slices.overlaps[*uint64]"], apart := false, narrowed := true }
def EntryCutUptoSaid : Prop := entryCutUptoRow.holds Try.pinned (OpenSpec.upto entryCutSpec)

/-- 'wealdlaw05.EntryApart', WHERE WHAT IT READS IS OF BULK AT MOST 1048576: true; the input reads as it did. -/
def entryApartUptoRow : OpenClaim := { program := "ytjokcnajopfjhaa", sum := "340f45b72a413e2b9d9ce777dad2a3986c3077e2bfbf6dc63f6c8d6e19ca1df2", func := "weald/wealdlaw05.EntryApart", spec := "entryApart", inPlace := ["slices.overlaps[*uint64]"], apart := false, narrowed := true }
def EntryApartUptoSaid : Prop := entryApartUptoRow.holds Try.pinned (OpenSpec.upto entryApartSpec)

end Rows
end Go.Proofs.Ytjokcnajopfjhaa
