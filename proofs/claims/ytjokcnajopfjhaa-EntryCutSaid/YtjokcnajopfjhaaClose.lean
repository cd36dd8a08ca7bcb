/- The seat's closed facts, and an entry that comes in. -/
import Derived.Test.YtjokcnajopfjhaaRows
import Derived.Test.YtjokcnajopfjhaaTells
import Derived.Test.YtjokcnajopfjhaaArgs
import Derived.ProofKit
import Derived.OpenShut
import Derived.Below
namespace Go.Proofs.Ytjokcnajopfjhaa
open Go Go.RowKit Go.ChangeShapes Go.WideShapes Go.ChangeAt
set_option linter.unusedVariables false

theorem ownT : ownKnob Try.prog.godebug = none := by kernel_rfl
theorem laidOutT : laidOutB Try.prog = true := by kernel_rfl

theorem arg_entry {H : Type} {enc : TypeId × Value → H} {W : World} {v : Value} {d : DataW H} {p : List MemPlace} (hv : Value.okWide Try.prog W .any 0 24 v) (h : DataW.Trod enc Try.prog W 0 (fun _ => true) true 24 v d p) :
    ∃ k s y u v' x, Rep NoM W (entV k s y u v' x) v ∧ (-9223372036854775808 ≤ k ∧ k ≤ 9223372036854775807) ∧ U64 s ∧ U64 y ∧ U64 u ∧ U64 v' ∧ U64 x := by
  obtain ⟨l, rfl, hl, hw⟩ := arg_ints (ks := [.i64, .u64, .u64, .u64, .u64, .u64]) Try.underlying24 (by kernel_rfl) (by kernel_rfl) hv h
  match l, hl with
  | [(k0, n0), (k1, n1), (k2, n2), (k3, n3), (k4, n4), (k5, n5)], hl =>
    simp only [List.map_cons, List.map_nil, List.cons.injEq, and_true] at hl
    obtain ⟨rfl, rfl, rfl, rfl, rfl, rfl⟩ := hl
    exact ⟨n0, n1, n2, n3, n4, n5, rep_aggP [(.i64, n0), (.u64, n1), (.u64, n2), (.u64, n3), (.u64, n4), (.u64, n5)], wf_i64 (hw (.i64, n0) (by simp)), wf_u64 (hw (.u64, n1) (by simp)), wf_u64 (hw (.u64, n2) (by simp)), wf_u64 (hw (.u64, n3) (by simp)), wf_u64 (hw (.u64, n4) (by simp)), wf_u64 (hw (.u64, n5) (by simp))⟩

end Go.Proofs.Ytjokcnajopfjhaa
