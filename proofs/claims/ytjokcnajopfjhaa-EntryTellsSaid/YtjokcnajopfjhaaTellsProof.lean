/- For every entry and all bytes EntryTells returns true, and leaves its arguments as they were: Rows.EntryTellsSaid. Conditions: none beyond the given statement's own. -/
import Derived.Test.YtjokcnajopfjhaaRows
import Derived.Test.YtjokcnajopfjhaaTells
import Derived.Test.YtjokcnajopfjhaaArgs
import Derived.ProofKit
import Derived.OpenShut
import Derived.Below
namespace Go.Proofs.Ytjokcnajopfjhaa
open Go Go.RowKit Go.ChangeShapes Go.WideShapes Go.ChangeAt
set_option linter.unusedVariables false

theorem ownT : ownKnob Try.prog.godebug = none := by kernel_rfl
theorem laidOutT : laidOutB Try.prog = true := by kernel_rfl

theorem arg_entry {H : Type} {enc : TypeId × Value → H} {W : World} {v : Value} {d : DataW H} {p : List MemPlace} (hv : Value.okWide Try.prog W .any 0 24 v) (h : DataW.Trod enc Try.prog W 0 (fun _ => true) true 24 v d p) :
    ∃ k s y u v' x, Rep NoM W (entV k s y u v' x) v ∧ (-9223372036854775808 ≤ k ∧ k ≤ 9223372036854775807) ∧ U64 s ∧ U64 y ∧ U64 u ∧ U64 v' ∧ U64 x := by
  obtain ⟨l, rfl, hl, hw⟩ := arg_ints (ks := [.i64, .u64, .u64, .u64, .u64, .u64]) Try.underlying24 (by kernel_rfl) (by kernel_rfl) hv h
  match l, hl with
  | [(k0, n0), (k1, n1), (k2, n2), (k3, n3), (k4, n4), (k5, n5)], hl =>
    simp only [List.map_cons, List.map_nil, List.cons.injEq, and_true] at hl
    obtain ⟨rfl, rfl, rfl, rfl, rfl, rfl⟩ := hl
    exact ⟨n0, n1, n2, n3, n4, n5, rep_aggP [(.i64, n0), (.u64, n1), (.u64, n2), (.u64, n3), (.u64, n4), (.u64, n5)], wf_i64 (hw (.i64, n0) (by simp)), wf_u64 (hw (.u64, n1) (by simp)), wf_u64 (hw (.u64, n2) (by simp)), wf_u64 (hw (.u64, n3) (by simp)), wf_u64 (hw (.u64, n4) (by simp)), wf_u64 (hw (.u64, n5) (by simp))⟩

set_option maxRecDepth 100000 in
theorem tells_lifted (os : Os) (started : os.Started) (H : Type) (enc : TypeId × Value → H) :
    ReturnsInHanded {} Try.checked os 3 .any (Rows.entryTellsSpec.pre6 enc Try.prog Try.f3 Rows.entryTellsRow.domain false) (Rows.entryTellsSpec.post enc Try.prog Try.f3 false true false false) := by
  refine returnsInHanded_of_change (C := Try.checked) ownT started (by kernel_rfl) Try.func3
    (ChangeSpec.witness6 (enc := enc) (C := Try.checked) false ⟨#[], #[.agg #[.int .i64 0, .int .u64 0, .int .u64 0, .int .u64 0, .int .u64 0, .int .u64 0], .slice none 0 0], []⟩ 8 (by kernel_rfl) (by kernel_rfl) (by kernel_rfl) (by kernel_rfl)) ?_
  intro W base args ds gs before hval0 hW hcnd _
  have hval : ∀ (j : Nat) t v, Try.f3.params[j]? = some t → args[j]? = some v → Value.okWide Try.prog W .any base t v := hval0
  have hW' := hW
  obtain ⟨p, q, hA0, hV, rfl, hfz, hnd⟩ := hW
  have hA : DataW.TrodAll enc Try.prog W 0 (fun _ => true) true Try.f3.params.toList args.toList ds p := hA0
  rw [Try.params3] at hA hval
  obtain ⟨v0, vs0, d0, ds0, p0, q0, hargs, rfl, rfl, h0, r0⟩ := trodAll_cons hA
  obtain ⟨v1, vs1, d1, ds1, p1, q1, rfl, rfl, rfl, h1, r1⟩ := trodAll_cons r0
  obtain ⟨rfl, rfl, rfl⟩ := trodAll_nil r1
  obtain rfl : args = #[v0, v1] := by cases args; simp_all
  obtain ⟨rfl, rfl⟩ := trodVars_none hV
  have lt0 : ∀ x ∈ p0, x.block < W.heap.size := by obtain ⟨m, hm⟩ := h0; exact DataW.trod_lt m _ _ _ hm
  have lt1 : ∀ x ∈ p1, x.block < W.heap.size := by obtain ⟨m, hm⟩ := h1; exact DataW.trod_lt m _ _ _ hm
  obtain ⟨k, s, y, u, v, x, e0, hk, hs, hy, hu, hv, hx⟩ := arg_entry (hval 0 24 v0 rfl rfl) h0
  obtain ⟨bs, e1, hb, hbl⟩ := arg_bytes Try.underlying25 Try.underlying5 (by kernel_rfl) (hval 1 25 v1 rfl rfl) h1
  clear hA0 hval0
  refine ((tells_fn k s y u v x bs hs hy hu hv hx (Nat.le_trans hbl (by decide)) hb).law (vs := [v0, v1]) rfl (reps2 e0 e1)).mono fun e W' ⟨he, bel⟩ => ?_
  subst he
  exact ⟨_, rfl, _, _, _, [], _, [], hW', trodAll_mk1 (shut_bool Try.underlying4 _), (trodAll_cons_mk (Below.trod laidOutT (by kernel_rfl) (of_decide_eq_true (by kernel_rfl)) h0 bel lt0) (trodAll_cons_mk (Below.trod laidOutT (by kernel_rfl) (of_decide_eq_true (by kernel_rfl)) h1 bel lt1) trodAll_mk0)), rfl, bel.frame _, fun h => by cases h⟩

theorem tells_holds : Rows.EntryTellsSaid :=
  OpenClaim.holds_of_wide 3 Try.f3 rfl rfl rfl rfl rfl rfl rfl ⟨rfl, rfl, rfl, rfl, rfl⟩ rfl rfl rfl rfl rfl (by kernel_rfl) Try.func3 (by kernel_rfl)
    (of_decide_eq_true (by kernel_rfl)) (by unfold Func.isWrapper; first | (rw [if_pos (by decide +kernel)]; kernel_rfl) | (rw [if_neg (by decide +kernel)]; exact ⟨rfl, rfl⟩))
    (fun os started H enc _ => tells_lifted os started H enc)
#print axioms tells_holds

end Go.Proofs.Ytjokcnajopfjhaa
