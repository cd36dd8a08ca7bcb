/- A law's arguments, as they come in, in the walk's own words. Generic over the program. -/
import Derived.Test.YtjokcnajopfjhaaWalk3
import Derived.ProofKit
import Derived.OpenShut
import Derived.Below
import Derived.Deep.Fields
import Derived.Deep.Slices
namespace Go.Proofs.Ytjokcnajopfjhaa
open Go Go.RowKit Go.ChangeShapes Go.WideShapes Go.ChangeAt

section
variable {H : Type} {enc : TypeId × Value → H} {P : Program} {W : World} {base : Nat}

def NoM : Nat → Prop := fun _ => False

theorem has_block {r : Reach} {a : Addr} {e : TypeId} {n : Nat} (h : W.has P r base a e n) : a.spot = none ∧ a.block < W.heap.size := by
  obtain ⟨_, h1, row, cells, h2, _⟩ := h
  refine ⟨h1, ?_⟩
  unfold World.shape? at h2
  cases hb : W.heap[a.block]? with
  | none => rw [hb] at h2; cases h2
  | some o => exact (Array.getElem?_eq_some_iff.1 hb).1

theorem wide_slice {t e : TypeId} {a : Addr} {len cap : Nat} (ht : P.underlying t = some (.slice e)) (h : Value.okWide P W .any base t (.slice (some a) len cap)) : a.spot = none ∧ a.block < W.heap.size ∧ len ≤ cap := by
  simp only [Value.okWide, ht, Cell.okWide, Cell.ok] at h
  exact ⟨(has_block h.2.2).1, (has_block h.2.2).2, h.1⟩

/-- bytes that came in -/
theorem arg_bytes {t e : TypeId} {v : Value} {d : DataW H} {p : List MemPlace} (ht : P.underlying t = some (.slice e)) (he : P.underlying e = some (.int .u8)) (hc : P.cellsOf e = 1) (hv : Value.okWide P W .any base t v)
    (h : DataW.Trod enc P W 0 (fun _ => true) true t v d p) : ∃ bs : List Int, Rep NoM W (.sl (byts bs)) v ∧ (∀ x ∈ bs, 0 ≤ x ∧ x < 256) ∧ bs.length ≤ maxLen := by
  obtain ⟨a, len, cap, rfl⟩ := okWide_slice ht hv
  obtain ⟨fuel, hf⟩ := h
  rcases open_ints ht he hc hf with ⟨hcs, _⟩ | ⟨x, l, c, zs, hcs, _, hl, hm, hz, _, hcell, hwz⟩
  · simp only [Value.cells, List.cons.injEq, and_true, Value.slice.injEq] at hcs
    obtain ⟨rfl, rfl, rfl⟩ := hcs
    exact ⟨[], .nil, (fun x hx => by simp at hx), Nat.zero_le _⟩
  · simp only [Value.cells, List.cons.injEq, and_true, Value.slice.injEq] at hcs
    obtain ⟨rfl, rfl, rfl⟩ := hcs
    obtain ⟨hs, hb, _⟩ := wide_slice ht hv
    obtain ⟨g, off, spot⟩ := x
    simp only at hs hb
    subst hs
    rw [if_pos rfl] at hz
    have hlen : (zs.take len).length = len := by rw [List.length_take]; omega
    have ex : ∀ j, (zs.take len)[j]? = if j < len then zs[j]? else none := fun j => List.getElem?_take
    refine ⟨zs.take len, .sl _ g off len cap ((zs.take len).map (Value.int .u8)) (by rw [byts_len, hlen]) (by rw [byts_flat]; simp [byts]) (fun j y hy => ?_) (fun j cc y hcc hy => ?_) (fun v hv => ?_) (fun h => h) hb hl hm, fun x hx => ?_, by rw [hlen]; omega⟩
    · rw [List.getElem?_map, Option.map_eq_some_iff] at hy
      obtain ⟨n, hn, rfl⟩ := hy
      rw [ex] at hn
      split at hn
      · have hj : j < zs.length := by omega
        have := hcell j hj
        rw [add_lit] at this
        rw [this]
        simp [List.getD, hn]
      · cases hn
    · rw [byts_flat, byts, List.getElem?_map] at hcc
      rw [List.getElem?_map] at hy
      cases hn : (zs.take len)[j]? with
      | none => rw [hn] at hy; cases hy
      | some n =>
        rw [hn] at hy hcc
        simp only [Option.map_some, Option.some.injEq] at hy hcc
        subst hy
        subst hcc
        exact .val _
    · obtain ⟨n, _, rfl⟩ := List.mem_map.1 hv
      rfl
    · have := hwz x (List.mem_of_mem_take hx)
      have := bounds_u8 this
      omega

def kindsOf (P : Program) (fs : Array Field) (ks : List IntKind) : Bool := ks.length == fs.size && (List.range fs.size).all fun i => match fs[i]?, ks[i]? with
  | some f, some k => f.offset == i && P.cellsOf f.type == 1 && (match P.underlying f.type with
    | some (.int k') => k' == k
    | _ => false)
  | _, _ => false
def aggI (l : List (IntKind × Int)) : Value := .agg (l.map fun p => Value.int p.1 p.2).toArray
def aggP (l : List (IntKind × Int)) : PV := .agg (l.map fun p => .val (.int p.1 p.2))

theorem rep_aggP {M : Nat → Prop} (l : List (IntKind × Int)) : Rep M W (aggP l) (aggI l) := by
  refine .agg _ _ (by simp) (fun i c v hc hv => ?_) (fun v hv => ?_)
  · rw [List.getElem?_map] at hc hv
    cases h : l[i]? with
    | none => rw [h] at hc; cases hc
    | some p =>
      rw [h] at hc hv
      simp only [Option.map_some, Option.some.injEq] at hc hv
      subst hc
      subst hv
      exact .val _
  · obtain ⟨p, _, rfl⟩ := List.mem_map.1 hv
    rfl

/-- a struct of numbers that came in -/
theorem arg_ints {t : TypeId} {fs : Array Field} {ks : List IntKind} {v : Value} {d : DataW H} {p : List MemPlace} (hs : P.underlying t = some (.struct fs)) (hk : kindsOf P fs ks = true) (hC : P.cellsOf t = fs.size) (hv : Value.okWide P W .any base t v)
    (h : DataW.Trod enc P W 0 (fun _ => true) true t v d p) : ∃ l : List (IntKind × Int), v = aggI l ∧ l.map Prod.fst = ks ∧ ∀ q ∈ l, (Lit.int q.1 q.2).wf = true := by
  obtain ⟨cs, rfl, hsz⟩ := okWide_struct hs hv
  obtain ⟨cl⟩ := cs
  obtain ⟨fuel, hf⟩ := h
  obtain ⟨xs, n, _, hx, hcl, hlen, hg⟩ := DataW.trod_struct hs hf
  unfold kindsOf at hk
  simp only [Bool.and_eq_true, beq_iff_eq] at hk
  obtain ⟨hkl, hk⟩ := hk
  have hcl2 : cl.length = fs.size := by simpa [hC] using hsz
  have each : ∀ i, i < fs.size → ∃ k m, ks[i]? = some k ∧ cl[i]? = some (Value.int k m) ∧ (Lit.int k m).wf = true := by
    intro i hi
    have h1 := List.all_eq_true.1 hk i (List.mem_range.2 hi)
    have hfi : fs[i]? = some fs[i] := Array.getElem?_eq_getElem hi
    have hki : ks[i]? = some (ks[i]'(by omega)) := List.getElem?_eq_getElem _
    simp only [hfi, hki, Bool.and_eq_true, beq_iff_eq] at h1
    obtain ⟨⟨ho, hc1⟩, hu⟩ := h1
    have h2 := hg i _ hfi
    have hi2 : i < xs.length := by omega
    rw [ho, hc1, List.getElem?_eq_getElem hi2] at h2
    have hd : (cl.drop i).take 1 = [cl[i]'(by omega)] := by
      rw [List.drop_eq_getElem_cons (by omega)]
      rfl
    simp only [Value.cells] at h2
    rw [hd] at h2
    cases hu2 : P.underlying fs[i].type with
    | none => rw [hu2] at hu; cases hu
    | some ds =>
      rw [hu2] at hu
      cases ds with
      | int k' =>
        simp only [beq_iff_eq] at hu
        subst hu
        obtain ⟨m, hm, _, hw⟩ := DataW.trod_int hu2 h2
        simp only [List.cons.injEq, and_true] at hm
        exact ⟨_, m, hki, by rw [List.getElem?_eq_getElem (by omega), hm], hw⟩
      | _ => cases hu
  have mk : ∀ (ks : List IntKind) (cl : List Value), cl.length = ks.length → (∀ i, i < ks.length → ∃ k m, ks[i]? = some k ∧ cl[i]? = some (Value.int k m) ∧ (Lit.int k m).wf = true) →
      ∃ l : List (IntKind × Int), cl = l.map (fun p => Value.int p.1 p.2) ∧ l.map Prod.fst = ks ∧ ∀ q ∈ l, (Lit.int q.1 q.2).wf = true := by
    intro ks
    induction ks with
    | nil => intro cl h _; exact ⟨[], by simpa using h, rfl, fun q hq => by simp at hq⟩
    | cons k ks ih =>
      intro cl hl he
      match cl, hl with
      | c :: cl, hl =>
        obtain ⟨k', m, h1, h2, h3⟩ := he 0 (by simp)
        simp only [List.getElem?_cons_zero, Option.some.injEq] at h1 h2
        subst h1
        subst h2
        obtain ⟨l, rfl, rfl, hw⟩ := ih cl (by simpa using hl) fun i hi => by
          obtain ⟨k'', m', h4, h5, h6⟩ := he (i + 1) (by simpa using hi)
          exact ⟨k'', m', by simpa using h4, by simpa using h5, h6⟩
        refine ⟨(k, m) :: l, rfl, rfl, fun q hq => ?_⟩
        rcases List.mem_cons.1 hq with rfl | hq
        · exact h3
        · exact hw q hq
  obtain ⟨l, rfl, hl, hw⟩ := mk ks cl (by omega) fun i hi => each i (by omega)
  exact ⟨l, rfl, hl, hw⟩

theorem wf_i64 {n : Int} (h : (Lit.int .i64 n).wf = true) : -9223372036854775808 ≤ n ∧ n ≤ 9223372036854775807 := bounds_i64 h
theorem wf_u64 {n : Int} (h : (Lit.int .u64 n).wf = true) : 0 ≤ n ∧ n < 18446744073709551616 := by
  have := bounds_u64 h
  omega

/-- A law's call, by its contract. -/
theorem Fn.law {f : FuncId} {args : List PV} (h : Fn P f args (.p (.val (.bool true)))) {vs : List Value} (hl : vs.length = args.length) (hr : ∀ (i : Nat) x v, args[i]? = some x → vs[i]? = some v → Rep NoM W x v) :
    Calls P f vs.toArray W fun e W' => e = .returned (.bool true) ∧ Below W.heap.size W W' :=
  (h NoM W vs (fun _ h => h.elim) hl hr).mono fun e W' ⟨v, he, hv, hb⟩ => by
    cases hv
    exact ⟨he, hb⟩

theorem reps1 {M : Nat → Prop} {x0 : PV} {v0 : Value} (h0 : Rep M W x0 v0) : ∀ (i : Nat) x v, [x0][i]? = some x → [v0][i]? = some v → Rep M W x v := by
  intro i x v hx hv
  match i with
  | 0 => simp at hx hv; subst hx; subst hv; exact h0
  | i + 1 => simp at hx
theorem reps2 {M : Nat → Prop} {x0 x1 : PV} {v0 v1 : Value} (h0 : Rep M W x0 v0) (h1 : Rep M W x1 v1) : ∀ (i : Nat) x v, [x0, x1][i]? = some x → [v0, v1][i]? = some v → Rep M W x v := by
  intro i x v hx hv
  match i with
  | 0 => simp at hx hv; subst hx; subst hv; exact h0
  | i + 1 => exact reps1 h1 i x v (by simpa using hx) (by simpa using hv)
theorem reps3 {M : Nat → Prop} {x0 x1 x2 : PV} {v0 v1 v2 : Value} (h0 : Rep M W x0 v0) (h1 : Rep M W x1 v1) (h2 : Rep M W x2 v2) : ∀ (i : Nat) x v, [x0, x1, x2][i]? = some x → [v0, v1, v2][i]? = some v → Rep M W x v := by
  intro i x v hx hv
  match i with
  | 0 => simp at hx hv; subst hx; subst hv; exact h0
  | i + 1 => exact reps2 h1 h2 i x v (by simpa using hx) (by simpa using hv)

end

end Go.Proofs.Ytjokcnajopfjhaa
