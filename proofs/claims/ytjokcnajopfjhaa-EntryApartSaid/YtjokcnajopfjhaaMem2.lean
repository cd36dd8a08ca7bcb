/- The rules of the walk over abstract frames: literals of structs and slices, stores, appends, strings. Generic over the program. -/
import Derived.Test.YtjokcnajopfjhaaMem
import Derived.Great.BuildSlice
import Derived.Maps.AppendAt
import Derived.Laws.BytesArg
import Derived.Laws.StructEq
namespace Go.Proofs.Ytjokcnajopfjhaa
open Go Go.RowKit

/-! ### Cells -/
def AV.cellsA : AV → List AV
  | .p x => x.cells.map .p
  | x => [x]
def AV.partOK : AV → Bool
  | .p (.val v) => v.oneCell'
  | .p _ => true
  | .ptr _ _ => true
  | .pt _ => true
  | _ => false

theorem repA_cells {M : Nat → Prop} {ρ : Nat → Value} {w : World} {av : AV} {v : Value} (h : RepA M ρ w av v) (hk : av.partOK = true) : CellsA M ρ w av.cellsA v.cells.toList := by
  have single : ∀ {x : AV} {v : Value}, RepA M ρ w x v → v.oneCell' = true → v.cells.toList = [v] → CellsA M ρ w [x] v.cells.toList := fun {x v} h h1 e => by
    rw [e]
    exact ⟨rfl, fun i c u hc hu => by
      cases i with
      | zero => simp at hc hu; subst hc; subst hu; exact h
      | succ i => simp at hc, fun u hu => by simp at hu; subst hu; exact h1⟩
  cases h with
  | any => cases hk
  | p h =>
    have h1 := rep_cells h (fun u hu => by subst hu; exact hk)
    exact ⟨by simpa [AV.cellsA] using h1.len, fun i c u hc hu => by
      rw [AV.cellsA, List.getElem?_map, Option.map_eq_some_iff] at hc
      obtain ⟨y, hy, rfl⟩ := hc
      exact .p (h1.each i y u hy hu), h1.one⟩
  | own => cases hk
  | ptr id off g h => exact single (.ptr id off g h) rfl rfl
  | pt xs g o ys h hc hM hg => exact single (.pt xs g o ys h hc hM hg) rfl rfl
  | tup => cases hk

def splice {α : Type} (xs : List α) (off : Nat) (cs : List α) : List α := xs.take off ++ cs ++ xs.drop (off + cs.length)

theorem splice_len {α : Type} {xs cs : List α} {off : Nat} (h : off + cs.length ≤ xs.length) : (splice xs off cs).length = xs.length := by
  simp only [splice, List.length_append, List.length_take, List.length_drop]
  omega
theorem splice_get {α : Type} {xs cs : List α} {off : Nat} (h : off + cs.length ≤ xs.length) (i : Nat) : (splice xs off cs)[i]? = if i < off then xs[i]? else if i < off + cs.length then cs[i - off]? else xs[i]? := by
  unfold splice
  by_cases h1 : i < off
  · rw [if_pos h1, List.append_assoc, List.getElem?_append_left (by simp; omega), List.getElem?_take, if_pos h1]
  · rw [if_neg h1]
    by_cases h2 : i < off + cs.length
    · rw [if_pos h2, List.getElem?_append_left (by simp; omega), List.getElem?_append_right (by simp; omega)]
      congr 1
      simp
      omega
    · rw [if_neg h2, List.getElem?_append_right (by simp; omega), List.getElem?_drop]
      congr 1
      simp
      omega

theorem CellsA.splice {M : Nat → Prop} {ρ : Nat → Value} {w : World} {xs cs : List AV} {ys us : List Value} (h : CellsA M ρ w xs ys) (hc : CellsA M ρ w cs us) {off : Nat} (hle : off + cs.length ≤ xs.length) :
    CellsA M ρ w (splice xs off cs) (splice ys off us) := by
  have hle2 : off + us.length ≤ ys.length := by rw [hc.len, h.len]; exact hle
  refine ⟨by rw [splice_len hle, splice_len hle2, h.len], fun i c v h1 h2 => ?_, fun v hv => ?_⟩
  · rw [splice_get hle] at h1
    rw [splice_get hle2, hc.len] at h2
    split at h1
    · rename_i h3
      rw [if_pos h3] at h2
      exact h.each i c v h1 h2
    · rename_i h3
      rw [if_neg h3] at h2
      split at h1
      · rename_i h4
        rw [if_pos h4] at h2
        exact hc.each _ c v h1 h2
      · rename_i h4
        rw [if_neg h4] at h2
        exact h.each i c v h1 h2
  · simp only [Proofs.Ytjokcnajopfjhaa.splice, List.mem_append] at hv
    rcases hv with (hv | hv) | hv
    · exact h.one v (List.mem_of_mem_take hv)
    · exact hc.one v hv
    · exact h.one v (List.mem_of_mem_drop hv)

theorem foldl_set (off : Nat) : ∀ (l : List Value) (k : Nat) (cs : Array Value), off + k + l.length ≤ cs.size →
    (l.zipIdx k).foldl (fun cs p => cs.setIfInBounds (off + p.2) p.1) cs = (splice cs.toList (off + k) l).toArray
  | [], k, cs, h => by simp [splice]
  | v :: r, k, cs, h => by
    simp only [List.length_cons] at h
    rw [List.zipIdx_cons, List.foldl_cons, foldl_set off r (k + 1) _ (by simp; omega)]
    congr 1
    apply List.ext_getElem?
    intro i
    rw [splice_get (by simp; omega), splice_get (by simp; omega)]
    simp only [Array.toList_setIfInBounds, List.getElem?_set, List.length_cons, Array.length_toList]
    by_cases h1 : i < off + k
    · rw [if_pos (show i < off + (k + 1) by omega), if_neg (show ¬ off + k = i by omega), if_pos h1]
    · by_cases h2 : i = off + k
      · subst h2
        rw [if_pos (show off + k < off + (k + 1) by omega), if_pos rfl, if_pos (show off + k < cs.size by omega), if_neg (show ¬ off + k < off + k by omega), if_pos (show off + k < off + k + (r.length + 1) by omega)]
        simp
      · rw [if_neg (show ¬ i < off + (k + 1) by omega), if_neg h1]
        by_cases h3 : i < off + k + (r.length + 1)
        · rw [if_pos (show i < off + (k + 1) + r.length by omega), if_pos h3, show i - (off + k) = (i - (off + (k + 1))) + 1 by omega, List.getElem?_cons_succ]
        · rw [if_neg (show ¬ i < off + (k + 1) + r.length by omega), if_neg h3, if_neg (show ¬ off + k = i by omega)]

def fillA (place : Nat → Option (Nat × Nat)) (cells : List AV) : List (Nat × AV) → Option (List AV)
  | [] => some cells
  | (i, v) :: rest =>
    match place i with
    | none => none
    | some (off, size) => if v.cellsA.length = size ∧ off + v.cellsA.length ≤ cells.length then fillA place (splice cells off v.cellsA) rest else none

theorem fill_rep {M : Nat → Prop} {ρ : Nat → Value} {w : World} (place : Nat → Option (Nat × Nat)) (f : Operand → AV) (g : Operand → Value) : ∀ (l : List (Nat × Operand)) (xs zs : List AV) (ys : List Value),
    (∀ p ∈ l, CellsA M ρ w (f p.2).cellsA (g p.2).cells.toList) → fillA place xs (l.map fun p => (p.1, f p.2)) = some zs → CellsA M ρ w xs ys →
    ∃ us : List Value, Instr.fill place ys.toArray (l.map fun p => (p.1, g p.2)) = some us.toArray ∧ CellsA M ρ w zs us
  | [], xs, zs, ys, _, h, hx => by
    simp only [List.map_nil, fillA, Option.some.injEq] at h
    subst h
    exact ⟨ys, rfl, hx⟩
  | (i, x) :: r, xs, zs, ys, hl, h, hx => by
    simp only [List.map_cons, fillA] at h
    simp only [List.map_cons, Instr.fill]
    cases hp : place i with
    | none => rw [hp] at h; cases h
    | some q =>
      obtain ⟨off, size⟩ := q
      rw [hp] at h
      simp only at h ⊢
      have hc := hl (i, x) (by simp)
      simp only at hc
      split at h
      · rename_i h2
        have e1 : (g x).cells.size = (f x).cellsA.length := by have := hc.len; simpa using this
        rw [if_neg (by simp only [List.size_toArray]; rw [e1, hx.len]; simp; omega)]
        have e2 := foldl_set off (g x).cells.toList 0 ys.toArray (by simp only [Nat.add_zero, List.size_toArray, hx.len]; rw [hc.len]; omega)
        have e3 : ((g x).cells.zipIdx.foldl (fun cs (c, j) => cs.setIfInBounds (off + j) c) ys.toArray) = (splice ys off (g x).cells.toList).toArray := by
          rw [← Array.foldl_toList, Array.toList_zipIdx]
          exact e2
        rw [e3]
        exact fill_rep place f g r _ zs _ (fun p hp => hl p (by simp [hp])) h (hx.splice hc (by omega))
      · cases h

section
variable {P : Program} {n : Nat} {o : Oper} {S : AS} {d : Nat} {t : TypeId} {x y : Operand}

theorem zerosA {M : Nat → Prop} {ρ : Nat → Value} {w : World} {l : List Value} (h1 : ∀ u ∈ l, u.oneCell' = true) : CellsA M ρ w (l.map fun u => .p (.val u)) l :=
  ⟨by simp, fun i c u h2 h3 => by
    rw [List.getElem?_map, Option.map_eq_some_iff] at h2
    obtain ⟨y, hy, rfl⟩ := h2
    rw [h3] at hy
    obtain rfl := Option.some.inj hy
    exact .p (.val _), h1⟩

/-- the parts of a literal -/
theorem parts_ok {M : Nat → Prop} {ρ : Nat → Value} {w w0 : World} {a : Act} {S S2 : AS} (hs : Sat M n w0 S2 ρ a w) {l : List (Nat × Operand)} (he : ∀ p ∈ l, S2.get p.2 = S.get p.2) (hk : l.all (fun p => (S.get p.2).partOK) = true) :
    ∀ p ∈ l, CellsA (Mut M S2 ρ) ρ w (S.get p.2).cellsA (a.eval p.2).cells.toList := fun p hp => by
  have h1 := hs.rep p.2
  rw [he p hp] at h1
  exact repA_cells h1 (List.all_eq_true.1 hk p hp)

/-- A struct's literal. -/
theorem a_build {ps : Array (Nat × Operand)} {pl : List (Nat × Nat)} {z : List Value} {zs : List AV} {cs : List PV} (ho : o.op = .build t ps)
    (hb : ∀ (parts : List (Nat × Value)) w cells, Instr.fill (fun i => pl[i]?) z.toArray parts = some cells → (Instr.build t parts.toArray).run P w = .ok (.agg cells) w)
    (hz : ∀ u ∈ z, u.oneCell' = true) (hk : ps.toList.all (fun p => (S.get p.2).partOK) = true)
    (hf : fillA (fun i => pl[i]?) (z.map fun u => .p (.val u)) (ps.toList.map fun p => (p.1, S.get p.2)) = some zs) (hp : zs = cs.map AV.p) (hd : o.dst = some d) (hn : d < n) : AStep P n o S [] (.p (.agg cs)) none :=
  AStep.pure hd hn fun S2 hg _ M w0 ρ a w hs => by
    have hargs : ∀ p ∈ ps.toList, S2.get p.2 = S.get p.2 := fun p hp => hg p.2 (by rw [ho]; simp only [Op.operands, List.mem_map]; exact ⟨p, hp, rfl⟩)
    obtain ⟨us, h1, h2⟩ := fill_rep (fun i => pl[i]?) S.get a.eval ps.toList _ zs z (parts_ok hs hargs hk) hf (zerosA hz)
    refine ⟨.agg us.toArray, w, ?_, Below.refl _ _, .p (.agg _ _ (by rw [h2.len, hp]; simp) (fun i c v h3 h4 => rep_p (h2.each i (.p c) v (by rw [hp, List.getElem?_map, h3]; rfl) h4)) h2.one)⟩
    unfold execOp
    rw [ho]
    have e : (ps.map fun (i, x) => (i, a.eval x)) = (ps.toList.map fun p => (p.1, a.eval p.2)).toArray := by apply Array.ext'; simp
    simp only [e, Sem.run_bind, hb _ w _ h1]
    rfl

/-- A slice's literal: a new row of the frame's own. -/
theorem a_buildSlice {ps : Array (Nat × Operand)} {len e sz : Nat} {z : List Value} {zs : List AV} (ho : o.op = .buildSlice t len ps)
    (hb : ∀ (parts : List (Nat × Value)) w cells, Instr.fill (fun i => some (i * sz, sz)) z.toArray parts = some cells → (Instr.buildSlice t len parts.toArray).run P w = .ok (.slice (some ⟨w.heap.size, 0, none⟩) len len) (w.alloc (.cells cells e)))
    (hl : len ≤ maxLen) (hz : ∀ u ∈ z, u.oneCell' = true) (hk : ps.toList.all (fun p => (S.get p.2).partOK) = true)
    (hf : fillA (fun i => some (i * sz, sz)) (z.map fun u => .p (.val u)) (ps.toList.map fun p => (p.1, S.get p.2)) = some zs) (hlen : zs.length = len * sz) (hd : o.dst = some d) (hn : d < n) : AStep P n o S [] (.own d) (some (.row e sz len zs)) :=
  AStep.made hd hn fun S2 hg _ M w0 ρ a w hs => by
    have hargs : ∀ p ∈ ps.toList, S2.get p.2 = S.get p.2 := fun p hp => hg p.2 (by rw [ho]; simp only [Op.operands, List.mem_map]; exact ⟨p, hp, rfl⟩)
    obtain ⟨us, h1, h2⟩ := fill_rep (fun i => some (i * sz, sz)) S.get a.eval ps.toList _ zs z (parts_ok hs hargs hk) hf (zerosA hz)
    have hul : us.length = len * sz := by rw [h2.len, hlen]
    refine ⟨.slice (some ⟨w.heap.size, 0, none⟩) len len, w.alloc (.cells us.toArray e), ?_, World.grownBy_alloc w _ none, fun k hk => ?_, ⟨us, ⟨hul, .inr ⟨w.heap.size, len, us.toArray, rfl, hs.below.size, by rw [heap_alloc_new], Nat.le_refl _, hl, by simpa using hul, by rw [← hul]; simp⟩⟩, ?_⟩, .inl rfl⟩
    · unfold execOp
      rw [ho]
      have e : (ps.map fun (i, x) => (i, a.eval x)) = (ps.toList.map fun p => (p.1, a.eval p.2)).toArray := by apply Array.ext'; simp
      simp only [e, Sem.run_bind, hb _ w _ h1]
      rfl
    · simp only [blkOf, Option.some.injEq] at hk; omega
    · refine (h2.mono fun k hk h => ?_).keep (.of_below _ ((Below.refl _ _).alloc (Nat.le_refl _) _))
      rcases h with h | h
      · exact h
      · simp only [blkOf, Option.some.injEq] at h; omega

end

end Go.Proofs.Ytjokcnajopfjhaa
