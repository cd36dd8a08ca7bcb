/- The rules of the walk over abstract frames: memory. Generic over the program. -/
import Derived.Test.YtjokcnajopfjhaaRules
namespace Go.Proofs.Ytjokcnajopfjhaa
open Go Go.RowKit

theorem cell_at {w : World} {g j : Nat} {ys : List Value} {t : TypeId} (hg : w.heap[g]? = some (.cells ys.toArray t (0, 0))) {y : Value} (hy : ys[j]? = some y) : w.cell? ⟨g, j, none⟩ = some y := by
  rw [cell_of_row w g j ys.toArray t (0, 0) hg]
  simpa using hy

/-- A block's cells, where they lie. -/
theorem BlkOK.cells {M : Nat → Prop} {B : Nat} {ρ : Nat → Value} {w : World} {v : Value} {b : Blk} {g : Nat} (h : BlkOK M B ρ w v b) (hv : blkOf v = some g) :
    ∃ ys, CellsA M ρ w b.xs ys ∧ ∀ (j : Nat) y, ys[j]? = some y → w.cell? ⟨g, j, none⟩ = some y ∧ w.frozen? ⟨g, j, none⟩ = false := by
  cases b with
  | row t size n xs =>
    obtain ⟨ys, ho, hc⟩ := h
    refine ⟨ys, hc, fun j y hy => ?_⟩
    rcases ho.2 with ⟨rfl, _⟩ | ⟨g', cap, cur, rfl, _, hh, hn, _, hs, ht⟩
    · simp [blkOf] at hv
    · simp only [blkOf, Option.some.injEq] at hv
      subst hv
      refine ⟨?_, frozen_of_row w g' j cur t hh⟩
      rw [cell_of_row w g' j cur t (0, 0) hh]
      rw [← ht, List.getElem?_take] at hy
      split at hy
      · simpa using hy
      · cases hy
  | prow t size n xs =>
    obtain ⟨ys, ho, hc⟩ := h
    refine ⟨ys, hc, fun j y hy => ?_⟩
    rcases ho.2 with ⟨rfl, _⟩ | ⟨g', cap, cur, rfl, _, hh, hn, _, hs, ht⟩
    · simp [blkOf] at hv
    · simp only [blkOf, Option.some.injEq] at hv
      subst hv
      refine ⟨?_, frozen_of_row w g' j cur t hh⟩
      rw [cell_of_row w g' j cur t (0, 0) hh]
      rw [← ht, List.getElem?_take] at hy
      split at hy
      · simpa using hy
      · cases hy
  | box t xs =>
    obtain ⟨g', ys, rfl, _, hh, hc⟩ := h
    simp only [blkOf, Option.some.injEq] at hv
    subst hv
    exact ⟨ys, hc, fun j y hy => ⟨cell_at hh hy, frozen_of_row w g' j ys.toArray t hh⟩⟩

theorem rep_ptr {M : Nat → Prop} {ρ : Nat → Value} {w : World} {id off : Nat} {v : Value} (h : RepA M ρ w (.ptr id off) v) : ∃ g, blkOf (ρ id) = some g ∧ v = .pointer (some ⟨g, off, none⟩) := by
  cases h with
  | ptr _ _ g h => exact ⟨g, h, rfl⟩
theorem rep_pt {M : Nat → Prop} {ρ : Nat → Value} {w : World} {xs : List PV} {v : Value} (h : RepA M ρ w (.pt xs) v) :
    ∃ g o ys, v = .pointer (some ⟨g, o, none⟩) ∧ RepL M w xs ys ∧ (∀ (j : Nat) y, ys[j]? = some y → w.cell? ⟨g, o + j, none⟩ = some y) ∧ ¬ M g ∧ g < w.heap.size := by
  cases h with
  | pt _ g o ys h hc hM hg => exact ⟨g, o, ys, rfl, h, hc, hM, hg⟩
theorem rep_p {M : Nat → Prop} {ρ : Nat → Value} {w : World} {x : PV} {v : Value} (h : RepA M ρ w (.p x) v) : Rep M w x v := by
  cases h with
  | p h => exact h

theorem run_load_cell {P : Program} {w : World} {a : Addr} {v : Value} (h : w.cell? a = some v) : (load a).run P w = .ok v w := by
  rw [run_load]
  rw [h]

theorem loadAt_one {P : Program} {w : World} {t : TypeId} {a : Addr} {v : Value} (ht : (isAgg t).run P w = .ok false w) (h : w.cell? a = some v) : (Instr.loadAt t (.pointer (some a))).run P w = .ok v w := by
  unfold Instr.loadAt loadVar
  simp only [Instr.sureAddr, Sem.run_bind, Sem.run_pure, Result.andThen, ht]
  exact run_load_cell h

theorem add_lit (g o n : Nat) : Addr.add ⟨g, o, none⟩ n = ⟨g, o + n, none⟩ := Addr.add_lit g o n

theorem loadAt_many {P : Program} {w : World} {t : TypeId} {g o m : Nat} {ys : List Value} (ht : (isAgg t).run P w = .ok true w) (hs : (sizeOf t).run P w = .ok m w) (hl : ys.length = m)
    (h : ∀ (j : Nat) y, ys[j]? = some y → w.cell? ⟨g, o + j, none⟩ = some y) : (Instr.loadAt t (.pointer (some ⟨g, o, none⟩))).run P w = .ok (.agg ys.toArray) w := by
  subst hl
  unfold Instr.loadAt loadVar
  have hc := run_loadCells_list (P := P) w ⟨g, o, none⟩ ys (fun j v hv => by rw [add_lit]; exact h j v hv)
  simp only [Instr.sureAddr, Sem.run_bind, Sem.run_pure, Result.andThen, ht, hs, if_true, hc]

section
variable {P : Program} {n : Nat} {o : Oper} {S : AS} {d : Nat} {t : TypeId} {x : Operand}

/-! ### Loads -/
theorem a_load1 {xs : List PV} {c : PV} (ho : o.op = .load t x) (hx : S.get x = .pt xs) (hc : xs[0]? = some c) (ht : ∀ w, (isAgg t).run P w = .ok false w) (hd : o.dst = some d) (hn : d < n) : AStep P n o S [] (.p c) none :=
  AStep.pure hd hn fun S2 hg _ M w0 ρ a w hs => by
    have h1 := hs.rep x
    rw [hg x (by rw [ho]; simp [Op.operands]), hx] at h1
    obtain ⟨g, off, ys, hv, hl, hcell, _, _⟩ := rep_pt h1
    have h0 : 0 < xs.length := (List.getElem?_eq_some_iff.1 hc).1
    have h00 : 0 < ys.length := by rw [hl.len]; exact h0
    have hy : ys[0]? = some ys[0] := List.getElem?_eq_getElem h00
    have hcl : w.cell? ⟨g, off, none⟩ = some ys[0] := hcell 0 _ hy
    refine ⟨ys[0], w, ?_, Below.refl _ _, .p (hl.each 0 c _ hc hy)⟩
    unfold execOp
    rw [ho]
    simp only [hv, Sem.run_bind, loadAt_one (ht w) hcl]
    rfl

theorem a_loadN {xs : List PV} {m : Nat} (ho : o.op = .load t x) (hx : S.get x = .pt xs) (ht : ∀ w, (isAgg t).run P w = .ok true w) (hm : ∀ w, (sizeOf t).run P w = .ok m w) (hle : m ≤ xs.length) (hd : o.dst = some d) (hn : d < n) : AStep P n o S [] (.p (.agg (xs.take m))) none :=
  AStep.pure hd hn fun S2 hg _ M w0 ρ a w hs => by
    have h1 := hs.rep x
    rw [hg x (by rw [ho]; simp [Op.operands]), hx] at h1
    obtain ⟨g, off, ys, hv, hl, hcell, _, _⟩ := rep_pt h1
    refine ⟨.agg (ys.take m).toArray, w, ?_, Below.refl _ _, .p (.agg _ _ (by simp [hl.len]) (fun i c v h1 h2 => ?_) (fun v hv => hl.one v (List.mem_of_mem_take hv)))⟩
    · unfold execOp
      rw [ho]
      have := loadAt_many (P := P) (w := w) (t := t) (g := g) (o := off) (ys := ys.take m) (ht w) (hm w) (by rw [List.length_take, hl.len]; omega) (fun j y hy => hcell j y (by
        rw [List.getElem?_take] at hy
        split at hy
        · exact hy
        · cases hy))
      simp only [hv, Sem.run_bind, this]
      rfl
    · rw [List.getElem?_take] at h1 h2
      split at h1
      · rename_i hi
        rw [if_pos hi] at h2
        exact hl.each i c v h1 h2
      · cases h1

/-- a variable's cell -/
theorem a_loadR1 {id off : Nat} {b : Blk} {c : AV} (ho : o.op = .load t x) (hx : S.get x = .ptr id off) (hb : S.blk id = some b) (hc : b.xs[off]? = some c) (ht : ∀ w, (isAgg t).run P w = .ok false w) (hd : o.dst = some d) (hn : d < n) : AStep P n o S [id] c none :=
  AStep.pure hd hn fun S2 hg hbl M w0 ρ a w hs => by
    have h1 := hs.rep x
    rw [hg x (by rw [ho]; simp [Op.operands]), hx] at h1
    obtain ⟨g, hgv, hv⟩ := rep_ptr h1
    have hb2 : S2.blk id = some b := (hbl id (by simp)).trans hb
    obtain ⟨ys, hcs, hcell⟩ := (hs.blks id b hb2).cells hgv
    have h0 : off < b.xs.length := (List.getElem?_eq_some_iff.1 hc).1
    have hy : ys[off]? = some (ys[off]'(by rw [hcs.len]; exact h0)) := List.getElem?_eq_getElem _
    refine ⟨_, w, ?_, Below.refl _ _, hcs.each off c _ hc hy⟩
    unfold execOp
    rw [ho]
    simp only [hv, Sem.run_bind, loadAt_one (ht w) (hcell off _ hy).1]
    rfl

/-- a variable of several cells -/
theorem a_loadRN {id off m : Nat} {b : Blk} {cs : List PV} (ho : o.op = .load t x) (hx : S.get x = .ptr id off) (hb : S.blk id = some b) (hc : (b.xs.drop off).take m = cs.map AV.p) (hl : cs.length = m) (ht : ∀ w, (isAgg t).run P w = .ok true w) (hm : ∀ w, (sizeOf t).run P w = .ok m w) (hd : o.dst = some d) (hn : d < n) : AStep P n o S [id] (.p (.agg cs)) none :=
  AStep.pure hd hn fun S2 hg hbl M w0 ρ a w hs => by
    have h1 := hs.rep x
    rw [hg x (by rw [ho]; simp [Op.operands]), hx] at h1
    obtain ⟨g, hgv, hv⟩ := rep_ptr h1
    have hb2 : S2.blk id = some b := (hbl id (by simp)).trans hb
    obtain ⟨ys, hcs, hcell⟩ := (hs.blks id b hb2).cells hgv
    have hlen : ((b.xs.drop off).take m).length = m := by rw [hc, List.length_map, hl]
    have hlen2 : ((ys.drop off).take m).length = m := by
      simp only [List.length_take, List.length_drop] at hlen ⊢
      rw [hcs.len]
      exact hlen
    have get : ∀ (j : Nat) y, ((ys.drop off).take m)[j]? = some y → j < m ∧ ys[off + j]? = some y := by
      intro j y hy
      rw [List.getElem?_take] at hy
      split at hy
      · rename_i hj
        rw [List.getElem?_drop] at hy
        exact ⟨hj, hy⟩
      · cases hy
    refine ⟨.agg ((ys.drop off).take m).toArray, w, ?_, Below.refl _ _, .p (.agg _ _ (by rw [hlen2, hl]) (fun i c v h1 h2 => ?_) (fun v hv => hcs.one v (List.mem_of_mem_drop (List.mem_of_mem_take hv))))⟩
    · unfold execOp
      rw [ho]
      have := loadAt_many (P := P) (w := w) (t := t) (g := g) (o := off) (ys := (ys.drop off).take m) (ht w) (hm w) hlen2 (fun j y hy => (hcell (off + j) y (get j y hy).2).1)
      simp only [hv, Sem.run_bind, this]
      rfl
    · obtain ⟨hj, hy⟩ := get i v h2
      have h3 : b.xs[off + i]? = some (.p c) := by
        have h4 : ((b.xs.drop off).take m)[i]? = (cs.map AV.p)[i]? := by rw [hc]
        rw [List.getElem?_take, if_pos hj, List.getElem?_drop, List.getElem?_map, h1] at h4
        exact h4
      exact rep_p (hcs.each (off + i) (.p c) v h3 hy)

/-! ### Addresses -/
theorem a_fieldPt {s f k : Nat} {xs : List PV} (ho : o.op = .fieldAddr s x f) (hx : S.get x = .pt xs) (hf : ∀ g off w, (Instr.fieldAt s (.pointer (some ⟨g, off, none⟩)) f).run P w = .ok (.pointer (some ⟨g, off + k, none⟩)) w) (hd : o.dst = some d) (hn : d < n) : AStep P n o S [] (.pt (xs.drop k)) none :=
  AStep.pure hd hn fun S2 hg _ M w0 ρ a w hs => by
    have h1 := hs.rep x
    rw [hg x (by rw [ho]; simp [Op.operands]), hx] at h1
    obtain ⟨g, off, ys, hv, hl, hcell, hM, hgl⟩ := rep_pt h1
    refine ⟨.pointer (some ⟨g, off + k, none⟩), w, ?_, Below.refl _ _, .pt _ g (off + k) (ys.drop k) ⟨by simp [hl.len], fun i c v h1 h2 => ?_, fun v hv => hl.one v (List.mem_of_mem_drop hv)⟩ (fun j y hy => ?_) hM hgl⟩
    · unfold execOp
      rw [ho]
      simp only [hv, Sem.run_bind, hf g off w]
      rfl
    · rw [List.getElem?_drop] at h1 h2
      exact hl.each _ c v h1 h2
    · rw [List.getElem?_drop] at hy
      rw [Nat.add_assoc]
      exact hcell _ y hy

theorem a_fieldR {s f k id off : Nat} (ho : o.op = .fieldAddr s x f) (hx : S.get x = .ptr id off) (hf : ∀ g off w, (Instr.fieldAt s (.pointer (some ⟨g, off, none⟩)) f).run P w = .ok (.pointer (some ⟨g, off + k, none⟩)) w) (hd : o.dst = some d) (hn : d < n) : AStep P n o S [] (.ptr id (off + k)) none :=
  AStep.pure hd hn fun S2 hg _ M w0 ρ a w hs => by
    have h1 := hs.rep x
    rw [hg x (by rw [ho]; simp [Op.operands]), hx] at h1
    obtain ⟨g, hgv, hv⟩ := rep_ptr h1
    refine ⟨.pointer (some ⟨g, off + k, none⟩), w, ?_, Below.refl _ _, .ptr id (off + k) g hgv⟩
    unfold execOp
    rw [ho]
    simp only [hv, Sem.run_bind, hf g off w]
    rfl

theorem a_nilR {id off : Nat} (ho : o.op = .nilCheck x) (hx : S.get x = .ptr id off) (hd : o.dst = some d) (hn : d < n) : AStep P n o S [] (.ptr id off) none :=
  AStep.pure hd hn fun S2 hg _ M w0 ρ a w hs => by
    have h1 := hs.rep x
    rw [hg x (by rw [ho]; simp [Op.operands]), hx] at h1
    have h2 := h1
    obtain ⟨g, hgv, hv⟩ := rep_ptr h1
    refine ⟨a.eval x, w, ?_, Below.refl _ _, h2⟩
    unfold execOp
    rw [ho]
    simp only [hv]
    rfl
theorem a_nilPt {xs : List PV} (ho : o.op = .nilCheck x) (hx : S.get x = .pt xs) (hd : o.dst = some d) (hn : d < n) : AStep P n o S [] (.pt xs) none :=
  AStep.pure hd hn fun S2 hg _ M w0 ρ a w hs => by
    have h1 := hs.rep x
    rw [hg x (by rw [ho]; simp [Op.operands]), hx] at h1
    have h2 := h1
    obtain ⟨g, off, ys, hv, _⟩ := rep_pt h1
    refine ⟨a.eval x, w, ?_, Below.refl _ _, h2⟩
    unfold execOp
    rw [ho]
    simp only [hv]
    rfl

/-! ### Slices -/
theorem flat_len {es : List PV} {sz : Nat} (h : ∀ e ∈ es, e.cells.length = sz) : (flat es).length = es.length * sz := by
  induction es with
  | nil => simp [flat]
  | cons e r ih =>
    have h1 := h e (by simp)
    have h2 := ih fun e he => h e (by simp [he])
    unfold flat at h2 ⊢
    rw [List.flatMap_cons, List.length_append, h1, h2, List.length_cons, Nat.add_mul]
    omega
theorem flat_get {es : List PV} {sz : Nat} (h : ∀ e ∈ es, e.cells.length = sz) {i : Nat} {c : PV} (hi : es[i]? = some c) : ((flat es).drop (i * sz)).take sz = c.cells := by
  induction es generalizing i with
  | nil => simp at hi
  | cons e r ih =>
    have h1 := h e (by simp)
    have h2 : ∀ e ∈ r, e.cells.length = sz := fun e he => h e (by simp [he])
    unfold flat at ih ⊢
    rw [List.flatMap_cons]
    cases i with
    | zero =>
      simp only [List.getElem?_cons_zero, Option.some.injEq] at hi
      subst hi
      rw [Nat.zero_mul, List.drop_zero, ← h1, List.take_left]
    | succ i =>
      simp only [List.getElem?_cons_succ] at hi
      have e1 : (i + 1) * sz = e.cells.length + i * sz := by rw [h1, Nat.add_mul]; omega
      rw [e1, ← List.drop_drop, List.drop_left]
      exact ih h2 hi

theorem rep_sl {M : Nat → Prop} {w : World} {es : List PV} {v : Value} (h : Rep M w (.sl es) v) : (v = .slice none 0 0 ∧ es = []) ∨
    ∃ g o cap ys, v = .slice (some ⟨g, o, none⟩) es.length cap ∧ RepL M w (flat es) ys ∧ (∀ (j : Nat) y, ys[j]? = some y → w.cell? ⟨g, o + j, none⟩ = some y) ∧ ¬ M g ∧ g < w.heap.size ∧ es.length ≤ cap ∧ cap ≤ maxLen := by
  cases h with
  | nil => exact .inl ⟨rfl, rfl⟩
  | sl _ g o n cap ys hn hl hc h h1 hM hg hcap hm =>
    subst hn
    exact .inr ⟨g, o, cap, ys, rfl, ⟨hl, h, h1⟩, hc, hM, hg, hcap, hm⟩

theorem mulI (i sz : Nat) : ((i : Int)).toNat * sz = i * sz := by simp

/-- the address of an element -/
theorem a_indexS {ix : Operand} {e sz : Nat} {k : IntKind} {i : Nat} {es : List PV} {c : PV} (ho : o.op = .indexAddr t x ix) (hx : S.get x = .p (.sl es)) (hi : S.get ix = .p (.val (.int k i))) (ht : P.underlying t = some (.slice e)) (hsz : ∀ w, (sizeOf e).run P w = .ok sz w)
    (hes : ∀ e ∈ es, e.cells.length = sz) (hc : es[i]? = some c) (hd : o.dst = some d) (hn : d < n) : AStep P n o S [] (.pt c.cells) none :=
  AStep.pure hd hn fun S2 hg _ M w0 ρ a w hs => by
    have h1 := hs.rep x
    rw [hg x (by rw [ho]; simp [Op.operands]), hx] at h1
    have h2 := hs.val ((hg ix (by rw [ho]; simp [Op.operands])).trans hi)
    have hlt : i < es.length := (List.getElem?_eq_some_iff.1 hc).1
    rcases rep_sl (rep_p h1) with ⟨_, h⟩ | ⟨g, off, cap, ys, hv, hl, hcell, hM, hgl, _, _⟩
    · rw [h] at hlt; simp at hlt
    · have hfl := flat_len hes
      have hle : i * sz + sz ≤ (flat es).length := by
        rw [hfl]
        have : (i + 1) * sz ≤ es.length * sz := Nat.mul_le_mul_right _ hlt
        rw [Nat.add_mul] at this
        omega
      refine ⟨.pointer (some ⟨g, off + i * sz, none⟩), w, ?_, Below.refl _ _, .pt _ g (off + i * sz) ((ys.drop (i * sz)).take sz) ⟨?_, fun j c' v h1 h2 => ?_, fun v hv => hl.one v (List.mem_of_mem_drop (List.mem_of_mem_take hv))⟩ (fun j y hy => ?_) hM hgl⟩
      · unfold execOp
        rw [ho]
        simp only [hv, h2, Sem.run_bind]
        have : (Instr.indexAt t (.slice (some ⟨g, off, none⟩) es.length cap) (.int k i)).run P w = .ok (.pointer (some ⟨g, off + i * sz, none⟩)) w := by
          have he : P.elem t = e := by simp [Program.elem, ht]
          rw [run_indexAt_slice w t _ _ _ _ _ (by rw [he]; exact ht), if_pos ⟨by omega, by omega⟩, he, hsz w]
          show Result.ok _ w = _
          rw [add_lit, mulI]
        rw [this]
        rfl
      · rw [List.length_take, List.length_drop, hl.len]
        have := hes c (List.mem_of_getElem? hc)
        omega
      · rw [← flat_get hes hc] at h1
        rw [List.getElem?_take] at h1 h2
        split at h1
        · rename_i hj
          rw [if_pos hj] at h2
          rw [List.getElem?_drop] at h1 h2
          exact hl.each _ c' v h1 h2
        · cases h1
      · rw [List.getElem?_take] at hy
        split at hy
        · rw [List.getElem?_drop] at hy
          rw [Nat.add_assoc]
          exact hcell _ y hy
        · cases hy

theorem a_lenS {es : List PV} {t' : TypeId} (ho : o.op = .call { callee := .builtin .len, args := #[x], argTypes := #[t] }) (hx : S.get x = .p (.sl es)) (ht : P.underlying t = some (.slice t')) (hd : o.dst = some d) (hn : d < n) : AStep P n o S [] (.p (.val (.int .i64 es.length))) none :=
  AStep.pure hd hn fun S2 hg _ M w0 ρ a w hs => by
    have h1 := hs.rep x
    rw [hg x (by rw [ho]; simp [Op.operands, Call.operands]), hx] at h1
    have he : P.elem t = t' := by simp [Program.elem, ht]
    refine ⟨.int .i64 es.length, w, ?_, Below.refl _ _, .p (.val _)⟩
    have run : ∀ b m c, (Builtin.len_ #[t] o.type #[.slice b m c]).run P w = .ok (goInt m) w := fun b m c => run_len_slice w t o.type b m c (by rw [he]; exact ht)
    unfold execOp
    rw [ho]
    rcases rep_sl (rep_p h1) with ⟨hv, h⟩ | ⟨g, off, cap, ys, hv, _⟩
    · simp only [resolve, invoke, builtin, Sem.run_bind, Sem.run_pure, Result.andThen_ok, List.map_toArray, List.map_cons, List.map_nil, hv, run]
      rw [h]; rfl
    · simp only [resolve, invoke, builtin, Sem.run_bind, Sem.run_pure, Result.andThen_ok, List.map_toArray, List.map_cons, List.map_nil, hv, run]
      rfl
theorem a_lenN {t' : TypeId} (ho : o.op = .call { callee := .builtin .len, args := #[x], argTypes := #[t] }) (hx : S.get x = .p (.val (.slice none 0 0))) (ht : P.underlying t = some (.slice t')) (hd : o.dst = some d) (hn : d < n) : AStep P n o S [] (.p (.val (.int .i64 0))) none :=
  AStep.pure hd hn fun S2 hg _ M w0 ρ a w hs => by
    have h1 := hs.val ((hg x (by rw [ho]; simp [Op.operands, Call.operands])).trans hx)
    have he : P.elem t = t' := by simp [Program.elem, ht]
    refine ⟨.int .i64 0, w, ?_, Below.refl _ _, .p (.val _)⟩
    have run : ∀ b m c, (Builtin.len_ #[t] o.type #[.slice b m c]).run P w = .ok (goInt m) w := fun b m c => run_len_slice w t o.type b m c (by rw [he]; exact ht)
    unfold execOp
    rw [ho]
    simp only [resolve, invoke, builtin, Sem.run_bind, Sem.run_pure, Result.andThen_ok, List.map_toArray, List.map_cons, List.map_nil, h1, run]
    rfl
theorem a_lenO {id ty sz m : Nat} {xs : List AV} {t' : TypeId} (ho : o.op = .call { callee := .builtin .len, args := #[x], argTypes := #[t] }) (hx : S.get x = .own id) (hb : S.blk id = some (.row ty sz m xs)) (ht : P.underlying t = some (.slice t')) (hd : o.dst = some d) (hn : d < n) : AStep P n o S [id] (.p (.val (.int .i64 m))) none :=
  AStep.pure hd hn fun S2 hg hbl M w0 ρ a w hs => by
    have h1 := hs.rep x
    rw [hg x (by rw [ho]; simp [Op.operands, Call.operands]), hx] at h1
    have h2 := own_eq h1
    have he : P.elem t = t' := by simp [Program.elem, ht]
    obtain ⟨ys, hown, _⟩ := hs.blks id _ ((hbl id (by simp)).trans hb)
    refine ⟨.int .i64 m, w, ?_, Below.refl _ _, .p (.val _)⟩
    have run : ∀ b m c, (Builtin.len_ #[t] o.type #[.slice b m c]).run P w = .ok (goInt m) w := fun b m c => run_len_slice w t o.type b m c (by rw [he]; exact ht)
    unfold execOp
    rw [ho]
    rcases hown.2 with ⟨hv, h⟩ | ⟨g, cap, cur, hv, _⟩
    · simp only [resolve, invoke, builtin, Sem.run_bind, Sem.run_pure, Result.andThen_ok, List.map_toArray, List.map_cons, List.map_nil, h2, hv, run]
      rw [h]; rfl
    · simp only [resolve, invoke, builtin, Sem.run_bind, Sem.run_pure, Result.andThen_ok, List.map_toArray, List.map_cons, List.map_nil, h2, hv, run]
      rfl

/-- one of several results -/
theorem a_extract {avs : List AV} {i : Nat} {v : PV} (ho : o.op = .extract x i) (hx : S.get x = .tup avs) (hi : avs[i]? = some (.p v)) (hd : o.dst = some d) (hn : d < n) : AStep P n o S [] (.p v) none :=
  AStep.pure hd hn fun S2 hg _ M w0 ρ a w hs => by
    have h1 := hs.rep x
    rw [hg x (by rw [ho]; simp [Op.operands]), hx] at h1
    generalize hev : a.eval x = ev at h1
    cases h1 with
    | tup _ vs hl h =>
      have hlt : i < vs.length := by rw [hl]; exact (List.getElem?_eq_some_iff.1 hi).1
      refine ⟨vs[i], w, ?_, Below.refl _ _, h i _ _ hi (List.getElem?_eq_getElem hlt)⟩
      unfold execOp
      rw [ho]
      simp [hev, Instr.extract, hlt]

/-! ### New variables -/
/-- A value's own cells. -/
theorem rep_cells {M : Nat → Prop} {w : World} {x : PV} {v : Value} (h : Rep M w x v) (h1 : ∀ u, x = .val u → u.oneCell' = true) : RepL M w x.cells v.cells.toList := by
  have single : ∀ {x : PV} {v : Value}, Rep M w x v → v.oneCell' = true → RepL M w [x] [v] := fun {x v} h h1 => ⟨rfl, fun i c u hc hu => by
    cases i with
    | zero => simp at hc hu; subst hc; subst hu; exact h
    | succ i => simp at hc, fun u hu => by simp at hu; subst hu; exact h1⟩
  have cells1 : ∀ {v : Value}, v.oneCell' = true → v.cells.toList = [v] := fun {v} h => by cases v <;> first | rfl | simp [Value.oneCell'] at h
  cases h with
  | val v =>
    have := h1 v rfl
    rw [cells1 this]
    exact single (.val v) this
  | agg cs vs hl h hone => exact ⟨hl, h, hone⟩
  | nil => exact single .nil rfl
  | sl es g o m cap ys hm hl hc h hone hM hg hcap hmx => exact single (.sl es g o m cap ys hm hl hc h hone hM hg hcap hmx) rfl

/-- A new variable with a value in it. -/
theorem a_box {v : PV} (ho : o.op = .box t x) (hx : S.get x = .p v) (h1 : ∀ u, v = .val u → u.oneCell' = true) (hd : o.dst = some d) (hn : d < n) : AStep P n o S [] (.ptr d 0) (some (.box t (v.cells.map AV.p))) :=
  AStep.made hd hn fun S2 hg _ M w0 ρ a w hs => by
    have hr := rep_of_arg hs ((hg x (by rw [ho]; simp [Op.operands])).trans hx)
    have hc := rep_cells hr h1
    refine ⟨.pointer (some ⟨w.heap.size, 0, none⟩), w.alloc (.cells (a.eval x).cells t), ?_, World.grownBy_alloc w _ none, fun k hk => ?_, ?_, .inr ⟨rfl, _, rfl⟩⟩
    · unfold execOp
      rw [ho]
      simp [Instr.box, newVar, newRow, newObj, Sem.run, Result.andThen]
    · simp only [blkOf, Option.some.injEq] at hk; omega
    · refine ⟨w.heap.size, (a.eval x).cells.toList, rfl, hs.below.size, by rw [heap_alloc_new], ⟨by simpa using hc.len, fun i c u h2 h3 => ?_, hc.one⟩⟩
      rw [List.getElem?_map, Option.map_eq_some_iff] at h2
      obtain ⟨y, hy, rfl⟩ := h2
      refine .p (((hc.each i y u hy h3).mono fun k hk h => ?_).keep (.of_below _ ((Below.refl _ _).alloc (Nat.le_refl _) _)))
      rcases h with h | h
      · exact h
      · simp only [blkOf, Option.some.injEq] at h; omega

/-- A new variable, zero. -/
theorem a_alloc {z : Value} (ho : o.op = .alloc t) (hz : ∀ w, (zeroValue t).run P w = .ok z w) (h1 : ∀ u ∈ z.cells.toList, u.oneCell' = true) (hd : o.dst = some d) (hn : d < n) : AStep P n o S [] (.ptr d 0) (some (.box t (z.cells.toList.map fun u => .p (.val u)))) :=
  AStep.made hd hn fun S2 _ _ M w0 ρ a w hs => by
    refine ⟨.pointer (some ⟨w.heap.size, 0, none⟩), w.alloc (.cells z.cells t), ?_, World.grownBy_alloc w _ none, fun k hk => ?_, ?_, .inr ⟨rfl, _, rfl⟩⟩
    · unfold execOp
      rw [ho]
      simp [Instr.alloc, newVar, newRow, newObj, Sem.run, Result.andThen, hz w]
    · simp only [blkOf, Option.some.injEq] at hk; omega
    · refine ⟨w.heap.size, z.cells.toList, rfl, hs.below.size, by rw [heap_alloc_new], ⟨by simp, fun i c u h2 h3 => ?_, h1⟩⟩
      rw [List.getElem?_map, Option.map_eq_some_iff] at h2
      obtain ⟨y, hy, rfl⟩ := h2
      rw [h3] at hy
      obtain rfl := Option.some.inj hy
      exact .p (.val _)

end

end Go.Proofs.Ytjokcnajopfjhaa
