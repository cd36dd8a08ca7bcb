/- The rules of the walk over abstract frames: stores, appends, strings; and what may be said less of a frame. Generic over the program. -/
import Derived.Test.YtjokcnajopfjhaaMem2
namespace Go.Proofs.Ytjokcnajopfjhaa
open Go Go.RowKit

section
variable {M : Nat → Prop} {n : Nat} {w0 w w' : World} {S : AS} {ρ : Nat → Value} {a : Act}

theorem Sat.retype (h : Sat M n w0 S ρ a w) {d : Nat} {x : AV} (hx : RepA (Mut M S ρ) ρ w x (a.tmps.getD d undef)) : Sat M n w0 (S.put d x) ρ a w := by
  refine ⟨h.below, h.out, h.size, h.defers, fun i => ?_, fun id b hb => h.blks id b hb, h.dist⟩
  rw [AS.tmp_put]
  by_cases hi : d = i
  · subst hi; rw [if_pos rfl]; exact hx
  · rw [if_neg hi]; exact h.tmps i

/-- without block id -/
def dropL (l : List (Nat × Blk)) (id : Nat) : List (Nat × Blk) := l.filter fun p => p.1 != id
theorem look_dropL (l : List (Nat × Blk)) (id j : Nat) : look (dropL l id) j = if id = j then none else look l j := by
  induction l with
  | nil => simp [dropL, look]
  | cons p r ih =>
    obtain ⟨k, b⟩ := p
    unfold dropL at ih ⊢
    rw [List.filter_cons]
    by_cases hk : k = id
    · subst hk
      rw [if_neg (by simp), ih]
      by_cases hj : k = j
      · rw [if_pos hj, if_pos hj]
      · rw [if_neg hj, if_neg hj]; simp only [look]; rw [if_neg hj]
    · rw [if_pos (by simp [hk])]
      simp only [look, ih]
      by_cases hj : id = j
      · subst hj; rw [if_pos rfl, if_neg hk]; rw [if_pos rfl]
      · rw [if_neg hj]; rw [if_neg hj]
def AS.drop (S : AS) (id : Nat) : AS := { (S.kill id) with s := dropL (S.kill id).s id }
theorem AS.blk_drop (S : AS) (id j : Nat) : (S.drop id).blk j = if id = j then none else (S.blk j).map (Blk.kill id) := by
  simp only [AS.blk, AS.drop, look_dropL]
  by_cases hj : id = j
  · rw [if_pos hj, if_pos hj]
  · rw [if_neg hj, if_neg hj]; exact S.blk_kill id j

theorem upd_self (ρ : Nat → Value) (id : Nat) : upd ρ id (ρ id) = ρ := by
  funext j
  simp only [upd]
  split
  · rename_i h; rw [h]
  · rfl

theorem Mut.drop {id k : Nat} (h : Mut M (S.drop id) ρ k) : Mut M S ρ k := by
  rcases h with h | ⟨j, b, hb, hk⟩
  · exact .inl h
  · rw [AS.blk_drop] at hb
    split at hb
    · cases hb
    · obtain ⟨b1, h1, _⟩ := Option.map_eq_some_iff.1 hb
      exact .inr ⟨j, b1, h1, hk⟩

theorem Sat.drop (h : Sat M n w0 S ρ a w) (id : Nat) : Sat M n w0 (S.drop id) ρ a w := by
  have hk : ∀ {x : AV} {v : Value}, RepA (Mut M S ρ) ρ w x v → RepA (Mut M (S.drop id) ρ) ρ w (x.kill id) v := fun {x v} hx => by
    have := hx.killed id (ρ id)
    rw [upd_self] at this
    exact this.mono fun k _ hk => Mut.drop hk
  refine ⟨h.below, h.out, h.size, h.defers, fun i => ?_, fun j b hb => ?_, fun i j bi bj k hi hj => ?_⟩
  · have e : (S.drop id).tmp i = (S.tmp i).kill id := S.tmp_kill id i
    rw [e]
    exact hk (h.tmps i)
  · rw [AS.blk_drop] at hb
    split at hb
    · cases hb
    · obtain ⟨b1, h1, rfl⟩ := Option.map_eq_some_iff.1 hb
      have := h.blks j b1 h1
      cases b1 with
      | row t size m xs =>
        obtain ⟨ys, ho, hc⟩ := this
        have h2 := hc.killed id (ρ id)
        rw [upd_self] at h2
        exact ⟨ys, ho, h2.mono fun k _ hk => Mut.drop hk⟩
      | prow t size m xs =>
        obtain ⟨ys, ho, hc⟩ := this
        have h2 := kill_pures xs id ▸ hc.killed id (ρ id)
        rw [upd_self] at h2
        exact ⟨ys, ho, h2.mono fun k _ hk => Mut.drop hk⟩
      | box t xs =>
        obtain ⟨g, ys, hv, hg, hh, hc⟩ := this
        have h2 := hc.killed id (ρ id)
        rw [upd_self] at h2
        exact ⟨g, ys, hv, hg, hh, h2.mono fun k _ hk => Mut.drop hk⟩
  · rw [AS.blk_drop] at hi hj
    split at hi
    · cases hi
    · split at hj
      · cases hj
      · obtain ⟨b1, h1, _⟩ := Option.map_eq_some_iff.1 hi
        obtain ⟨b2, h2, _⟩ := Option.map_eq_some_iff.1 hj
        exact h.dist i j b1 b2 k h1 h2

theorem flat_ones {es : List PV} (h : ∀ e ∈ es, e.cells = [e]) : flat es = es := by
  induction es with
  | nil => rfl
  | cons e r ih =>
    unfold flat at ih ⊢
    rw [List.flatMap_cons, h e (by simp), ih fun e he => h e (by simp [he])]
    rfl

/-- An own row of pure cells reads as a slice that nobody turns. -/
theorem Sat.frozen (h : Sat M n w0 S ρ a w) {id ty sz m : Nat} {es : List PV} (hb : S.blk id = some (.row ty sz m ((flat es).map AV.p))) (hm : es.length = m) : Rep (Mut M (S.drop id) ρ) w (.sl es) (ρ id) := by
  obtain ⟨ys, ho, hc⟩ := h.blks id _ hb
  rcases ho.2 with ⟨hv, hm0⟩ | ⟨g, cap, cur, hv, hg, hh, hn, hcm, hs, ht⟩
  · rw [hv]
    have : es = [] := List.eq_nil_of_length_eq_zero (by omega)
    subst this
    exact .nil
  · rw [hv]
    have hgm : blkOf (ρ id) = some g := by rw [hv]; rfl
    refine .sl es g 0 m cap ys hm.symm (by simpa using hc.len) (fun j y hy => ?_) (fun j c y hcj hy => ?_) hc.one ?_ (Array.getElem?_eq_some_iff.1 hh).1 hn hcm
    · rw [Nat.zero_add, cell_of_row w g j cur ty (0, 0) hh]
      rw [← ht, List.getElem?_take] at hy
      split at hy
      · simpa using hy
      · cases hy
    · exact (rep_p (hc.each j (.p c) y (by rw [List.getElem?_map, hcj]; rfl) hy)).mono fun k _ hk => Mut.drop hk
    · rintro (hk | ⟨j, b, hbj, hkj⟩)
      · have := h.out g hk; omega
      · rw [AS.blk_drop] at hbj
        split at hbj
        · cases hbj
        · rename_i hne
          obtain ⟨b1, h1, _⟩ := Option.map_eq_some_iff.1 hbj
          exact hne (h.dist id j _ b1 g hb h1 hgm hkj)

/-- Slot d holds the row of block id: from now on it is a slice that nobody turns. -/
theorem sub_freeze {d id ty sz m : Nat} {es : List PV} (hd : S.tmp d = .own id) (hb : S.blk id = some (.row ty sz m ((flat es).map AV.p))) (hm : es.length = m) : Sub S ((S.drop id).put d (.p (.sl es))) :=
  fun M n w0 ρ a w hs => by
    refine ⟨ρ, (hs.drop id).retype (.p ?_)⟩
    have h1 := hs.tmps d
    rw [hd] at h1
    rw [own_eq h1]
    exact hs.frozen hb hm

/-- Slot d holds nil: from now on it is the frame's own row, empty. -/
theorem sub_adopt {d id ty sz : Nat} (hd : S.tmp d = .p (.val (.slice none 0 0))) : Sub S ((S.create id (.row ty sz 0 [])).put d (.own id)) :=
  fun M n w0 ρ a w hs => by
    have h1 := hs.change id (.row ty sz 0 []) (.slice none 0 0) none (w' := w) ⟨rfl, rfl, rfl, Nat.le_refl _, fun _ _ _ => rfl⟩ (fun k hk => by cases hk) (fun k hk => by cases hk) ⟨[], World.ownsRow_nil w _ ty sz, ⟨rfl, fun i c v hc => by simp at hc, fun v hv => by simp at hv⟩⟩
    refine ⟨upd ρ id (.slice none 0 0), h1.retype ?_⟩
    have h2 : a.tmps.getD d undef = .slice none 0 0 := hs.bool hd
    rw [h2]
    have := RepA.own (M := Mut M (S.create id (.row ty sz 0 [])) (upd ρ id (.slice none 0 0))) (ρ := upd ρ id (.slice none 0 0)) (w := w) id
    simpa [upd] using this

/-- Slot d holds what reads so. -/
theorem sub_nil {d : Nat} (hd : S.tmp d = .p (.val (.slice none 0 0))) : Sub S (S.put d (.p (.sl []))) :=
  fun M n w0 ρ a w hs => by
    refine ⟨ρ, hs.retype ?_⟩
    have h2 : a.tmps.getD d undef = .slice none 0 0 := hs.bool hd
    rw [h2]
    exact .p .nil

/-- Less is said of the slots, and of the blocks the same. -/
theorem sub_slots {S' : AS} (ht : ∀ p ∈ S'.t, p.2 = S.tmp p.1 ∨ p.2 = .any) (hs : ∀ i, S'.blk i = S.blk i) : Sub S S' :=
  fun M n w0 ρ a w h => by
    have hm : Mut M S' ρ = Mut M S ρ := by
      funext k
      simp only [Mut, hs]
    have key : ∀ (l : List (Nat × AV)) (i : Nat), (∀ p ∈ l, p.2 = S.tmp p.1 ∨ p.2 = .any) → (look l i).getD .any = S.tmp i ∨ (look l i).getD .any = .any := by
      intro l i hl
      induction l with
      | nil => exact .inr rfl
      | cons p r ih =>
        obtain ⟨k, x⟩ := p
        simp only [look]
        split
        · rename_i hk
          subst hk
          exact hl (k, x) (by simp)
        · exact ih fun p hp => hl p (by simp [hp])
    refine ⟨ρ, ⟨h.below, h.out, h.size, h.defers, fun i => ?_, fun id b hb => ?_, fun i j bi bj k hi hj => h.dist i j bi bj k ((hs i).symm.trans hi) ((hs j).symm.trans hj)⟩⟩
    · rw [hm]
      rcases key S'.t i ht with e | e
      · have e2 : S'.tmp i = S.tmp i := e
        rw [e2]; exact h.tmps i
      · have e2 : S'.tmp i = .any := e
        rw [e2]; exact .any _
    · rw [hm]
      exact h.blks id b ((hs id).symm.trans hb)

end

/-! ### Stores -/
def Blk.setXs (xs : List AV) : Blk → Blk
  | .row t size m _ => .row t size m xs
  | .prow t size m _ => .row t size m xs
  | .box t _ => .box t xs

section
variable {P : Program} {n : Nat} {o : Oper} {S : AS} {d : Nat} {t : TypeId} {x y : Operand}

theorem s_store {id off m : Nat} {b : Blk} {av : AV} (ho : o.op = .store t x y) (hx : S.get x = .ptr id off) (hb : S.blk id = some b) (hy : S.get y = av) (hk : av.partOK = true) (hm : ∀ w, (sizeOf t).run P w = .ok m w)
    (hlen : av.cellsA.length = m) (hle : off + m ≤ b.xs.length) (hd : o.dst = none) : Step P n o S { S with s := putL S.s id (b.setXs (splice b.xs off av.cellsA)) } := by
  intro M w0 ρ a w K Q hs hK
  have h1 := hs.rep x
  rw [hx] at h1
  obtain ⟨g, hgv, hv⟩ := rep_ptr h1
  have h2 := hs.rep y
  rw [hy] at h2
  have hcy := repA_cells h2 hk
  have hB := hs.blks id b hb
  have key : ∃ cur ty, w.heap[g]? = some (.cells cur ty (0, 0)) ∧ off + (a.eval y).cells.toList.length ≤ cur.size ∧
      (∀ w' : World, w.grownBy w' (some g) → w'.heap[g]? = some (.cells (splice cur.toList off (a.eval y).cells.toList).toArray ty (0, 0)) → BlkOK (Mut M S ρ) w0.heap.size ρ w' (ρ id) (b.setXs (splice b.xs off av.cellsA))) := by
    have keeps : ∀ {w' : World}, w.grownBy w' (some g) → Keeps (Mut M S ρ) w w' := fun {w'} hg => ⟨hg.size, fun k hk hnm => hg.block k hk (fun e => hnm (.inr ⟨id, b, hb, by rw [hgv]; exact e.symm⟩))⟩
    cases b with
    | box ty xs =>
      obtain ⟨g', ys, e, hg, hh, hc⟩ := hB
      have eg : g' = g := by rw [e] at hgv; simpa [blkOf] using hgv
      subst eg
      refine ⟨ys.toArray, ty, hh, ?_, fun w' hgr hh' => ⟨g', splice ys off (a.eval y).cells.toList, e, hg, by simpa using hh', (hc.splice hcy (by rw [hlen]; exact hle)).keep (keeps hgr)⟩⟩
      have e1 := hcy.len
      have e2 := hc.len
      have e3 : off + m ≤ xs.length := hle
      simp only [List.size_toArray]
      omega
    | row ty size k xs =>
      obtain ⟨ys, ⟨hl, ho2⟩, hc⟩ := hB
      have e1 := hcy.len
      have e2 := hc.len
      have e3 : off + m ≤ xs.length := hle
      rcases ho2 with ⟨e, _⟩ | ⟨g', cap, cur, e, hbg, hh, hkc, hcm, hcs, htk⟩
      · rw [e] at hgv; simp [blkOf] at hgv
      · have eg : g' = g := by rw [e] at hgv; simpa [blkOf] using hgv
        subst eg
        have hsz : k * size ≤ cur.size := by rw [hcs]; exact Nat.mul_le_mul_right _ hkc
        refine ⟨cur, ty, hh, by omega, fun w' hgr hh' => ⟨splice ys off (a.eval y).cells.toList, ⟨by rw [splice_len (by omega)]; exact hl, .inr ⟨g', cap, _, e, hbg, hh', hkc, hcm, ?_, ?_⟩⟩, (hc.splice hcy (by rw [hlen]; exact hle)).keep (keeps hgr)⟩⟩
        · simp only [List.size_toArray]
          rw [splice_len (by simp only [Array.length_toList] at *; omega)]
          simpa using hcs
        · apply List.ext_getElem?
          intro i
          rw [List.getElem?_take]
          rw [splice_get (by simp only [Array.length_toList] at *; omega), splice_get (by omega)]
          have hi : ∀ (i : Nat), i < k * size → cur.toList[i]? = ys[i]? := fun i hi => by rw [← htk, List.getElem?_take, if_pos hi]
          by_cases h3 : i < k * size
          · rw [if_pos h3]
            split
            · exact hi i h3
            · split
              · rfl
              · exact hi i h3
          · rw [if_neg h3]
            rw [if_neg (by omega), if_neg (by omega)]
            exact (List.getElem?_eq_none (by omega)).symm
    | prow ty size k xs =>
      obtain ⟨ys, ⟨hl, ho2⟩, hc⟩ := hB
      have e1 := hcy.len
      have e2 := hc.len
      have e3 : off + m ≤ (xs.map AV.p).length := hle
      rcases ho2 with ⟨e, _⟩ | ⟨g', cap, cur, e, hbg, hh, hkc, hcm, hcs, htk⟩
      · rw [e] at hgv; simp [blkOf] at hgv
      · have eg : g' = g := by rw [e] at hgv; simpa [blkOf] using hgv
        subst eg
        have hsz : k * size ≤ cur.size := by rw [hcs]; exact Nat.mul_le_mul_right _ hkc
        refine ⟨cur, ty, hh, by omega, fun w' hgr hh' => ⟨splice ys off (a.eval y).cells.toList, ⟨by rw [splice_len (by omega)]; exact hl, .inr ⟨g', cap, _, e, hbg, hh', hkc, hcm, ?_, ?_⟩⟩, (hc.splice hcy (by rw [hlen]; exact hle)).keep (keeps hgr)⟩⟩
        · simp only [List.size_toArray]
          rw [splice_len (by simp only [Array.length_toList] at *; omega)]
          simpa using hcs
        · apply List.ext_getElem?
          intro i
          rw [List.getElem?_take]
          rw [splice_get (by simp only [Array.length_toList] at *; omega), splice_get (by omega)]
          have hi : ∀ (i : Nat), i < k * size → cur.toList[i]? = ys[i]? := fun i hi => by rw [← htk, List.getElem?_take, if_pos hi]
          by_cases h3 : i < k * size
          · rw [if_pos h3]
            split
            · exact hi i h3
            · split
              · rfl
              · exact hi i h3
          · rw [if_neg h3]
            rw [if_neg (by omega), if_neg (by omega)]
            exact (List.getElem?_eq_none (by omega)).symm
  obtain ⟨cur, ty, hh, hfit, hfin⟩ := key
  have hst := run_storeCells_at P g off ty (a.eval y).cells.toList 0 cur w hh (by simpa using hfit) hcy.one
  have hsz : (a.eval y).cells.size = m := by have := hcy.len; rw [hlen] at this; simpa using this
  have hrun : (execOp a.eval o).run P w = .ok .skip (w.setRow g (splice cur.toList off (a.eval y).cells.toList).toArray) := by
    unfold execOp
    rw [ho]
    simp only [hv, Instr.storeAt, Instr.sureAddr, storeVar, Sem.run_bind, Sem.run_pure, Result.andThen_ok, hm, hsz, ne_eq, not_true_eq_false, if_false]
    simp only [Nat.add_zero] at hst
    rw [hst]
    rfl
  have hgr : w.grownBy (w.setRow g (splice cur.toList off (a.eval y).cells.toList).toArray) (some g) := ⟨rfl, rfl, rfl, by simp, fun k _ hk => setRow_other w g k _ (fun e => hk (by rw [e]))⟩
  unfold Oper.wp
  rw [hrun]
  show K (a.put o.dst undef) _
  rw [hd]
  exact hK ρ a _ (hs.turn hb hgv hgr (hfin _ hgr (setRow_heap w g cur _ ty _ hh)))

end

end Go.Proofs.Ytjokcnajopfjhaa
