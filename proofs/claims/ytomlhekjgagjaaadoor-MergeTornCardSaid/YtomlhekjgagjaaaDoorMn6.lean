/- For every input MergeTorn returns true, and leaves its argument as it was. Conditions: none beyond the given statement. (Part 6 of 9.) -/
import Derived.Test.YtomlhekjgagjaaaDoorMn5
namespace Go.Proofs.YtomlhekjgagjaaaDoor
set_option maxRecDepth 100000
set_option maxHeartbeats 16000000
open Go Go.RowKit
def hdr (g n cap : Nat) : Value := .slice (some ⟨g, 0, none⟩) n cap
def okEs (sz : Nat) (es : List PV) : Prop := ∀ e ∈ es, e.cells.length = sz ∧ e.cells.all PV.one = true
structure ArrQ (e sz cap : Nat) (es : List PV) (cur : List Value) : Prop where
  len : cur.length = cap * sz
  le : es.length ≤ cap
  max : cap ≤ maxLen
  is : cur.take (es.length * sz) = (flat es).map PV.v1
  ok : okEs sz es
def IsArr (g e sz cap : Nat) (es : List PV) (g' : Nat) (o : Obj) : Prop := g' = g ∧ ∃ cur : List Value, o = .cells cur.toArray e (0, 0) ∧ ArrQ e sz cap es cur
def arrB (g e sz cap : Nat) (es : List PV) : Blk := .obj false (IsArr g e sz cap es)
theorem flat_one {sz : Nat} : ∀ {es : List PV}, okEs sz es → ∀ x ∈ flat es, x.one = true
  | [], _, x, hx => by simp [flat] at hx
  | c :: r, h, x, hx => by
    have hx : x ∈ c.cells ++ flat r := hx
    rcases List.mem_append.1 hx with h1 | h1
    · exact List.all_eq_true.1 (h c (by simp)).2 x h1
    · exact flat_one (fun e he => h e (by simp [he])) x h1
theorem okEs_len {sz : Nat} {es : List PV} (h : okEs sz es) : ∀ e ∈ es, e.cells.length = sz := fun e he => (h e he).1
theorem flat_length {sz : Nat} {es : List PV} (h : okEs sz es) : (flat es).length = es.length * sz := flat_len (okEs_len h)
theorem okEs_set {sz : Nat} {es : List PV} {i : Nat} {v : PV} (h : okEs sz es) (hv : v.cells.length = sz) (h1 : v.cells.all PV.one = true) : okEs sz (es.set i v) := fun e he => by
  rcases List.mem_or_eq_of_mem_set he with h2 | rfl
  · exact h e h2
  · exact ⟨hv, h1⟩
section
variable {M : Nat → Nat → Prop} {n : Nat} {w0 : Home} {w : World} {S : AS} {ρ : Nat → Value} {a : Act}
theorem Sat.tagBox (hs : Sat M n w0 S ρ a w) {bid t : Nat} {xs xs' : List AV} (hb : S.blk bid = some (.box t xs)) (hx : ∀ g ys, ρ bid = .pointer (some ⟨g, 0, none⟩) → w.heap[g]? = some (.cells ys.toArray t (0, 0)) → yK (Mut M S ρ) ρ w xs ys → yK (Mut M S ρ) ρ w xs' ys) : Sat M n w0 (S.tag bid (.box t xs')) ρ a w := by
  have some_of : ∀ i b, (S.tag bid (.box t xs')).blk i = some b → ∃ b1, S.blk i = some b1 ∧ ∀ c, b.turns c → b1.turns c := fun i b hi => by
    rw [AS.xQ] at hi
    split at hi
    · rename_i he; subst he; exact ⟨_, hb, fun _ _ => trivial⟩
    · exact ⟨b, hi, fun _ h => h⟩
  have hm : ∀ k c, Mut M (S.tag bid (.box t xs')) ρ k c → Mut M S ρ k c := fun k c hk => by
    rcases hk with hk | ⟨i, b, hi, hk, ht⟩
    · exact .inl hk
    · obtain ⟨b1, h1, h2⟩ := some_of i b hi
      exact .inr ⟨i, b1, h1, hk, h2 c ht⟩
  refine ⟨hs.below, hs.out, hs.tab, hs.size, hs.defers, fun i => (hs.tmps i).mono fun k c _ hk => hm k c hk, fun i b hi => ?_, fun i b k hi hk => ?_, hs.fix, hs.free, fun i j bi bj k hi hj => ?_⟩
  · rw [AS.xQ] at hi
    split at hi
    · rename_i he
      subst he
      obtain rfl := Option.some.inj hi
      obtain ⟨g, ys, h1, h2, h3, h4⟩ := hs.blks bid _ hb
      exact ⟨g, ys, h1, h2, h3, (hx g ys h1 h3 h4).mono fun k c _ hk => hm k c hk⟩
    · exact (hs.blks i b hi).mono hm
  · obtain ⟨b1, h1, _⟩ := some_of i b hi
    exact hs.mine i b1 k h1 hk
  · obtain ⟨b1, h1, _⟩ := some_of i bi hi
    obtain ⟨b2, h2, _⟩ := some_of j bj hj
    exact hs.dist i j b1 b2 k h1 h2
def AS.toArr (S : AS) (bid t rid : Nat) (A : Blk) (x : AV) : AS := (S.create rid A).tag bid (.box t [x])
theorem Sat.toArr (hs : Sat M n w0 S ρ a w) {bid t rid e sz : Nat} {es : List PV} (hb : S.blk bid = some (.box t [.own rid])) (hr : S.blk rid = some (x9 e sz es)) (hne : 0 < es.length) (hok : okEs sz es) (hbr : rid ≠ bid) :
    ∃ g cap, w0.r rid = none ∧ Sat M n w0 (S.toArr bid t rid (arrB g e sz cap es) (.p (.val (hdr g es.length cap)))) (upd ρ rid (.pointer (some ⟨g, 0, none⟩))) a w := by
  obtain ⟨ys, ho, hc⟩ := hs.blks rid _ hr
  have hrn := row_free hs ho
  rcases ho.2 with ⟨_, h0⟩ | ⟨g, cap, cur, hv, hg, hh, hn, hcm, hcs, htk⟩
  · omega
  · have hflat : ys = (flat es).map PV.v1 := by
      apply List.ext_getElem?
      intro i
      rw [List.getElem?_map]
      cases hi : (flat es)[i]? with
      | none =>
        rw [List.getElem?_eq_none_iff] at hi
        have := hc.len
        rw [List.length_map] at this
        rw [List.getElem?_eq_none (by omega)]; rfl
      | some x =>
        have hlt : i < ys.length := by
          have h1 := hc.len
          rw [List.length_map] at h1
          have := (List.getElem?_eq_some_iff.1 hi).1
          omega
        rw [List.getElem?_eq_getElem hlt]
        have h2 := hc.each i (.p x) ys[i] (by rw [List.getElem?_map, hi]; rfl) (List.getElem?_eq_getElem hlt)
        have h3 := flat_one hok x (List.mem_of_getElem? hi)
        cases x with
        | val u => cases h2 with
          | p h4 => rw [rep_val h4]; rfl
        | _ => cases h3
    have hQ : ArrQ e sz cap es cur.toList := ⟨by simpa using hcs, hn, hcm, by rw [htk, hflat], hok⟩
    have h1 := hs.change rid (arrB g e sz cap es) (.pointer (some ⟨g, 0, none⟩)) (some g) hrn (w' := w) ⟨rfl, rfl, rfl, Nat.le_refl _, fun _ _ _ => rfl⟩ (fun k hk => by
      cases hk
      exact ⟨_, hr, by rw [hv]; rfl, fun _ _ => trivial, fun _ _ => rfl⟩) (fun k hk => .inr (by simpa [zT] using hk)) ⟨g, _, rfl, Nat.zero_le _, hh, rfl, cur.toList, by simp, hQ⟩
    refine ⟨g, cap, hrn, ?_⟩
    have hb2 : (S.create rid (arrB g e sz cap es)).blk bid = some (.box t [AV.any]) := by
      rw [AS.xK, if_neg hbr, hb]
      simp [Blk.kill, AV.kill]
    refine h1.tagBox hb2 fun gb' zs' hbv' hhb' hys => ?_
    have hsame : zs' = [hdr g es.length cap] := by
      obtain ⟨gb, zs, hbv, _, hhb, hcz⟩ := hs.blks bid _ hb
      have e1 : upd ρ rid (.pointer (some ⟨g, 0, none⟩)) bid = ρ bid := by simp [upd, Ne.symm hbr]
      rw [e1, hbv] at hbv'
      injection hbv' with h5
      injection h5 with h6
      injection h6 with h7
      subst h7
      rw [hhb] at hhb'
      injection hhb' with h8
      injection h8 with h9
      have h10 : zs = zs' := by simpa using h9
      subst h10
      have hl := hcz.len
      match zs, hl with
      | [z], _ =>
        have := hcz.each 0 (.own rid) z rfl rfl
        rw [vN this, hv]; rfl
    subst hsame
    refine ⟨rfl, fun i c v hc hv => ?_, fun v hv => by simp at hv; subst hv; rfl⟩
    cases i with
    | zero => cases hc; cases hv; exact .p (.val _)
    | succ i => cases hc
def AS.toRow (S : AS) (bid t rid : Nat) (R : Blk) : AS := (S.create rid R).tag bid (.box t [.own rid])
theorem Sat.toRow (hs : Sat M n w0 S ρ a w) {bid t rid e sz g cap : Nat} {es : List PV} (hb : S.blk bid = some (.box t [.p (.val (hdr g es.length cap))])) (hr : S.blk rid = some (arrB g e sz cap es)) (hrn : w0.r rid = none) (hbr : rid ≠ bid) :
    Sat M n w0 (S.toRow bid t rid (x9 e sz es)) (upd ρ rid (hdr g es.length cap)) a w := by
  obtain ⟨g', o, hv, _, hh, rfl, cur, rfl, hQ⟩ := hs.blks rid _ hr
  have hys : RepL (fun k c => Mut M S ρ k c ∨ (zT (hdr g' es.length cap) = some k ∧ (x9 e sz es).turns c)) w (flat es) ((flat es).map PV.v1) := ⟨by simp, fun i c v hc hv => by
    rw [List.getElem?_map, hc] at hv
    cases hv
    exact (rep_one (flat_one hQ.ok c (List.mem_of_getElem? hc))).1, fun v hv => by
    obtain ⟨c, hc, rfl⟩ := List.mem_map.1 hv
    exact (rep_one (M := fun _ _ => False) (w := w) (flat_one hQ.ok c hc)).2⟩
  have h1 := hs.change rid (x9 e sz es) (hdr g' es.length cap) (some g') hrn (w' := w) ⟨rfl, rfl, rfl, Nat.le_refl _, fun _ _ _ => rfl⟩ (fun k hk => by
      cases hk
      exact ⟨_, hr, by rw [hv]; rfl, fun _ _ => trivial, fun _ _ => rfl⟩) (fun k hk => .inr (by simpa [zT, hdr] using hk))
    ⟨(flat es).map PV.v1, ⟨by rw [List.length_map, flat_length hQ.ok], .inr ⟨g', cap, cur.toArray, rfl, Nat.zero_le _, hh, hQ.le, hQ.max, by simpa using hQ.len, by simpa using hQ.is⟩⟩, ⟨by simp, fun i c v hc hv => by
      rw [List.getElem?_map, Option.map_eq_some_iff] at hc
      obtain ⟨x, hx, rfl⟩ := hc
      exact .p (hys.each i x v hx hv), hys.one⟩⟩
  have hb2 : (S.create rid (x9 e sz es)).blk bid = some (.box t [.p (.val (hdr g' es.length cap))]) := by
    rw [AS.xK, if_neg hbr, hb]
    rfl
  refine h1.tagBox hb2 fun gb zs hbv hhb hc => ?_
  have hl := hc.len
  match zs, hl with
  | [z], _ =>
    have h2 := hc.each 0 _ z rfl rfl
    have h3 : z = hdr g' es.length cap := rep_val (rep_p h2)
    subst h3
    refine ⟨rfl, fun i c v hc' hv => ?_, hc.one⟩
    · cases i with
      | zero =>
        cases hc'; cases hv
        have := yV.own (M := Mut M (S.create rid (x9 e sz es)) (upd ρ rid (hdr g' es.length cap))) (ρ := upd ρ rid (hdr g' es.length cap)) (w := w) rid
        simpa [upd] using this
      | succ i => cases hc'
end
section
variable {P : Program} {n : Nat} {o : Oper} {S : AS} {d : Nat} {t : TypeId} {x y : Operand}
theorem w_idxH {ix : Operand} {g m cap e sz : Nat} {j : Int} {k : IntKind} {agg : Bool} [ht : Und P t (.slice e)] [he : TyA P e agg sz] (ho : o.op = .indexAddr t x ix) (hx : S.get x = .p (.val (hdr g m cap))) (hi : S.get ix = .p (.val (.int k j))) (hj : 0 ≤ j ∧ j < m) (hd : o.dst = some d) (hn : d < n) :
    zA P n o S [] (.p (.val (.pointer (some ⟨g, j.toNat * sz, none⟩)))) none :=
  zA.pure hd hn fun S2 hg hbl M w0 ρ a w hs => by
    have h1 := hs.val ((hg x (by rw [ho]; simp [Op.operands])).trans hx)
    have h2 := hs.val ((hg ix (by rw [ho]; simp [Op.operands])).trans hi)
    refine ⟨_, w, ?_, Below.refl _ _, .p (.val _)⟩
    unfold execOp
    rw [ho]
    simp only [h1, h2, hdr, Sem.run_bind]
    have hel : P.elem t = e := by simp [Program.elem, ht.h]
    rw [run_indexAt_slice w t _ _ _ _ _ (by rw [hel]; exact ht.h), if_pos ⟨by omega, by omega⟩, hel, he.sz w]
    simp [Result.andThen, add_lit]
theorem w_fieldH {s f k g off : Nat} [h : FieldA P s f k] (ho : o.op = .fieldAddr s x f) (hx : S.get x = .p (.val (.pointer (some ⟨g, off, none⟩)))) (hd : o.dst = some d) (hn : d < n) : zA P n o S [] (.p (.val (.pointer (some ⟨g, off + k, none⟩)))) none :=
  zA.pure hd hn fun S2 hg _ M w0 ρ a w hs => by
    have h1 := hs.val ((hg x (by rw [ho]; simp [Op.operands])).trans hx)
    refine ⟨_, w, ?_, Below.refl _ _, .p (.val _)⟩
    unfold execOp
    rw [ho]
    simp only [h1, Sem.run_bind, h.h g off w]
    rfl
theorem w_lenH {g m cap t' : Nat} [ht : Und P t (.slice t')] (ho : o.op = .call { callee := .builtin .len, args := #[x], argTypes := #[t] }) (hx : S.get x = .p (.val (hdr g m cap))) (hd : o.dst = some d) (hn : d < n) : zA P n o S [] (.p (.val (.int .i64 (m : Nat)))) none :=
  zA.pure hd hn fun S2 hg _ M w0 ρ a w hs => by
    have h1 := hs.val ((hg x (by rw [ho]; simp [Op.operands, Call.operands])).trans hx)
    have he : P.elem t = t' := by simp [Program.elem, ht.h]
    refine ⟨.int .i64 m, w, ?_, Below.refl _ _, .p (.val _)⟩
    have run : ∀ b m c, (Builtin.len_ #[t] o.type #[.slice b m c]).run P w = .ok (goInt m) w := fun b m c => run_len_slice w t o.type b m c (by rw [he]; exact ht.h)
    unfold execOp
    rw [ho]
    simp only [resolve, invoke, builtin, Sem.run_bind, Sem.run_pure, Result.andThen_ok, List.map_toArray, List.map_cons, List.map_nil, h1, hdr, run]
    rfl
theorem arr_cell {M : Nat → Nat → Prop} {w0 : Home} {w : World} {S : AS} {ρ : Nat → Value} {a : Act} (hs : Sat M n w0 S ρ a w) {id g e sz cap : Nat} {es : List PV} (hb : S.blk id = some (arrB g e sz cap es)) {j : Nat} {c : PV} (hc : (flat es)[j]? = some c) : w.cell? ⟨g, j, none⟩ = some c.v1 ∧ c.one = true := by
  obtain ⟨g', o, hv, _, hh, rfl, cur, rfl, hQ⟩ := hs.blks id _ hb
  have h1 : (cur.take (es.length * sz))[j]? = some c.v1 := by rw [hQ.is, List.getElem?_map, hc]; rfl
  have h2 : cur[j]? = some c.v1 := by
    rw [List.getElem?_take] at h1
    split at h1
    · exact h1
    · cases h1
  exact ⟨cell_at hh h2, flat_one hQ.ok c (List.mem_of_getElem? hc)⟩
theorem w_ldH1 {id g e sz cap off m : Nat} {es : List PV} {c : PV} [h : TyA P t false m] (hb : S.blk id = some (arrB g e sz cap es)) (ho : o.op = .load t x) (hx : S.get x = .p (.val (.pointer (some ⟨g, off, none⟩)))) (hc : (flat es)[off]? = some c) (hd : o.dst = some d) (hn : d < n) : zA P n o S [id] (.p c) none :=
  zA.pure hd hn fun S2 hg hbl M w0 ρ a w hs => by
    have h1 := hs.val ((hg x (by rw [ho]; simp [Op.operands])).trans hx)
    obtain ⟨h2, h3⟩ := arr_cell hs ((hbl id (by simp)).trans hb) hc
    refine ⟨c.v1, w, ?_, Below.refl _ _, .p (rep_one h3).1⟩
    unfold execOp
    rw [ho]
    simp only [h1, Sem.run_bind, loadAt_one (h.ag w) h2]
    rfl
theorem w_ldHN {id g e sz cap off i : Nat} {es cs : List PV} [h : TyA P t true sz] (hb : S.blk id = some (arrB g e sz cap es)) (ho : o.op = .load t x) (hx : S.get x = .p (.val (.pointer (some ⟨g, off, none⟩)))) (hoff : off = i * sz) (hc : es[i]? = some (.agg cs)) (hd : o.dst = some d) (hn : d < n) : zA P n o S [id] (.p (.agg cs)) none :=
  zA.pure hd hn fun S2 hg hbl M w0 ρ a w hs => by
    have h1 := hs.val ((hg x (by rw [ho]; simp [Op.operands])).trans hx)
    have hb2 := (hbl id (by simp)).trans hb
    obtain ⟨g', o', hv, _, hh, rfl, cur, rfl, hQ⟩ := hs.blks id _ hb2
    have hlen := (hQ.ok _ (List.mem_of_getElem? hc)).1
    have hone := (hQ.ok _ (List.mem_of_getElem? hc)).2
    have hfl := flat_get (okEs_len hQ.ok) hc
    have hcl : cs.length = sz := hlen
    have hcell : ∀ (j : Nat) y, (cs.map PV.v1)[j]? = some y → w.cell? ⟨g', off + j, none⟩ = some y := fun j y hy => by
      rw [List.getElem?_map, Option.map_eq_some_iff] at hy
      obtain ⟨c, hcj, rfl⟩ := hy
      have hj : j < sz := by have := (List.getElem?_eq_some_iff.1 hcj).1; omega
      have h5 : (((flat es).drop (i * sz)).take sz)[j]? = some c := by rw [hfl]; exact hcj
      rw [List.getElem?_take, if_pos hj, List.getElem?_drop, ← hoff] at h5
      exact (arr_cell hs hb2 h5).1
    refine ⟨.agg (cs.map PV.v1).toArray, w, ?_, Below.refl _ _, .p (.agg cs _ (by simp) (fun i c v hc hv => ?_) fun v hv => ?_)⟩
    · unfold execOp
      rw [ho]
      simp only [h1, Sem.run_bind, loadAt_many (h.ag w) (h.sz w) (by simp [hcl]) hcell]
      rfl
    · rw [List.getElem?_map, hc] at hv
      cases hv
      exact (rep_one (List.all_eq_true.1 hone c (List.mem_of_getElem? hc))).1
    · obtain ⟨c, hc, rfl⟩ := List.mem_map.1 hv
      exact (rep_one (M := fun _ _ => False) (w := w) (List.all_eq_true.1 hone c hc)).2
theorem s_stHN {id g e sz cap off i : Nat} {es : List PV} {v : PV} [h : TyA P t true sz] (hb : S.blk id = some (arrB g e sz cap es)) (ho : o.op = .store t x y) (hx : S.get x = .p (.val (.pointer (some ⟨g, off, none⟩)))) (hy : S.get y = .p v) (hag : v = .agg v.cells) (hoff : off = i * sz) (hi : i < es.length) (hv : v.cells.length = sz) (hv1 : v.cells.all PV.one = true) (hd : o.dst = none) :
    Step P n o S (S.tag id (arrB g e sz cap (es.set i v))) := by
  intro M w0 ρ a w K Q hs hK
  have h1 := hs.val hx
  have h2 := hs.rep y
  rw [hy] at h2
  have hpl : v.plain = true := by rw [hag]; exact hv1
  have h3 : a.eval y = v.vv := by
    generalize a.eval y = u at h2
    cases h2 with
    | p h => exact rep_is hpl h
  have hvv : v.vv.cells.toList = v.cells.map PV.v1 := by
    rw [hag]; simp [PV.vv, Value.cells, PV.cells]
  obtain ⟨g', o', hrv, _, hh, rfl, cur, rfl, hQ⟩ := hs.blks id _ hb
  have hfl := flat_length hQ.ok
  have hile : i * sz + sz ≤ es.length * sz := by
    have := Nat.mul_le_mul_right sz (show i + 1 ≤ es.length from hi)
    rw [Nat.succ_mul] at this
    exact this
  have hcap : es.length * sz ≤ cap * sz := Nat.mul_le_mul_right _ hQ.le
  have hcl := hQ.len
  have hl1 : (v.cells.map PV.v1).length = sz := by simp [hv]
  have hst := run_storeCells_at P g' off e (v.cells.map PV.v1) 0 cur.toArray w hh (by simp; omega) (fun u hu => by
    obtain ⟨c, hc, rfl⟩ := List.mem_map.1 hu
    exact (rep_one (M := fun _ _ => False) (w := w) (List.all_eq_true.1 hv1 c hc)).2)
  have hrun : (execOp a.eval o).run P w = .ok .skip (w.setRow g' (splice cur off (v.cells.map PV.v1)).toArray) := by
    unfold execOp
    rw [ho]
    have hsz : v.vv.cells.size = sz := by rw [← Array.length_toList, hvv]; exact hl1
    simp only [h1, h3, Instr.storeAt, Instr.sureAddr, storeVar, Sem.run_bind, Sem.run_pure, Result.andThen_ok, h.sz, hsz, hvv, ne_eq, not_true_eq_false, if_false]
    simp only [Nat.add_zero] at hst
    rw [hst]
    rfl
  have hgr : w.grownBy (w.setRow g' (splice cur off (v.cells.map PV.v1)).toArray) (some g') := ⟨rfl, rfl, rfl, by simp, fun k _ hk => setRow_other w g' k _ (fun e => hk (by rw [e]))⟩
  unfold Oper.wp
  rw [hrun]
  show K (a.put o.dst undef) _
  rw [hd]
  refine hK ρ a _ (hs.turn hb (by rw [hrv]; rfl) hgr (fun _ => trivial) ⟨g', _, hrv, Nat.zero_le _, setRow_heap w g' cur.toArray _ e _ hh, rfl, splice cur off (v.cells.map PV.v1), by simp, ?_⟩)
  have hspl : (splice cur off (v.cells.map PV.v1)).length = cur.length := wD (by rw [hl1]; omega)
  refine ⟨by rw [hspl]; exact hQ.len, by rw [List.length_set]; exact hQ.le, hQ.max, ?_, okEs_set hQ.ok hv hv1⟩
  rw [List.length_set, ← flat_set (okEs_len hQ.ok) hv hi]
  have e1 : (splice (flat es) (i * sz) v.cells).map PV.v1 = splice ((flat es).map PV.v1) (i * sz) (v.cells.map PV.v1) := (splice_map _ _ _ _).symm
  rw [e1, ← hQ.is, hoff]
  apply List.ext_getElem?
  intro q
  rw [List.getElem?_take, xV (by rw [hl1]; omega), xV (by rw [hl1, List.length_take]; omega)]
  simp only [List.getElem?_take]
  by_cases hq : q < es.length * sz
  · simp only [if_pos hq]
  · simp only [if_neg hq]
    rw [if_neg (by omega), if_neg (by rw [hl1]; omega)]
end
section
variable {P : Program} {n : Nat} {o : Oper} {S : AS} {d : Nat}
theorem FnZ.widen {f : FuncId} {xs : List AV} {B B' L L' : List Blk} {rx : AV} (ids : List Nat) (hf : FnZ P f xs B [] rx B' []) (hh : HandsZ (asB L) ids B) (hpin : B.all Blk.pinned = true) (hB' : B'.length = B.length) (hok' : B'.all (Blk.okZ B'.length) = true) (hxs : xs.all (AV.okE B.length) = true) (hrx : rx.okE B'.length = true)
    (hS : ∀ j, ((asB L).after ids B').blk j = (asB L').blk j) (hr2 : rx.ren (sig ids) = rx) : FnZ P f (xs.map (AV.ren (sig ids))) L [] rx L' [] := by
  intro M h ρ vs hand hs hvl hvs
  have hs0 : Sat M 0 h (asB L) ρ qN h.w := by simpa using hs
  have h1 := call_z (bids := ids) (rids := []) (nids := []) hf (by simpa using hh) hh.len hpin hB' rfl (by simpa using hh.nodup) (by simpa using hok') (by simpa using hxs) (by simpa using hrx) hs0 (fun j hj => by cases hj) (by rw [hvl, List.length_map]) (fun i x v hx hv => by
    have := hvs i (x.ren (sig ids)) v (by rw [List.getElem?_map, hx]; rfl) hv
    simpa using this)
  refine Calls.mono h1 ?_
  rintro e w' ⟨ρ', v, rfl, hs2, hv⟩
  have hsame : Same (((asB L).drops ([] ++ [])).after (ids ++ []) (B' ++ [])) (asB (L' ++ [])) := ⟨fun _ => rfl, fun j => by
    have := hS j
    simpa [AS.drops] using this⟩
  refine ⟨ρ', v, rfl, hs2.same hsame, ?_⟩
  have h2 : yV (Mut M (((asB L).drops ([] ++ [])).after (ids ++ []) (B' ++ [])) ρ') ρ' w' rx v := by
    simpa [hr2] using hv
  refine h2.mono fun k c _ hk => ?_
  rcases hk with hk | ⟨id, b, hb, hk, ht⟩
  · exact .inl hk
  · exact .inr ⟨id, b, by rw [hsame.2]; exact hb, hk, ht⟩
def AV.isVal : AV → Bool
  | .any => true
  | .p (.val _) => true
  | _ => false
theorem AV.isVal_okE {x : AV} (h : x.isVal = true) {m : Nat} : x.okE m = true := by
  cases x with
  | any => rfl
  | p y => rfl
  | _ => cases h
theorem z8.arr {f : FuncId} {xs : Nat → Nat → List AV} {avs : Nat → Nat → List AV} {e sz t : Nat} {es es' : List PV} {rx : AV} {K : Exit → AS → Prop} {N : AS → Prop} (bid rid : Nat)
    (hf : ∀ g cap, FnZ P f (xs g cap) [.box t [.p (.val (hdr g es.length cap))], arrB g e sz cap es] [] rx [.box t [.p (.val (hdr g es.length cap))], arrB g e sz cap es'] [])
    (hb : S.blk bid = some (.box t [.own rid])) (hr : S.blk rid = some (x9 e sz es)) (hd : o.dst = some d) (hn : d < n) (hne : 0 < es.length) (hok : okEs sz es) (hl : es'.length = es.length) (hbr : rid ≠ bid) (hrx : rx.isVal = true)
    (he : ∀ g cap, Enters P o (S.toArr bid t rid (arrB g e sz cap es) (.p (.val (hdr g es.length cap)))) f (avs g cap)) (hx : ∀ g cap, avs g cap = (xs g cap).map (AV.ren (sig [bid, rid]))) (hxs : ∀ g cap, (xs g cap).all (AV.okE 2) = true)
    (hN : ∀ g cap, N (((((S.toArr bid t rid (arrB g e sz cap es) (.p (.val (hdr g es.length cap)))).after [bid, rid] [.box t [.p (.val (hdr g es.length cap))], arrB g e sz cap es']).toRow bid t rid (x9 e sz es')).put d rx))) : z8 P n o S K N := by
  intro M w0 ρ a w KK Q hs hK _
  obtain ⟨g, cap, hrn, hs1⟩ := hs.toArr hb hr hne hok hbr
  obtain ⟨vs, he1, he2, he3⟩ := he g cap M n w0 _ a w hs1
  unfold Oper.wp
  rw [he1, Oper.upon_enter]
  have hbx : (S.toArr bid t rid (arrB g e sz cap es) (.p (.val (hdr g es.length cap)))).blk bid = some (.box t [.p (.val (hdr g es.length cap))]) := by
    unfold AS.toArr; rw [AS.xQ, if_pos rfl]
  have hrb : (S.toArr bid t rid (arrB g e sz cap es) (.p (.val (hdr g es.length cap)))).blk rid = some (arrB g e sz cap es) := by
    unfold AS.toArr; rw [AS.xQ, if_neg (Ne.symm hbr), AS.xK, if_pos rfl]; rfl
  have hnd : ([bid, rid] : List Nat).Nodup := by simp [Ne.symm hbr]
  have hh : HandsZ (S.toArr bid t rid (arrB g e sz cap es) (.p (.val (hdr g es.length cap)))) ([bid, rid] ++ []) ([.box t [.p (.val (hdr g es.length cap))], arrB g e sz cap es] ++ []) := zG (by simpa using Ne.symm hbr) rfl ⟨hbx, hrb, trivial⟩
  refine Calls.mono (call_z (bids := [bid, rid]) (rids := []) (nids := []) (hf g cap) hh rfl rfl rfl rfl (by simpa using Ne.symm hbr) rfl (hxs g cap) (AV.isVal_okE hrx) hs1 (fun j hj => by cases hj) (by rw [he2, hx g cap, List.length_map]) (reps_ren (hx g cap) he3)) ?_
  rintro ev w' ⟨ρ', v, rfl, hs2, hv⟩
  show KK (a.put o.dst v) w'
  rw [hd]
  generalize hS2 : ((S.toArr bid t rid (arrB g e sz cap es) (.p (.val (hdr g es.length cap)))).drops ([] ++ [])).after ([bid, rid] ++ []) ([.box t [.p (.val (hdr g es.length cap))], arrB g e sz cap es'] ++ []) = S2 at hs2 hv
  have hS2' : (S.toArr bid t rid (arrB g e sz cap es) (.p (.val (hdr g es.length cap)))).after [bid, rid] [.box t [.p (.val (hdr g es.length cap))], arrB g e sz cap es'] = S2 := hS2
  have hb2 : S2.blk bid = some (.box t [.p (.val (hdr g es'.length cap))]) := by
    rw [← hS2', hl]
    show look (putL _ bid _) bid = _
    rw [qA, if_pos rfl]; rfl
  have hr2 : S2.blk rid = some (arrB g e sz cap es') := by
    rw [← hS2']
    show look (putL (putL _ rid _) bid _) rid = _
    rw [qA, if_neg (Ne.symm hbr), qA, if_pos rfl]; rfl
  have hs3 := hs2.toRow (t := t) hb2 hr2 hrn hbr
  have hN' := hN g cap
  rw [hS2'] at hN'
  have hrep : yV (Mut M (S2.toRow bid t rid (x9 e sz es')) (upd ρ' rid (hdr g es'.length cap))) (upd ρ' rid (hdr g es'.length cap)) w' rx v := by
    cases rx with
    | any => exact .any _
    | p y => cases y with
      | val u =>
        have h1 : v = u := by cases hv with | p h => exact rep_val h
        rw [h1]; exact .p (.val _)
      | _ => cases hrx
    | _ => cases hrx
  exact hK _ _ _ w' hN' (hs3.put hn hrep)
end
end Go.Proofs.YtomlhekjgagjaaaDoor
namespace Go.Proofs.YtomlhekjgagjaaaDoor
set_option maxRecDepth 100000
set_option maxHeartbeats 16000000
open Go Go.RowKit
attribute [local irreducible] zZ zY Step zA Sub zL z8 Fn
theorem flat_idx {sz : Nat} : ∀ (es : List PV) (i c : Nat), (∀ e ∈ es, e.cells.length = sz) → c < sz → (flat es)[i * sz + c]? = (es[i]?).bind fun e => e.cells[c]?
  | [], i, c, _, _ => by simp [flat]
  | x :: r, 0, c, h, hc => by
    have h1 := h x (by simp)
    show (x.cells ++ flat r)[0 * sz + c]? = _
    rw [Nat.zero_mul, Nat.zero_add, List.getElem?_append_left (by omega)]
    rfl
  | x :: r, i + 1, c, h, hc => by
    have h1 := h x (by simp)
    have ih := flat_idx r i c (fun e he => h e (by simp [he])) hc
    show (x.cells ++ flat r)[(i + 1) * sz + c]? = _
    rw [List.getElem?_append_right (by rw [h1, Nat.succ_mul]; omega), h1]
    have : (i + 1) * sz + c - sz = i * sz + c := by rw [Nat.succ_mul]; omega
    rw [this, ih]
    rfl
theorem key_at {L : List zV} {i : Nat} {a : zV} (h : L[i]? = some a) : (flat (L.map zV.V))[i * 6 + 2]? = some (.val (.int .u64 a.y)) := by
  rw [flat_idx (sz := 6) _ i 2 (yU L) (by decide), List.getElem?_map, h]
  rfl
theorem ents_ok (L : List zV) : okEs 6 (L.map zV.V) := fun e he => by
  obtain ⟨x, _, rfl⟩ := List.mem_map.1 he
  exact ⟨rfl, rfl⟩
def hpR (L : List zV) : Blk := x9 46 6 (L.map zV.V)
def hpA (g cap : Nat) (L : List zV) : Blk := arrB g 46 6 cap (L.map zV.V)
def hpH (g cap : Nat) (L : List zV) : AV := .p (.val (hdr g (L.map zV.V).length cap))
theorem bLen_fn (g cap : Nat) (L : List zV) : FnZ Tryd.prog 31 [hpH g cap L] [] [] (.p (.val (.int .i64 ((L.map zV.V).length : Nat)))) [] [] := by
 refine vO [] Tryd.func31 rfl Tryd.ntmps31 (Nat.le_of_ble_eq_true rfl) (Nat.le_of_ble_eq_true rfl) rfl rfl ?_
 unfold hpH
 repeat' ((refine zY.is ?_; first | refine zY.seq ?_ | (refine zY.isR (id := 0) ?_; refine zY.zK [0] [] (by repeat' first | exact zX.nil | apply zX.p rfl) (by repeat' exact zW.nil) ?_; refine zZ.va rfl rfl rfl rfl (by decide) ?_; refine zZ.nil ?_) | (refine zY.isR (id := 1) ?_; refine zY.zK [0, 2] [] (by repeat' first | exact zX.nil | apply zX.p rfl) (by repeat' exact zW.nil) ?_; refine zZ.vm rfl rfl rfl rfl (by decide) ?_; refine zZ.v rfl rfl (w_lenH rfl rfl rfl (by decide)) ?_; refine zZ.va rfl rfl rfl rfl (by decide) ?_; refine zZ.nil ?_) | refine zY.ret ?_))
 all_goals exact ⟨(by exact .inl rfl), _, Sub.refl _, .one rfl rfl, zG (by decide) rfl (by repeat' exact trivial)⟩
theorem bLess_fn (g cap : Nat) (L : List zV) (i j : Nat) (a b : zV) (ha : L[i]? = some a) (hb : L[j]? = some b) : FnZ Tryd.prog 103 [hpH g cap L, .p (.val (.int .i64 (i : Nat))), .p (.val (.int .i64 (j : Nat)))] [hpA g cap L] [] (.p (.val (.bool (decide (a.y < b.y))))) [hpA g cap L] [] := by
 refine vO [1000] Tryd.func103 rfl Tryd.ntmps103 (Nat.le_of_ble_eq_true rfl) (Nat.le_of_ble_eq_true rfl) rfl rfl ?_
 have k1 := key_at ha
 have k2 := key_at hb
 have h1 : i < L.length := (List.getElem?_eq_some_iff.1 ha).1
 have h2 : j < L.length := (List.getElem?_eq_some_iff.1 hb).1
 have g1 : (0 : Int) ≤ (i : Nat) ∧ ((i : Nat) : Int) < (L.map zV.V).length := by rw [List.length_map]; omega
 have g2 : (0 : Int) ≤ (j : Nat) ∧ ((j : Nat) : Int) < (L.map zV.V).length := by rw [List.length_map]; omega
 unfold hpH hpA
 repeat' ((refine zY.is ?_; first | refine zY.seq ?_ | (refine zY.isR (id := 0) ?_; refine zY.zK [0, 1, 2] [1000] (by repeat' first | exact zX.nil | apply zX.p rfl) (by repeat' first | exact zW.nil | apply zW.some rfl) ?_; refine zZ.va rfl rfl rfl rfl (by decide) ?_; refine zZ.nil ?_) | (refine zY.isR (id := 1) ?_; refine zY.xE [0, 1, 2, 6] [1000] (by repeat' first | exact zX.nil | apply zX.p rfl) (by repeat' first | exact zW.nil | apply zW.some rfl) (zY.draws ?_); all_goals (refine Draws.v rfl rfl (zQ rfl rfl rfl (by decide)) ?_); all_goals (refine Draws.v rfl rfl (zQ rfl rfl rfl (by decide)) ?_); all_goals (refine Draws.v rfl rfl (w_idxH rfl rfl rfl g1 rfl (by decide)) ?_); all_goals (refine Draws.v rfl rfl (w_fieldH rfl rfl rfl (by decide)) ?_); all_goals (refine Draws.v rfl rfl (by exact w_ldH1 (id := 1000) rfl rfl rfl k1 rfl (by decide)) ?_); all_goals (refine Draws.v rfl rfl (zQ rfl rfl rfl (by decide)) ?_); all_goals (refine Draws.v rfl rfl (zQ rfl rfl rfl (by decide)) ?_); all_goals (refine Draws.v rfl rfl (w_idxH rfl rfl rfl g2 rfl (by decide)) ?_); all_goals (refine Draws.v rfl rfl (w_fieldH rfl rfl rfl (by decide)) ?_); all_goals (refine Draws.v rfl rfl (by exact w_ldH1 (id := 1000) rfl rfl rfl k2 rfl (by decide)) ?_); all_goals (refine Draws.v rfl rfl (yZ rfl rfl rfl (by rfl) rfl (by decide)) ?_); all_goals (refine Draws.v rfl rfl (wN rfl rfl rfl (by decide)) ?_); all_goals ((refine Draws.done (by kernel_rfl) (by kernel_rfl) (by kernel_rfl) ?_; refine zL.nil ?_))) | refine zY.ret ?_))
 all_goals exact ⟨(by exact .inl rfl), _, Sub.refl _, .one rfl rfl, zG (by decide) rfl (by repeat' first | exact trivial | rfl | constructor)⟩
theorem bSwap_fn (g cap : Nat) (L : List zV) (i j : Nat) (a b : zV) (ha : L[i]? = some a) (hb : L[j]? = some b) : FnZ Tryd.prog 106 [hpH g cap L, .p (.val (.int .i64 (i : Nat))), .p (.val (.int .i64 (j : Nat)))] [hpA g cap L] [] .any [hpA g cap ((L.set i b).set j a)] [] := by
 have h1 : i < L.length := (List.getElem?_eq_some_iff.1 ha).1
 have h2 : j < L.length := (List.getElem?_eq_some_iff.1 hb).1
 have hset : hpA g cap ((L.set i b).set j a) = arrB g 46 6 cap (((L.map zV.V).set i b.V).set j a.V) := by unfold hpA; rw [List.map_set, List.map_set]
 rw [hset]
 refine vO [1000] Tryd.func106 rfl Tryd.ntmps106 (Nat.le_of_ble_eq_true rfl) (Nat.le_of_ble_eq_true rfl) rfl rfl ?_
 have g1 : (0 : Int) ≤ (i : Nat) ∧ ((i : Nat) : Int) < (L.map zV.V).length := by rw [List.length_map]; omega
 have g2 : (0 : Int) ≤ (j : Nat) ∧ ((j : Nat) : Int) < (L.map zV.V).length := by rw [List.length_map]; omega
 have l1 : i < (L.map zV.V).length := by rw [List.length_map]; exact h1
 have l2 : j < ((L.map zV.V).set i b.V).length := by rw [List.length_set, List.length_map]; exact h2
 have k1 : (L.map zV.V)[i]? = some a.V := by rw [List.getElem?_map, ha]; rfl
 have k2 : (L.map zV.V)[j]? = some b.V := by rw [List.getElem?_map, hb]; rfl
 obtain ⟨ak, as', ay, au, av, ax⟩ := a
 obtain ⟨bk, bs, by', bu, bv, bx⟩ := b
 unfold hpH hpA
 repeat' ((refine zY.is ?_; (refine zY.isR (id := 0) ?_; refine zY.xE [0, 1, 2] [1000] (by repeat' first | exact zX.nil | apply zX.p rfl) (by repeat' first | exact zW.nil | apply zW.some rfl) (zY.draws ?_); all_goals (refine Draws.v rfl rfl (zQ rfl rfl rfl (by decide)) ?_); all_goals (refine Draws.v rfl rfl (zQ rfl rfl rfl (by decide)) ?_); all_goals (refine Draws.v rfl rfl (zQ rfl rfl rfl (by decide)) ?_); all_goals (refine Draws.v rfl rfl (zQ rfl rfl rfl (by decide)) ?_); all_goals (refine Draws.v rfl rfl (zQ rfl rfl rfl (by decide)) ?_); all_goals (refine Draws.v rfl rfl (zQ rfl rfl rfl (by decide)) ?_); all_goals (refine Draws.v rfl rfl (w_idxH rfl rfl rfl g2 rfl (by decide)) ?_); all_goals (refine Draws.v rfl rfl (by exact w_ldHN (id := 1000) rfl rfl rfl rfl k2 rfl (by decide)) ?_); all_goals (refine Draws.v rfl rfl (zQ rfl rfl rfl (by decide)) ?_); all_goals (refine Draws.v rfl rfl (zQ rfl rfl rfl (by decide)) ?_); all_goals (refine Draws.v rfl rfl (w_idxH rfl rfl rfl g1 rfl (by decide)) ?_); all_goals (refine Draws.v rfl rfl (by exact w_ldHN (id := 1000) rfl rfl rfl rfl k1 rfl (by decide)) ?_); all_goals (refine Draws.v rfl rfl (w_idxH rfl rfl rfl g1 rfl (by decide)) ?_); all_goals (((refine Draws.late2 [2, 3] 3 [0, 1, 2, 3, 4, 5, 6, 7, 8, 9, 10, 11, 12] (by kernel_rfl) (by kernel_rfl) (by kernel_rfl) (by kernel_rfl) (by kernel_rfl) ?_ (wH.consD 4 [0, 1, 2, 4, 5, 6, 7, 8, 9, 10, 11, 12] (by kernel_rfl) (by kernel_rfl) ?_ (wH.consD 4 [0, 1, 3, 4, 5, 6, 7, 8, 9, 10, 11, 12] (by kernel_rfl) (by kernel_rfl) ?_ (wH.consD 5 [0, 1, 4, 5, 6, 7, 8, 9, 10, 11, 12] (by kernel_rfl) (by kernel_rfl) ?_ wH.nil)))) <;> (repeat' (first | refine wI.many (by rfl) ?_ | refine vR.cons ?_ ?_ | exact vR.nil | refine DOne.v rfl rfl rfl (by first | exact w_idxH rfl rfl rfl (by first | exact g1 | exact g2) rfl (by decide) | exact zQ rfl rfl rfl (by decide)) ?_ | refine DOne.w rfl rfl (by exact s_stHN (id := 1000) rfl rfl rfl rfl rfl rfl (by first | exact l1 | exact l2) rfl rfl rfl) ?_ | refine wI.fin (by rfl) ?_)))))))
 all_goals exact ⟨(by exact .inr rfl), _, Sub.refl _, .none rfl, zG (by decide) rfl (by repeat' first | exact trivial | rfl | constructor)⟩
theorem bPush_fn (L : List zV) (e : zV) (hl : L.length ≤ 1000000) : FnZ Tryd.prog 105 [.ptr 1000 0, .p (.ifc 46 e.V)] [.box 67 [.own 1001]] [hpR L] .any [.box 67 [.own 1001]] [hpR (L ++ [e])] := by
 have hset : hpR (L ++ [e]) = x9 46 6 (L.map zV.V ++ [e.V]) := by unfold hpR; rw [List.map_append]; rfl
 rw [hset]
 refine vO [1000, 1001] Tryd.func105 rfl Tryd.ntmps105 (Nat.le_of_ble_eq_true rfl) (Nat.le_of_ble_eq_true rfl) rfl rfl ?_
 have q6 : ∀ x ∈ [e.V], x.cells.length = 6 := fun x he => by simp at he; subst he; rfl
 have q7 : ([e.V] : List PV).length * 48 ≤ 140737488355328 ∧ ([e.V] : List PV).length ≤ maxLen := by simp [maxLen]
 have q8 : ((L.map zV.V).length + ([e.V] : List PV).length) * 48 ≤ 140737488355328 ∧ (L.map zV.V).length + ([e.V] : List PV).length ≤ maxLen := by simp [maxLen]; omega
 obtain ⟨ek, es, ey, eu, ev, ex⟩ := e
 unfold hpR
 repeat' ((refine zY.is ?_; (refine zY.isR (id := 0) ?_; refine zY.xE [0, 1] [10, 1000, 1001] (by repeat' first | exact zX.nil | apply zX.p rfl | apply zX.ptr rfl) (by repeat' first | exact zW.nil | apply zW.some rfl | apply zW.skip) (zY.draws ?_); all_goals (refine Draws.v rfl rfl (zO rfl rfl rfl (by decide)) ?_); all_goals (refine Draws.v rfl rfl (zO rfl rfl rfl (by decide)) ?_); all_goals (refine Draws.v rfl rfl (yD rfl rfl rfl (by decide)) ?_); all_goals (refine Draws.v rfl rfl (y8 rfl rfl rfl rfl rfl (by decide)) ?_); all_goals (refine Draws.v rfl rfl (zQ rfl rfl rfl (by decide)) ?_); all_goals (refine Draws.v rfl rfl (w_assert1 rfl rfl rfl (by decide)) ?_); all_goals (refine Draws.v rfl rfl (wO rfl (by decide) (by decide) (by decide) (by decide) (by rfl) (by rfl) (by rfl) (by rfl) (by rfl) (by rfl) (by rfl) rfl (by decide)) ?_); all_goals (((refine Draws.late2 [0] 3 [0, 1, 2, 3, 4, 5, 6] (by kernel_rfl) (by kernel_rfl) (by kernel_rfl) (by kernel_rfl) (by kernel_rfl) ?_ (wH.consD 4 [1, 2, 3, 4, 5, 6] (by kernel_rfl) (by kernel_rfl) ?_ wH.nil)) <;> (repeat' (first | refine wI.many (by rfl) ?_ | refine vR.cons ?_ ?_ | exact vR.nil | refine DOne.v rfl rfl rfl (by first | exact zO rfl rfl rfl (by decide) | exact yD rfl rfl rfl (by decide)) ?_ | refine DOne.w rfl rfl (by first | exact qF rfl rfl rfl rfl q6 q8 rfl (by decide) rfl (by decide) | exact w_storeO rfl rfl rfl rfl rfl rfl (by exact Nat.le_of_ble_eq_true rfl) rfl rfl) ?_ | refine wI.fin (by rfl) ?_)))))))
 all_goals exact ⟨(by exact .inr rfl), _, Sub.refl _, .none rfl, zG (by decide) rfl (by repeat' first | exact trivial | rfl | constructor)⟩
theorem bPop_fn (L : List zV) (e : zV) (hl : L.length ≤ 1000000) : FnZ Tryd.prog 104 [.ptr 1000 0] [.box 67 [.own 1001]] [hpR (L ++ [e])] (.p (.ifc 46 e.V)) [.box 67 [.own 1001]] [hpR L] := by
 refine vO [1000, 1001] Tryd.func104 rfl Tryd.ntmps104 (Nat.le_of_ble_eq_true rfl) (Nat.le_of_ble_eq_true rfl) rfl rfl ?_
 have hlen : ((L ++ [e]).map zV.V).length = L.length + 1 := by simp
 have hset : hpR L = x9 46 6 (((L ++ [e]).map zV.V).take L.length) := by unfold hpR; rw [← List.map_take, List.take_left' rfl]
 rw [hset]
 have g0 : IntKind.i64.wrap ((((L ++ [e]).map zV.V).length : Nat) - 1 : Int) = ((L.length : Nat) : Int) := by rw [hlen]; exact (wrap_i64 _ (by omega)).trans (by omega)
 have g1 : (0 : Int) ≤ (L.length : Nat) ∧ ((L.length : Nat) : Int) < ((L ++ [e]).map zV.V).length := by rw [hlen]; omega
 have g2 : L.length ≤ ((L ++ [e]).map zV.V).length := by rw [hlen]; omega
 have g3 : ((L.length : Nat) : Int) = ((L.length : Nat) : Int) := rfl
 have k1 : ((L ++ [e]).map zV.V)[L.length]? = some e.V := by simp
 have hc := yU (L ++ [e])
 obtain ⟨ek, es, ey, eu, ev, ex⟩ := e
 unfold hpR
 repeat' ((refine zY.is ?_; first | refine zY.seq ?_ | (refine zY.isR (id := 0) ?_; refine zY.zK [0] [3, 1000, 1001] (by repeat' first | exact zX.nil | apply zX.ptr rfl) (by repeat' first | exact zW.nil | apply zW.some rfl | apply zW.skip) ?_; refine zZ.va rfl rfl rfl rfl (by decide) ?_; refine zZ.nil ?_) | (refine zY.isR (id := 1) ?_; refine zY.xE [0, 2] [3, 1000, 1001] (by repeat' first | exact zX.nil | apply zX.p rfl | apply zX.ptr rfl) (by repeat' first | exact zW.nil | apply zW.some rfl | apply zW.skip) (zY.draws ?_); all_goals (refine Draws.v rfl rfl (zO rfl rfl rfl (by decide)) ?_); all_goals (refine Draws.v rfl rfl (yD rfl rfl rfl (by decide)) ?_); all_goals (refine Draws.v rfl rfl (y8 rfl rfl rfl rfl rfl (by decide)) ?_); all_goals (refine Draws.v rfl rfl (zO rfl rfl rfl (by decide)) ?_); all_goals (refine Draws.v rfl rfl (yD rfl rfl rfl (by decide)) ?_); all_goals (refine Draws.v rfl rfl (y8 rfl rfl rfl rfl rfl (by decide)) ?_); all_goals (refine Draws.v rfl rfl (w_lenV rfl rfl rfl rfl (by decide)) ?_); all_goals (refine Draws.v rfl rfl (w9 rfl rfl rfl g0 rfl (by decide)) ?_); all_goals (refine Draws.v rfl rfl (qO rfl rfl rfl rfl g1 rfl (by decide)) ?_); all_goals (refine Draws.v rfl rfl (w_loadVN rfl rfl rfl hc rfl k1 rfl (by decide)) ?_); all_goals (refine Draws.m rfl rfl (xW rfl (by decide) rfl (by decide)) ?_); all_goals ((refine Draws.done (by kernel_rfl) (by kernel_rfl) (by kernel_rfl) ?_; refine zL.w rfl (by exact yB rfl rfl rfl rfl rfl (by rfl) (by exact Nat.le_of_ble_eq_true rfl) rfl rfl) ?_)); all_goals (refine zL.nil ?_)) | (refine zY.iq 2 ?_; refine zY.rqs _ K_7 K_2z (zY.draws ?_); all_goals (refine Draws.v rfl rfl (zO rfl rfl rfl (by decide)) ?_); all_goals (refine Draws.v rfl rfl (zO rfl rfl rfl (by decide)) ?_); all_goals (refine Draws.v rfl rfl (yD rfl rfl rfl (by decide)) ?_); all_goals (refine Draws.v rfl rfl (y8 rfl rfl rfl rfl rfl (by decide)) ?_); all_goals (refine Draws.v rfl rfl (zO rfl rfl rfl (by decide)) ?_); all_goals (refine Draws.v rfl rfl (yD rfl rfl rfl (by decide)) ?_); all_goals (refine Draws.v rfl rfl (y8 rfl rfl rfl rfl rfl (by decide)) ?_); all_goals (refine Draws.v rfl rfl (w_lenV rfl rfl rfl rfl (by decide)) ?_); all_goals (refine Draws.v rfl rfl (w9 rfl rfl rfl g0 rfl (by decide)) ?_); all_goals (((refine Draws.late2 [0] 3 [0, 1, 2, 3, 4, 5, 6, 7, 8] (by kernel_rfl) (by kernel_rfl) (by kernel_rfl) (by kernel_rfl) (by kernel_rfl) ?_ (wH.consD 4 [1, 2, 3, 4, 5, 6, 7, 8] (by kernel_rfl) (by kernel_rfl) ?_ wH.nil)) <;> (repeat' (first | refine wI.many (by rfl) ?_ | refine vR.cons ?_ ?_ | exact vR.nil | refine DOne.v rfl rfl rfl (by first | exact zO rfl rfl rfl (by decide) | exact yD rfl rfl rfl (by decide)) ?_ | refine DOne.w rfl rfl (by first | exact s_headV rfl rfl rfl hc rfl (by first | exact g0 | exact g3) g2 rfl (by decide) | exact w_storeO rfl rfl rfl rfl rfl rfl (by exact Nat.le_of_ble_eq_true rfl) rfl rfl) ?_ | refine wI.fin (by rfl) ?_))))) | (refine zY.iq 3 ?_; refine zY.rqj _ K_2c K_2z ?_; refine zZ.v rfl rfl (xY rfl rfl rfl (by rfl) (by rfl) rfl (by decide)) ?_; refine zZ.v rfl rfl (by exact w_iface (by kernel_rfl) rfl rfl rfl (by decide)) ?_; refine zZ.va rfl rfl rfl rfl (by decide) ?_; refine zZ.nil ?_) | refine zY.ret ?_))
 all_goals exact ⟨(by exact .inl rfl), _, Sub.refl _, .one rfl rfl, zG (by decide) rfl (by repeat' first | exact trivial | rfl | constructor)⟩
end Go.Proofs.YtomlhekjgagjaaaDoor
namespace Go.Proofs.YtomlhekjgagjaaaDoor
set_option maxRecDepth 100000
set_option maxHeartbeats 16000000
open Go Go.RowKit
attribute [local irreducible] zZ zY Step zA Sub zL z8 Fn
instance : MethA Tryd.prog 66 "Less" 103 false 67 := ⟨by kernel_rfl, by kernel_rfl⟩
instance : MethA Tryd.prog 66 "Swap" 106 false 67 := ⟨by kernel_rfl, by kernel_rfl⟩
instance : MethA Tryd.prog 66 "Len" 31 false 67 := ⟨by kernel_rfl, by kernel_rfl⟩
instance : MethA Tryd.prog 66 "Push" 105 true 67 := ⟨by kernel_rfl, by kernel_rfl⟩
instance : MethA Tryd.prog 66 "Pop" 104 true 67 := ⟨by kernel_rfl, by kernel_rfl⟩
def swL (L : List zV) (i j : Nat) : List zV := match L[i]?, L[j]? with
  | some a, some b => (L.set i b).set j a
  | _, _ => L
def lessL (L : List zV) (i j : Nat) : Bool := match L[i]?, L[j]? with
  | some a, some b => decide (a.y < b.y)
  | _, _ => false
theorem qD (L : List zV) (i j : Nat) : (swL L i j).length = L.length := by unfold swL; split <;> simp
def upL (L : List zV) (j : Nat) : List zV := if h : (j - 1) / 2 = j then L else if lessL L j ((j - 1) / 2) then upL (swL L ((j - 1) / 2) j) ((j - 1) / 2) else L
termination_by j
decreasing_by omega
def kE (L : List zV) (i n : Nat) : Nat := if 2 * i + 2 < n ∧ lessL L (2 * i + 2) (2 * i + 1) = true then 2 * i + 2 else 2 * i + 1
theorem downJ_le (L : List zV) (i n : Nat) (h : 2 * i + 1 < n) : kE L i n < n ∧ i < kE L i n := by unfold kE; split <;> omega
def kF (L : List zV) (i n : Nat) : List zV := if h : 2 * i + 1 < n then if lessL L (kE L i n) i then kF (swL L i (kE L i n)) (kE L i n) n else L else L
termination_by n - i
decreasing_by have := downJ_le L i n h; omega
theorem upL_len : ∀ (j : Nat) (L : List zV), (upL L j).length = L.length := by
  intro j
  induction j using Nat.strongRecOn with
  | _ j ih =>
    intro L
    rw [upL]
    split
    · rfl
    · rename_i h
      split
      · rw [ih _ (by omega), qD]
      · rfl
theorem downL_len : ∀ (m : Nat) (L : List zV) (i n : Nat), n - i ≤ m → (kF L i n).length = L.length := by
  intro m
  induction m with
  | zero => intro L i n h; rw [kF]; split
            · omega
            · rfl
  | succ m ih =>
    intro L i n h
    rw [kF]
    split
    · rename_i h1
      have := downJ_le L i n h1
      split
      · rw [ih _ _ _ (by omega), qD]
      · rfl
    · rfl
def bxB (g cap m : Nat) : Blk := .box 67 [.p (.val (hdr g m cap))]
theorem less_fn (g cap m : Nat) (L : List zV) (i j : Nat) (hm : L.length = m) (hi : i < m) (hj : j < m) : FnZ Tryd.prog 103 [.p (.val (hdr g m cap)), .p (.val (.int .i64 (i : Nat))), .p (.val (.int .i64 (j : Nat)))] [hpA g cap L] [] (.p (.val (.bool (lessL L i j)))) [hpA g cap L] [] := by
  subst hm
  have h1 : L[i]? = some L[i] := List.getElem?_eq_getElem hi
  have h2 : L[j]? = some L[j] := List.getElem?_eq_getElem hj
  have := bLess_fn g cap L i j _ _ h1 h2
  unfold hpH at this
  rw [List.length_map] at this
  unfold lessL
  rw [h1, h2]
  exact this
theorem swap_fn (g cap m : Nat) (L : List zV) (i j : Nat) (hm : L.length = m) (hi : i < m) (hj : j < m) : FnZ Tryd.prog 106 [.p (.val (hdr g m cap)), .p (.val (.int .i64 (i : Nat))), .p (.val (.int .i64 (j : Nat)))] [hpA g cap L] [] .any [hpA g cap (swL L i j)] [] := by
  subst hm
  have h1 : L[i]? = some L[i] := List.getElem?_eq_getElem hi
  have h2 : L[j]? = some L[j] := List.getElem?_eq_getElem hj
  have := bSwap_fn g cap L i j _ _ h1 h2
  unfold hpH at this
  rw [List.length_map] at this
  unfold swL
  rw [h1, h2]
  exact this
def upS (g cap m : Nat) (p : List zV × Nat) : AS := { t := [(0, .ifp 66 1000), (1, .p (.val (.int .i64 (p.2 : Nat))))], s := [(1000, bxB g cap m), (1001, hpA g cap p.1)] }
theorem up_fn (g cap m : Nat) (L : List zV) (j : Nat) (hm : L.length = m) (hj : j < m) (h64 : m ≤ 1000000) : FnZ Tryd.prog 52 [.ifp 66 1000, .p (.val (.int .i64 (j : Nat)))] [bxB g cap m, hpA g cap L] [] .any [bxB g cap m, hpA g cap (upL L j)] [] := by
 refine vO [1000, 1001] Tryd.func52 rfl Tryd.ntmps52 (Nat.le_of_ble_eq_true rfl) (Nat.le_of_ble_eq_true rfl) rfl rfl ?_
 repeat' ((refine zY.is ?_; refine zY.block ?_))
 refine zY.loop (upS g cap m) (fun p => p.1.length = m ∧ p.2 < m ∧ upL p.1 p.2 = upL L j) (fun p => p.2) (L, j) ?h0 ⟨hm, hj, rfl⟩ ?rd
 case h0 =>
  unfold upS
  exact zD K_h K_0
 case rd =>
  rintro ⟨L', k⟩ ⟨hm', hk, hu⟩
  simp only at hm' hk hu
  have g0 : IntKind.i64.wrap (((k : Nat) : Int) - 1) = ((k : Nat) : Int) - 1 := wrap_i64 _ (by omega)
  have g1 : IntKind.i64.wrap ((((k : Nat) : Int) - 1).tdiv 2) = (((k - 1) / 2 : Nat) : Int) := by
   have e : (((k : Nat) : Int) - 1).tdiv 2 = (((k - 1) / 2 : Nat) : Int) := by
    by_cases h0 : k = 0
    ·subst h0; rfl
    ·rw [Int.tdiv_eq_ediv_of_nonneg (by omega)]; omega
   rw [e]; exact wrap_i64 _ (by omega)
  unfold upS
  rw [upL] at hu
  by_cases h1 : (k - 1) / 2 = k
  ·rw [dif_pos h1] at hu
   have c1 : decide ((((k - 1) / 2 : Nat) : Int) = ((k : Nat) : Int)) = true := decide_eq_true (by omega)
   repeat' (first | (refine zY.is ?_; first | refine zY.seq ?_ | (refine zY.iq 0 ?_; refine zY.rqc _ K_1n K_0 ?_; refine zZ.vm rfl rfl rfl rfl (by decide) ?_; refine zZ.v rfl rfl (w9 rfl rfl rfl g0 rfl (by decide)) ?_; refine zZ.v rfl rfl (a_quo rfl rfl rfl (by decide) g1 rfl (by decide)) ?_; refine zZ.va rfl rfl rfl rfl (by decide) ?_; refine zZ.nil ?_) | (refine zY.iq 1 ?_; refine zY.rqc _ K_1n K_0 ?_; all_goals (refine zZ.vm rfl rfl rfl rfl (by decide) ?_); all_goals (refine zZ.vm rfl rfl rfl rfl (by decide) ?_); all_goals (refine zZ.v rfl rfl (yM rfl rfl rfl c1 rfl (by decide)) ?_); all_goals (refine zZ.vm rfl rfl rfl rfl (by decide) ?_); all_goals (refine zZ.gnF rfl rfl (by decide) rfl (by rfl) rfl (by decide) ?_); all_goals (refine zZ.gnF rfl rfl (by decide) rfl (by rfl) rfl (by decide) ?_); all_goals (refine zZ.gnF rfl rfl (by decide) rfl (by rfl) rfl (by decide) ?_); all_goals (refine zZ.gnF rfl rfl (by decide) rfl (by rfl) rfl (by decide) ?_); all_goals (refine zZ.gnF rfl rfl (by decide) rfl (by rfl) rfl (by decide) ?_); all_goals (refine zZ.v rfl rfl (zR rfl rfl (by rfl) rfl rfl (by decide)) ?_); all_goals (refine zZ.nil ?_)) | refine zY.yC rfl (by first | assumption | with_reducible rfl) ?_ | refine zY.block ?_ | refine zY.exit ?_) | refine zS.eY ?_ | refine zS.eN rfl ?_ | refine zH.e ?_)
   all_goals rw [← hu]
   all_goals exact ⟨(by exact .inr rfl), _, Sub.refl _, .none rfl, zG (by decide) rfl (by repeat' first | exact trivial | rfl | constructor)⟩
  ·rw [dif_neg h1] at hu
   have c1 : decide ((((k - 1) / 2 : Nat) : Int) = ((k : Nat) : Int)) = false := decide_eq_false (by omega)
   have l1 := less_fn g cap m L' k ((k - 1) / 2) hm' hk (by omega)
   cases hl : lessL L' k ((k - 1) / 2)
   ·rw [hl] at l1 hu
    repeat' (first | (refine zY.is ?_; first | refine zY.seq ?_ | (refine zY.iq 0 ?_; refine zY.rqc _ K_1n K_0 ?_; refine zZ.vm rfl rfl rfl rfl (by decide) ?_; refine zZ.v rfl rfl (w9 rfl rfl rfl g0 rfl (by decide)) ?_; refine zZ.v rfl rfl (a_quo rfl rfl rfl (by decide) g1 rfl (by decide)) ?_; refine zZ.va rfl rfl rfl rfl (by decide) ?_; refine zZ.nil ?_) | (refine zY.iq 1 ?_; refine zY.rqc _ K_1n K_0 ?_; all_goals (refine zZ.vm rfl rfl rfl rfl (by decide) ?_); all_goals (refine zZ.vm rfl rfl rfl rfl (by decide) ?_); all_goals (refine zZ.v rfl rfl (yM rfl rfl rfl c1 rfl (by decide)) ?_); all_goals (refine zZ.vm rfl rfl rfl rfl (by decide) ?_); all_goals (refine zZ.gY rfl rfl (by decide) rfl (by rfl) rfl (by decide) (xI rfl rfl rfl (by decide)) ?_); all_goals (refine zZ.gY rfl rfl (by decide) rfl (by rfl) rfl (by decide) (zQ rfl rfl rfl (by decide)) ?_); all_goals (refine zZ.gY rfl rfl (by decide) rfl (by rfl) rfl (by decide) (zQ rfl rfl rfl (by decide)) ?_); all_goals (refine zZ.ofTg rfl rfl (by decide) rfl (by rfl) (z8.z [1001] [] [] (l1) rfl (by decide) (xA rfl rfl rfl rfl) (by rfl) (zG (by decide) rfl (by repeat' first | exact trivial | rfl | constructor)) rfl rfl rfl (by decide) rfl rfl (by decide) rfl rfl rfl ?_)); all_goals (refine zZ.gY rfl rfl (by decide) rfl (by rfl) rfl (by decide) (by exact xR rfl rfl (by exact bT (by decide)) rfl (by decide)) ?_); all_goals (refine zZ.v rfl rfl (zM rfl rfl (by rfl) rfl rfl (by decide)) ?_); all_goals (refine zZ.nil ?_)) | refine zY.yC rfl (by rfl) ?_ | refine zY.block ?_ | refine zY.exit ?_) | refine zS.eY ?_ | refine zS.eN rfl ?_ | refine zH.e ?_)
    all_goals rw [← hu]
    all_goals exact ⟨(by exact .inr rfl), _, Sub.refl _, .none rfl, zG (by decide) rfl (by repeat' first | exact trivial | rfl | constructor)⟩
   ·rw [hl] at l1 hu
    have s1 := swap_fn g cap m L' ((k - 1) / 2) k hm' (by omega) hk
    repeat' (first | (refine zY.is ?_; first | refine zY.seq ?_ | (refine zY.iq 0 ?_; refine zY.rqc _ K_1n K_0 ?_; refine zZ.vm rfl rfl rfl rfl (by decide) ?_; refine zZ.v rfl rfl (w9 rfl rfl rfl g0 rfl (by decide)) ?_; refine zZ.v rfl rfl (a_quo rfl rfl rfl (by decide) g1 rfl (by decide)) ?_; refine zZ.va rfl rfl rfl rfl (by decide) ?_; refine zZ.nil ?_) | (refine zY.iq 1 ?_; refine zY.rqc _ K_1n K_0 ?_; all_goals (refine zZ.vm rfl rfl rfl rfl (by decide) ?_); all_goals (refine zZ.vm rfl rfl rfl rfl (by decide) ?_); all_goals (refine zZ.v rfl rfl (yM rfl rfl rfl c1 rfl (by decide)) ?_); all_goals (refine zZ.vm rfl rfl rfl rfl (by decide) ?_); all_goals (refine zZ.gY rfl rfl (by decide) rfl (by rfl) rfl (by decide) (xI rfl rfl rfl (by decide)) ?_); all_goals (refine zZ.gY rfl rfl (by decide) rfl (by rfl) rfl (by decide) (zQ rfl rfl rfl (by decide)) ?_); all_goals (refine zZ.gY rfl rfl (by decide) rfl (by rfl) rfl (by decide) (zQ rfl rfl rfl (by decide)) ?_); all_goals (refine zZ.ofTg rfl rfl (by decide) rfl (by rfl) (z8.z [1001] [] [] (l1) rfl (by decide) (xA rfl rfl rfl rfl) (by rfl) (zG (by decide) rfl (by repeat' first | exact trivial | rfl | constructor)) rfl rfl rfl (by decide) rfl rfl (by decide) rfl rfl rfl ?_)); all_goals (refine zZ.gY rfl rfl (by decide) rfl (by rfl) rfl (by decide) (by exact xR rfl rfl (by exact bF (by decide)) rfl (by decide)) ?_); all_goals (refine zZ.v rfl rfl (zM rfl rfl (by rfl) rfl rfl (by decide)) ?_); all_goals (refine zZ.nil ?_)) | (refine zY.isR (id := 2) ?_; refine zY.zK [0, 1, 4, 17] [1000, 1001] (by repeat' first | exact zX.nil | apply zX.p rfl | apply zX.ifp rfl) (by repeat' first | exact zW.nil | apply zW.boxP rfl rfl | apply zW.some rfl) ?_; refine zZ.v rfl rfl (xI rfl rfl rfl (by decide)) ?_; refine zZ.vm rfl rfl rfl rfl (by decide) ?_; refine zZ.vm rfl rfl rfl rfl (by decide) ?_; refine zZ.ofT rfl (z8.z [1001] [] [] (s1) rfl (by decide) (xA rfl rfl rfl rfl) (by rfl) (zG (by decide) rfl (by repeat' first | exact trivial | rfl | constructor)) rfl rfl rfl (by decide) rfl rfl (by decide) rfl rfl rfl ?_); refine zZ.nil ?_) | (refine zY.isR (id := 3) ?_; refine zY.zK [0, 1, 4, 17] [1000, 1001] (by repeat' first | exact zX.nil | apply zX.p rfl | apply zX.ifp rfl) (by repeat' first | exact zW.nil | apply zW.boxP rfl rfl | apply zW.some rfl) ?_; refine zZ.vm rfl rfl rfl rfl (by decide) ?_; refine zZ.va rfl rfl rfl rfl (by decide) ?_; refine zZ.nil ?_) | refine zY.yF rfl (by first | assumption | with_reducible rfl) ?_ | refine zY.skip ?_ | refine zY.block ?_) | refine zH.n ?_ | refine zS.n ?_)
    all_goals
     refine ⟨(swL L' ((k - 1) / 2) k, (k - 1) / 2), ?_, ⟨(qD _ _ _).trans hm', by show (k - 1) / 2 < m; omega, hu⟩, by show (k - 1) / 2 < k; omega⟩
     exact zD K_h K_0
def downS (g cap m i0 n : Nat) (p : List zV × Nat) : AS := { t := [(0, .ifp 66 1000), (1, .p (.val (.int .i64 (i0 : Nat)))), (2, .p (.val (.int .i64 (n : Nat)))), (7, .p (.val (.int .i64 (p.2 : Nat))))], s := [(1000, bxB g cap m), (1001, hpA g cap p.1)] }
theorem down_fn (g cap m : Nat) (L : List zV) (i0 n : Nat) (hm : L.length = m) (hi0 : i0 < m) (hn : n ≤ m) (h64 : m ≤ 1000000) : FnZ Tryd.prog 53 [.ifp 66 1000, .p (.val (.int .i64 (i0 : Nat))), .p (.val (.int .i64 (n : Nat)))] [bxB g cap m, hpA g cap L] [] .any [bxB g cap m, hpA g cap (kF L i0 n)] [] := by
 refine vO [1000, 1001] Tryd.func53 rfl Tryd.ntmps53 (Nat.le_of_ble_eq_true rfl) (Nat.le_of_ble_eq_true rfl) rfl rfl ?_
 repeat' ((refine zY.is ?_; first | refine zY.seq ?_ | (refine zY.isR (id := 0) ?_; refine zY.zK [0, 1, 2] [1000, 1001] (by repeat' first | exact zX.nil | apply zX.p rfl | apply zX.ifp rfl) (by repeat' first | exact zW.nil | apply zW.boxP rfl rfl | apply zW.some rfl) ?_; refine zZ.va rfl rfl rfl rfl (by decide) ?_; refine zZ.nil ?_) | (refine zY.isR (id := 1) ?_; refine zY.zK [0, 1, 2, 6] [1000, 1001] (by repeat' first | exact zX.nil | apply zX.p rfl | apply zX.ifp rfl) (by repeat' first | exact zW.nil | apply zW.boxP rfl rfl | apply zW.some rfl) ?_; refine zZ.vm rfl rfl rfl rfl (by decide) ?_; refine zZ.va rfl rfl rfl rfl (by decide) ?_; refine zZ.nil ?_) | refine zY.block ?_))
 refine zY.loop (downS g cap m i0 n) (fun p => p.1.length = m ∧ p.2 < m ∧ kF p.1 p.2 n = kF L i0 n) (fun p => n - p.2) (L, i0) ?h0 ⟨hm, hi0, rfl⟩ ?rd
 case h0 =>
  unfold downS
  exact zD K_24 K_0
 case rd =>
  rintro ⟨L', i'⟩ ⟨hm', hk, hu⟩
  simp only at hm' hk hu
  have g0 : IntKind.i64.wrap (2 * ((i' : Nat) : Int)) = 2 * ((i' : Nat) : Int) := wrap_i64 _ (by omega)
  have g1 : IntKind.i64.wrap (2 * ((i' : Nat) : Int) + 1) = ((2 * i' + 1 : Nat) : Int) := by rw [wrap_i64 _ (by omega)]; omega
  have g2 : IntKind.i64.wrap (((2 * i' + 1 : Nat) : Int) + 1) = ((2 * i' + 2 : Nat) : Int) := by rw [wrap_i64 _ (by omega)]; omega
  have c2 : decide (((2 * i' + 1 : Nat) : Int) < 0) = false := decide_eq_false (by omega)
  unfold downS
  rw [kF] at hu
  by_cases h1 : 2 * i' + 1 < n
  case neg =>
   rw [dif_neg h1] at hu
   have c1 : decide (((2 * i' + 1 : Nat) : Int) ≥ ((n : Nat) : Int)) = true := decide_eq_true (by omega)
   repeat' ((refine zY.is ?_; first | refine zY.seq ?_ | (refine zY.iq 2 ?_; refine zY.rqc _ K_4 K_0 ?_; refine zZ.vm rfl rfl rfl rfl (by decide) ?_; refine zZ.v rfl rfl (a_mul rfl rfl rfl g0 rfl (by decide)) ?_; refine zZ.v rfl rfl (yX rfl rfl rfl g1 rfl (by decide)) ?_; refine zZ.va rfl rfl rfl rfl (by decide) ?_; refine zZ.nil ?_) | (refine zY.iq 3 ?_; refine zY.rqc _ K_4 K_0 ?_; all_goals (refine zZ.vm rfl rfl rfl rfl (by decide) ?_); all_goals (refine zZ.vm rfl rfl rfl rfl (by decide) ?_); all_goals (refine zZ.v rfl rfl (qM rfl rfl rfl c1 rfl (by decide)) ?_); all_goals (refine zZ.vm rfl rfl rfl rfl (by decide) ?_); all_goals (refine zZ.gnF rfl rfl (by decide) rfl (by rfl) rfl (by decide) ?_); all_goals (refine zZ.gnF rfl rfl (by decide) rfl (by rfl) rfl (by decide) ?_); all_goals (refine zZ.v rfl rfl (zR rfl rfl (by rfl) rfl rfl (by decide)) ?_); all_goals (refine zZ.nil ?_)) | (refine zY.isR (id := 11) ?_; refine zY.zK [1, 6, 7] [1000, 1001] (by repeat' first | exact zX.nil | apply zX.p rfl | apply zX.skip) (by repeat' first | exact zW.nil | apply zW.boxP rfl rfl | apply zW.some rfl) ?_; refine zZ.vm rfl rfl rfl rfl (by decide) ?_; refine zZ.vm rfl rfl rfl rfl (by decide) ?_; refine zZ.v rfl rfl (qL rfl rfl rfl (by rfl) rfl (by decide)) ?_; refine zZ.va rfl rfl rfl rfl (by decide) ?_; refine zZ.nil ?_) | refine zY.yC rfl (by first | assumption | with_reducible rfl) ?_ | refine zY.block ?_ | refine zY.exit ?_ | refine zY.ret ?_))
   all_goals rw [← hu]
   all_goals
    refine ⟨.inl rfl, { t := [], s := [(1000, bxB g cap m), (1001, hpA g cap L')] }, ?_, .one rfl rfl, zG (by decide) rfl (by repeat' first | exact trivial | rfl | constructor)⟩
    exact zD [] K_0
  case pos =>
   rw [dif_pos h1] at hu
   have c1 : decide (((2 * i' + 1 : Nat) : Int) ≥ ((n : Nat) : Int)) = false := decide_eq_false (by omega)
   by_cases h2 : 2 * i' + 2 < n
   ·have c3 : decide (((2 * i' + 2 : Nat) : Int) < ((n : Nat) : Int)) = true := decide_eq_true (by omega)
    have l1 := less_fn g cap m L' (2 * i' + 2) (2 * i' + 1) hm' (by omega) (by omega)
    cases hl : lessL L' (2 * i' + 2) (2 * i' + 1)
    ·have hj : kE L' i' n = 2 * i' + 1 := by unfold kE; rw [if_neg (by simp [hl])]
     rw [hl] at l1
     rw [hj] at hu
     have l2 := less_fn g cap m L' (2 * i' + 1) i' hm' (by omega) (by omega)
     cases hl2 : lessL L' (2 * i' + 1) i'
     ·rw [hl2] at l2 hu
      repeat' ((refine zY.is ?_; first | refine zY.seq ?_ | (refine zY.iq 2 ?_; refine zY.rqc _ K_4 K_0 ?_; refine zZ.vm rfl rfl rfl rfl (by decide) ?_; refine zZ.v rfl rfl (a_mul rfl rfl rfl g0 rfl (by decide)) ?_; refine zZ.v rfl rfl (yX rfl rfl rfl g1 rfl (by decide)) ?_; refine zZ.va rfl rfl rfl rfl (by decide) ?_; refine zZ.nil ?_) | (refine zY.iq 3 ?_; refine zY.rqc _ K_4 K_0 ?_; all_goals (refine zZ.vm rfl rfl rfl rfl (by decide) ?_); all_goals (refine zZ.vm rfl rfl rfl rfl (by decide) ?_); all_goals (refine zZ.v rfl rfl (qM rfl rfl rfl c1 rfl (by decide)) ?_); all_goals (refine zZ.vm rfl rfl rfl rfl (by decide) ?_); all_goals (refine zZ.gY rfl rfl (by decide) rfl (by assumption) rfl (by decide) (zQ rfl rfl rfl (by decide)) ?_); all_goals (refine zZ.gY rfl rfl (by decide) rfl (by assumption) rfl (by decide) (yZ rfl rfl rfl c2 rfl (by decide)) ?_); all_goals (refine zZ.v rfl rfl (by exact zM rfl rfl (by assumption) rfl rfl (by decide)) ?_); all_goals (refine zZ.nil ?_)) | (refine zY.iq 4 ?_; refine zY.rqc _ K_4 K_0 ?_; refine zZ.vm rfl rfl rfl rfl (by decide) ?_; refine zZ.va rfl rfl rfl rfl (by decide) ?_; refine zZ.nil ?_) | (refine zY.iq 5 ?_; refine zY.rqc _ K_4 K_0 ?_; refine zZ.vm rfl rfl rfl rfl (by decide) ?_; refine zZ.v rfl rfl (yX rfl rfl rfl g2 rfl (by decide)) ?_; refine zZ.va rfl rfl rfl rfl (by decide) ?_; refine zZ.nil ?_) | (refine zY.iq 6 ?_; refine zY.rqc _ K_4 K_0 ?_; all_goals (refine zZ.vm rfl rfl rfl rfl (by decide) ?_); all_goals (refine zZ.vm rfl rfl rfl rfl (by decide) ?_); all_goals (refine zZ.v rfl rfl (yZ rfl rfl rfl c3 rfl (by decide)) ?_); all_goals (refine zZ.vm rfl rfl rfl rfl (by decide) ?_); all_goals (refine zZ.gY rfl rfl (by decide) rfl (by rfl) rfl (by decide) (xI rfl rfl rfl (by decide)) ?_); all_goals (refine zZ.gY rfl rfl (by decide) rfl (by rfl) rfl (by decide) (zQ rfl rfl rfl (by decide)) ?_); all_goals (refine zZ.gY rfl rfl (by decide) rfl (by rfl) rfl (by decide) (zQ rfl rfl rfl (by decide)) ?_); all_goals (refine zZ.ofTg rfl rfl (by decide) rfl (by rfl) (z8.z [1001] [] [] (l1) rfl (by decide) (xA rfl rfl rfl rfl) (by rfl) (zG (by decide) rfl (by repeat' first | exact trivial | rfl | constructor)) rfl rfl rfl (by decide) rfl rfl (by decide) rfl rfl rfl ?_)); all_goals (refine zZ.v rfl rfl (zR rfl rfl (by rfl) rfl rfl (by decide)) ?_); all_goals (refine zZ.nil ?_)) | (refine zY.iq 8 ?_; refine zY.rqc _ K_4 K_0 ?_; refine zZ.v rfl rfl (xI rfl rfl rfl (by decide)) ?_; refine zZ.vm rfl rfl rfl rfl (by decide) ?_; refine zZ.vm rfl rfl rfl rfl (by decide) ?_; refine zZ.ofT rfl (z8.z [1001] [] [] (l2) rfl (by decide) (xA rfl rfl rfl rfl) (by rfl) (zG (by decide) rfl (by repeat' first | exact trivial | rfl | constructor)) rfl rfl rfl (by decide) rfl rfl (by decide) rfl rfl rfl ?_); refine zZ.v rfl rfl (by exact xR rfl rfl (by exact bT (by decide)) rfl (by decide)) ?_; refine zZ.nil ?_) | (refine zY.isR (id := 11) ?_; refine zY.zK [1, 6, 7] [1000, 1001] (by repeat' first | exact zX.nil | apply zX.p rfl | apply zX.skip) (by repeat' first | exact zW.nil | apply zW.boxP rfl rfl | apply zW.some rfl) ?_; refine zZ.vm rfl rfl rfl rfl (by decide) ?_; refine zZ.vm rfl rfl rfl rfl (by decide) ?_; refine zZ.v rfl rfl (qL rfl rfl rfl (by rfl) rfl (by decide)) ?_; refine zZ.va rfl rfl rfl rfl (by decide) ?_; refine zZ.nil ?_) | refine zY.yC rfl (by first | assumption | with_reducible rfl) ?_ | refine zY.yF rfl (by assumption) ?_ | refine zY.skip ?_ | refine zY.block ?_ | refine zY.exit ?_ | refine zY.ret ?_))
      all_goals rw [← hu]
      all_goals
       refine ⟨.inl rfl, { t := [], s := [(1000, bxB g cap m), (1001, hpA g cap L')] }, ?_, .one rfl rfl, zG (by decide) rfl (by repeat' first | exact trivial | rfl | constructor)⟩
       exact zD [] K_0
     ·rw [hl2] at l2 hu
      have s1 := swap_fn g cap m L' i' (2 * i' + 1) hm' (by omega) (by omega)
      repeat' (first | (refine zY.is ?_; first | refine zY.seq ?_ | (refine zY.iq 2 ?_; refine zY.rqc _ K_4 K_0 ?_; refine zZ.vm rfl rfl rfl rfl (by decide) ?_; refine zZ.v rfl rfl (a_mul rfl rfl rfl g0 rfl (by decide)) ?_; refine zZ.v rfl rfl (yX rfl rfl rfl g1 rfl (by decide)) ?_; refine zZ.va rfl rfl rfl rfl (by decide) ?_; refine zZ.nil ?_) | (refine zY.iq 3 ?_; refine zY.rqc _ K_4 K_0 ?_; all_goals (refine zZ.vm rfl rfl rfl rfl (by decide) ?_); all_goals (refine zZ.vm rfl rfl rfl rfl (by decide) ?_); all_goals (refine zZ.v rfl rfl (qM rfl rfl rfl c1 rfl (by decide)) ?_); all_goals (refine zZ.vm rfl rfl rfl rfl (by decide) ?_); all_goals (refine zZ.gY rfl rfl (by decide) rfl (by assumption) rfl (by decide) (zQ rfl rfl rfl (by decide)) ?_); all_goals (refine zZ.gY rfl rfl (by decide) rfl (by assumption) rfl (by decide) (yZ rfl rfl rfl c2 rfl (by decide)) ?_); all_goals (refine zZ.v rfl rfl (by exact zM rfl rfl (by assumption) rfl rfl (by decide)) ?_); all_goals (refine zZ.nil ?_)) | (refine zY.iq 4 ?_; refine zY.rqc _ K_4 K_0 ?_; refine zZ.vm rfl rfl rfl rfl (by decide) ?_; refine zZ.va rfl rfl rfl rfl (by decide) ?_; refine zZ.nil ?_) | (refine zY.iq 5 ?_; refine zY.rqc _ K_4 K_0 ?_; refine zZ.vm rfl rfl rfl rfl (by decide) ?_; refine zZ.v rfl rfl (yX rfl rfl rfl g2 rfl (by decide)) ?_; refine zZ.va rfl rfl rfl rfl (by decide) ?_; refine zZ.nil ?_) | (refine zY.iq 6 ?_; refine zY.rqc _ K_4 K_0 ?_; all_goals (refine zZ.vm rfl rfl rfl rfl (by decide) ?_); all_goals (refine zZ.vm rfl rfl rfl rfl (by decide) ?_); all_goals (refine zZ.v rfl rfl (yZ rfl rfl rfl c3 rfl (by decide)) ?_); all_goals (refine zZ.vm rfl rfl rfl rfl (by decide) ?_); all_goals (refine zZ.gY rfl rfl (by decide) rfl (by rfl) rfl (by decide) (xI rfl rfl rfl (by decide)) ?_); all_goals (refine zZ.gY rfl rfl (by decide) rfl (by rfl) rfl (by decide) (zQ rfl rfl rfl (by decide)) ?_); all_goals (refine zZ.gY rfl rfl (by decide) rfl (by rfl) rfl (by decide) (zQ rfl rfl rfl (by decide)) ?_); all_goals (refine zZ.ofTg rfl rfl (by decide) rfl (by rfl) (z8.z [1001] [] [] (l1) rfl (by decide) (xA rfl rfl rfl rfl) (by rfl) (zG (by decide) rfl (by repeat' first | exact trivial | rfl | constructor)) rfl rfl rfl (by decide) rfl rfl (by decide) rfl rfl rfl ?_)); all_goals (refine zZ.v rfl rfl (zR rfl rfl (by rfl) rfl rfl (by decide)) ?_); all_goals (refine zZ.nil ?_)) | (refine zY.iq 8 ?_; refine zY.rqc _ K_4 K_0 ?_; refine zZ.v rfl rfl (xI rfl rfl rfl (by decide)) ?_; refine zZ.vm rfl rfl rfl rfl (by decide) ?_; refine zZ.vm rfl rfl rfl rfl (by decide) ?_; refine zZ.ofT rfl (z8.z [1001] [] [] (l2) rfl (by decide) (xA rfl rfl rfl rfl) (by rfl) (zG (by decide) rfl (by repeat' first | exact trivial | rfl | constructor)) rfl rfl rfl (by decide) rfl rfl (by decide) rfl rfl rfl ?_); refine zZ.v rfl rfl (xR rfl rfl c2 rfl (by decide)) ?_; refine zZ.nil ?_) | (refine zY.iq 9 ?_; refine zY.rqc _ K_4 K_0 ?_; refine zZ.v rfl rfl (xI rfl rfl rfl (by decide)) ?_; refine zZ.vm rfl rfl rfl rfl (by decide) ?_; refine zZ.vm rfl rfl rfl rfl (by decide) ?_; refine zZ.ofT rfl (z8.z [1001] [] [] (s1) rfl (by decide) (xA rfl rfl rfl rfl) (by rfl) (zG (by decide) rfl (by repeat' first | exact trivial | rfl | constructor)) rfl rfl rfl (by decide) rfl rfl (by decide) rfl rfl rfl ?_); refine zZ.nil ?_) | (refine zY.iq 10 ?_; refine zY.rqc _ K_4 K_0 ?_; refine zZ.vm rfl rfl rfl rfl (by decide) ?_; refine zZ.va rfl rfl rfl rfl (by decide) ?_; refine zZ.nil ?_) | refine zY.yF rfl (by assumption) ?_ | refine zY.skip ?_ | refine zY.block ?_) | refine zH.n ?_ | refine zS.n ?_)
      all_goals
       refine ⟨(swL L' i' (2 * i' + 1), 2 * i' + 1), ?_, ⟨(qD _ _ _).trans hm', by show 2 * i' + 1 < m; omega, hu⟩, by show n - (2 * i' + 1) < n - i'; omega⟩
       exact zD K_24 K_0
    ·have hj : kE L' i' n = 2 * i' + 2 := by unfold kE; rw [if_pos ⟨h2, hl⟩]
     rw [hl] at l1
     rw [hj] at hu
     have l2 := less_fn g cap m L' (2 * i' + 2) i' hm' (by omega) (by omega)
     cases hl2 : lessL L' (2 * i' + 2) i'
     ·rw [hl2] at l2 hu
      repeat' ((refine zY.is ?_; first | refine zY.seq ?_ | (refine zY.iq 2 ?_; refine zY.rqc _ K_4 K_0 ?_; refine zZ.vm rfl rfl rfl rfl (by decide) ?_; refine zZ.v rfl rfl (a_mul rfl rfl rfl g0 rfl (by decide)) ?_; refine zZ.v rfl rfl (yX rfl rfl rfl g1 rfl (by decide)) ?_; refine zZ.va rfl rfl rfl rfl (by decide) ?_; refine zZ.nil ?_) | (refine zY.iq 3 ?_; refine zY.rqc _ K_4 K_0 ?_; all_goals (refine zZ.vm rfl rfl rfl rfl (by decide) ?_); all_goals (refine zZ.vm rfl rfl rfl rfl (by decide) ?_); all_goals (refine zZ.v rfl rfl (qM rfl rfl rfl c1 rfl (by decide)) ?_); all_goals (refine zZ.vm rfl rfl rfl rfl (by decide) ?_); all_goals (refine zZ.gY rfl rfl (by decide) rfl (by assumption) rfl (by decide) (zQ rfl rfl rfl (by decide)) ?_); all_goals (refine zZ.gY rfl rfl (by decide) rfl (by assumption) rfl (by decide) (yZ rfl rfl rfl c2 rfl (by decide)) ?_); all_goals (refine zZ.v rfl rfl (by exact zM rfl rfl (by assumption) rfl rfl (by decide)) ?_); all_goals (refine zZ.nil ?_)) | (refine zY.iq 4 ?_; refine zY.rqc _ K_4 K_0 ?_; refine zZ.vm rfl rfl rfl rfl (by decide) ?_; refine zZ.va rfl rfl rfl rfl (by decide) ?_; refine zZ.nil ?_) | (refine zY.iq 5 ?_; refine zY.rqc _ K_4 K_0 ?_; refine zZ.vm rfl rfl rfl rfl (by decide) ?_; refine zZ.v rfl rfl (yX rfl rfl rfl g2 rfl (by decide)) ?_; refine zZ.va rfl rfl rfl rfl (by decide) ?_; refine zZ.nil ?_) | (refine zY.iq 6 ?_; refine zY.rqc _ K_4 K_0 ?_; all_goals (refine zZ.vm rfl rfl rfl rfl (by decide) ?_); all_goals (refine zZ.vm rfl rfl rfl rfl (by decide) ?_); all_goals (refine zZ.v rfl rfl (yZ rfl rfl rfl c3 rfl (by decide)) ?_); all_goals (refine zZ.vm rfl rfl rfl rfl (by decide) ?_); all_goals (refine zZ.gY rfl rfl (by decide) rfl (by rfl) rfl (by decide) (xI rfl rfl rfl (by decide)) ?_); all_goals (refine zZ.gY rfl rfl (by decide) rfl (by rfl) rfl (by decide) (zQ rfl rfl rfl (by decide)) ?_); all_goals (refine zZ.gY rfl rfl (by decide) rfl (by rfl) rfl (by decide) (zQ rfl rfl rfl (by decide)) ?_); all_goals (refine zZ.ofTg rfl rfl (by decide) rfl (by rfl) (z8.z [1001] [] [] (l1) rfl (by decide) (xA rfl rfl rfl rfl) (by rfl) (zG (by decide) rfl (by repeat' first | exact trivial | rfl | constructor)) rfl rfl rfl (by decide) rfl rfl (by decide) rfl rfl rfl ?_)); all_goals (refine zZ.v rfl rfl (zR rfl rfl (by rfl) rfl rfl (by decide)) ?_); all_goals (refine zZ.nil ?_)) | (refine zY.iq 7 ?_; refine zY.rqc _ K_4 K_0 ?_; refine zZ.vm rfl rfl rfl rfl (by decide) ?_; refine zZ.va rfl rfl rfl rfl (by decide) ?_; refine zZ.nil ?_) | (refine zY.iq 8 ?_; refine zY.rqc _ K_4 K_0 ?_; refine zZ.v rfl rfl (xI rfl rfl rfl (by decide)) ?_; refine zZ.vm rfl rfl rfl rfl (by decide) ?_; refine zZ.vm rfl rfl rfl rfl (by decide) ?_; refine zZ.ofT rfl (z8.z [1001] [] [] (l2) rfl (by decide) (xA rfl rfl rfl rfl) (by rfl) (zG (by decide) rfl (by repeat' first | exact trivial | rfl | constructor)) rfl rfl rfl (by decide) rfl rfl (by decide) rfl rfl rfl ?_); refine zZ.v rfl rfl (by exact xR rfl rfl (by exact bT (by decide)) rfl (by decide)) ?_; refine zZ.nil ?_) | (refine zY.isR (id := 11) ?_; refine zY.zK [1, 6, 7] [1000, 1001] (by repeat' first | exact zX.nil | apply zX.p rfl | apply zX.skip) (by repeat' first | exact zW.nil | apply zW.boxP rfl rfl | apply zW.some rfl) ?_; refine zZ.vm rfl rfl rfl rfl (by decide) ?_; refine zZ.vm rfl rfl rfl rfl (by decide) ?_; refine zZ.v rfl rfl (qL rfl rfl rfl (by rfl) rfl (by decide)) ?_; refine zZ.va rfl rfl rfl rfl (by decide) ?_; refine zZ.nil ?_) | refine zY.yC rfl (by first | assumption | with_reducible rfl) ?_ | refine zY.yF rfl (by assumption) ?_ | refine zY.skip ?_ | refine zY.block ?_ | refine zY.exit ?_ | refine zY.ret ?_))
      all_goals rw [← hu]
      all_goals
       refine ⟨.inl rfl, { t := [], s := [(1000, bxB g cap m), (1001, hpA g cap L')] }, ?_, .one rfl rfl, zG (by decide) rfl (by repeat' first | exact trivial | rfl | constructor)⟩
       exact zD [] K_0
     ·rw [hl2] at l2 hu
      have s1 := swap_fn g cap m L' i' (2 * i' + 2) hm' (by omega) (by omega)
      repeat' (first | (refine zY.is ?_; first | refine zY.seq ?_ | (refine zY.iq 2 ?_; refine zY.rqc _ K_4 K_0 ?_; refine zZ.vm rfl rfl rfl rfl (by decide) ?_; refine zZ.v rfl rfl (a_mul rfl rfl rfl g0 rfl (by decide)) ?_; refine zZ.v rfl rfl (yX rfl rfl rfl g1 rfl (by decide)) ?_; refine zZ.va rfl rfl rfl rfl (by decide) ?_; refine zZ.nil ?_) | (refine zY.iq 3 ?_; refine zY.rqc _ K_4 K_0 ?_; all_goals (refine zZ.vm rfl rfl rfl rfl (by decide) ?_); all_goals (refine zZ.vm rfl rfl rfl rfl (by decide) ?_); all_goals (refine zZ.v rfl rfl (qM rfl rfl rfl c1 rfl (by decide)) ?_); all_goals (refine zZ.vm rfl rfl rfl rfl (by decide) ?_); all_goals (refine zZ.gY rfl rfl (by decide) rfl (by assumption) rfl (by decide) (zQ rfl rfl rfl (by decide)) ?_); all_goals (refine zZ.gY rfl rfl (by decide) rfl (by assumption) rfl (by decide) (yZ rfl rfl rfl c2 rfl (by decide)) ?_); all_goals (refine zZ.v rfl rfl (by exact zM rfl rfl (by assumption) rfl rfl (by decide)) ?_); all_goals (refine zZ.nil ?_)) | (refine zY.iq 4 ?_; refine zY.rqc _ K_4 K_0 ?_; refine zZ.vm rfl rfl rfl rfl (by decide) ?_; refine zZ.va rfl rfl rfl rfl (by decide) ?_; refine zZ.nil ?_) | (refine zY.iq 5 ?_; refine zY.rqc _ K_4 K_0 ?_; refine zZ.vm rfl rfl rfl rfl (by decide) ?_; refine zZ.v rfl rfl (yX rfl rfl rfl g2 rfl (by decide)) ?_; refine zZ.va rfl rfl rfl rfl (by decide) ?_; refine zZ.nil ?_) | (refine zY.iq 6 ?_; refine zY.rqc _ K_4 K_0 ?_; all_goals (refine zZ.vm rfl rfl rfl rfl (by decide) ?_); all_goals (refine zZ.vm rfl rfl rfl rfl (by decide) ?_); all_goals (refine zZ.v rfl rfl (yZ rfl rfl rfl c3 rfl (by decide)) ?_); all_goals (refine zZ.vm rfl rfl rfl rfl (by decide) ?_); all_goals (refine zZ.gY rfl rfl (by decide) rfl (by rfl) rfl (by decide) (xI rfl rfl rfl (by decide)) ?_); all_goals (refine zZ.gY rfl rfl (by decide) rfl (by rfl) rfl (by decide) (zQ rfl rfl rfl (by decide)) ?_); all_goals (refine zZ.gY rfl rfl (by decide) rfl (by rfl) rfl (by decide) (zQ rfl rfl rfl (by decide)) ?_); all_goals (refine zZ.ofTg rfl rfl (by decide) rfl (by rfl) (z8.z [1001] [] [] (l1) rfl (by decide) (xA rfl rfl rfl rfl) (by rfl) (zG (by decide) rfl (by repeat' first | exact trivial | rfl | constructor)) rfl rfl rfl (by decide) rfl rfl (by decide) rfl rfl rfl ?_)); all_goals (refine zZ.v rfl rfl (zR rfl rfl (by rfl) rfl rfl (by decide)) ?_); all_goals (refine zZ.nil ?_)) | (refine zY.iq 7 ?_; refine zY.rqc _ K_4 K_0 ?_; refine zZ.vm rfl rfl rfl rfl (by decide) ?_; refine zZ.va rfl rfl rfl rfl (by decide) ?_; refine zZ.nil ?_) | (refine zY.iq 8 ?_; refine zY.rqc _ K_4 K_0 ?_; refine zZ.v rfl rfl (xI rfl rfl rfl (by decide)) ?_; refine zZ.vm rfl rfl rfl rfl (by decide) ?_; refine zZ.vm rfl rfl rfl rfl (by decide) ?_; refine zZ.ofT rfl (z8.z [1001] [] [] (l2) rfl (by decide) (xA rfl rfl rfl rfl) (by rfl) (zG (by decide) rfl (by repeat' first | exact trivial | rfl | constructor)) rfl rfl rfl (by decide) rfl rfl (by decide) rfl rfl rfl ?_); refine zZ.v rfl rfl (xR rfl rfl c2 rfl (by decide)) ?_; refine zZ.nil ?_) | (refine zY.iq 9 ?_; refine zY.rqc _ K_4 K_0 ?_; refine zZ.v rfl rfl (xI rfl rfl rfl (by decide)) ?_; refine zZ.vm rfl rfl rfl rfl (by decide) ?_; refine zZ.vm rfl rfl rfl rfl (by decide) ?_; refine zZ.ofT rfl (z8.z [1001] [] [] (s1) rfl (by decide) (xA rfl rfl rfl rfl) (by rfl) (zG (by decide) rfl (by repeat' first | exact trivial | rfl | constructor)) rfl rfl rfl (by decide) rfl rfl (by decide) rfl rfl rfl ?_); refine zZ.nil ?_) | (refine zY.iq 10 ?_; refine zY.rqc _ K_4 K_0 ?_; refine zZ.vm rfl rfl rfl rfl (by decide) ?_; refine zZ.va rfl rfl rfl rfl (by decide) ?_; refine zZ.nil ?_) | refine zY.yC rfl (by first | assumption | with_reducible rfl) ?_ | refine zY.yF rfl (by assumption) ?_ | refine zY.skip ?_ | refine zY.block ?_) | refine zH.n ?_ | refine zS.n ?_)
      all_goals
       refine ⟨(swL L' i' (2 * i' + 2), 2 * i' + 2), ?_, ⟨(qD _ _ _).trans hm', by show 2 * i' + 2 < m; omega, hu⟩, by show n - (2 * i' + 2) < n - i'; omega⟩
       exact zD K_24 K_0
   ·have c3 : decide (((2 * i' + 2 : Nat) : Int) < ((n : Nat) : Int)) = false := decide_eq_false (by omega)
    have hj : kE L' i' n = 2 * i' + 1 := by unfold kE; rw [if_neg (fun h => h2 h.1)]
    rw [hj] at hu
    have l2 := less_fn g cap m L' (2 * i' + 1) i' hm' (by omega) (by omega)
    cases hl2 : lessL L' (2 * i' + 1) i'
    ·rw [hl2] at l2 hu
     repeat' ((refine zY.is ?_; first | refine zY.seq ?_ | (refine zY.iq 2 ?_; refine zY.rqc _ K_4 K_0 ?_; refine zZ.vm rfl rfl rfl rfl (by decide) ?_; refine zZ.v rfl rfl (a_mul rfl rfl rfl g0 rfl (by decide)) ?_; refine zZ.v rfl rfl (yX rfl rfl rfl g1 rfl (by decide)) ?_; refine zZ.va rfl rfl rfl rfl (by decide) ?_; refine zZ.nil ?_) | (refine zY.iq 3 ?_; refine zY.rqc _ K_4 K_0 ?_; all_goals (refine zZ.vm rfl rfl rfl rfl (by decide) ?_); all_goals (refine zZ.vm rfl rfl rfl rfl (by decide) ?_); all_goals (refine zZ.v rfl rfl (qM rfl rfl rfl c1 rfl (by decide)) ?_); all_goals (refine zZ.vm rfl rfl rfl rfl (by decide) ?_); all_goals (refine zZ.gY rfl rfl (by decide) rfl (by assumption) rfl (by decide) (zQ rfl rfl rfl (by decide)) ?_); all_goals (refine zZ.gY rfl rfl (by decide) rfl (by assumption) rfl (by decide) (yZ rfl rfl rfl c2 rfl (by decide)) ?_); all_goals (refine zZ.v rfl rfl (by exact zM rfl rfl (by assumption) rfl rfl (by decide)) ?_); all_goals (refine zZ.nil ?_)) | (refine zY.iq 4 ?_; refine zY.rqc _ K_4 K_0 ?_; refine zZ.vm rfl rfl rfl rfl (by decide) ?_; refine zZ.va rfl rfl rfl rfl (by decide) ?_; refine zZ.nil ?_) | (refine zY.iq 5 ?_; refine zY.rqc _ K_4 K_0 ?_; refine zZ.vm rfl rfl rfl rfl (by decide) ?_; refine zZ.v rfl rfl (yX rfl rfl rfl g2 rfl (by decide)) ?_; refine zZ.va rfl rfl rfl rfl (by decide) ?_; refine zZ.nil ?_) | (refine zY.iq 6 ?_; refine zY.rqc _ K_4 K_0 ?_; all_goals (refine zZ.vm rfl rfl rfl rfl (by decide) ?_); all_goals (refine zZ.vm rfl rfl rfl rfl (by decide) ?_); all_goals (refine zZ.v rfl rfl (yZ rfl rfl rfl c3 rfl (by decide)) ?_); all_goals (refine zZ.vm rfl rfl rfl rfl (by decide) ?_); all_goals (refine zZ.gnT rfl rfl (by decide) rfl (by assumption) rfl (by decide) ?_); all_goals (refine zZ.gnT rfl rfl (by decide) rfl (by assumption) rfl (by decide) ?_); all_goals (refine zZ.gnT rfl rfl (by decide) rfl (by assumption) rfl (by decide) ?_); all_goals (refine zZ.gnT rfl rfl (by decide) rfl (by assumption) rfl (by decide) ?_); all_goals (refine zZ.v rfl rfl (by exact zM rfl rfl (by assumption) rfl rfl (by decide)) ?_); all_goals (refine zZ.nil ?_)) | (refine zY.iq 8 ?_; refine zY.rqc _ K_4 K_0 ?_; refine zZ.v rfl rfl (xI rfl rfl rfl (by decide)) ?_; refine zZ.vm rfl rfl rfl rfl (by decide) ?_; refine zZ.vm rfl rfl rfl rfl (by decide) ?_; refine zZ.ofT rfl (z8.z [1001] [] [] (l2) rfl (by decide) (xA rfl rfl rfl rfl) (by rfl) (zG (by decide) rfl (by repeat' first | exact trivial | rfl | constructor)) rfl rfl rfl (by decide) rfl rfl (by decide) rfl rfl rfl ?_); refine zZ.v rfl rfl (by exact xR rfl rfl (by exact bT (by decide)) rfl (by decide)) ?_; refine zZ.nil ?_) | (refine zY.isR (id := 11) ?_; refine zY.zK [1, 6, 7] [1000, 1001] (by repeat' first | exact zX.nil | apply zX.p rfl | apply zX.skip) (by repeat' first | exact zW.nil | apply zW.boxP rfl rfl | apply zW.some rfl) ?_; refine zZ.vm rfl rfl rfl rfl (by decide) ?_; refine zZ.vm rfl rfl rfl rfl (by decide) ?_; refine zZ.v rfl rfl (qL rfl rfl rfl (by rfl) rfl (by decide)) ?_; refine zZ.va rfl rfl rfl rfl (by decide) ?_; refine zZ.nil ?_) | refine zY.yC rfl (by rfl) ?_ | refine zY.yF rfl (by assumption) ?_ | refine zY.skip ?_ | refine zY.block ?_ | refine zY.exit ?_ | refine zY.ret ?_))
     all_goals rw [← hu]
     all_goals
      refine ⟨.inl rfl, { t := [], s := [(1000, bxB g cap m), (1001, hpA g cap L')] }, ?_, .one rfl rfl, zG (by decide) rfl (by repeat' first | exact trivial | rfl | constructor)⟩
      exact zD [] K_0
    ·rw [hl2] at l2 hu
     have s1 := swap_fn g cap m L' i' (2 * i' + 1) hm' (by omega) (by omega)
     repeat' (first | (refine zY.is ?_; first | refine zY.seq ?_ | (refine zY.iq 2 ?_; refine zY.rqc _ K_4 K_0 ?_; refine zZ.vm rfl rfl rfl rfl (by decide) ?_; refine zZ.v rfl rfl (a_mul rfl rfl rfl g0 rfl (by decide)) ?_; refine zZ.v rfl rfl (yX rfl rfl rfl g1 rfl (by decide)) ?_; refine zZ.va rfl rfl rfl rfl (by decide) ?_; refine zZ.nil ?_) | (refine zY.iq 3 ?_; refine zY.rqc _ K_4 K_0 ?_; all_goals (refine zZ.vm rfl rfl rfl rfl (by decide) ?_); all_goals (refine zZ.vm rfl rfl rfl rfl (by decide) ?_); all_goals (refine zZ.v rfl rfl (qM rfl rfl rfl c1 rfl (by decide)) ?_); all_goals (refine zZ.vm rfl rfl rfl rfl (by decide) ?_); all_goals (refine zZ.gY rfl rfl (by decide) rfl (by assumption) rfl (by decide) (zQ rfl rfl rfl (by decide)) ?_); all_goals (refine zZ.gY rfl rfl (by decide) rfl (by assumption) rfl (by decide) (yZ rfl rfl rfl c2 rfl (by decide)) ?_); all_goals (refine zZ.v rfl rfl (by exact zM rfl rfl (by assumption) rfl rfl (by decide)) ?_); all_goals (refine zZ.nil ?_)) | (refine zY.iq 4 ?_; refine zY.rqc _ K_4 K_0 ?_; refine zZ.vm rfl rfl rfl rfl (by decide) ?_; refine zZ.va rfl rfl rfl rfl (by decide) ?_; refine zZ.nil ?_) | (refine zY.iq 5 ?_; refine zY.rqc _ K_4 K_0 ?_; refine zZ.vm rfl rfl rfl rfl (by decide) ?_; refine zZ.v rfl rfl (yX rfl rfl rfl g2 rfl (by decide)) ?_; refine zZ.va rfl rfl rfl rfl (by decide) ?_; refine zZ.nil ?_) | (refine zY.iq 6 ?_; refine zY.rqc _ K_4 K_0 ?_; all_goals (refine zZ.vm rfl rfl rfl rfl (by decide) ?_); all_goals (refine zZ.vm rfl rfl rfl rfl (by decide) ?_); all_goals (refine zZ.v rfl rfl (yZ rfl rfl rfl c3 rfl (by decide)) ?_); all_goals (refine zZ.vm rfl rfl rfl rfl (by decide) ?_); all_goals (refine zZ.gnT rfl rfl (by decide) rfl (by assumption) rfl (by decide) ?_); all_goals (refine zZ.gnT rfl rfl (by decide) rfl (by assumption) rfl (by decide) ?_); all_goals (refine zZ.gnT rfl rfl (by decide) rfl (by assumption) rfl (by decide) ?_); all_goals (refine zZ.gnT rfl rfl (by decide) rfl (by assumption) rfl (by decide) ?_); all_goals (refine zZ.v rfl rfl (by exact zM rfl rfl (by assumption) rfl rfl (by decide)) ?_); all_goals (refine zZ.nil ?_)) | (refine zY.iq 8 ?_; refine zY.rqc _ K_4 K_0 ?_; refine zZ.v rfl rfl (xI rfl rfl rfl (by decide)) ?_; refine zZ.vm rfl rfl rfl rfl (by decide) ?_; refine zZ.vm rfl rfl rfl rfl (by decide) ?_; refine zZ.ofT rfl (z8.z [1001] [] [] (l2) rfl (by decide) (xA rfl rfl rfl rfl) (by rfl) (zG (by decide) rfl (by repeat' first | exact trivial | rfl | constructor)) rfl rfl rfl (by decide) rfl rfl (by decide) rfl rfl rfl ?_); refine zZ.v rfl rfl (xR rfl rfl c2 rfl (by decide)) ?_; refine zZ.nil ?_) | (refine zY.iq 9 ?_; refine zY.rqc _ K_4 K_0 ?_; refine zZ.v rfl rfl (xI rfl rfl rfl (by decide)) ?_; refine zZ.vm rfl rfl rfl rfl (by decide) ?_; refine zZ.vm rfl rfl rfl rfl (by decide) ?_; refine zZ.ofT rfl (z8.z [1001] [] [] (s1) rfl (by decide) (xA rfl rfl rfl rfl) (by rfl) (zG (by decide) rfl (by repeat' first | exact trivial | rfl | constructor)) rfl rfl rfl (by decide) rfl rfl (by decide) rfl rfl rfl ?_); refine zZ.nil ?_) | (refine zY.iq 10 ?_; refine zY.rqc _ K_4 K_0 ?_; refine zZ.vm rfl rfl rfl rfl (by decide) ?_; refine zZ.va rfl rfl rfl rfl (by decide) ?_; refine zZ.nil ?_) | refine zY.yF rfl (by assumption) ?_ | refine zY.skip ?_ | refine zY.block ?_) | refine zH.n ?_ | refine zS.n ?_)
     all_goals
      refine ⟨(swL L' i' (2 * i' + 1), 2 * i' + 1), ?_, ⟨(qD _ _ _).trans hm', by show 2 * i' + 1 < m; omega, hu⟩, by show n - (2 * i' + 1) < n - i'; omega⟩
      exact zD K_24 K_0
def bpB (g cap : Nat) (L : List zV) : List Blk := [.box 67 [hpH g cap L], hpA g cap L]
theorem len2_fn (g cap : Nat) (L : List zV) : FnZ Tryd.prog 31 [hpH g cap L] (bpB g cap L) [] (.p (.val (.int .i64 ((L.map zV.V).length : Nat)))) (bpB g cap L) [] :=
  (bLen_fn g cap L).widen [] (zG (by decide) rfl trivial) rfl rfl rfl rfl rfl (fun _ => rfl) rfl
theorem swap2_fn (g cap : Nat) (L : List zV) (i j : Nat) (hi : i < L.length) (hj : j < L.length) : FnZ Tryd.prog 106 [hpH g cap L, .p (.val (.int .i64 (i : Nat))), .p (.val (.int .i64 (j : Nat)))] (bpB g cap L) [] .any [.box 67 [hpH g cap L], hpA g cap (swL L i j)] [] := by
  have h1 : L[i]? = some L[i] := List.getElem?_eq_getElem hi
  have h2 : L[j]? = some L[j] := List.getElem?_eq_getElem hj
  have h3 := bSwap_fn g cap L i j _ _ h1 h2
  have e : swL L i j = (L.set i L[j]).set j L[i] := by unfold swL; rw [h1, h2]
  rw [e]
  exact h3.widen [1001] (zG (by decide) rfl ⟨rfl, trivial⟩) rfl rfl rfl rfl rfl (fun j => by
    show look (putL _ 1001 _) j = look _ j
    rw [qA]
    show _ = (if 1000 = j then _ else if 1001 = j then _ else _)
    by_cases h0 : 1000 = j
    · subst h0; rfl
    · by_cases h5 : 1001 = j
      · subst h5; rfl
      · rw [if_neg h5, if_neg h0, if_neg h5]
        show look [(1000, _), (1001, _)] j = _
        simp [look, h0, h5]
        rfl) rfl
def pushL (L : List zV) (e : zV) : List zV := upL (L ++ [e]) L.length
theorem hpush_fn (L : List zV) (e : zV) (hl : L.length ≤ 100000) : FnZ Tryd.prog 30 [.ifp 66 1000, .p (.ifc 46 e.V)] [.box 67 [.own 1001]] [hpR L] .any [.box 67 [.own 1001]] [hpR (pushL L e)] := by
 refine vO [1000, 1001] Tryd.func30 rfl Tryd.ntmps30 (Nat.le_of_ble_eq_true rfl) (Nat.le_of_ble_eq_true rfl) rfl rfl ?_
 have p1 := bPush_fn L e (by omega)
 have hlen : (L ++ [e]).length = L.length + 1 := by simp
 have n1 := fun g cap => len2_fn g cap (L ++ [e])
 have u1 : ∀ g cap, FnZ Tryd.prog 52 [.ifp 66 1000, .p (.val (.int .i64 (L.length : Nat)))] (bpB g cap (L ++ [e])) [] .any [.box 67 [hpH g cap (L ++ [e])], hpA g cap (pushL L e)] [] := fun g cap => by
  have := up_fn g cap ((L ++ [e]).map zV.V).length (L ++ [e]) L.length (by rw [List.length_map]) (by rw [List.length_map]; omega) (by rw [List.length_map]; omega)
  exact this
 have g0 : IntKind.i64.wrap ((((L ++ [e]).map zV.V).length : Nat) - 1 : Int) = ((L.length : Nat) : Int) := by rw [List.length_map, hlen]; exact (wrap_i64 _ (by omega)).trans (by omega)
 have h1 : 0 < ((L ++ [e]).map zV.V).length := by rw [List.length_map, hlen]; omega
 have h2 := ents_ok (L ++ [e])
 have h3 : ((pushL L e).map zV.V).length = ((L ++ [e]).map zV.V).length := by rw [List.length_map, List.length_map]; exact upL_len _ _
 have h4 : ((L ++ [e]).map zV.V).length = ((L ++ [e]).map zV.V).length := rfl
 repeat' ((refine zY.is ?_; first | refine zY.seq ?_ | (refine zY.isR (id := 0) ?_; refine zY.zK [0, 1] [1000, 1001] (by repeat' first | exact zX.nil | apply zX.p rfl | apply zX.ifp rfl) (by repeat' first | exact zW.nil | apply zW.some rfl) ?_; refine zZ.v rfl rfl (xI rfl rfl rfl (by decide)) ?_; refine zZ.vm rfl rfl rfl rfl (by decide) ?_; refine zZ.ofT rfl (z8.z [1000] [1001] [1001] (p1) rfl (by decide) (enters_mp rfl rfl) (by rfl) (zG (by decide) rfl (by repeat' first | exact trivial | rfl | constructor)) rfl rfl rfl (by decide) rfl rfl (by decide) rfl rfl rfl ?_); refine zZ.nil ?_) | (refine zY.isR (id := 1) ?_; refine zY.zK [0] [1000, 1001] (by repeat' first | exact zX.nil | apply zX.ifp rfl) (by repeat' first | exact zW.nil | apply zW.some rfl) ?_; refine zZ.v rfl rfl (xI rfl rfl rfl (by decide)) ?_; refine zZ.v rfl rfl (xI rfl rfl rfl (by decide)) ?_; refine zZ.ofT rfl (z8.arr 1000 1001 (n1) rfl rfl rfl (by decide) h1 h2 h4 (by decide) rfl (fun g cap => xA rfl rfl rfl rfl) (fun _ _ => rfl) (fun _ _ => rfl) (fun g cap => ?_)); refine zZ.v rfl rfl (w9 rfl rfl rfl g0 rfl (by decide)) ?_; refine zZ.ofT rfl (z8.arr 1000 1001 (u1) rfl rfl rfl (by decide) h1 h2 h3 (by decide) rfl (fun g cap => yT rfl) (fun _ _ => rfl) (fun _ _ => rfl) (fun g cap => ?_)); refine zZ.nil ?_)))
 all_goals exact ⟨(by exact .inr rfl), _, Sub.refl _, .none rfl, zG (by decide) rfl (by repeat' first | exact trivial | rfl | constructor)⟩
theorem swL_last (L : List zV) (h : 0 < L.length) : ∃ e L0, swL L 0 (L.length - 1) = L0 ++ [e] ∧ L[0]? = some e ∧ L0.length = L.length - 1 := by
  have hl := qD L 0 (L.length - 1)
  have h0 : L[0]? = some L[0] := List.getElem?_eq_getElem h
  have h1 : L[L.length - 1]? = some L[L.length - 1] := List.getElem?_eq_getElem (by omega)
  refine ⟨L[0], (swL L 0 (L.length - 1)).take (L.length - 1), ?_, h0, by rw [List.length_take]; omega⟩
  have e1 : (swL L 0 (L.length - 1))[L.length - 1]? = some L[0] := by
    unfold swL
    rw [h0, h1]
    show ((L.set 0 _).set (L.length - 1) L[0])[L.length - 1]? = some L[0]
    rw [List.getElem?_set_self (by rw [List.length_set]; omega)]
  apply List.ext_getElem?
  intro i
  rw [List.getElem?_append]
  rw [List.length_take, hl]
  split
  · rename_i hi; rw [List.getElem?_take, if_pos (by omega)]
  · rename_i hi
    by_cases hi2 : i = L.length - 1
    · subst hi2
      rw [e1]
      have : L.length - 1 - min (L.length - 1) L.length = 0 := by omega
      rw [this]; rfl
    · rw [List.getElem?_eq_none (by omega)]
      rw [List.getElem?_eq_none (by simp; omega)]
def popL (L : List zV) : List zV := (kF (swL L 0 (L.length - 1)) 0 (L.length - 1)).take (L.length - 1)
theorem swL_other (L : List zV) (i j q : Nat) (hi : q ≠ i) (hj : q ≠ j) : (swL L i j)[q]? = L[q]? := by
  unfold swL
  split
  · rw [List.getElem?_set_ne (Ne.symm hj), List.getElem?_set_ne (Ne.symm hi)]
  · rfl
theorem downL_other : ∀ (m : Nat) (L : List zV) (i n q : Nat), n - i ≤ m → n ≤ q → i < n ∨ n = 0 → (kF L i n)[q]? = L[q]? := by
  intro m
  induction m with
  | zero =>
    intro L i n q h hq hi
    rw [kF, dif_neg (by omega)]
  | succ m ih =>
    intro L i n q h hq hi
    rw [kF]
    split
    · rename_i h1
      have := downJ_le L i n h1
      split
      · rw [ih _ _ _ _ (by omega) hq (.inl this.1), swL_other _ _ _ _ (by omega) (by omega)]
      · rfl
    · rfl
theorem pop_split (L : List zV) (e : zV) (he : L[0]? = some e) : kF (swL L 0 (L.length - 1)) 0 (L.length - 1) = popL L ++ [e] := by
  have h0 : 0 < L.length := (List.getElem?_eq_some_iff.1 he).1
  obtain ⟨e', L0, h1, h2, h3⟩ := swL_last L h0
  rw [he] at h2
  obtain rfl := Option.some.inj h2
  have hl : (kF (swL L 0 (L.length - 1)) 0 (L.length - 1)).length = L.length := (downL_len _ _ _ _ (Nat.le_refl _)).trans (qD _ _ _)
  have hlast : (kF (swL L 0 (L.length - 1)) 0 (L.length - 1))[L.length - 1]? = some e := by
    rw [downL_other _ _ _ _ _ (Nat.le_refl _) (Nat.le_refl _) (by omega), h1, List.getElem?_append_right (by omega), h3]
    simp
  unfold popL
  apply List.ext_getElem?
  intro i
  rw [List.getElem?_append, List.length_take, hl]
  split
  · rename_i hi; rw [List.getElem?_take, if_pos (by omega)]
  · rename_i hi
    by_cases hi2 : i = L.length - 1
    · subst hi2
      rw [hlast]
      have : L.length - 1 - min (L.length - 1) L.length = 0 := by omega
      rw [this]; rfl
    · rw [List.getElem?_eq_none (by omega), List.getElem?_eq_none (by simp; omega)]
theorem popL_len (L : List zV) : (popL L).length = L.length - 1 := by
  unfold popL
  rw [List.length_take, downL_len _ _ _ _ (Nat.le_refl _), qD]; omega
theorem hpop_fn (L : List zV) (e : zV) (he : L[0]? = some e) (hl : L.length ≤ 100000) : FnZ Tryd.prog 32 [.ifp 66 1000] [.box 67 [.own 1001]] [hpR L] (.p (.ifc 46 e.V)) [.box 67 [.own 1001]] [hpR (popL L)] := by
 have h0 : 0 < L.length := (List.getElem?_eq_some_iff.1 he).1
 refine vO [1000, 1001] Tryd.func32 rfl Tryd.ntmps32 (Nat.le_of_ble_eq_true rfl) (Nat.le_of_ble_eq_true rfl) rfl rfl ?_
 obtain ⟨q, hq⟩ : ∃ q, q = L.length - 1 := ⟨_, rfl⟩
 have n1 := fun g cap => len2_fn g cap L
 have s1 := fun g cap => swap2_fn g cap L 0 q h0 (by omega)
 have hsl := qD L 0 q
 have d1 : ∀ g cap, FnZ Tryd.prog 53 [.ifp 66 1000, .p (.val (.int .i64 ((0 : Nat) : Int))), .p (.val (.int .i64 (q : Nat)))] (bpB g cap (swL L 0 q)) [] .any [.box 67 [hpH g cap (swL L 0 q)], hpA g cap (popL L ++ [e])] [] := fun g cap => by
  have := down_fn g cap ((swL L 0 q).map zV.V).length (swL L 0 q) 0 q (by rw [List.length_map]) (by rw [List.length_map]; omega) (by rw [List.length_map]; omega) (by rw [List.length_map]; omega)
  rw [← pop_split L e he, ← hq]
  exact this
 have p1 := bPop_fn (popL L) e (by rw [popL_len]; omega)
 have g0 : IntKind.i64.wrap (((L.map zV.V).length : Nat) - 1 : Int) = ((q : Nat) : Int) := by rw [List.length_map]; exact (wrap_i64 _ (by omega)).trans (by omega)
 have h1 : 0 < (L.map zV.V).length := by rw [List.length_map]; omega
 have h2 := ents_ok L
 have h3 : ((swL L 0 q).map zV.V).length = (L.map zV.V).length := by rw [List.length_map, List.length_map]; exact hsl
 have h4 : (L.map zV.V).length = (L.map zV.V).length := rfl
 have h5 : 0 < ((swL L 0 q).map zV.V).length := by rw [List.length_map]; omega
 have h6 := ents_ok (swL L 0 q)
 have h7 : ((popL L ++ [e]).map zV.V).length = ((swL L 0 q).map zV.V).length := by rw [List.length_map, List.length_map, List.length_append, popL_len]; simp; omega
 repeat' ((refine zY.is ?_; first | refine zY.seq ?_ | (refine zY.isR (id := 0) ?_; refine zY.zK [0] [1000, 1001] (by repeat' first | exact zX.nil | apply zX.ifp rfl) (by repeat' first | exact zW.nil | apply zW.some rfl) ?_; refine zZ.va rfl rfl rfl rfl (by decide) ?_; refine zZ.nil ?_) | (refine zY.isR (id := 1) ?_; refine zY.zK [0, 2] [1000, 1001] (by repeat' first | exact zX.nil | apply zX.p rfl | apply zX.ifp rfl) (by repeat' first | exact zW.nil | apply zW.some rfl) ?_; refine zZ.v rfl rfl (xI rfl rfl rfl (by decide)) ?_; refine zZ.ofT rfl (z8.arr 1000 1001 (n1) rfl rfl rfl (by decide) h1 h2 h4 (by decide) rfl (fun g cap => xA rfl rfl rfl rfl) (fun _ _ => rfl) (fun _ _ => rfl) (fun g cap => ?_)); refine zZ.v rfl rfl (w9 rfl rfl rfl g0 rfl (by decide)) ?_; refine zZ.va rfl rfl rfl rfl (by decide) ?_; refine zZ.nil ?_) | (refine zY.isR (id := 2) ?_; refine zY.zK [0, 2, 3] [1000, 1001] (by repeat' first | exact zX.nil | apply zX.p rfl | apply zX.ifp rfl) (by repeat' first | exact zW.nil | apply zW.some rfl) ?_; refine zZ.v rfl rfl (xI rfl rfl rfl (by decide)) ?_; refine zZ.vm rfl rfl rfl rfl (by decide) ?_; refine zZ.ofT rfl (z8.arr 1000 1001 (s1) rfl rfl rfl (by decide) h1 h2 h3 (by decide) rfl (fun g cap => xA rfl rfl rfl rfl) (fun _ _ => rfl) (fun _ _ => rfl) (fun g cap => ?_)); refine zZ.nil ?_) | (refine zY.isR (id := 3) ?_; refine zY.zK [0, 2, 3] [1000, 1001] (by repeat' first | exact zX.nil | apply zX.p rfl | apply zX.ifp rfl) (by repeat' first | exact zW.nil | apply zW.some rfl) ?_; refine zZ.v rfl rfl (xI rfl rfl rfl (by decide)) ?_; refine zZ.vm rfl rfl rfl rfl (by decide) ?_; refine zZ.ofT rfl (z8.arr 1000 1001 (d1) rfl rfl rfl (by decide) h5 h6 h7 (by decide) rfl (fun g cap => yT rfl) (fun _ _ => rfl) (fun _ _ => rfl) (fun g cap => ?_)); refine zZ.nil ?_) | (refine zY.isR (id := 4) ?_; refine zY.zK [0, 2] [1000, 1001] (by repeat' first | exact zX.nil | apply zX.p rfl | apply zX.ifp rfl) (by repeat' first | exact zW.nil | apply zW.some rfl) ?_; refine zZ.v rfl rfl (xI rfl rfl rfl (by decide)) ?_; refine zZ.ofT rfl (z8.z [1000] [1001] [1001] (p1) rfl (by decide) (enters_mp rfl rfl) (by rfl) (zG (by decide) rfl (by repeat' first | exact trivial | rfl | constructor)) rfl rfl rfl (by decide) rfl rfl (by decide) rfl rfl rfl ?_); refine zZ.va rfl rfl rfl rfl (by decide) ?_; refine zZ.nil ?_) | refine zY.ret ?_))
 all_goals exact ⟨(by exact .inl rfl), _, Sub.refl _, .one rfl rfl, zG (by decide) rfl (by repeat' first | exact trivial | rfl | constructor)⟩
end Go.Proofs.YtomlhekjgagjaaaDoor
namespace Go.Proofs.YtomlhekjgagjaaaDoor
set_option maxRecDepth 100000
set_option maxHeartbeats 16000000
open Go Go.RowKit
def wB (L : List zV) (i : Nat) : Int := match L[i]? with
  | some a => a.y
  | none => 0
theorem lessL_key {L : List zV} {i j : Nat} (hi : i < L.length) (hj : j < L.length) : lessL L i j = decide (wB L i < wB L j) := by
  unfold lessL wB
  rw [List.getElem?_eq_getElem hi, List.getElem?_eq_getElem hj]
theorem swL_eq {L : List zV} {i j : Nat} (hi : i < L.length) (hj : j < L.length) : swL L i j = (L.set i L[j]).set j L[i] := by
  unfold swL
  rw [List.getElem?_eq_getElem hi, List.getElem?_eq_getElem hj]
theorem key_swL {L : List zV} {i j : Nat} (hi : i < L.length) (hj : j < L.length) (k : Nat) : wB (swL L i j) k = if k = i then wB L j else if k = j then wB L i else wB L k := by
  rw [swL_eq hi hj]
  unfold wB
  rw [List.getElem?_eq_getElem hi, List.getElem?_eq_getElem hj]
  by_cases hj' : k = j
  · subst hj'
    rw [List.getElem?_set_self (by rw [List.length_set]; exact hj)]
    by_cases hki : k = i
    · subst hki; simp
    · rw [if_neg hki, if_pos rfl]
  · rw [List.getElem?_set_ne (Ne.symm hj')]
    by_cases hki : k = i
    · subst hki
      rw [List.getElem?_set_self hi, if_pos rfl]
    · rw [List.getElem?_set_ne (Ne.symm hki), if_neg hki, if_neg hj']
theorem swL_perm (L : List zV) (i j : Nat) (hi : i < L.length) (hj : j < L.length) : (swL L i j).Perm L := by
  rw [swL_eq hi hj]
  exact List.set_set_perm hi hj
def HeapN (L : List zV) (n : Nat) : Prop := ∀ k, 0 < k → k < n → wB L ((k - 1) / 2) ≤ wB L k
theorem upL_heap : ∀ (m : Nat) (L : List zV) (j : Nat), j ≤ m → j < L.length → (∀ k, 0 < k → k < L.length → k ≠ j → wB L ((k - 1) / 2) ≤ wB L k) → (∀ k, 0 < k → k < L.length → (k - 1) / 2 = j → 0 < j → wB L ((j - 1) / 2) ≤ wB L k) → HeapN (upL L j) L.length ∧ (upL L j).Perm L := by
  intro m
  induction m with
  | zero =>
    intro L j hj hl h1 h2
    have : j = 0 := by omega
    subst this
    rw [upL, dif_pos (by rfl)]
    exact ⟨fun k hk hn => h1 k hk hn (by omega), .refl _⟩
  | succ m ih =>
    intro L j hj hl h1 h2
    rw [upL]
    split
    · rename_i h0
      exact ⟨fun k hk hn => h1 k hk hn (by omega), .refl _⟩
    · rename_i h0
      have hp : (j - 1) / 2 < j := by omega
      have hpl : (j - 1) / 2 < L.length := by omega
      rw [lessL_key hl hpl]
      split
      · rename_i hlt
        have hlt := of_decide_eq_true hlt
        have hlen := qD L ((j - 1) / 2) j
        have key := key_swL hpl hl
        have := ih (swL L ((j - 1) / 2) j) ((j - 1) / 2) (by omega) (by rw [hlen]; exact hpl) (fun k hk hn hne => by
          rw [hlen] at hn
          rw [key, key]
          by_cases hkj : k = j
          · subst hkj
            rw [if_pos rfl, if_neg hne, if_pos rfl]
            omega
          · rw [if_neg hne, if_neg hkj]
            by_cases hk1 : (k - 1) / 2 = (j - 1) / 2
            · rw [if_pos hk1]
              have := h1 k hk hn hkj
              rw [hk1] at this
              omega
            · rw [if_neg hk1]
              by_cases hk2 : (k - 1) / 2 = j
              · rw [if_pos hk2]
                exact h2 k hk hn hk2 (by omega)
              · rw [if_neg hk2]
                exact h1 k hk hn hkj) (fun k hk hn hpk h0j => by
          rw [hlen] at hn
          rw [key, key, if_neg (by omega), if_neg (by omega)]
          have hpp := h1 ((j - 1) / 2) h0j hpl (by omega)
          rw [if_neg (by omega)]
          split
          · exact hpp
          · rename_i hkj
            have := h1 k hk hn hkj
            rw [hpk] at this
            omega)
        rw [hlen] at this
        exact ⟨this.1, this.2.trans (swL_perm L _ _ hpl hl)⟩
      · rename_i hlt
        have hlt : ¬ wB L j < wB L ((j - 1) / 2) := fun h => hlt (decide_eq_true h)
        refine ⟨fun k hk hn => ?_, .refl _⟩
        by_cases hkj : k = j
        · subst hkj; omega
        · exact h1 k hk hn hkj
theorem downL_heap : ∀ (m : Nat) (L : List zV) (i n : Nat), n - i ≤ m → n ≤ L.length → (∀ k, 0 < k → k < n → (k - 1) / 2 ≠ i → wB L ((k - 1) / 2) ≤ wB L k) → (∀ k, 0 < k → k < n → (k - 1) / 2 = i → 0 < i → wB L ((i - 1) / 2) ≤ wB L k) → HeapN (kF L i n) n ∧ (kF L i n).Perm L := by
  intro m
  induction m with
  | zero =>
    intro L i n hm hn h1 h2
    rw [kF, dif_neg (by omega)]
    exact ⟨fun k hk hkn => h1 k hk hkn (by omega), .refl _⟩
  | succ m ih =>
    intro L i n hm hn h1 h2
    rw [kF]
    split
    · rename_i hc
      have hJ := downJ_le L i n hc
      have hi : i < L.length := by omega
      have hJl : kE L i n < L.length := by omega
      have hJ2 : kE L i n = 2 * i + 1 ∨ kE L i n = 2 * i + 2 := by unfold kE; split <;> simp
      have hmin : ∀ k, 0 < k → k < n → (k - 1) / 2 = i → wB L (kE L i n) ≤ wB L k := fun k hk hkn hp => by
        unfold kE
        split
        · rename_i h
          have h' := h.2
          rw [lessL_key (by omega) (by omega)] at h'
          have h' := of_decide_eq_true h'
          rcases (show k = 2 * i + 1 ∨ k = 2 * i + 2 by omega) with rfl | rfl
          · omega
          · omega
        · rename_i h
          rcases (show k = 2 * i + 1 ∨ k = 2 * i + 2 by omega) with rfl | rfl
          · omega
          · have h' : ¬ lessL L (2 * i + 2) (2 * i + 1) = true := fun e => h ⟨hkn, e⟩
            rw [lessL_key (by omega) (by omega)] at h'
            have h' : ¬ wB L (2 * i + 2) < wB L (2 * i + 1) := fun e => h' (decide_eq_true e)
            omega
      generalize kE L i n = J at *
      have hpJ : (J - 1) / 2 = i := by omega
      rw [lessL_key hJl hi]
      split
      · rename_i hlt
        have hlt := of_decide_eq_true hlt
        have hlen := qD L i J
        have key := key_swL hi hJl
        have := ih (swL L i J) J n (by omega) (by rw [hlen]; exact hn) (fun k hk hkn hne => by
          rw [key, key]
          rw [if_neg hne]
          by_cases hki : (k - 1) / 2 = i
          · rw [if_pos hki, if_neg (by omega)]
            split
            · omega
            · exact hmin k hk hkn hki
          · rw [if_neg hki]
            by_cases hk : k = i
            · subst hk
              rw [if_pos rfl]
              exact h2 J (by omega) hJ.1 hpJ (by omega)
            · rw [if_neg hk, if_neg (by intro e; subst e; exact hki hpJ)]
              exact h1 k (by omega) hkn hki) (fun k hk hkn hpk h0J => by
          rw [key, key, hpJ, if_pos rfl, if_neg (by omega), if_neg (by omega)]
          have := h1 k hk hkn (by omega)
          rw [hpk] at this
          exact this)
        exact ⟨this.1, this.2.trans (swL_perm L _ _ hi hJl)⟩
      · rename_i hlt
        have hlt : ¬ wB L J < wB L i := fun h => hlt (decide_eq_true h)
        refine ⟨fun k hk hkn => ?_, .refl _⟩
        by_cases hki : (k - 1) / 2 = i
        · have := hmin k hk hkn hki
          rw [hki]; omega
        · exact h1 k hk hkn hki
    · rename_i hc
      exact ⟨fun k hk hkn => h1 k hk hkn (by omega), .refl _⟩
def Heap (L : List zV) : Prop := HeapN L L.length
theorem keyAt_append {L : List zV} {k : Nat} (R : List zV) (h : k < L.length) : wB (L ++ R) k = wB L k := by unfold wB; rw [List.getElem?_append_left h]
theorem push_heap {L : List zV} (e : zV) (h : Heap L) : Heap (pushL L e) ∧ (pushL L e).Perm (e :: L) := by
  have hl : (L ++ [e]).length = L.length + 1 := by simp
  have := upL_heap L.length (L ++ [e]) L.length (Nat.le_refl _) (by omega) (fun k hk hn hne => by
    rw [keyAt_append _ (by omega), keyAt_append _ (by omega)]
    exact h k hk (by omega)) (fun k hk hn hp h0 => by omega)
  unfold Heap pushL
  rw [upL_len]
  exact ⟨this.1, this.2.trans List.perm_append_comm⟩
theorem pop_heap {L : List zV} {e : zV} (he : L[0]? = some e) (h : Heap L) : Heap (popL L) ∧ L.Perm (e :: popL L) := by
  have h0 : 0 < L.length := (List.getElem?_eq_some_iff.1 he).1
  have hlen := qD L 0 (L.length - 1)
  have key := key_swL (i := 0) (j := L.length - 1) h0 (by omega)
  have hd := downL_heap (L.length - 1) (swL L 0 (L.length - 1)) 0 (L.length - 1) (by omega) (by omega) (fun k hk hn hp => by
    rw [key, key, if_neg hp, if_neg (by omega), if_neg (by omega), if_neg (by omega)]
    exact h k hk (by omega)) (fun k hk hn hp h0 => by omega)
  have hs := pop_split L e he
  rw [hs] at hd
  refine ⟨?_, ?_⟩
  · unfold Heap
    rw [popL_len]
    intro k hk hn
    have := hd.1 k hk hn
    have hl := popL_len L
    rw [keyAt_append _ (by omega), keyAt_append _ (by omega)] at this
    exact this
  · exact (swL_perm L _ _ h0 (by omega)).symm.trans (hd.2.symm.trans List.perm_append_comm)
theorem heap_min {L : List zV} (h : Heap L) : ∀ (m k : Nat), k ≤ m → k < L.length → wB L 0 ≤ wB L k := by
  intro m
  induction m with
  | zero =>
    intro k hk hl
    have : k = 0 := by omega
    subst this
    omega
  | succ m ih =>
    intro k hk hl
    by_cases h0 : k = 0
    · subst h0; omega
    · have h1 := h k (by omega) hl
      have h2 := ih ((k - 1) / 2) (by omega) (by omega)
      omega
theorem heap_least {L : List zV} {e x : zV} (he : L[0]? = some e) (h : Heap L) (hx : x ∈ L) : e.y ≤ x.y := by
  obtain ⟨k, hk, hkx⟩ := List.mem_iff_getElem.1 hx
  have := heap_min h k k (Nat.le_refl _) hk
  unfold wB at this
  rw [he, List.getElem?_eq_getElem hk, hkx] at this
  exact this
theorem Heap.nil : Heap [] := fun k _ h => by simp at h
end Go.Proofs.YtomlhekjgagjaaaDoor
namespace Go.Proofs.YtomlhekjgagjaaaDoor
set_option maxRecDepth 100000
set_option maxHeartbeats 16000000
open Go Go.RowKit
attribute [local irreducible] zZ zY Step zA Sub zL z8 Fn
def isKey (u : Int) : Bool := decide (0 ≤ u ∧ u < 1073741824)
def vkey (u : Int) : Int := if isKey u then u * 2147483648 else 0
theorem isKey_no {u : Int} (h : u < 0 ∨ 1073741824 ≤ u) : isKey u = false := by unfold isKey; simp; omega
theorem kvertex_fn (u : Int) : Fn Tryd.prog 79 [.val (.int .i64 u)] (.p (.val (.bool (isKey u)))) := by
 refine qI Tryd.func79 rfl Tryd.ntmps79 (Nat.le_of_ble_eq_true rfl) ?_
 by_cases h0 : 0 ≤ u
 ·have c1 : decide (u ≥ 0) = true := decide_eq_true h0
  repeat' ((refine zY.is ?_; first | refine zY.seq ?_ | (refine zY.isR (id := 0) ?_; refine zY.zK [0] [] (by repeat' first | exact zX.nil | apply zX.p rfl) (by repeat' exact zW.nil) ?_; refine zZ.va rfl rfl rfl rfl (by decide) ?_; refine zZ.nil ?_) | (refine zY.isR (id := 1) ?_; refine zY.zK [0, 2] [] (by repeat' first | exact zX.nil | apply zX.p rfl) (by repeat' exact zW.nil) ?_; all_goals (refine zZ.vm rfl rfl rfl rfl (by decide) ?_); all_goals (refine zZ.v rfl rfl (qM rfl rfl rfl c1 rfl (by decide)) ?_); all_goals (refine zZ.vm rfl rfl rfl rfl (by decide) ?_); all_goals (refine zZ.gY rfl rfl (by decide) rfl (by rfl) rfl (by decide) (zQ rfl rfl rfl (by decide)) ?_); all_goals (refine zZ.gY rfl rfl (by decide) rfl (by rfl) rfl (by decide) (yZ rfl rfl rfl (by rfl) rfl (by decide)) ?_); all_goals (refine zZ.v rfl rfl (zR rfl rfl (by rfl) rfl rfl (by decide)) ?_); all_goals (refine zZ.va rfl rfl rfl rfl (by decide) ?_); all_goals (refine zZ.nil ?_)) | refine zY.ret ?_))
  all_goals refine ⟨.inl rfl, gives1 rfl rfl (eqB ?_)⟩
  all_goals unfold isKey; simp [h0]
 ·have c1 : decide (u ≥ 0) = false := decide_eq_false h0
  repeat' ((refine zY.is ?_; first | refine zY.seq ?_ | (refine zY.isR (id := 0) ?_; refine zY.zK [0] [] (by repeat' first | exact zX.nil | apply zX.p rfl) (by repeat' exact zW.nil) ?_; refine zZ.va rfl rfl rfl rfl (by decide) ?_; refine zZ.nil ?_) | (refine zY.isR (id := 1) ?_; refine zY.zK [0, 2] [] (by repeat' first | exact zX.nil | apply zX.p rfl) (by repeat' exact zW.nil) ?_; all_goals (refine zZ.vm rfl rfl rfl rfl (by decide) ?_); all_goals (refine zZ.v rfl rfl (qM rfl rfl rfl c1 rfl (by decide)) ?_); all_goals (refine zZ.vm rfl rfl rfl rfl (by decide) ?_); all_goals (refine zZ.gnT rfl rfl (by decide) rfl (by rfl) rfl (by decide) ?_); all_goals (refine zZ.gnT rfl rfl (by decide) rfl (by rfl) rfl (by decide) ?_); all_goals (refine zZ.v rfl rfl (zM rfl rfl (by rfl) rfl rfl (by decide)) ?_); all_goals (refine zZ.va rfl rfl rfl rfl (by decide) ?_); all_goals (refine zZ.nil ?_)) | refine zY.ret ?_))
  all_goals exact ⟨.inl rfl, gives1 rfl rfl (eqB (isKey_no (by omega)).symm)⟩
theorem kVertex_fn (u : Int) : Fn Tryd.prog 69 [.val (.int .i64 u)] (.tup [.val (.int .u64 (vkey u)), .val (.int .i64 (if isKey u then 0 else 4))]) := by
 refine qI Tryd.func69 rfl Tryd.ntmps69 (Nat.le_of_ble_eq_true rfl) ?_
 have c := kvertex_fn u
 unfold vkey
 cases hk : isKey u
 ·rw [hk] at c
  repeat' (first | (refine zY.is ?_; first | refine zY.seq ?_ | (refine zY.isR (id := 0) ?_; refine zY.zK [0] [] (by repeat' first | exact zX.nil | apply zX.p rfl) (by repeat' exact zW.nil) ?_; refine zZ.va rfl rfl rfl rfl (by decide) ?_; refine zZ.va rfl rfl rfl rfl (by decide) ?_; refine zZ.nil ?_) | (refine zY.isR (id := 1) ?_; refine zY.zK [0, 2, 3] [] (by repeat' first | exact zX.nil | apply zX.p rfl) (by repeat' exact zW.nil) ?_; refine zZ.vm rfl rfl rfl rfl (by decide) ?_; refine zZ.v rfl rfl (by exact yE (c) rfl rfl rfl (by decide)) ?_; refine zZ.v rfl rfl (by exact xR rfl rfl (by exact bT (by decide)) rfl (by decide)) ?_; refine zZ.nil ?_) | (refine zY.isR (id := 2) ?_; refine zY.zK [0, 2, 3] [] (by repeat' first | exact zX.nil | apply zX.p rfl) (by repeat' exact zW.nil) ?_; refine zZ.va rfl rfl rfl rfl (by decide) ?_; refine zZ.va rfl rfl rfl rfl (by decide) ?_; refine zZ.nil ?_) | refine zY.yC rfl (by rfl) ?_ | refine zY.ret ?_) | refine zH.r ?_)
  all_goals exact ⟨.inl rfl, givesT (ts := [2, 3]) rfl (by decide) rfl⟩
 ·rw [hk] at c
  have hk2 : 0 ≤ u ∧ u < 1073741824 := by unfold isKey at hk; simpa using hk
  have g1 : IntKind.u64.wrap u = u := wrap_u64 _ (by omega)
  have g2 : IntKind.u64.wrap (u * 2 ^ (31 : Int).toNat) = u * 2147483648 := by
   have : (2 : Int) ^ (31 : Int).toNat = 2147483648 := rfl
   rw [this]; exact wrap_u64 _ (by omega)
  repeat' ((refine zY.is ?_; first | refine zY.seq ?_ | (refine zY.isR (id := 0) ?_; refine zY.zK [0] [] (by repeat' first | exact zX.nil | apply zX.p rfl) (by repeat' exact zW.nil) ?_; refine zZ.va rfl rfl rfl rfl (by decide) ?_; refine zZ.va rfl rfl rfl rfl (by decide) ?_; refine zZ.nil ?_) | (refine zY.isR (id := 1) ?_; refine zY.zK [0, 2, 3] [] (by repeat' first | exact zX.nil | apply zX.p rfl) (by repeat' exact zW.nil) ?_; refine zZ.vm rfl rfl rfl rfl (by decide) ?_; refine zZ.v rfl rfl (by exact yE (c) rfl rfl rfl (by decide)) ?_; refine zZ.v rfl rfl (by exact xR rfl rfl (by exact bF (by decide)) rfl (by decide)) ?_; refine zZ.nil ?_) | (refine zY.isR (id := 3) ?_; refine zY.zK [0, 2, 3] [] (by repeat' first | exact zX.nil | apply zX.p rfl) (by repeat' exact zW.nil) ?_; refine zZ.vm rfl rfl rfl rfl (by decide) ?_; refine zZ.v rfl rfl (xZ rfl rfl g1 rfl (by decide)) ?_; refine zZ.v rfl rfl (a_shl rfl rfl rfl (by decide) (by decide) g2 rfl (by decide)) ?_; refine zZ.va rfl rfl rfl rfl (by decide) ?_; refine zZ.va rfl rfl rfl rfl (by decide) ?_; refine zZ.nil ?_) | refine zY.yF rfl (by rfl) ?_ | refine zY.skip ?_ | refine zY.ret ?_))
  all_goals exact ⟨.inl rfl, givesT (ts := [2, 3]) rfl (by decide) rfl⟩
end Go.Proofs.YtomlhekjgagjaaaDoor
namespace Go.Proofs.YtomlhekjgagjaaaDoor
set_option maxRecDepth 100000
set_option maxHeartbeats 16000000
open Go Go.RowKit
attribute [local irreducible] zZ zY Step zA Sub zL z8 Fn
def GD.vert (g : GD) (j u : Int) : Bool := match bget g.born j with
  | some e => decide ((dget g.dead j).getD 0 = 0) && decide (e.y = vkey u)
  | none => false
def GD.live (g : GD) (e : zV) : Bool :=
  !decide ((dget g.dead e.s).getD 0 > 0) && (decide (e.y % 2147483648 - 1 < 0) || (g.vert e.u (e.y / 2147483648) && g.vert e.v (e.y % 2147483648 - 1)))
def gBq (b : Bool) (Q : Nat → Obj → Prop) (L2 : ML) : List Blk := [.box 65 [.own 1001, .own 1002, .p (.val (.bool b))], .obj true Q, mapB L2]
theorem dead_look (dead : List (Int × Int)) (j : Int) : mget (vZ dead) j = some (.val (.int .i64 ((dget dead j).getD 0))) ∨ (mget (vZ dead) j = none ∧ (dget dead j).getD 0 = 0) := by
  rw [mget_dead]
  cases dget dead j with
  | none => exact .inr ⟨rfl, rfl⟩
  | some n => exact .inl rfl
theorem vert_none_fn (b : Bool) (Q : Nat → Obj → Prop) (L1 L2 : ML) (hQ : ∀ g o, Q g o → IsMap L1 g o) (j u : Int) (m1 : mget L1 j = none) : FnZ Tryd.prog 51 [.ptr 1000 0, .p (.val (.int .u64 j)), .p (.val (.int .i64 u))] (gBq b Q L2) [] (.p (.val (.bool false))) (gBq b Q L2) [] := by
  refine vO [1000, 1001, 1002] Tryd.func51 rfl Tryd.ntmps51 (Nat.le_of_ble_eq_true rfl) (Nat.le_of_ble_eq_true rfl) rfl rfl ?_
  have c := kVertex_fn u
  repeat' ((refine zY.is ?_; first | refine zY.seq ?_ | (refine zY.iq 0 ?_; refine zY.rqi _ K_1l K_i ?_; refine zZ.va rfl rfl rfl rfl (by decide) ?_; refine zZ.nil ?_) | (refine zY.iq 1 ?_; refine zY.rqi _ K_1s K_i ?_; refine zZ.v rfl rfl (zO rfl rfl rfl (by decide)) ?_; refine zZ.v rfl rfl (yD rfl rfl rfl (by decide)) ?_; refine zZ.v rfl rfl (zJ rfl rfl rfl (by decide)) ?_; refine zZ.v rfl rfl (y8 rfl rfl rfl rfl rfl (by decide)) ?_; refine zZ.vm rfl rfl rfl rfl (by decide) ?_; refine zZ.v rfl rfl (w_lookOkN rfl rfl rfl hQ rfl m1 rfl rfl rfl (by decide)) ?_; refine zZ.v rfl rfl (yG rfl rfl rfl (by decide)) ?_; refine zZ.v rfl rfl (zC rfl rfl rfl rfl (by decide)) ?_; refine zZ.v rfl rfl (zC rfl rfl rfl rfl (by decide)) ?_; refine zZ.m rfl rfl (xW rfl (by decide) rfl (by decide)) ?_; refine zZ.w rfl (by exact yB rfl rfl rfl rfl rfl (by rfl) (by exact Nat.le_of_ble_eq_true rfl) rfl rfl) ?_; refine zZ.va rfl rfl rfl rfl (by decide) ?_; refine zZ.nil ?_) | (refine zY.iq 2 ?_; refine zY.rqj _ K_25 K_i ?_; refine zZ.vm rfl rfl rfl rfl (by decide) ?_; refine zZ.v rfl rfl (by exact y9 (c) rfl rfl rfl (by decide)) ?_; refine zZ.v rfl rfl (yG rfl rfl rfl (by decide)) ?_; refine zZ.v rfl rfl (zC rfl rfl rfl rfl (by decide)) ?_; refine zZ.v rfl rfl (zC rfl rfl rfl rfl (by decide)) ?_; refine zZ.va rfl rfl rfl rfl (by decide) ?_; refine zZ.va rfl rfl rfl rfl (by decide) ?_; refine zZ.nil ?_) | (refine zY.iq 3 ?_; refine zY.rqj _ K_26 K_i ?_; all_goals (refine zZ.vm rfl rfl rfl rfl (by decide) ?_); all_goals (refine zZ.vm rfl rfl rfl rfl (by decide) ?_); all_goals (refine zZ.gnT rfl rfl (by decide) rfl (by rfl) rfl (by decide) ?_); all_goals (refine zZ.gnT rfl rfl (by decide) rfl (by rfl) rfl (by decide) ?_); all_goals (refine zZ.gnT rfl rfl (by decide) rfl (by rfl) rfl (by decide) ?_); all_goals (refine zZ.gnT rfl rfl (by decide) rfl (by rfl) rfl (by decide) ?_); all_goals (refine zZ.gnT rfl rfl (by decide) rfl (by rfl) rfl (by decide) ?_); all_goals (refine zZ.gnT rfl rfl (by decide) rfl (by rfl) rfl (by decide) ?_); all_goals (refine zZ.gnT rfl rfl (by decide) rfl (by rfl) rfl (by decide) ?_); all_goals (refine zZ.v rfl rfl (zM rfl rfl (by rfl) rfl rfl (by decide)) ?_); all_goals (refine zZ.vm rfl rfl rfl rfl (by decide) ?_); all_goals (refine zZ.gnT rfl rfl (by decide) rfl (by rfl) rfl (by decide) ?_); all_goals (refine zZ.gnT rfl rfl (by decide) rfl (by rfl) rfl (by decide) ?_); all_goals (refine zZ.gnT rfl rfl (by decide) rfl (by rfl) rfl (by decide) ?_); all_goals (refine zZ.gnT rfl rfl (by decide) rfl (by rfl) rfl (by decide) ?_); all_goals (refine zZ.v rfl rfl (zM rfl rfl (by rfl) rfl rfl (by decide)) ?_); all_goals (refine zZ.va rfl rfl rfl rfl (by decide) ?_); all_goals (refine zZ.nil ?_)) | refine zY.ret ?_))
  all_goals exact ⟨(by exact .inl rfl), _, Sub.refl _, .one rfl rfl, zG (by decide) rfl (by repeat' first | exact trivial | rfl | constructor)⟩
theorem vert_some_fn (b : Bool) (Q : Nat → Obj → Prop) (L1 L2 : ML) (hQ : ∀ g o, Q g o → IsMap L1 g o) (j u k' s' y' u' v' x' n : Int) (m1 : mget L1 j = some (entV k' s' y' u' v' x')) (hn : mget L2 j = some (.val (.int .i64 n)) ∨ (mget L2 j = none ∧ n = 0)) : FnZ Tryd.prog 51 [.ptr 1000 0, .p (.val (.int .u64 j)), .p (.val (.int .i64 u))] (gBq b Q L2) [] (.p (.val (.bool (decide (n = 0) && decide (y' = vkey u))))) (gBq b Q L2) [] := by
  refine vO [1000, 1001, 1002] Tryd.func51 rfl Tryd.ntmps51 (Nat.le_of_ble_eq_true rfl) (Nat.le_of_ble_eq_true rfl) rfl rfl ?_
  have c := kVertex_fn u
  generalize vkey u = w at c
  rcases hn with m2 | ⟨m2, rfl⟩
  · cases hc : decide (n = 0)
    ·
      repeat' ((refine zY.is ?_; first | refine zY.seq ?_ | (refine zY.iq 0 ?_; refine zY.rqi _ K_1l K_i ?_; refine zZ.va rfl rfl rfl rfl (by decide) ?_; refine zZ.nil ?_) | (refine zY.iq 1 ?_; refine zY.rqi _ K_1s K_i ?_; refine zZ.v rfl rfl (zO rfl rfl rfl (by decide)) ?_; refine zZ.v rfl rfl (yD rfl rfl rfl (by decide)) ?_; refine zZ.v rfl rfl (zJ rfl rfl rfl (by decide)) ?_; refine zZ.v rfl rfl (y8 rfl rfl rfl rfl rfl (by decide)) ?_; refine zZ.vm rfl rfl rfl rfl (by decide) ?_; refine zZ.v rfl rfl (w_lookOkY rfl rfl rfl hQ rfl m1 rfl rfl rfl (by decide)) ?_; refine zZ.v rfl rfl (yG rfl rfl rfl (by decide)) ?_; refine zZ.v rfl rfl (zC rfl rfl rfl rfl (by decide)) ?_; refine zZ.v rfl rfl (zC rfl rfl rfl rfl (by decide)) ?_; refine zZ.m rfl rfl (xW rfl (by decide) rfl (by decide)) ?_; refine zZ.w rfl (by exact yB rfl rfl rfl rfl rfl (by rfl) (by exact Nat.le_of_ble_eq_true rfl) rfl rfl) ?_; refine zZ.va rfl rfl rfl rfl (by decide) ?_; refine zZ.nil ?_) | (refine zY.iq 2 ?_; refine zY.rqj _ K_25 K_i ?_; refine zZ.vm rfl rfl rfl rfl (by decide) ?_; refine zZ.v rfl rfl (by exact y9 (c) rfl rfl rfl (by decide)) ?_; refine zZ.v rfl rfl (yG rfl rfl rfl (by decide)) ?_; refine zZ.v rfl rfl (zC rfl rfl rfl rfl (by decide)) ?_; refine zZ.v rfl rfl (zC rfl rfl rfl rfl (by decide)) ?_; refine zZ.va rfl rfl rfl rfl (by decide) ?_; refine zZ.va rfl rfl rfl rfl (by decide) ?_; refine zZ.nil ?_) | (refine zY.iq 3 ?_; refine zY.rqj _ K_26 K_i ?_; all_goals (refine zZ.vm rfl rfl rfl rfl (by decide) ?_); all_goals (refine zZ.vm rfl rfl rfl rfl (by decide) ?_); all_goals (refine zZ.gY rfl rfl (by decide) rfl (by rfl) rfl (by decide) (zO rfl rfl rfl (by decide)) ?_); all_goals (refine zZ.gY rfl rfl (by decide) rfl (by rfl) rfl (by decide) (yD rfl rfl rfl (by decide)) ?_); all_goals (refine zZ.gY rfl rfl (by decide) rfl (by rfl) rfl (by decide) (zJ rfl rfl rfl (by decide)) ?_); all_goals (refine zZ.gY rfl rfl (by decide) rfl (by rfl) rfl (by decide) (y8 rfl rfl rfl rfl rfl (by decide)) ?_); all_goals (refine zZ.gY rfl rfl (by decide) rfl (by rfl) rfl (by decide) (zQ rfl rfl rfl (by decide)) ?_); all_goals (refine zZ.gY rfl rfl (by decide) rfl (by rfl) rfl (by decide) (by exact w_lookY rfl rfl rfl (by exact fun _ _ h => h) rfl m2 rfl rfl rfl (by decide)) ?_); all_goals (refine zZ.gY rfl rfl (by decide) rfl (by rfl) rfl (by decide) (yM rfl rfl rfl hc rfl (by decide)) ?_); all_goals (refine zZ.v rfl rfl (zR rfl rfl (by rfl) rfl rfl (by decide)) ?_); all_goals (refine zZ.vm rfl rfl rfl rfl (by decide) ?_); all_goals (refine zZ.gnT rfl rfl (by decide) rfl (by rfl) rfl (by decide) ?_); all_goals (refine zZ.gnT rfl rfl (by decide) rfl (by rfl) rfl (by decide) ?_); all_goals (refine zZ.gnT rfl rfl (by decide) rfl (by rfl) rfl (by decide) ?_); all_goals (refine zZ.gnT rfl rfl (by decide) rfl (by rfl) rfl (by decide) ?_); all_goals (refine zZ.v rfl rfl (zM rfl rfl (by rfl) rfl rfl (by decide)) ?_); all_goals (refine zZ.va rfl rfl rfl rfl (by decide) ?_); all_goals (refine zZ.nil ?_)) | refine zY.ret ?_))
      all_goals exact ⟨(by exact .inl rfl), _, Sub.refl _, .one rfl rfl, zG (by decide) rfl (by repeat' first | exact trivial | rfl | constructor)⟩
    ·
      repeat' ((refine zY.is ?_; first | refine zY.seq ?_ | (refine zY.iq 0 ?_; refine zY.rqi _ K_1l K_i ?_; refine zZ.va rfl rfl rfl rfl (by decide) ?_; refine zZ.nil ?_) | (refine zY.iq 1 ?_; refine zY.rqi _ K_1s K_i ?_; refine zZ.v rfl rfl (zO rfl rfl rfl (by decide)) ?_; refine zZ.v rfl rfl (yD rfl rfl rfl (by decide)) ?_; refine zZ.v rfl rfl (zJ rfl rfl rfl (by decide)) ?_; refine zZ.v rfl rfl (y8 rfl rfl rfl rfl rfl (by decide)) ?_; refine zZ.vm rfl rfl rfl rfl (by decide) ?_; refine zZ.v rfl rfl (w_lookOkY rfl rfl rfl hQ rfl m1 rfl rfl rfl (by decide)) ?_; refine zZ.v rfl rfl (yG rfl rfl rfl (by decide)) ?_; refine zZ.v rfl rfl (zC rfl rfl rfl rfl (by decide)) ?_; refine zZ.v rfl rfl (zC rfl rfl rfl rfl (by decide)) ?_; refine zZ.m rfl rfl (xW rfl (by decide) rfl (by decide)) ?_; refine zZ.w rfl (by exact yB rfl rfl rfl rfl rfl (by rfl) (by exact Nat.le_of_ble_eq_true rfl) rfl rfl) ?_; refine zZ.va rfl rfl rfl rfl (by decide) ?_; refine zZ.nil ?_) | (refine zY.iq 2 ?_; refine zY.rqj _ K_25 K_i ?_; refine zZ.vm rfl rfl rfl rfl (by decide) ?_; refine zZ.v rfl rfl (by exact y9 (c) rfl rfl rfl (by decide)) ?_; refine zZ.v rfl rfl (yG rfl rfl rfl (by decide)) ?_; refine zZ.v rfl rfl (zC rfl rfl rfl rfl (by decide)) ?_; refine zZ.v rfl rfl (zC rfl rfl rfl rfl (by decide)) ?_; refine zZ.va rfl rfl rfl rfl (by decide) ?_; refine zZ.va rfl rfl rfl rfl (by decide) ?_; refine zZ.nil ?_) | (refine zY.iq 3 ?_; refine zY.rqj _ K_26 K_i ?_; all_goals (refine zZ.vm rfl rfl rfl rfl (by decide) ?_); all_goals (refine zZ.vm rfl rfl rfl rfl (by decide) ?_); all_goals (refine zZ.gY rfl rfl (by decide) rfl (by rfl) rfl (by decide) (zO rfl rfl rfl (by decide)) ?_); all_goals (refine zZ.gY rfl rfl (by decide) rfl (by rfl) rfl (by decide) (yD rfl rfl rfl (by decide)) ?_); all_goals (refine zZ.gY rfl rfl (by decide) rfl (by rfl) rfl (by decide) (zJ rfl rfl rfl (by decide)) ?_); all_goals (refine zZ.gY rfl rfl (by decide) rfl (by rfl) rfl (by decide) (y8 rfl rfl rfl rfl rfl (by decide)) ?_); all_goals (refine zZ.gY rfl rfl (by decide) rfl (by rfl) rfl (by decide) (zQ rfl rfl rfl (by decide)) ?_); all_goals (refine zZ.gY rfl rfl (by decide) rfl (by rfl) rfl (by decide) (by exact w_lookY rfl rfl rfl (by exact fun _ _ h => h) rfl m2 rfl rfl rfl (by decide)) ?_); all_goals (refine zZ.gY rfl rfl (by decide) rfl (by rfl) rfl (by decide) (yM rfl rfl rfl hc rfl (by decide)) ?_); all_goals (refine zZ.v rfl rfl (zR rfl rfl (by rfl) rfl rfl (by decide)) ?_); all_goals (refine zZ.vm rfl rfl rfl rfl (by decide) ?_); all_goals (refine zZ.gY rfl rfl (by decide) rfl (by rfl) rfl (by decide) (zJ rfl rfl rfl (by decide)) ?_); all_goals (refine zZ.gY rfl rfl (by decide) rfl (by rfl) rfl (by decide) (zB rfl rfl rfl (by rfl) rfl (by decide)) ?_); all_goals (refine zZ.gY rfl rfl (by decide) rfl (by rfl) rfl (by decide) (zQ rfl rfl rfl (by decide)) ?_); all_goals (refine zZ.gY rfl rfl (by decide) rfl (by rfl) rfl (by decide) (yM rfl rfl rfl (by rfl) rfl (by decide)) ?_); all_goals (refine zZ.v rfl rfl (zR rfl rfl (by rfl) rfl rfl (by decide)) ?_); all_goals (refine zZ.va rfl rfl rfl rfl (by decide) ?_); all_goals (refine zZ.nil ?_)) | refine zY.ret ?_))
      all_goals exact ⟨(by exact .inl rfl), _, Sub.refl _, .one rfl rfl, zG (by decide) rfl (by repeat' first | exact trivial | rfl | constructor)⟩
  ·
    repeat' ((refine zY.is ?_; first | refine zY.seq ?_ | (refine zY.iq 0 ?_; refine zY.rqi _ K_1l K_i ?_; refine zZ.va rfl rfl rfl rfl (by decide) ?_; refine zZ.nil ?_) | (refine zY.iq 1 ?_; refine zY.rqi _ K_1s K_i ?_; refine zZ.v rfl rfl (zO rfl rfl rfl (by decide)) ?_; refine zZ.v rfl rfl (yD rfl rfl rfl (by decide)) ?_; refine zZ.v rfl rfl (zJ rfl rfl rfl (by decide)) ?_; refine zZ.v rfl rfl (y8 rfl rfl rfl rfl rfl (by decide)) ?_; refine zZ.vm rfl rfl rfl rfl (by decide) ?_; refine zZ.v rfl rfl (w_lookOkY rfl rfl rfl hQ rfl m1 rfl rfl rfl (by decide)) ?_; refine zZ.v rfl rfl (yG rfl rfl rfl (by decide)) ?_; refine zZ.v rfl rfl (zC rfl rfl rfl rfl (by decide)) ?_; refine zZ.v rfl rfl (zC rfl rfl rfl rfl (by decide)) ?_; refine zZ.m rfl rfl (xW rfl (by decide) rfl (by decide)) ?_; refine zZ.w rfl (by exact yB rfl rfl rfl rfl rfl (by rfl) (by exact Nat.le_of_ble_eq_true rfl) rfl rfl) ?_; refine zZ.va rfl rfl rfl rfl (by decide) ?_; refine zZ.nil ?_) | (refine zY.iq 2 ?_; refine zY.rqj _ K_25 K_i ?_; refine zZ.vm rfl rfl rfl rfl (by decide) ?_; refine zZ.v rfl rfl (by exact y9 (c) rfl rfl rfl (by decide)) ?_; refine zZ.v rfl rfl (yG rfl rfl rfl (by decide)) ?_; refine zZ.v rfl rfl (zC rfl rfl rfl rfl (by decide)) ?_; refine zZ.v rfl rfl (zC rfl rfl rfl rfl (by decide)) ?_; refine zZ.va rfl rfl rfl rfl (by decide) ?_; refine zZ.va rfl rfl rfl rfl (by decide) ?_; refine zZ.nil ?_) | (refine zY.iq 3 ?_; refine zY.rqj _ K_26 K_i ?_; all_goals (refine zZ.vm rfl rfl rfl rfl (by decide) ?_); all_goals (refine zZ.vm rfl rfl rfl rfl (by decide) ?_); all_goals (refine zZ.gY rfl rfl (by decide) rfl (by rfl) rfl (by decide) (zO rfl rfl rfl (by decide)) ?_); all_goals (refine zZ.gY rfl rfl (by decide) rfl (by rfl) rfl (by decide) (yD rfl rfl rfl (by decide)) ?_); all_goals (refine zZ.gY rfl rfl (by decide) rfl (by rfl) rfl (by decide) (zJ rfl rfl rfl (by decide)) ?_); all_goals (refine zZ.gY rfl rfl (by decide) rfl (by rfl) rfl (by decide) (y8 rfl rfl rfl rfl rfl (by decide)) ?_); all_goals (refine zZ.gY rfl rfl (by decide) rfl (by rfl) rfl (by decide) (zQ rfl rfl rfl (by decide)) ?_); all_goals (refine zZ.gY rfl rfl (by decide) rfl (by rfl) rfl (by decide) (by exact w_lookN rfl rfl rfl (by exact fun _ _ h => h) rfl m2 rfl rfl rfl (by decide)) ?_); all_goals (refine zZ.gY rfl rfl (by decide) rfl (by rfl) rfl (by decide) (by exact yM rfl rfl rfl (by exact bT (by decide)) rfl (by decide)) ?_); all_goals (refine zZ.v rfl rfl (zR rfl rfl (by rfl) rfl rfl (by decide)) ?_); all_goals (refine zZ.vm rfl rfl rfl rfl (by decide) ?_); all_goals (refine zZ.gY rfl rfl (by decide) rfl (by rfl) rfl (by decide) (zJ rfl rfl rfl (by decide)) ?_); all_goals (refine zZ.gY rfl rfl (by decide) rfl (by rfl) rfl (by decide) (zB rfl rfl rfl (by rfl) rfl (by decide)) ?_); all_goals (refine zZ.gY rfl rfl (by decide) rfl (by rfl) rfl (by decide) (zQ rfl rfl rfl (by decide)) ?_); all_goals (refine zZ.gY rfl rfl (by decide) rfl (by rfl) rfl (by decide) (yM rfl rfl rfl (by rfl) rfl (by decide)) ?_); all_goals (refine zZ.v rfl rfl (zR rfl rfl (by rfl) rfl rfl (by decide)) ?_); all_goals (refine zZ.va rfl rfl rfl rfl (by decide) ?_); all_goals (refine zZ.nil ?_)) | refine zY.ret ?_))
    all_goals exact ⟨(by exact .inl rfl), _, Sub.refl _, .one rfl rfl, zG (by decide) rfl (by repeat' first | exact trivial | rfl | constructor)⟩
theorem vert_fn (g : GD) (Q : Nat → Obj → Prop) (hQ : ∀ n o, Q n o → IsMap (vC g.born) n o) (j u : Int) : FnZ Tryd.prog 51 [.ptr 1000 0, .p (.val (.int .u64 j)), .p (.val (.int .i64 u))] (gBq g.bad Q (vZ g.dead)) [] (.p (.val (.bool (g.vert j u)))) (gBq g.bad Q (vZ g.dead)) [] := by
  unfold GD.vert
  rcases hb : bget g.born j with _ | ⟨k', s', y', u', v', x'⟩
  · exact vert_none_fn g.bad Q (vC g.born) (vZ g.dead) hQ j u (by rw [mget_born, hb]; rfl)
  · exact vert_some_fn g.bad Q (vC g.born) (vZ g.dead) hQ j u k' s' y' u' v' x' _ (by rw [mget_born, hb]; rfl) (dead_look g.dead j)
theorem live_fn (g : GD) (Q : Nat → Obj → Prop) (hQ : ∀ n o, Q n o → IsMap (vC g.born) n o) (e : zV) (ho : e.ok) : FnZ Tryd.prog 29 [.ptr 1000 0, .p e.V] (gBq g.bad Q (vZ g.dead)) [] (.p (.val (.bool (g.live e)))) (gBq g.bad Q (vZ g.dead)) [] := by
  refine vO [1000, 1001, 1002] Tryd.func29 rfl Tryd.ntmps29 (Nat.le_of_ble_eq_true rfl) (Nat.le_of_ble_eq_true rfl) rfl rfl ?_
  obtain ⟨k, s, y, u, v, x⟩ := e
  have c := split_fn y ho.y.1 ho.y.2
  have hn := dead_look g.dead s
  unfold GD.live
  have z1 := vert_fn g Q hQ u (y / 2147483648)
  have z2 := vert_fn g Q hQ v (y % 2147483648 - 1)
  simp only []
  generalize g.vert u (y / 2147483648) = b1 at z1 ⊢
  generalize g.vert v (y % 2147483648 - 1) = b2 at z2 ⊢
  generalize (dget g.dead s).getD 0 = n at hn ⊢
  generalize y / 2147483648 = p at *
  generalize y % 2147483648 - 1 = q at *
  rcases hn with m2 | ⟨m2, rfl⟩
  · cases h3 : decide (n > 0) <;> cases h2 : decide (q < 0) <;> cases b1 <;> cases b2
    all_goals
      repeat' (first | (refine zY.is ?_; first | refine zY.seq ?_ | (refine zY.iq 0 ?_; refine zY.rqi _ K_h K_15 ?_; refine zZ.m rfl rfl (vQ rfl rfl rfl (by decide)) ?_; refine zZ.va rfl rfl rfl rfl (by decide) ?_; refine zZ.nil ?_) | (refine zY.iq 1 ?_; refine zY.rqj _ K_x K_15 ?_; refine zZ.v rfl rfl (zJ rfl rfl rfl (by decide)) ?_; refine zZ.v rfl rfl (zB rfl rfl rfl (by rfl) rfl (by decide)) ?_; refine zZ.v rfl rfl (by exact y9 (c) rfl rfl rfl (by decide)) ?_; refine zZ.v rfl rfl (yG rfl rfl rfl (by decide)) ?_; refine zZ.v rfl rfl (zC rfl rfl rfl rfl (by decide)) ?_; refine zZ.v rfl rfl (zC rfl rfl rfl rfl (by decide)) ?_; refine zZ.va rfl rfl rfl rfl (by decide) ?_; refine zZ.va rfl rfl rfl rfl (by decide) ?_; refine zZ.nil ?_) | (refine zY.iq 2 ?_; refine zY.rqs _ K_1a K_15 (zY.draws ?_); all_goals (refine Draws.v rfl rfl (zO rfl rfl rfl (by decide)) ?_); all_goals (refine Draws.v rfl rfl (yD rfl rfl rfl (by decide)) ?_); all_goals (refine Draws.v rfl rfl (zJ rfl rfl rfl (by decide)) ?_); all_goals (refine Draws.v rfl rfl (y8 rfl rfl rfl rfl rfl (by decide)) ?_); all_goals (refine Draws.v rfl rfl (zJ rfl rfl rfl (by decide)) ?_); all_goals (refine Draws.v rfl rfl (zB rfl rfl rfl (by rfl) rfl (by decide)) ?_); all_goals (refine Draws.v rfl rfl (by exact w_lookY rfl rfl rfl (by exact fun _ _ h => h) rfl m2 rfl rfl rfl (by decide)) ?_); all_goals (refine Draws.v rfl rfl (qL rfl rfl rfl h3 rfl (by decide)) ?_); all_goals ((refine Draws.done (by kernel_rfl) (by kernel_rfl) (by kernel_rfl) ?_; refine zL.nil ?_))) | (refine zY.iq 3 ?_; refine zY.rqj _ K_1a K_15 ?_; refine zZ.va rfl rfl rfl rfl (by decide) ?_; refine zZ.nil ?_) | (refine zY.iq 4 ?_; refine zY.rqj _ K_1a K_15 ?_; all_goals (refine zZ.vm rfl rfl rfl rfl (by decide) ?_); all_goals (refine zZ.v rfl rfl (yZ rfl rfl rfl h2 rfl (by decide)) ?_); all_goals (refine zZ.vm rfl rfl rfl rfl (by decide) ?_); all_goals (first | refine zZ.gY rfl rfl (by decide) rfl (by rfl) rfl (by decide) (zO rfl rfl rfl (by decide)) ?_ | refine zZ.gnF rfl rfl (by decide) rfl (by rfl) rfl (by decide) ?_); all_goals (first | refine zZ.gY rfl rfl (by decide) rfl (by rfl) rfl (by decide) (zJ rfl rfl rfl (by decide)) ?_ | refine zZ.gnF rfl rfl (by decide) rfl (by rfl) rfl (by decide) ?_); all_goals (first | refine zZ.gY rfl rfl (by decide) rfl (by rfl) rfl (by decide) (zB rfl rfl rfl (by rfl) rfl (by decide)) ?_ | refine zZ.gnF rfl rfl (by decide) rfl (by rfl) rfl (by decide) ?_); all_goals (first | refine zZ.gY rfl rfl (by decide) rfl (by rfl) rfl (by decide) (zQ rfl rfl rfl (by decide)) ?_ | refine zZ.gnF rfl rfl (by decide) rfl (by rfl) rfl (by decide) ?_); all_goals (first | refine zZ.gnF rfl rfl (by decide) rfl (by rfl) rfl (by decide) ?_ | refine zZ.ofTg rfl rfl (by decide) rfl (by rfl) (z8.z [1000, 1001, 1002] [] [] (z1) rfl (by decide) (yT rfl) (by rfl) (zG (by decide) rfl (by repeat' first | exact trivial | rfl | constructor)) rfl rfl rfl (by decide) rfl rfl (by decide) rfl rfl rfl ?_)); all_goals (first | refine zZ.gY rfl rfl (by decide) rfl (by rfl) rfl (by decide) (zQ rfl rfl rfl (by decide)) ?_ | refine zZ.gnF rfl rfl (by decide) rfl (by rfl) rfl (by decide) ?_); all_goals (first | refine zZ.gU rfl rfl (by decide) (by rfl) rfl (by decide) ?_ | refine zZ.gY rfl rfl (by decide) rfl (by rfl) rfl (by decide) (zO rfl rfl rfl (by decide)) ?_ | refine zZ.gnT rfl rfl (by decide) rfl (by rfl) rfl (by decide) ?_); all_goals (first | refine zZ.gU rfl rfl (by decide) (by rfl) rfl (by decide) ?_ | refine zZ.gY rfl rfl (by decide) rfl (by rfl) rfl (by decide) (zJ rfl rfl rfl (by decide)) ?_ | refine zZ.gnT rfl rfl (by decide) rfl (by rfl) rfl (by decide) ?_); all_goals (first | refine zZ.gU rfl rfl (by decide) (by rfl) rfl (by decide) ?_ | refine zZ.gY rfl rfl (by decide) rfl (by rfl) rfl (by decide) (zB rfl rfl rfl (by rfl) rfl (by decide)) ?_ | refine zZ.gnT rfl rfl (by decide) rfl (by rfl) rfl (by decide) ?_); all_goals (first | refine zZ.gU rfl rfl (by decide) (by rfl) rfl (by decide) ?_ | refine zZ.gY rfl rfl (by decide) rfl (by rfl) rfl (by decide) (zQ rfl rfl rfl (by decide)) ?_ | refine zZ.gnT rfl rfl (by decide) rfl (by rfl) rfl (by decide) ?_); all_goals (first | refine zZ.gU rfl rfl (by decide) (by rfl) rfl (by decide) ?_ | refine zZ.gnT rfl rfl (by decide) rfl (by rfl) rfl (by decide) ?_ | refine zZ.ofTg rfl rfl (by decide) rfl (by rfl) (z8.z [1000, 1001, 1002] [] [] (z2) rfl (by decide) (yT rfl) (by rfl) (zG (by decide) rfl (by repeat' first | exact trivial | rfl | constructor)) rfl rfl rfl (by decide) rfl rfl (by decide) rfl rfl rfl ?_)); all_goals (first | refine zZ.gY rfl rfl (by decide) rfl (by rfl) rfl (by decide) (by first | exact zR rfl rfl (by rfl) rfl rfl (by decide) | exact zM rfl rfl (by rfl) rfl rfl (by decide)) ?_ | refine zZ.gnF rfl rfl (by decide) rfl (by rfl) rfl (by decide) ?_); all_goals (refine zZ.v rfl rfl (by first | exact zR rfl rfl (by rfl) rfl rfl (by decide) | exact zM rfl rfl (by rfl) rfl rfl (by decide)) ?_); all_goals (refine zZ.va rfl rfl rfl rfl (by decide) ?_); all_goals (refine zZ.nil ?_)) | refine zY.yC rfl (by first | assumption | with_reducible rfl) ?_ | refine zY.yF rfl (by first | assumption | with_reducible rfl) ?_ | refine zY.skip ?_ | refine zY.ret ?_) | refine zH.r ?_)
    all_goals exact ⟨(by exact .inl rfl), _, Sub.refl _, .one rfl rfl, zG (by decide) rfl (by repeat' first | exact trivial | rfl | constructor)⟩
  · cases h2 : decide (q < 0) <;> cases b1 <;> cases b2
    all_goals
      repeat' ((refine zY.is ?_; first | refine zY.seq ?_ | (refine zY.iq 0 ?_; refine zY.rqi _ K_h K_15 ?_; refine zZ.m rfl rfl (vQ rfl rfl rfl (by decide)) ?_; refine zZ.va rfl rfl rfl rfl (by decide) ?_; refine zZ.nil ?_) | (refine zY.iq 1 ?_; refine zY.rqj _ K_x K_15 ?_; refine zZ.v rfl rfl (zJ rfl rfl rfl (by decide)) ?_; refine zZ.v rfl rfl (zB rfl rfl rfl (by rfl) rfl (by decide)) ?_; refine zZ.v rfl rfl (by exact y9 (c) rfl rfl rfl (by decide)) ?_; refine zZ.v rfl rfl (yG rfl rfl rfl (by decide)) ?_; refine zZ.v rfl rfl (zC rfl rfl rfl rfl (by decide)) ?_; refine zZ.v rfl rfl (zC rfl rfl rfl rfl (by decide)) ?_; refine zZ.va rfl rfl rfl rfl (by decide) ?_; refine zZ.va rfl rfl rfl rfl (by decide) ?_; refine zZ.nil ?_) | (refine zY.iq 2 ?_; refine zY.rqs _ K_1a K_15 (zY.draws ?_); all_goals (refine Draws.v rfl rfl (zO rfl rfl rfl (by decide)) ?_); all_goals (refine Draws.v rfl rfl (yD rfl rfl rfl (by decide)) ?_); all_goals (refine Draws.v rfl rfl (zJ rfl rfl rfl (by decide)) ?_); all_goals (refine Draws.v rfl rfl (y8 rfl rfl rfl rfl rfl (by decide)) ?_); all_goals (refine Draws.v rfl rfl (zJ rfl rfl rfl (by decide)) ?_); all_goals (refine Draws.v rfl rfl (zB rfl rfl rfl (by rfl) rfl (by decide)) ?_); all_goals (refine Draws.v rfl rfl (by exact w_lookN rfl rfl rfl (by exact fun _ _ h => h) rfl m2 rfl rfl rfl (by decide)) ?_); all_goals (refine Draws.v rfl rfl (by exact qL rfl rfl rfl (by exact bF (by decide)) rfl (by decide)) ?_); all_goals ((refine Draws.done (by kernel_rfl) (by kernel_rfl) (by kernel_rfl) ?_; refine zL.nil ?_))) | (refine zY.iq 4 ?_; refine zY.rqj _ K_1a K_15 ?_; all_goals (refine zZ.vm rfl rfl rfl rfl (by decide) ?_); all_goals (refine zZ.v rfl rfl (yZ rfl rfl rfl h2 rfl (by decide)) ?_); all_goals (refine zZ.vm rfl rfl rfl rfl (by decide) ?_); all_goals (first | refine zZ.gY rfl rfl (by decide) rfl (by rfl) rfl (by decide) (zO rfl rfl rfl (by decide)) ?_ | refine zZ.gnF rfl rfl (by decide) rfl (by rfl) rfl (by decide) ?_); all_goals (first | refine zZ.gY rfl rfl (by decide) rfl (by rfl) rfl (by decide) (zJ rfl rfl rfl (by decide)) ?_ | refine zZ.gnF rfl rfl (by decide) rfl (by rfl) rfl (by decide) ?_); all_goals (first | refine zZ.gY rfl rfl (by decide) rfl (by rfl) rfl (by decide) (zB rfl rfl rfl (by rfl) rfl (by decide)) ?_ | refine zZ.gnF rfl rfl (by decide) rfl (by rfl) rfl (by decide) ?_); all_goals (first | refine zZ.gY rfl rfl (by decide) rfl (by rfl) rfl (by decide) (zQ rfl rfl rfl (by decide)) ?_ | refine zZ.gnF rfl rfl (by decide) rfl (by rfl) rfl (by decide) ?_); all_goals (first | refine zZ.gnF rfl rfl (by decide) rfl (by rfl) rfl (by decide) ?_ | refine zZ.ofTg rfl rfl (by decide) rfl (by rfl) (z8.z [1000, 1001, 1002] [] [] (z1) rfl (by decide) (yT rfl) (by rfl) (zG (by decide) rfl (by repeat' first | exact trivial | rfl | constructor)) rfl rfl rfl (by decide) rfl rfl (by decide) rfl rfl rfl ?_)); all_goals (first | refine zZ.gY rfl rfl (by decide) rfl (by rfl) rfl (by decide) (zQ rfl rfl rfl (by decide)) ?_ | refine zZ.gnF rfl rfl (by decide) rfl (by rfl) rfl (by decide) ?_); all_goals (first | refine zZ.gU rfl rfl (by decide) (by rfl) rfl (by decide) ?_ | refine zZ.gY rfl rfl (by decide) rfl (by rfl) rfl (by decide) (zO rfl rfl rfl (by decide)) ?_ | refine zZ.gnT rfl rfl (by decide) rfl (by rfl) rfl (by decide) ?_); all_goals (first | refine zZ.gU rfl rfl (by decide) (by rfl) rfl (by decide) ?_ | refine zZ.gY rfl rfl (by decide) rfl (by rfl) rfl (by decide) (zJ rfl rfl rfl (by decide)) ?_ | refine zZ.gnT rfl rfl (by decide) rfl (by rfl) rfl (by decide) ?_); all_goals (first | refine zZ.gU rfl rfl (by decide) (by rfl) rfl (by decide) ?_ | refine zZ.gY rfl rfl (by decide) rfl (by rfl) rfl (by decide) (zB rfl rfl rfl (by rfl) rfl (by decide)) ?_ | refine zZ.gnT rfl rfl (by decide) rfl (by rfl) rfl (by decide) ?_); all_goals (first | refine zZ.gU rfl rfl (by decide) (by rfl) rfl (by decide) ?_ | refine zZ.gY rfl rfl (by decide) rfl (by rfl) rfl (by decide) (zQ rfl rfl rfl (by decide)) ?_ | refine zZ.gnT rfl rfl (by decide) rfl (by rfl) rfl (by decide) ?_); all_goals (first | refine zZ.gU rfl rfl (by decide) (by rfl) rfl (by decide) ?_ | refine zZ.gnT rfl rfl (by decide) rfl (by rfl) rfl (by decide) ?_ | refine zZ.ofTg rfl rfl (by decide) rfl (by rfl) (z8.z [1000, 1001, 1002] [] [] (z2) rfl (by decide) (yT rfl) (by rfl) (zG (by decide) rfl (by repeat' first | exact trivial | rfl | constructor)) rfl rfl rfl (by decide) rfl rfl (by decide) rfl rfl rfl ?_)); all_goals (first | refine zZ.gY rfl rfl (by decide) rfl (by rfl) rfl (by decide) (by first | exact zR rfl rfl (by rfl) rfl rfl (by decide) | exact zM rfl rfl (by rfl) rfl rfl (by decide)) ?_ | refine zZ.gnF rfl rfl (by decide) rfl (by rfl) rfl (by decide) ?_); all_goals (refine zZ.v rfl rfl (by first | exact zR rfl rfl (by rfl) rfl rfl (by decide) | exact zM rfl rfl (by rfl) rfl rfl (by decide)) ?_); all_goals (refine zZ.va rfl rfl rfl rfl (by decide) ?_); all_goals (refine zZ.nil ?_)) | refine zY.yF rfl (by first | assumption | with_reducible rfl) ?_ | refine zY.skip ?_ | refine zY.ret ?_))
    all_goals exact ⟨(by exact .inl rfl), _, Sub.refl _, .one rfl rfl, zG (by decide) rfl (by repeat' first | exact trivial | rfl | constructor)⟩
end Go.Proofs.YtomlhekjgagjaaaDoor
namespace Go.Proofs.YtomlhekjgagjaaaDoor
set_option maxRecDepth 100000
set_option maxHeartbeats 16000000
open Go Go.RowKit
def insY (e : zV) : List zV → List zV
  | [] => [e]
  | x :: r => if x.y < e.y then x :: insY e r else e :: x :: r
def isort (L : List zV) : List zV := L.foldr insY []
theorem insY_perm (e : zV) : ∀ L : List zV, (insY e L).Perm (e :: L)
  | [] => .refl _
  | x :: r => by
    unfold insY
    split
    · exact ((insY_perm e r).cons x).trans (.swap e x r)
    · exact .refl _
theorem qJ : ∀ L : List zV, (isort L).Perm L
  | [] => .refl _
  | x :: r => (insY_perm x (isort r)).trans ((qJ r).cons x)
theorem insY_sorted (e : zV) : ∀ L : List zV, L.Pairwise (fun a b => a.y ≤ b.y) → (insY e L).Pairwise fun a b => a.y ≤ b.y
  | [], _ => by simp [insY]
  | x :: r, h => by
    unfold insY
    have h1 := List.pairwise_cons.1 h
    split
    · rename_i hlt
      refine List.pairwise_cons.2 ⟨fun b hb => ?_, insY_sorted e r h1.2⟩
      rcases List.mem_cons.1 ((insY_perm e r).mem_iff.1 hb) with rfl | hb
      · omega
      · exact h1.1 b hb
    · rename_i hlt
      refine List.pairwise_cons.2 ⟨fun b hb => ?_, h⟩
      rcases List.mem_cons.1 hb with rfl | hb
      · omega
      · have := h1.1 b hb; omega
theorem isort_sorted : ∀ L : List zV, (isort L).Pairwise fun a b => a.y ≤ b.y
  | [] => .nil
  | x :: r => insY_sorted x _ (isort_sorted r)
def SortY (L : List zV) : Prop := L.Pairwise fun a b => a.y < b.y
theorem SortY.nodup {L : List zV} (h : SortY L) : (L.map (·.y)).Nodup := List.pairwise_map.2 (h.imp fun h => by omega)
theorem sort_uniq {A F : List zV} (h : SortY A) (hp : A.Perm F) : isort F = A := by
  have hn : ((isort F).map (·.y)).Nodup := ((hp.trans (qJ F).symm).map (·.y)).nodup h.nodup
  have hs : SortY (isort F) := by
    have h1 := List.pairwise_map.1 hn
    have h2 := isort_sorted F
    exact (h1.and h2).imp fun h => by have := h.1; have := h.2; omega
  exact (List.Perm.eq_of_pairwise (le := fun a b : zV => a.y < b.y) (fun a b _ _ h1 h2 => by omega) h hs (hp.trans (qJ F).symm)).symm
def kG (F : List zV) (c : Int) : List zV × Int := if 0 ≤ c ∧ (F.length : Int) ≤ c ∧ (F.map (·.y)).Nodup then (isort F, 0) else ([], 8)
def GD.lives (g : GD) : List zV := g.born.filter g.live
def wV (ss : List (List Int)) (c : Int) : List zV × Int := if (xB ss).bad = true then ([], 8) else kG (xB ss).lives c
structure Pop (F : List zV) (c : Int) (H out : List zV) : Prop where
  heap : Heap H
  perm : (out ++ H).Perm F
  sort : SortY out
  le : ∀ a ∈ out, ∀ b ∈ H, a.y ≤ b.y
  few : 0 ≤ c → (out.length : Int) ≤ c
theorem Pop.len {F : List zV} {c : Int} {H out : List zV} (h : Pop F c H out) : out.length + H.length = F.length := by
  have := h.perm.length_eq
  rw [List.length_append] at this
  exact this
theorem Pop.full {F : List zV} {c : Int} {H out : List zV} (h : Pop F c H out) (hH : H ≠ []) (hc : (out.length : Int) = c) : kG F c = ([], 8) := by
  have h1 := h.len
  have h2 : 0 < H.length := List.length_pos_iff.2 hH
  unfold kG
  rw [if_neg (fun e => by have := e.2.1; omega)]
theorem Pop.twice {F : List zV} {c : Int} {H out : List zV} {e l : zV} (h : Pop F c H out) (he : H[0]? = some e) (hl : l ∈ out) (hy : l.y = e.y) : kG F c = ([], 8) := by
  unfold kG
  rw [if_neg (fun hc => ?_)]
  have h1 := (h.perm.map (·.y)).symm.nodup hc.2.2
  rw [List.map_append] at h1
  have := (List.pairwise_append.1 h1).2.2 l.y (List.mem_map.2 ⟨l, hl, rfl⟩) e.y (List.mem_map.2 ⟨e, List.mem_of_getElem? he, rfl⟩)
  exact this hy
theorem Pop.step {F : List zV} {c : Int} {H out : List zV} {e : zV} (h : Pop F c H out) (he : H[0]? = some e) (hc : (out.length : Int) ≠ c) (hy : ∀ l, out[out.length - 1]? = some l → l.y ≠ e.y) : Pop F c (popL H) (out ++ [e]) := by
  have hp := pop_heap he h.heap
  refine ⟨hp.1, ?_, ?_, ?_, fun h0 => ?_⟩
  · rw [List.append_assoc]
    exact (hp.2.symm.append_left out).trans h.perm
  · refine List.pairwise_append.2 ⟨h.sort, by simp, fun a ha b hb => ?_⟩
    rw [List.mem_singleton] at hb
    subst hb
    have h1 := h.le a ha b (List.mem_of_getElem? he)
    have hne : out ≠ [] := List.ne_nil_of_mem ha
    have hl : 0 < out.length := List.length_pos_iff.2 hne
    obtain ⟨i, hi, hia⟩ := List.mem_iff_getElem.1 ha
    have hlast : out[out.length - 1]? = some out[out.length - 1] := List.getElem?_eq_getElem (by omega)
    have h2 := hy _ hlast
    have h3 := h.le _ (List.mem_of_getElem? hlast) b (List.mem_of_getElem? he)
    by_cases hie : i = out.length - 1
    · subst hie; rw [hia] at h2 h3; omega
    · have := List.pairwise_iff_getElem.1 h.sort i (out.length - 1) hi (by omega) (by omega)
      rw [hia] at this
      omega
  · intro a ha b hb
    have hb' : b ∈ H := hp.2.mem_iff.2 (List.mem_cons_of_mem _ hb)
    rcases List.mem_append.1 ha with ha | ha
    · exact h.le a ha b hb'
    · rw [List.mem_singleton] at ha
      subst ha
      exact heap_least he h.heap hb'
  · have := h.few h0
    rw [List.length_append]
    simp only [List.length_cons, List.length_nil]
    omega
theorem Pop.done {F : List zV} {c : Int} {out : List zV} (h : Pop F c [] out) : kG F c = if 0 ≤ c then (out, 0) else ([], 8) := by
  have hp : out.Perm F := by have := h.perm; rw [List.append_nil] at this; exact this
  unfold kG
  by_cases h0 : 0 ≤ c
  · rw [if_pos ⟨h0, by rw [← hp.length_eq]; exact h.few h0, (hp.map (·.y)).nodup h.sort.nodup⟩, if_pos h0, sort_uniq h.sort hp]
  · rw [if_neg (fun e => h0 e.1), if_neg h0]
theorem map_ents : ∀ (l : List MapEntry) (B : List zV), l.map (fun e => (e.key, e.val)) = (vC B).map (fun p => (Value.int .u64 p.1, p.2.vv)) → (l.map (·.born)).Nodup → ∃ f : Nat → zV, l.map (fun e => f e.born) = B ∧ ∀ e ∈ l, e.key = .int .u64 (f e.born).s ∧ e.val = (f e.born).V.vv
  | [], [], _, _ => ⟨fun _ => ⟨0, 0, 0, 0, 0, 0⟩, rfl, fun e he => by cases he⟩
  | [], d :: B, h, _ => by simp [vC] at h
  | x :: l, [], h, _ => by simp [vC] at h
  | x :: l, d :: B, h, hn => by
    simp only [vC, List.map_cons, List.cons.injEq, Prod.mk.injEq] at h
    have hn' := List.nodup_cons.1 hn
    obtain ⟨f, h1, h2⟩ := map_ents l B h.2 hn'.2
    have hne : ∀ e ∈ l, e.born ≠ x.born := fun e he e2 => hn'.1 (List.mem_map.2 ⟨e, he, e2⟩)
    refine ⟨fun n => if n = x.born then d else f n, ?_, fun e he => ?_⟩
    · rw [List.map_cons]
      simp only [if_true]
      rw [← h1]
      congr 1
      refine List.map_congr_left fun e he => ?_
      rw [if_neg (hne e he)]
    · rcases List.mem_cons.1 he with rfl | he
      · simp only [if_true]; exact h.1
      · simp only [if_neg (hne e he)]; exact h2 e he
structure Along (g : GD) (l : List Nat) (f : Nat → zV) (sn : List Nat) (H : List zV) : Prop where
  heap : Heap H
  nodup : sn.Nodup
  sub : ∀ n ∈ sn, n ∈ l
  perm : H.Perm ((sn.map f).filter g.live)
theorem Along.start (g : GD) (l : List Nat) (f : Nat → zV) : Along g l f [] [] := ⟨.nil, .nil, (fun n h => by cases h), .refl _⟩
theorem Along.skip {g : GD} {l : List Nat} {f : Nat → zV} {sn : List Nat} {H : List zV} {n : Nat} (h : Along g l f sn H) (hn : n ∈ l) (hs : n ∉ sn) (hl : g.live (f n) = false) : Along g l f (sn ++ [n]) H := by
  refine ⟨h.heap, List.nodup_append.2 ⟨h.nodup, by simp, fun a ha b hb => by rw [List.mem_singleton] at hb; subst hb; exact fun e => hs (e ▸ ha)⟩, fun m hm => ?_, ?_⟩
  · rcases List.mem_append.1 hm with hm | hm
    · exact h.sub m hm
    · rw [List.mem_singleton] at hm; exact hm ▸ hn
  · rw [List.map_append, List.filter_append, List.map_cons, List.map_nil, List.filter_cons, hl]
    simpa using h.perm
theorem Along.push {g : GD} {l : List Nat} {f : Nat → zV} {sn : List Nat} {H : List zV} {n : Nat} (h : Along g l f sn H) (hn : n ∈ l) (hs : n ∉ sn) (hl : g.live (f n) = true) : Along g l f (sn ++ [n]) (pushL H (f n)) := by
  have hp := push_heap (f n) h.heap
  refine ⟨hp.1, List.nodup_append.2 ⟨h.nodup, by simp, fun a ha b hb => by rw [List.mem_singleton] at hb; subst hb; exact fun e => hs (e ▸ ha)⟩, fun m hm => ?_, ?_⟩
  · rcases List.mem_append.1 hm with hm | hm
    · exact h.sub m hm
    · rw [List.mem_singleton] at hm; exact hm ▸ hn
  · rw [List.map_append, List.filter_append, List.map_cons, List.map_nil, List.filter_cons, hl]
    rw [if_pos rfl, List.filter_nil]
    exact hp.2.trans ((h.perm.cons _).trans (List.perm_append_comm (l₁ := [f n])))
theorem Along.len {g : GD} {l : List Nat} {f : Nat → zV} {sn : List Nat} {H : List zV} (h : Along g l f sn H) : H.length ≤ sn.length := by
  rw [h.perm.length_eq]
  exact Nat.le_trans (List.length_filter_le _ _) (by rw [List.length_map]; exact Nat.le_refl _)
theorem nodup_le : ∀ (sn l : List Nat), sn.Nodup → (∀ n ∈ sn, n ∈ l) → sn.length ≤ l.length
  | [], _, _, _ => Nat.zero_le _
  | a :: r, l, h, hs => by
    have h1 := List.nodup_cons.1 h
    have ha := hs a (by simp)
    have := nodup_le r (l.erase a) h1.2 fun n hn => (List.mem_erase_of_ne (fun e => h1.1 (by rw [← e]; exact hn))).2 (hs n (by simp [hn]))
    rw [List.length_erase_of_mem ha] at this
    have := List.length_pos_of_mem ha
    simp only [List.length_cons]
    omega
theorem Along.few {g : GD} {l : List Nat} {f : Nat → zV} {sn : List Nat} {H : List zV} (h : Along g l f sn H) (hl : l.Nodup) : sn.length ≤ l.length := by
  exact nodup_le sn l h.nodup h.sub
theorem Along.done {g : GD} {l : List Nat} {f : Nat → zV} {sn : List Nat} {H : List zV} (h : Along g l f sn H) (hl : l.Nodup) (hall : ∀ n ∈ l, n ∈ sn) (hf : l.map f = g.born) (c : Int) : Pop g.lives c H [] := by
  have h1 : sn.Perm l := (List.perm_ext_iff_of_nodup h.nodup hl).2 fun a => ⟨h.sub a, hall a⟩
  refine ⟨h.heap, ?_, .nil, (fun a ha => by cases ha), fun h0 => by simpa using h0⟩
  rw [List.nil_append]
  unfold GD.lives
  rw [← hf]
  exact h.perm.trans ((h1.map f).filter _)
end Go.Proofs.YtomlhekjgagjaaaDoor
namespace Go.Proofs.YtomlhekjgagjaaaDoor
set_option maxRecDepth 100000
set_option maxHeartbeats 16000000
open Go Go.RowKit
variable {P : Program} {n : Nat} {o : Oper} {S : AS} {d : Nat} {t : TypeId} {x : Operand}
theorem flat_field {sz : Nat} {es : List PV} (hes : ∀ e ∈ es, e.cells.length = sz) {i k : Nat} {v c : PV} (hv : es[i]? = some v) (hk : v.cells[k]? = some c) : (flat es)[i * sz + k]? = some c := by
  have h := flat_at hes hv
  have hl := hes v (List.mem_of_getElem? hv)
  have hk2 : k < sz := by rw [← hl]; exact (List.getElem?_eq_some_iff.1 hk).1
  rw [← h, List.getElem?_take, if_pos hk2, List.getElem?_drop] at hk
  exact hk
theorem w_loadVF {id off e sz m : Nat} {es : List PV} {c : PV} [h : TyA P t false m] (ho : o.op = .load t x) (hx : S.get x = .ptr id off) (hb : S.blk id = some (x9 e sz es)) (hc : (flat es)[off]? = some c) (hd : o.dst = some d) (hn : d < n) : zA P n o S [id] (.p c) none := by
  refine a_loadR1 (b := x9 e sz es) ho hx hb ?_ h.ag hd hn
  show ((flat es).map AV.p)[off]? = _
  rw [List.getElem?_map, hc]
  rfl
end Go.Proofs.YtomlhekjgagjaaaDoor
