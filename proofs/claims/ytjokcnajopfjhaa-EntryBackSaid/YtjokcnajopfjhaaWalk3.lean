/- More rules: comparisons whose answer is known; slices of slices; slice literals without elements; a byte laid into an own row. Generic over the program. -/
import Derived.Test.YtjokcnajopfjhaaWalk2
namespace Go.Proofs.Ytjokcnajopfjhaa
open Go Go.RowKit

theorem bT {b : Bool} (h : b = true) : b = true := h
theorem bF {b : Bool} (h : b = false) : b = false := h

section
variable {P : Program} {n : Nat} {o : Oper} {S : AS} {d : Nat} {x y : Operand} {xt yt : TypeId} {k : IntKind} {a b : Int} {r : Bool}

theorem AStep.valr {bs : List Nat} {u v : Value} (h : AStep P n o S bs (.p (.val u)) none) (e : u = v) : AStep P n o S bs (.p (.val v)) none := e ▸ h

theorem r_eql (ho : o.op = .binOp .eql xt x y yt) (hx : S.get x = .p (.val (.int k a))) (hy : S.get y = .p (.val (.int k b))) (hr : decide (a = b) = r) (hd : o.dst = some d) (hn : d < n) : AStep P n o S [] (.p (.val (.bool r))) none := hr ▸ a_eql ho hx hy hd hn
theorem r_neq (ho : o.op = .binOp .neq xt x y yt) (hx : S.get x = .p (.val (.int k a))) (hy : S.get y = .p (.val (.int k b))) (hr : (!decide (a = b)) = r) (hd : o.dst = some d) (hn : d < n) : AStep P n o S [] (.p (.val (.bool r))) none := hr ▸ a_neq ho hx hy hd hn
theorem r_lss (ho : o.op = .binOp .lss xt x y yt) (hx : S.get x = .p (.val (.int k a))) (hy : S.get y = .p (.val (.int k b))) (hr : decide (a < b) = r) (hd : o.dst = some d) (hn : d < n) : AStep P n o S [] (.p (.val (.bool r))) none := hr ▸ a_lss ho hx hy hd hn
theorem r_leq (ho : o.op = .binOp .leq xt x y yt) (hx : S.get x = .p (.val (.int k a))) (hy : S.get y = .p (.val (.int k b))) (hr : decide (a ≤ b) = r) (hd : o.dst = some d) (hn : d < n) : AStep P n o S [] (.p (.val (.bool r))) none := hr ▸ a_leq ho hx hy hd hn
theorem r_gtr (ho : o.op = .binOp .gtr xt x y yt) (hx : S.get x = .p (.val (.int k a))) (hy : S.get y = .p (.val (.int k b))) (hr : decide (b < a) = r) (hd : o.dst = some d) (hn : d < n) : AStep P n o S [] (.p (.val (.bool r))) none := hr ▸ a_gtr ho hx hy hd hn
theorem r_geq (ho : o.op = .binOp .geq xt x y yt) (hx : S.get x = .p (.val (.int k a))) (hy : S.get y = .p (.val (.int k b))) (hr : decide (b ≤ a) = r) (hd : o.dst = some d) (hn : d < n) : AStep P n o S [] (.p (.val (.bool r))) none := hr ▸ a_geq ho hx hy hd hn
theorem r_eqlB {u v : Bool} [ht : Und P xt .bool] (ho : o.op = .binOp .eql xt x y yt) (hx : S.get x = .p (.val (.bool u))) (hy : S.get y = .p (.val (.bool v))) (hr : (u == v) = r) (hd : o.dst = some d) (hn : d < n) : AStep P n o S [] (.p (.val (.bool r))) none := hr ▸ w_eqlB ho hx hy hd hn
theorem r_neqB {u v : Bool} [ht : Und P xt .bool] (ho : o.op = .binOp .neq xt x y yt) (hx : S.get x = .p (.val (.bool u))) (hy : S.get y = .p (.val (.bool v))) (hr : (!(u == v)) = r) (hd : o.dst = some d) (hn : d < n) : AStep P n o S [] (.p (.val (.bool r))) none := hr ▸ w_neqB ho hx hy hd hn
theorem r_eqlS {s u : ByteArray} (ho : o.op = .binOp .eql xt x y yt) (hx : S.get x = .p (.val (.string s))) (hy : S.get y = .p (.val (.string u))) (hr : (s.toList == u.toList) = r) (hd : o.dst = some d) (hn : d < n) : AStep P n o S [] (.p (.val (.bool r))) none := hr ▸ a_eqlS ho hx hy hd hn
theorem r_notB {u : Bool} (ho : o.op = .unOp .not xt x) (hx : S.get x = .p (.val (.bool u))) (hr : (!u) = r) (hd : o.dst = some d) (hn : d < n) : AStep P n o S [] (.p (.val (.bool r))) none := hr ▸ a_notB ho hx hd hn
theorem r_eqlT {m : TypeId} {ps qs : List PV} {la lb : List (IntKind × Int)} [h : EqA P xt m] (ho : o.op = .binOp .eql xt x y yt) (hx : S.get x = .p (.agg ps)) (hy : S.get y = .p (.agg qs)) (ha : intsOf ps = some la) (hb : intsOf qs = some lb) (hab : la.map Prod.fst = lb.map Prod.fst)
    (hlen : la.length = m) (hr : decide (la = lb) = r) (hd : o.dst = some d) (hn : d < n) : AStep P n o S [] (.p (.val (.bool r))) none := hr ▸ w_eqlT ho hx hy ha hb hab hlen hd hn
theorem r_neqT {m : TypeId} {ps qs : List PV} {la lb : List (IntKind × Int)} [h : EqA P xt m] (ho : o.op = .binOp .neq xt x y yt) (hx : S.get x = .p (.agg ps)) (hy : S.get y = .p (.agg qs)) (ha : intsOf ps = some la) (hb : intsOf qs = some lb) (hab : la.map Prod.fst = lb.map Prod.fst)
    (hlen : la.length = m) (hr : (!decide (la = lb)) = r) (hd : o.dst = some d) (hn : d < n) : AStep P n o S [] (.p (.val (.bool r))) none :=
  AStep.pure hd hn fun S2 hg _ M w0 ρ a w hs => by
    subst hr
    have r1 := rep_of_arg hs ((hg x (by rw [ho]; simp [Op.operands])).trans hx)
    have r2 := rep_of_arg hs ((hg y (by rw [ho]; simp [Op.operands])).trans hy)
    obtain ⟨vs, hva, hl, he⟩ := rep_agg r1
    obtain ⟨us, hvb, hl2, he2⟩ := rep_agg r2
    have h5 := intsOf_vals ha hl he
    have h6 := intsOf_vals hb hl2 he2
    subst h5
    subst h6
    refine ⟨_, w, ?_, Below.refl _ _, .p (.val _)⟩
    unfold execOp
    rw [ho]
    simp only [hva, hvb, Sem.run_bind, run_eqGuard_agg w _ xt x y _ _ h.guard, Result.andThen_ok, run_neq_struct, run_equalIn_agg w 9999 xt _ _ h.st h.held]
    rw [eqFields_ints w 9998 _ 0 _ la lb h.flat rfl hab.symm (by simpa using hlen.trans h.len.symm)]
    rfl

/-! ### Slices of slices -/
theorem flat_drop_take {sz : Nat} : ∀ (es : List PV) (l c : Nat), (∀ e ∈ es, e.cells.length = sz) → flat ((es.drop l).take c) = ((flat es).drop (l * sz)).take (c * sz) := by
  have tk : ∀ (es : List PV) (c : Nat), (∀ e ∈ es, e.cells.length = sz) → flat (es.take c) = (flat es).take (c * sz) := by
    intro es
    induction es with
    | nil => intro c _; simp [flat]
    | cons e r ih =>
      intro c h
      cases c with
      | zero => simp [flat]
      | succ c =>
        have he := h e (by simp)
        have h1 := ih c fun e he => h e (by simp [he])
        simp only [flat, List.take_succ_cons, List.flatMap_cons] at h1 ⊢
        rw [h1, List.take_append, he]
        have e1 : (c + 1) * sz - sz = c * sz := by rw [Nat.add_mul, Nat.one_mul, Nat.add_sub_cancel]
        rw [e1, List.take_of_length_le (i := (c + 1) * sz) (l := e.cells) (by rw [he, Nat.add_mul]; omega)]
  have dr : ∀ (es : List PV) (l : Nat), (∀ e ∈ es, e.cells.length = sz) → flat (es.drop l) = (flat es).drop (l * sz) := by
    intro es
    induction es with
    | nil => intro l _; simp [flat]
    | cons e r ih =>
      intro l h
      cases l with
      | zero => simp
      | succ l =>
        have he := h e (by simp)
        have h1 := ih l fun e he => h e (by simp [he])
        simp only [flat, List.drop_succ_cons, List.flatMap_cons] at h1 ⊢
        rw [h1, List.drop_append, he]
        have e1 : (l + 1) * sz - sz = l * sz := by rw [Nat.add_mul, Nat.one_mul, Nat.add_sub_cancel]
        rw [e1, List.drop_of_length_le (i := (l + 1) * sz) (l := e.cells) (by rw [he, Nat.add_mul]; omega)]
        rfl
  intro es l c h
  rw [tk _ c fun e he => h e (List.mem_of_mem_drop he), dr es l h]

theorem rep_slice {M : Nat → Prop} {w : World} {es : List PV} {sz : Nat} (hes : ∀ e ∈ es, e.cells.length = sz) {g off cap : Nat} {ys : List Value} (hl : RepL M w (flat es) ys) (hcell : ∀ (j : Nat) y, ys[j]? = some y → w.cell? ⟨g, off + j, none⟩ = some y) (hM : ¬ M g) (hgl : g < w.heap.size) (hcap : es.length ≤ cap) (hm : cap ≤ maxLen)
    (l h : Nat) (h1 : l ≤ h) (h2 : h ≤ es.length) : Rep M w (.sl ((es.drop l).take (h - l))) (sliced (some ⟨g, off, none⟩) l h cap sz) := by
  have hlen : ((es.drop l).take (h - l)).length = h - l := by rw [List.length_take, List.length_drop]; omega
  have hy : RepL M w (flat ((es.drop l).take (h - l))) ((ys.drop (l * sz)).take ((h - l) * sz)) := by
    rw [flat_drop_take es l (h - l) hes]
    refine ⟨by simp only [List.length_take, List.length_drop, hl.len], fun i c v hc hv => ?_, fun v hv => hl.one v (List.mem_of_mem_drop (List.mem_of_mem_take hv))⟩
    rw [List.getElem?_take] at hc hv
    split at hc
    · rename_i hi
      rw [if_pos hi] at hv
      rw [List.getElem?_drop] at hc hv
      exact hl.each _ c v hc hv
    · cases hc
  have hc : ∀ (j : Nat) y, ((ys.drop (l * sz)).take ((h - l) * sz))[j]? = some y → w.cell? ⟨g, off + l * sz + j, none⟩ = some y := fun j y hj => by
    rw [List.getElem?_take] at hj
    split at hj
    · rw [List.getElem?_drop] at hj
      have := hcell _ y hj
      rw [← Nat.add_assoc] at this
      exact this
    · cases hj
  unfold sliced
  by_cases hcl : cap = l
  · rw [if_pos hcl]
    have e0 : h - l = 0 := by omega
    rw [e0] at hy hc ⊢
    simp only [List.take_zero] at hy ⊢
    have : flat ([] : List PV) = [] := rfl
    exact .sl [] g off 0 (cap - l) [] rfl rfl (fun j y hj => by cases hj) (fun j c y hj => by cases hj) (fun v hv => by cases hv) hM hgl (Nat.zero_le _) (by omega)
  · rw [if_neg hcl]
    have ea : (some (⟨g, off, none⟩ : Addr)).map (·.add (l * sz)) = some ⟨g, off + l * sz, none⟩ := by rw [Option.map_some, add_lit]
    rw [ea]
    exact .sl _ g (off + l * sz) (h - l) (cap - l) _ hlen.symm hy.len hc hy.each hy.one hM hgl (by omega) (by omega)

theorem a_sliceLH {t : TypeId} {e sz : Nat} {es : List PV} {l h : Int} {k k2 : IntKind} {agg : Bool} {xl xh : Operand} [ht : Und P t (.slice e)] [he : TyA P e agg sz] (ho : o.op = .slice t x (some xl) (some xh) none) (hx : S.get x = .p (.sl es)) (hes : ∀ e ∈ es, e.cells.length = sz)
    (hl : S.get xl = .p (.val (.int k l))) (hh : S.get xh = .p (.val (.int k2 h))) (hb : 0 ≤ l ∧ l ≤ h ∧ h ≤ es.length) (hd : o.dst = some d) (hn : d < n) : AStep P n o S [] (.p (.sl ((es.drop l.toNat).take (h.toNat - l.toNat)))) none :=
  AStep.pure hd hn fun S2 hg _ M w0 ρ a w hs => by
    have r1 := rep_of_arg hs ((hg x (by rw [ho]; simp [Op.operands])).trans hx)
    have r2 := hs.val ((hg xl (by rw [ho]; simp [Op.operands])).trans hl)
    have r3 := hs.val ((hg xh (by rw [ho]; simp [Op.operands])).trans hh)
    have hel : P.elem t = e := by simp [Program.elem, ht.h]
    have ht2 : P.underlying t = some (.slice (P.elem t)) := by rw [hel]; exact ht.h
    rcases rep_sl r1 with ⟨hv, h0⟩ | ⟨g, off, cap, ys, hv, hly, hcell, hM, hgl, hcap, hm⟩
    · subst h0
      have e1 : l = 0 := by have := hb.2.2; simp at this; omega
      have e2 : h = 0 := by have := hb.2.2; simp at this; omega
      subst e1
      subst e2
      refine ⟨_, w, ?_, Below.refl _ _, .p .nil⟩
      unfold execOp
      rw [ho]
      simp only [Option.map_some, Option.map_none, hv, r2, r3, Sem.run_bind, run_sliceAt_slice w t _ _ _ _ ht2, run_slice_lh w t none 0 0 ht2 k k2 0 0 (by omega) (by omega) (by omega)]
      rw [hel, he.sz w]
      rfl
    · refine ⟨_, w, ?_, Below.refl _ _, .p (rep_slice hes hly hcell hM hgl hcap hm l.toNat h.toNat (by omega) (by omega))⟩
      unfold execOp
      rw [ho]
      simp only [Option.map_some, Option.map_none, hv, r2, r3, Sem.run_bind, run_sliceAt_slice w t _ _ _ _ ht2, run_slice_lh w t (some ⟨g, off, none⟩) es.length cap ht2 k k2 l h hb.1 hb.2.1 (by omega)]
      rw [hel, he.sz w]
      rfl
theorem a_sliceH {t : TypeId} {e sz : Nat} {es : List PV} {h : Int} {k2 : IntKind} {agg : Bool} {xh : Operand} [ht : Und P t (.slice e)] [he : TyA P e agg sz] (ho : o.op = .slice t x none (some xh) none) (hx : S.get x = .p (.sl es)) (hes : ∀ e ∈ es, e.cells.length = sz)
    (hh : S.get xh = .p (.val (.int k2 h))) (hb : 0 ≤ h ∧ h ≤ es.length) (hd : o.dst = some d) (hn : d < n) : AStep P n o S [] (.p (.sl (es.take h.toNat))) none :=
  AStep.pure hd hn fun S2 hg _ M w0 ρ a w hs => by
    have r1 := rep_of_arg hs ((hg x (by rw [ho]; simp [Op.operands])).trans hx)
    have r3 := hs.val ((hg xh (by rw [ho]; simp [Op.operands])).trans hh)
    have hel : P.elem t = e := by simp [Program.elem, ht.h]
    have ht2 : P.underlying t = some (.slice (P.elem t)) := by rw [hel]; exact ht.h
    rcases rep_sl r1 with ⟨hv, h0⟩ | ⟨g, off, cap, ys, hv, hly, hcell, hM, hgl, hcap, hm⟩
    · subst h0
      have e2 : h = 0 := by have := hb.2; simp at this; omega
      subst e2
      refine ⟨_, w, ?_, Below.refl _ _, .p .nil⟩
      unfold execOp
      rw [ho]
      simp only [Option.map_some, Option.map_none, hv, r3, Sem.run_bind, run_sliceAt_slice w t _ _ _ _ ht2, run_slice_h w t none 0 0 ht2 k2 0 (by omega) (by omega)]
      rw [hel, he.sz w]
      rfl
    · have hr := rep_slice hes hly hcell hM hgl hcap hm 0 h.toNat (by omega) (by omega)
      rw [List.drop_zero, Nat.sub_zero] at hr
      refine ⟨_, w, ?_, Below.refl _ _, .p hr⟩
      unfold execOp
      rw [ho]
      simp only [Option.map_some, Option.map_none, hv, r3, Sem.run_bind, run_sliceAt_slice w t _ _ _ _ ht2, run_slice_h w t (some ⟨g, off, none⟩) es.length cap ht2 k2 h hb.1 (by omega)]
      rw [hel, he.sz w]
      rfl
theorem a_sliceL {t : TypeId} {e sz : Nat} {es : List PV} {l : Int} {k : IntKind} {agg : Bool} {xl : Operand} [ht : Und P t (.slice e)] [he : TyA P e agg sz] (ho : o.op = .slice t x (some xl) none none) (hx : S.get x = .p (.sl es)) (hes : ∀ e ∈ es, e.cells.length = sz)
    (hl : S.get xl = .p (.val (.int k l))) (hb : 0 ≤ l ∧ l ≤ es.length) (hd : o.dst = some d) (hn : d < n) : AStep P n o S [] (.p (.sl (es.drop l.toNat))) none :=
  AStep.pure hd hn fun S2 hg _ M w0 ρ a w hs => by
    have r1 := rep_of_arg hs ((hg x (by rw [ho]; simp [Op.operands])).trans hx)
    have r2 := hs.val ((hg xl (by rw [ho]; simp [Op.operands])).trans hl)
    have hel : P.elem t = e := by simp [Program.elem, ht.h]
    have ht2 : P.underlying t = some (.slice (P.elem t)) := by rw [hel]; exact ht.h
    rcases rep_sl r1 with ⟨hv, h0⟩ | ⟨g, off, cap, ys, hv, hly, hcell, hM, hgl, hcap, hm⟩
    · subst h0
      have e2 : l = 0 := by have := hb.2; simp at this; omega
      subst e2
      refine ⟨_, w, ?_, Below.refl _ _, .p .nil⟩
      unfold execOp
      rw [ho]
      simp only [Option.map_some, Option.map_none, hv, r2, Sem.run_bind, run_sliceAt_slice w t _ _ _ _ ht2, run_slice_l w t none 0 0 ht2 k 0 (by omega) (by omega)]
      rw [hel, he.sz w]
      rfl
    · have hr := rep_slice hes hly hcell hM hgl hcap hm l.toNat es.length (by omega) (by omega)
      rw [List.take_of_length_le (by rw [List.length_drop]; omega)] at hr
      refine ⟨_, w, ?_, Below.refl _ _, .p hr⟩
      unfold execOp
      rw [ho]
      simp only [Option.map_some, Option.map_none, hv, r2, Sem.run_bind, run_sliceAt_slice w t _ _ _ _ ht2, run_slice_l w t (some ⟨g, off, none⟩) es.length cap ht2 k l hb.1 hb.2]
      rw [hel, he.sz w]
      rfl
theorem byts_drop (bs : List Int) (l : Nat) : (byts bs).drop l = byts (bs.drop l) := by simp [byts, List.map_drop]
theorem byts_take (bs : List Int) (l : Nat) : (byts bs).take l = byts (bs.take l) := by simp [byts, List.map_take]
theorem w_sliceHB {t : TypeId} {e : Nat} {bs : List Int} {h : Int} {k2 : IntKind} {agg : Bool} {xh : Operand} [ht : Und P t (.slice e)] [he : TyA P e agg 1] (ho : o.op = .slice t x none (some xh) none) (hx : S.get x = .p (.sl (byts bs)))
    (hh : S.get xh = .p (.val (.int k2 h))) (hb : 0 ≤ h ∧ h ≤ bs.length) (hd : o.dst = some d) (hn : d < n) : AStep P n o S [] (.p (.sl (byts (bs.take h.toNat)))) none :=
  byts_take bs h.toNat ▸ a_sliceH ho hx (byts_one bs) hh (by rw [byts_len]; exact hb) hd hn
theorem w_sliceLB {t : TypeId} {e : Nat} {bs : List Int} {l : Int} {k : IntKind} {agg : Bool} {xl : Operand} [ht : Und P t (.slice e)] [he : TyA P e agg 1] (ho : o.op = .slice t x (some xl) none none) (hx : S.get x = .p (.sl (byts bs)))
    (hl : S.get xl = .p (.val (.int k l))) (hb : 0 ≤ l ∧ l ≤ bs.length) (hd : o.dst = some d) (hn : d < n) : AStep P n o S [] (.p (.sl (byts (bs.drop l.toNat)))) none :=
  byts_drop bs l.toNat ▸ a_sliceL ho hx (byts_one bs) hl (by rw [byts_len]; exact hb) hd hn
theorem w_sliceLHB {t : TypeId} {e : Nat} {bs : List Int} {l h : Int} {k k2 : IntKind} {agg : Bool} {xl xh : Operand} [ht : Und P t (.slice e)] [he : TyA P e agg 1] (ho : o.op = .slice t x (some xl) (some xh) none) (hx : S.get x = .p (.sl (byts bs)))
    (hl : S.get xl = .p (.val (.int k l))) (hh : S.get xh = .p (.val (.int k2 h))) (hb : 0 ≤ l ∧ l ≤ h ∧ h ≤ bs.length) (hd : o.dst = some d) (hn : d < n) : AStep P n o S [] (.p (.sl (byts ((bs.drop l.toNat).take (h.toNat - l.toNat))))) none := by
  have := a_sliceLH (P := P) (S := S) ho hx (byts_one bs) hl hh (by rw [byts_len]; exact hb) hd hn
  rw [byts_drop, byts_take] at this
  exact this

/-! ### A slice literal without elements -/
theorem w_build0 {t e : TypeId} {z : Value} {sz by_ : Nat} [ht : Und P t (.slice e)] [hi : InfoA P e z sz by_] (ho : o.op = .buildSlice t 0 #[]) (hd : o.dst = some d) (hn : d < n) : AStep P n o S [] (.own d) (some (.row e sz 0 [])) :=
  AStep.made hd hn fun S2 hg _ M w0 ρ a w hs => by
    obtain ⟨i, hi1, hi2⟩ := Option.map_eq_some_iff.1 hi.h
    simp only [Prod.mk.injEq] at hi2
    obtain ⟨hzi, hisz, _⟩ := hi2
    refine ⟨.slice (some ⟨w.heap.size, 0, none⟩) 0 0, w.alloc (.cells #[] e), ?_, World.grownBy_alloc w _ none, fun k hk => ?_, ⟨[], ⟨by simp, .inr ⟨w.heap.size, 0, #[], rfl, hs.below.size, by rw [heap_alloc_new], Nat.le_refl _, by decide, by simp, by simp⟩⟩, ⟨rfl, (fun i c v h => by simp at h), (fun v h => by simp at h)⟩⟩, .inl rfl⟩
    · unfold execOp
      rw [ho]
      simp [Instr.buildSlice, run_underlying ht.h, sizeOf, typeInfo, hi1, Instr.fill, newRow]
      have e0 : Array.range 0 = #[] := Array.ext' (by rw [Array.toList_range]; rfl)
      rw [e0, Array.map_empty]
    · simp only [blkOf, Option.some.injEq] at hk; omega
theorem w_build0B {t e : TypeId} {z : Value} [ht : Und P t (.slice e)] [hi : InfoA P e z 1 1] (ho : o.op = .buildSlice t 0 #[]) (hd : o.dst = some d) (hn : d < n) : AStep P n o S [] (.own d) (some (rowB e [])) :=
  (w_build0 (P := P) (sz := 1) (by_ := 1) ho hd hn).nb (rowB_alike e [])

/-! ### A byte laid into an own row -/
theorem w_indexOB {t : TypeId} {ix : Operand} {id e ty : Nat} {j : Int} {bs : List Int} {agg : Bool} [ht : Und P t (.slice e)] [he : TyA P e agg 1] (ho : o.op = .indexAddr t x ix) (hx : S.get x = .own id) (hb : S.blk id = some (rowB ty bs)) (hi : S.get ix = .p (.val (.int k j)))
    (hj : 0 ≤ j ∧ j < bs.length) (hd : o.dst = some d) (hn : d < n) : AStep P n o S [id] (.ptr id j.toNat) none := by
  have := w_indexO (P := P) (S := S.tag id (.row ty 1 bs.length (bxs bs))) (o := o) (d := d) (n := n) (sz := 1) (agg := agg) (e := e) ho (by rw [AS.get_tag]; exact hx) (by rw [AS.blk_tag, if_pos rfl]) (by rw [AS.get_tag]; exact hi) hj hd hn
  rw [Nat.mul_one] at this
  exact AStep.tag hb (rowB_alike' ty bs) (rowB_alike ty bs) (by simp) this
theorem splice_bxs (bs : List Int) (j : Nat) (c : Int) (h : j < bs.length) : splice (bxs bs) j [.p (.val (.int .u8 c))] = bxs (bs.set j c) := by
  apply List.ext_getElem?
  intro p
  rw [splice_get (by simp [bxs_len]; omega)]
  simp only [bxs, byts, List.map_map, List.getElem?_map, List.getElem?_set]
  by_cases h1 : p < j
  · rw [if_pos h1, if_neg (by omega)]
  · rw [if_neg h1]
    by_cases h2 : j = p
    · subst h2
      simp [h]
    · rw [if_neg (by simp; omega), if_neg h2]
theorem w_storeB {t : TypeId} {id off e : Nat} {bs : List Int} {c : Int} {agg : Bool} [h : TyA P t agg 1] (ho : o.op = .store t x y) (hx : S.get x = .ptr id off) (hb : S.blk id = some (rowB e bs)) (hy : S.get y = .p (.val (.int .u8 c))) (hle : off < bs.length) (hd : o.dst = none) :
    Step P n o S (S.tag id (rowB e (bs.set off c))) := by
  have h1 := w_store (P := P) (n := n) (S := S.tag id (.row e 1 bs.length (bxs bs))) (o := o) (agg := agg) (m := 1) ho (by rw [AS.get_tag]; exact hx) (by rw [AS.blk_tag, if_pos rfl]) (by rw [AS.get_tag, hy]) rfl rfl (by show off + 1 ≤ (bxs bs).length; rw [bxs_len]; exact hle) hd
  refine h1.same (same_tag hb (rowB_alike' e bs)) ⟨fun _ => rfl, fun i => ?_⟩
  show (if id = i then some _ else if id = i then some _ else S.blk i) = none ∧ (if id = i then some _ else S.blk i) = none ∨ ∃ b b', (if id = i then some _ else if id = i then some _ else S.blk i) = some b ∧ (if id = i then some _ else S.blk i) = some b' ∧ Alike b b'
  by_cases hi : id = i
  · simp only [if_pos hi]
    refine .inr ⟨_, _, rfl, rfl, ?_⟩
    have e1 : splice (bxs bs) off [AV.p (.val (.int .u8 c))] = bxs (bs.set off c) := splice_bxs bs off c hle
    show Alike (.row e 1 bs.length (splice (bxs bs) off [AV.p (.val (.int .u8 c))])) (rowB e (bs.set off c))
    rw [e1]
    have := rowB_alike e (bs.set off c)
    rw [List.length_set] at this
    exact this
  · simp only [if_neg hi]
    exact (SameR.refl S).s i

end

end Go.Proofs.Ytjokcnajopfjhaa
