/- Of a sealed store each operation of a vertex that may be is answered so, by one access, and turns nothing; one of a key that may not be by none. (Part 5 of 9.) -/
import Derived.Test.YtmfbamiciieooaaGreatDoorVs4
import Derived.Laws.Cover3
import Derived.Deep.Upon
import Derived.OrdersIn
/- A lent row grows; calls of function values; arrays in variables; slices that are compared with nil. Generic over the program. -/
namespace Go.Proofs.YtmfbamiciieooaaGreatDoor
set_option maxRecDepth 100000
set_option maxHeartbeats 16000000
open Go Go.RowKit
section
variable {P : Program} {n : Nat} {o : Oper} {S : AS} {d : Nat} {t : TypeId} {x y : Operand}
theorem s_appL {id e sz by_ : Nat} {z : Value} {cs bs : List PV} [ht : Und P t (.slice e)] [hi : InfoA P e z sz by_] (ho : o.op = .call { callee := .builtin .append, args := #[x, y], argTypes := #[t, t] }) (hx : S.get x = .own id) (hb : S.blk id = some (lentV e sz cs))
    (hy : S.get y = .p (.sl bs)) (hes : ∀ e ∈ bs, e.cells.length = sz) (hlim : (cs.length + bs.length) * by_ ≤ 140737488355328 ∧ cs.length + bs.length ≤ maxLen) (hzs : z.cells.size = sz) (hsz : 0 < sz) (hd : o.dst = some d) (hn : d < n) :
    Step P n o S ((S.create id (lentV e sz (cs ++ bs))).put d (.own id)) := by
  intro M w0 ρ a w K Q hs hK
  obtain ⟨i, hi1, hi2⟩ := Option.map_eq_some_iff.1 hi.h
  simp only [Prod.mk.injEq] at hi2
  obtain ⟨hz, hisz, hiby⟩ := hi2
  have h1 := hs.rep x
  rw [hx] at h1
  have hv := vD h1
  obtain ⟨ys, hown, hys⟩ := hs.blks id _ hb
  have hown : w.ownsRow 0 e sz (ρ id) cs.length ys := hown
  obtain ⟨us, hus, hnews⟩ := news_p (ρ := ρ) (yR hs hy) hes
  have e1 : zU (ρ id) = (ρ id).ownBlock := own_slice hown
  have hfree : w0.r id = none := row_free hs hown
  have main : ∀ v' w' row, (Builtin.append_ #[t, t] o.type #[ρ id, a.eval y]).run P w = .ok v' w' → w.grownBy w' row → w'.ownsRow 0 e sz v' (cs.length + bs.length) (ys ++ us) → (row = none ∨ row = (ρ id).ownBlock) →
      (∀ k, zU v' = some k → w.heap.size ≤ k ∨ row = some k) → (∀ k c, row = some k → c < cs.length * sz → w'.cell? ⟨k, c, none⟩ = w.cell? ⟨k, c, none⟩) → o.wp P a w K Q := by
    intro v' w' row hr hg hown' hrow hv' hcell
    have hall : yA (Mut M S ρ) ρ w ((flat (cs ++ bs)).map AV.p) (ys ++ us) := by
      rw [flat_append, List.map_append]
      exact ⟨by simp [hys.len, hus.len], fun i c v h1 h2 => by
        by_cases hi : i < ((flat cs).map AV.p).length
        · rw [List.getElem?_append_left hi] at h1
          rw [List.getElem?_append_left (by rw [hys.len]; exact hi)] at h2
          exact hys.each i c v h1 h2
        · rw [List.getElem?_append_right (by omega)] at h1
          rw [List.getElem?_append_right (by rw [hys.len]; omega), hys.len] at h2
          exact hus.each _ c v h1 h2, fun v hv => by
        rcases List.mem_append.1 hv with hv | hv
        · exact hys.one v hv
        · exact hus.one v hv⟩
    have hks : Keeps (fun k c => Mut M S ρ k c ∨ (zU v' = some k ∧ (lentV e sz (cs ++ bs)).turns c)) w w' := ⟨hg.size, fun k c hk hnm => by
      by_cases hrk : row = some k
      · refine hcell k c hrk (Nat.lt_of_not_le fun hle => hnm (.inl (.inr ⟨id, _, hb, ?_, hle⟩)))
        rcases hrow with h | h
        · rw [h] at hrk; cases hrk
        · rw [e1, ← h]; exact hrk
      · exact World.cell?_of_block (w := w) (hg.block k hk fun e => hrk e.symm)⟩
    have hmut : ∀ k c, k < w.heap.size → (Mut M S ρ k c ∨ (zU v' = some k ∧ (lentV e sz (cs ++ bs)).turns c)) → Mut M S ρ k c := fun k c hk h => by
      rcases h with h | ⟨h, ht⟩
      · exact h
      · rcases hv' k h with h2 | h2
        · omega
        · rcases hrow with h3 | h3
          · rw [h3] at h2; cases h2
          · refine .inr ⟨id, _, hb, by rw [e1, ← h3]; exact h2, ?_⟩
            have h4 : (cs ++ bs).length * sz ≤ c := ht
            have h5 : cs.length * sz ≤ (cs ++ bs).length * sz := Nat.mul_le_mul_right _ (by rw [List.length_append]; omega)
            exact Nat.le_trans h5 h4
    have hs' := hs.change id (lentV e sz (cs ++ bs)) v' row hfree hg (fun k hk => ?_) hv' ⟨ys ++ us, by rw [List.length_append]; exact hown', (hall.mono hmut).keep hks⟩
    · unfold Oper.wp execOp
      simp only [ho, resolve, invoke, builtin, Sem.run_bind, Sem.run_pure, Result.andThen_ok, List.map_toArray, List.map_cons, List.map_nil, hv, hr]
      show K (a.put o.dst v') w'
      rw [hd]
      refine hK _ _ w' (hs'.put hn ?_)
      have := yY.own (M := Mut M (S.create id (lentV e sz (cs ++ bs))) (upd ρ id v')) (ρ := upd ρ id v') (w := w') id
      simpa [upd] using this
    · refine ⟨_, hb, ?_, fun c ht => ?_, fun c hnt => hcell k c hk (Nat.lt_of_not_le hnt)⟩
      · rcases hrow with h | h
        · rw [h] at hk; cases hk
        · rw [e1, ← h]; exact hk
      · have h4 : (cs ++ bs).length * sz ≤ c := ht
        have h5 : cs.length * sz ≤ (cs ++ bs).length * sz := Nat.mul_le_mul_right _ (by rw [List.length_append]; omega)
        exact Nat.le_trans h5 h4
  rcases hnews with ⟨hyv, hk0, hu0⟩ | ⟨ad, c, hyv, hul, hcell⟩
  · have hb0 : bs = [] := List.eq_nil_of_length_eq_zero hk0
    subst hu0
    subst hb0
    exact main (ρ id) w (ρ id).ownBlock (by rw [hyv]; exact run_append_owned_none (P := P) w 0 t o.type e i sz ht.h hi1 (ρ id) cs.length ys hown) ⟨rfl, rfl, rfl, Nat.le_refl _, fun _ _ _ => rfl⟩ (by simpa using hown) (.inr rfl) (fun k hk => .inr (by rw [← e1]; exact hk)) (fun _ _ _ _ => rfl)
  · obtain ⟨v', w', hr, hown', hg, _, hob⟩ := run_append_own_at (P := P) w 0 t o.type e i z sz by_ ht.h hi1 hz hisz hiby hzs hsz (ρ id) cs.length ys hown ad bs.length c us hul hcell hus.one hlim.2 hlim.1 (Nat.zero_le _)
    have e2 : zU v' = v'.ownBlock := own_slice hown'
    rcases hown.2 with ⟨hnil, hc0⟩ | ⟨g, cap, cur, hvg, _, hh, hncap, hcm, hcs, htk⟩
    · rw [← hyv] at hr
      refine main v' w' none hr (by rw [hnil] at hg; exact hg) hown' (.inl rfl) (fun k hk => ?_) (fun k c h => by cases h)
      rw [e2] at hk
      rcases hob with h3 | h3
      · rw [h3, hnil] at hk; cases hk
      · rw [h3] at hk; simp at hk; exact .inl (by omega)
    · have hin : ∀ j u, ys[j]? = some u → w.cell? ⟨g, 0 + j, none⟩ = some u := fun j u hu => by
        rw [Nat.zero_add, cell_of_row w g j cur e (0, 0) hh]
        rw [← htk, List.getElem?_take] at hu
        split at hu
        · simpa using hu
        · cases hu
      by_cases hroom : cs.length + bs.length ≤ cap
      · have hr2 := run_append_room_cells (P := P) w t o.type e i ht.h hi1 g 0 cs.length cap ad bs.length c us (by rw [hisz]; exact hul) hcell hus.one hroom (fun j hj => ?_) (fun j hj => frozen_of_row w g _ cur e hh)
        · rw [hvg] at hr
          have he := hr.symm.trans hr2
          injection he with he1 he2
          subst he1
          subst he2
          rw [← hyv, ← hvg] at hr
          refine main _ _ (some g) hr (by rw [hvg] at hg; exact hg) hown' (.inr (by rw [hvg]; rfl)) (fun k hk => .inr (by simpa [zU] using hk)) (fun k c' hk hc' => ?_)
          obtain rfl : g = k := by simpa using hk
          refine World.cell?_setCells_out g us _ w ⟨g, c', none⟩ (fun _ _ => .inl ?_)
          show c' < 0 + cs.length * i.size
          rw [hisz]; omega
        · rw [cell_of_row w g _ cur e (0, 0) hh]
          have h6 : 0 + cs.length * i.size + j < cur.size := by
            rw [hcs, hisz]
            have : (cs.length + bs.length) * sz ≤ cap * sz := Nat.mul_le_mul_right _ hroom
            rw [Nat.add_mul] at this
            omega
          rw [Array.getElem?_eq_getElem h6]
          rfl
      · obtain ⟨v2, w2, hr2, hown2, hg2⟩ := run_append_arg_grows (P := P) w t o.type e i z sz by_ ht.h hi1 hz hisz hiby hzs hsz ⟨g, 0, none⟩ cs.length cap ys hown.1 (fun j u hu => by rw [add_lit]; exact hin j u hu) ad bs.length c us hul hcell (by omega) hlim.2 hlim.1
        rw [hvg] at hr
        have he := hr.symm.trans hr2
        injection he with he1 he2
        subst he1
        subst he2
        rw [← hyv, ← hvg] at hr
        refine main _ _ none hr hg2 hown' (.inl rfl) (fun k hk => ?_) (fun k c' hk => by cases hk)
        rcases hown2.2 with ⟨he3, _⟩ | ⟨g2, _, _, he3, hg3, _⟩
        · rw [he3] at hk; cases hk
        · rw [he3] at hk
          simp only [zU, Option.some.injEq] at hk
          exact .inl (by omega)
/-! ### Calls of function values -/
theorem enters_val {f : FuncId} {args : Array Operand} {ts : Array TypeId} [hc : HasFn P f] (ho : o.op = .call { callee := .value x, args := args, argTypes := ts }) (hx : S.get x = .p (.val (.func (.func f) #[] #[]))) : Enters P o S f (args.toList.map S.get) :=
  fun M n w0 ρ a w hs => by
    have hv := hs.val hx
    refine ⟨args.toList.map a.eval, ?_, by simp, reps_get hs args.toList⟩
    have e : (args.toList.map a.eval).toArray = args.map a.eval := by apply Array.ext'; simp
    unfold execOp
    rw [ho, e]
    simp [resolve, Deferred.ofValue, hv, invoke, hc.h]
/-- a pure contract, as one of variables -/
theorem FnE.ofFn {f : FuncId} {xs : List PV} {r : PV} (h : Fn P f xs (.p r)) : FnE P f (xs.map AV.p) [] (.ret (.p r)) [] := by
  intro M hh ρ vs _ hs hvl hvs
  have := h (Mut M (asB []) ρ) hh.w vs ⟨hs.lays, hs.tabs⟩ (fun k c hk => Mut.lt hs hk) (by simpa using hvl) (fun i x v h1 h2 => qO (hvs i (.p x) v (by rw [List.getElem?_map, h1]; rfl) h2))
  exact this.mono fun e w' ⟨v, he, hr, hb⟩ => ⟨ρ, hs.ext hb, v, he, .p hr⟩
theorem FnE.ofFnT {f : FuncId} {xs : List PV} {l : List PV} (h : Fn P f xs (.tup l)) : FnE P f (xs.map AV.p) [] (.ret (.tup (l.map AV.p))) [] := by
  intro M hh ρ vs _ hs hvl hvs
  have := h (Mut M (asB []) ρ) hh.w vs ⟨hs.lays, hs.tabs⟩ (fun k c hk => Mut.lt hs hk) (by simpa using hvl) (fun i x v h1 h2 => qO (hvs i (.p x) v (by rw [List.getElem?_map, h1]; rfl) h2))
  refine this.mono fun e w' ⟨v, he, ⟨us, hu, hul, hue⟩, hb⟩ => ⟨ρ, hs.ext hb, v, he, ?_⟩
  subst hu
  refine .tup _ us (by simpa using hul) fun i c u h1 h2 => ?_
  rw [List.getElem?_map, Option.map_eq_some_iff] at h1
  obtain ⟨y, hy, rfl⟩ := h1
  exact .p (hue i y u hy h2)
/-! ### Compared with nil -/
theorem r_eqlNil {yt : TypeId} {es : List PV} {r : Bool} {e : TypeId} [ht : Und P t (.slice e)] (ho : o.op = .binOp .eql t x y yt) (hx : S.get x = .p (.sl es)) (hy : S.get y = .p (.val (.slice none 0 0))) (hne : es ≠ []) (hr : false = r) (hd : o.dst = some d) (hn : d < n) : zX P n o S [] (.p (.val (.bool r))) none := by
  subst hr
  exact zX.pure hd hn fun S2 hg _ M w0 ρ a w hs => by
    have r1 := yR hs ((hg x (by rw [ho]; simp [Op.operands])).trans hx)
    have r2 := hs.val ((hg y (by rw [ho]; simp [Op.operands])).trans hy)
    rcases rep_sl r1 with ⟨_, h0⟩ | ⟨g, off, cap, ys, hv, _⟩
    · exact (hne h0).elim
    · refine ⟨.bool false, w, ?_, Below.refl _ _, .p (.val _)⟩
      unfold execOp
      rw [ho]
      simp only [hv, r2, Sem.run_bind]
      simp [eqGuard, binOp, run_equal_slice_nil w t e (some ⟨g, off, none⟩) es.length cap ht.h]
/-! ### Arrays in variables -/
theorem w_idxArr {ix : Operand} {id off m e sz : Nat} {j : Int} {k : IntKind} {agg : Bool} [ht : Und P t (.array m e)] [he : TyA P e agg sz] (ho : o.op = .indexAddr t x ix) (hx : S.get x = .ptr id off) (hi : S.get ix = .p (.val (.int k j))) (hj : 0 ≤ j ∧ j < m) (hd : o.dst = some d) (hn : d < n) : zX P n o S [] (.ptr id (off + j.toNat * sz)) none :=
  zX.pure hd hn fun S2 hg _ M w0 ρ a w hs => by
    have h1 := hs.rep x
    rw [hg x (by rw [ho]; simp [Op.operands]), hx] at h1
    have h2 := hs.val ((hg ix (by rw [ho]; simp [Op.operands])).trans hi)
    obtain ⟨g, hgv, hv⟩ := wU h1
    refine ⟨.pointer (some ⟨g, off + j.toNat * sz, none⟩), w, ?_, Below.refl _ _, .ptr id _ g hgv⟩
    have hel : P.elem t = e := by simp [Program.elem, ht.h]
    have hal : P.arrayLen t = m := by simp [Program.arrayLen, ht.h]
    unfold execOp
    rw [ho]
    simp only [hv, h2, Sem.run_bind]
    rw [run_indexAt_array w t _ _ _ (by rw [hel, hal]; exact ht.h), hal, if_pos hj, hel, he.sz w]
    simp [Result.andThen, add_lit]
end
end Go.Proofs.YtmfbamiciieooaaGreatDoor
/- Calls that give an own row; ends that do. Generic over the program. -/
namespace Go.Proofs.YtmfbamiciieooaaGreatDoor
set_option maxRecDepth 100000
set_option maxHeartbeats 16000000
set_option linter.unusedSimpArgs false
open Go Go.RowKit
section
variable {P : Program} {n : Nat} {o : Oper} {S : AS} {d : Nat} {t : TypeId} {x y : Operand}
theorem w_build0V {e sz by_ : Nat} {z : Value} [ht : Und P t (.slice e)] [hi : InfoA P e z sz by_] (ho : o.op = .buildSlice t 0 #[]) (hd : o.dst = some d) (hn : d < n) : zX P n o S [] (.own d) (some (qF e sz [])) := (w_build0 ho hd hn).nb (qG e sz [])
theorem w_callRowV {f : Nat} {args : Array Operand} {ts : Array TypeId} {xs : List PV} {e sz : Nat} {es : List PV} [hc : HasFn P f] (hf : Fn P f xs (.row e sz es.length (flat es))) (ho : o.op = .call { callee := .value (.func f), args := args, argTypes := ts })
    (hx : args.toList.map S.get = xs.map AV.p) (hd : o.dst = some d) (hn : d < n) : zX P n o S [] (.own d) (some (qF e sz es)) := by
  intro S2 hg _ M w0 ρ a w K Q hs hK
  have hargs : ∀ x ∈ args.toList, S2.get x = S.get x := fun x hx => hg x (by rw [ho]; simp [Op.operands, Call.operands]; exact .inr (by simpa using hx))
  have he : (execOp a.eval o).run P w = .ok (.enter f (args.map a.eval)) w := by
    unfold execOp
    rw [ho]
    simp [resolve, Deferred.ofValue, Act.eval, invoke, hc.h]
  unfold Oper.wp
  rw [he, Oper.upon_enter]
  have hlen : (args.toList.map a.eval).length = xs.length := by
    have := congrArg List.length hx
    simpa using this
  have := hf (Mut M S2 ρ) w (args.toList.map a.eval) ⟨hs.lays, hs.tabs⟩ (fun k c hk => Mut.lt hs hk) hlen (fun i x v h1 h2 => by
    rw [List.getElem?_map, Option.map_eq_some_iff] at h2
    obtain ⟨y, hy, rfl⟩ := h2
    have h3 : S.get y = .p x := by
      have h4 : (args.toList.map S.get)[i]? = (xs.map AV.p)[i]? := by rw [hx]
      rw [List.getElem?_map, List.getElem?_map, hy, h1] at h4
      simpa using h4
    exact yR hs ((hargs y (List.mem_of_getElem? hy)).trans h3))
  have e1 : (args.toList.map a.eval).toArray = args.map a.eval := by apply Array.ext'; simp
  rw [e1] at this
  refine this.mono ?_
  rintro en w' ⟨v, rfl, ⟨ys, hown, hl⟩, hb⟩
  show K (a.put o.dst v) w'
  rw [hd] at hK ⊢
  have hnew : ∀ k, zU v = some k → w.heap.size ≤ k := fun k hk => by
    rcases hown.2 with ⟨rfl, _⟩ | ⟨g, cap, cur, rfl, hg2, _⟩
    · cases hk
    · simp only [zU, Option.some.injEq] at hk; omega
  have hs' := hs.change d (qF e sz es) v none (hs.free d hn) (w' := w') ⟨hb.os, hb.tape, hb.output, hb.size, fun k hk _ => hb.block k hk⟩ (fun k hk => by cases hk) (fun k hk => .inl (hnew k hk))
    ⟨ys, vC hown (fun _ _ => Nat.zero_le _), ⟨by simpa using hl.len, fun i c u h1 h2 => by
      rw [List.getElem?_map, Option.map_eq_some_iff] at h1
      obtain ⟨y, hy, rfl⟩ := h1
      exact .p ((hl.each i y u hy h2).mono fun k c _ hk => hk.elim .inl fun h => .inr h.1), hl.one⟩⟩
  refine hK _ _ w' (hs'.put hn ?_)
  have := yY.own (M := Mut M (S2.create d (qF e sz es)) (upd ρ d v)) (ρ := upd ρ d v) (w := w') d
  simpa [upd] using this
def Blk.isRow : Blk → Bool
  | .box _ _ => false
  | _ => true
theorem own_cell {M : Nat → Nat → Prop} {n : Nat} {w0 : Home} {w : World} {S : AS} {ρ : Nat → Value} {a : Act} (hs : Sat M n w0 S ρ a w) {id2 : Nat} {b2 : Blk} (hb2 : S.blk id2 = some b2) (hrow : b2.isRow = true) : (ρ id2).cells.toList = [ρ id2] ∧ (ρ id2).oneCell' = true := by
  have h := hs.blks id2 _ hb2
  have key : ∀ {e sz m : Nat} {ys : List Value}, w.ownsRow 0 e sz (ρ id2) m ys → (ρ id2).cells.toList = [ρ id2] ∧ (ρ id2).oneCell' = true := fun hown => by
    rcases hown.2 with ⟨e, _⟩ | ⟨g', cap, cur, e, _⟩ <;> (rw [e]; exact ⟨rfl, rfl⟩)
  cases b2 with
  | box _ _ => cases hrow
  | obj mp Q => obtain ⟨g, o, e, _⟩ := h; rw [e]; cases mp <;> exact ⟨rfl, rfl⟩
  | row _ _ _ _ => obtain ⟨ys, h, _⟩ := h; exact key h
  | prow _ _ _ _ => obtain ⟨ys, h, _⟩ := h; exact key h
  | lent _ _ _ _ => obtain ⟨ys, h, _⟩ := h; exact key h
theorem own_cells {M : Nat → Nat → Prop} {n : Nat} {w0 : Home} {w : World} {S : AS} {ρ : Nat → Value} {a : Act} (hs : Sat M n w0 S ρ a w) {id2 : Nat} {b2 : Blk} {v : Value} (hb2 : S.blk id2 = some b2) (hrow : b2.isRow = true) (h2 : yY (Mut M S ρ) ρ w (.own id2) v) :
    yA (Mut M S ρ) ρ w (AV.own id2).xH v.cells.toList := by
  obtain rfl : v = ρ id2 := by cases h2; rfl
  obtain ⟨h3, h4⟩ := own_cell hs hb2 hrow
  rw [h3]
  exact ⟨rfl, fun i c u h1 h3 => by
    cases i with
    | zero => simp [AV.xH] at h1 h3; subst h1; subst h3; exact .own id2
    | succ i => simp [AV.xH] at h1, fun u hu => by simp at hu; subst hu; exact h4⟩
/-- a store of an own row's slice -/
theorem s_storeO {id off id2 : Nat} {b b2 : Blk} (ho : o.op = .store t x y) (hx : S.get x = .ptr id off) (hb : S.blk id = some b) (hy : S.get y = .own id2) (hb2 : S.blk id2 = some b2) (hrow : b2.isRow = true) (hm : ∀ w, (sizeOf t).run P w = .ok 1 w)
    (hle : off + 1 ≤ b.xs.length) (hlb : b.lentB = false) (hd : o.dst = none) : Step P n o S { S with s := putL S.s id (b.setXs (splice b.xs off (AV.own id2).xH)) } := by
  have hlen : (AV.own id2).xH.length = 1 := rfl
  intro M w0 ρ a w K Q hs hK
  have hfr := Blk.turns_of hlb
  have h1 := hs.rep x
  rw [hx] at h1
  obtain ⟨g, hgv, hv⟩ := wU h1
  have h2 := hs.rep y
  rw [hy] at h2
  have hcy : yA (Mut M S ρ) ρ w (AV.own id2).xH (a.eval y).cells.toList := own_cells hs hb2 hrow h2
  have hB := hs.blks id b hb
  have key : ∃ cur ty, w.heap[g]? = some (.cells cur ty (0, 0)) ∧ off + (a.eval y).cells.toList.length ≤ cur.size ∧
      (∀ w' : World, w.grownBy w' (some g) → w'.heap[g]? = some (.cells (splice cur.toList off (a.eval y).cells.toList).toArray ty (0, 0)) → xG (Mut M S ρ) 0 ρ w' (ρ id) (b.setXs (splice b.xs off (AV.own id2).xH))) := by
    have keeps : ∀ {w' : World}, w.grownBy w' (some g) → Keeps (Mut M S ρ) w w' := fun {w'} hg => ⟨hg.size, fun k c hk hnm => World.cell?_of_block (w := w) (hg.block k hk (fun e => hnm (.inr ⟨id, b, hb, by rw [hgv]; exact e.symm, hfr c⟩)))⟩
    cases b with
    | lent ty size k xs => cases hlb
    | obj mp Q => cases hlb
    | box ty xs =>
      obtain ⟨g', ys, e, hg, hh, hc⟩ := hB
      have eg : g' = g := by rw [e] at hgv; simpa [zU] using hgv
      subst eg
      refine ⟨ys.toArray, ty, hh, ?_, fun w' hgr hh' => ⟨g', splice ys off (a.eval y).cells.toList, e, hg, by simpa using hh', (hc.splice hcy (by rw [hlen]; exact hle)).keep (keeps hgr)⟩⟩
      have e1 := hcy.len
      have e2 := hc.len
      have e3 : off + 1 ≤ xs.length := hle
      simp only [List.size_toArray]
      omega
    | row ty size k xs =>
      obtain ⟨ys, ⟨hl, ho2⟩, hc⟩ := hB
      have e1 := hcy.len
      have e2 := hc.len
      have e3 : off + 1 ≤ xs.length := hle
      rcases ho2 with ⟨e, _⟩ | ⟨g', cap, cur, e, hbg, hh, hkc, hcm, hcs, htk⟩
      · rw [e] at hgv; simp [zU] at hgv
      · have eg : g' = g := by rw [e] at hgv; simpa [zU] using hgv
        subst eg
        have hsz : k * size ≤ cur.size := by rw [hcs]; exact Nat.mul_le_mul_right _ hkc
        refine ⟨cur, ty, hh, by omega, fun w' hgr hh' => ⟨splice ys off (a.eval y).cells.toList, ⟨by rw [wG (by omega)]; exact hl, .inr ⟨g', cap, _, e, hbg, hh', hkc, hcm, ?_, ?_⟩⟩, (hc.splice hcy (by rw [hlen]; exact hle)).keep (keeps hgr)⟩⟩
        · simp only [List.size_toArray]
          rw [wG (by simp only [Array.length_toList] at *; omega)]
          simpa using hcs
        · apply List.ext_getElem?
          intro i
          rw [List.getElem?_take]
          rw [xV (by simp only [Array.length_toList] at *; omega), xV (by omega)]
          have hi : ∀ (i : Nat), i < k * size → cur.toList[i]? = ys[i]? := fun i hi => by rw [← htk, List.getElem?_take, if_pos hi]
          by_cases h3 : i < k * size
          · rw [if_pos h3]
            split
            · exact hi i h3
            · split
              · rfl
              · exact hi i h3
          · rw [if_neg h3]
            rw [if_neg (by omega), if_neg (by omega)]
            exact (List.getElem?_eq_none (by omega)).symm
    | prow ty size k xs =>
      obtain ⟨ys, ⟨hl, ho2⟩, hc⟩ := hB
      have e1 := hcy.len
      have e2 := hc.len
      have e3 : off + 1 ≤ (xs.map AV.p).length := hle
      rcases ho2 with ⟨e, _⟩ | ⟨g', cap, cur, e, hbg, hh, hkc, hcm, hcs, htk⟩
      · rw [e] at hgv; simp [zU] at hgv
      · have eg : g' = g := by rw [e] at hgv; simpa [zU] using hgv
        subst eg
        have hsz : k * size ≤ cur.size := by rw [hcs]; exact Nat.mul_le_mul_right _ hkc
        refine ⟨cur, ty, hh, by omega, fun w' hgr hh' => ⟨splice ys off (a.eval y).cells.toList, ⟨by rw [wG (by omega)]; exact hl, .inr ⟨g', cap, _, e, hbg, hh', hkc, hcm, ?_, ?_⟩⟩, (hc.splice hcy (by rw [hlen]; exact hle)).keep (keeps hgr)⟩⟩
        · simp only [List.size_toArray]
          rw [wG (by simp only [Array.length_toList] at *; omega)]
          simpa using hcs
        · apply List.ext_getElem?
          intro i
          rw [List.getElem?_take]
          rw [xV (by simp only [Array.length_toList] at *; omega), xV (by omega)]
          have hi : ∀ (i : Nat), i < k * size → cur.toList[i]? = ys[i]? := fun i hi => by rw [← htk, List.getElem?_take, if_pos hi]
          by_cases h3 : i < k * size
          · rw [if_pos h3]
            split
            · exact hi i h3
            · split
              · rfl
              · exact hi i h3
          · rw [if_neg h3]
            rw [if_neg (by omega), if_neg (by omega)]
            exact (List.getElem?_eq_none (by omega)).symm
  obtain ⟨cur, ty, hh, hfit, hfin⟩ := key
  have hst := run_storeCells_at P g off ty (a.eval y).cells.toList 0 cur w hh (by simpa using hfit) hcy.one
  have hsz : (a.eval y).cells.size = 1 := by have := hcy.len; rw [hlen] at this; simpa using this
  have hrun : (execOp a.eval o).run P w = .ok .skip (w.setRow g (splice cur.toList off (a.eval y).cells.toList).toArray) := by
    unfold execOp
    rw [ho]
    simp only [hv, Instr.storeAt, Instr.sureAddr, storeVar, Sem.run_bind, Sem.run_pure, Result.andThen_ok, hm, hsz, ne_eq, not_true_eq_false, if_false]
    simp only [Nat.add_zero] at hst
    rw [hst]
    rfl
  have hgr : w.grownBy (w.setRow g (splice cur.toList off (a.eval y).cells.toList).toArray) (some g) := ⟨rfl, rfl, rfl, by simp, fun k _ hk => setRow_other w g k _ (fun e => hk (by rw [e]))⟩
  unfold Oper.wp
  rw [hrun]
  show K (a.put o.dst undef) _
  rw [hd]
  exact hK ρ a _ (hs.turn hb hgv hgr hfr (hfin _ hgr (setRow_heap w g cur _ ty _ hh)))
theorem w_storeO {id off id2 : Nat} {b b2 : Blk} {agg : Bool} [h : TyA P t agg 1] (ho : o.op = .store t x y) (hx : S.get x = .ptr id off) (hb : S.blk id = some b) (hy : S.get y = .own id2) (hb2 : S.blk id2 = some b2) (hrow : b2.isRow = true)
    (hle : off + 1 ≤ b.xs.length) (hlb : b.lentB = false) (hd : o.dst = none) : Step P n o S { S with s := putL S.s id (b.setXs (splice b.xs off [AV.own id2])) } :=
  s_storeO ho hx hb hy hb2 hrow h.sz hle hlb hd
end
theorem givesRowV {P : Program} {fn : Func} {S : AS} {t id e sz : Nat} {es : List PV} (hr : fn.results = #[.tmp t]) (ht : S.tmp t = .own id) (hb : S.blk id = some (qF e sz es)) : ∃ S', Sub S S' ∧ GivesV P fn S' (.row e sz es.length (flat es)) :=
  ⟨_, (vX hb (rowV_alike' e sz es)).sub, .row hr ht (by rw [AS.xE, if_pos rfl])⟩
end Go.Proofs.YtmfbamiciieooaaGreatDoor
/- Appending to a slice cut to its length: s[:n:n]. Generic over the program. -/
namespace Go.Proofs.YtmfbamiciieooaaGreatDoor
set_option maxRecDepth 100000
set_option maxHeartbeats 16000000
open Go Go.RowKit
set_option linter.unusedSimpArgs false
theorem RepL.append {M : Nat → Nat → Prop} {w : World} {xs xs' : List PV} {ys ys' : List Value} (h : RepL M w xs ys) (h' : RepL M w xs' ys') : RepL M w (xs ++ xs') (ys ++ ys') :=
  ⟨by rw [List.length_append, List.length_append, h.len, h'.len], fun i c v h1 h2 => by
    by_cases hi : i < xs.length
    · rw [List.getElem?_append_left hi] at h1
      rw [List.getElem?_append_left (by rw [h.len]; exact hi)] at h2
      exact h.each i c v h1 h2
    · rw [List.getElem?_append_right (by omega)] at h1
      rw [List.getElem?_append_right (by rw [h.len]; omega), h.len] at h2
      exact h'.each _ c v h1 h2, fun v hv => by
    rcases List.mem_append.1 hv with hv | hv
    · exact h.one v hv
    · exact h'.one v hv⟩
theorem cellsA_pure {M : Nat → Nat → Prop} {ρ : Nat → Value} {w : World} {xs : List PV} {ys : List Value} (h : yA M ρ w (xs.map AV.p) ys) : RepL M w xs ys :=
  ⟨by simpa using h.len, fun i c v h1 h2 => qO (h.each i (.p c) v (by rw [List.getElem?_map, h1]; rfl) h2), h.one⟩
theorem rep_ownsRow {M : Nat → Nat → Prop} {w w' : World} {e sz : Nat} {v : Value} {k : Nat} {es : List PV} {us : List Value} (hM : ∀ k c, M k c → k < w.heap.size) (h : w'.ownsRow w.heap.size e sz v k us) (hk : k = es.length) (hu : RepL M w' (flat es) us) : Rep M w' (.sl es) v := by
  rcases h.2 with ⟨rfl, h0⟩ | ⟨g, cap, cur, rfl, hg, hh, hkc, hcm, hcs, htk⟩
  · have : es = [] := List.eq_nil_of_length_eq_zero (by omega)
    subst this
    exact .nil
  · refine .sl es g 0 k cap us hk hu.len (fun j y hy => ?_) hu.each hu.one (fun j hj hm => ?_) (Array.getElem?_eq_some_iff.1 hh).1 hkc hcm
    · rw [Nat.zero_add, cell_of_row w' g j cur e (0, 0) hh]
      rw [← htk, List.getElem?_take] at hy
      split at hy
      · simpa using hy
      · cases hy
    · have := hM _ _ hm
      omega
section
variable {P : Program} {n : Nat} {ops : Array Oper} {S : AS} {K : Exit → AS → Prop}
theorem zY.appTight {o1 o2 o3 : Oper} {rest : List Oper} {d1 d2 d3 t e sz by_ : Nat} {x y xh xm : Operand} {z : Value} {es bs : List PV} {k2 k3 : IntKind} {h m : Int} {agg : Bool} [ht : Und P t (.slice e)] [hi : InfoA P e z sz by_] [he : TyA P e agg sz]
    (h1 : o1.op = .slice t x none (some xh) (some xm)) (g1 : o1.guard = none) (e1 : o1.dst = some d1)
    (h2 : o2.op = .move y) (g2 : o2.guard = none) (e2 : o2.dst = some d2)
    (h3 : o3.op = .call { callee := .builtin .append, args := #[.tmp d1, .tmp d2], argTypes := #[t, t] }) (g3 : o3.guard = none) (e3 : o3.dst = some d3)
    (hx : S.get x = .p (.sl es)) (hh : S.get xh = .p (.val (.int k2 h))) (hm : S.get xm = .p (.val (.int k3 m))) (hhe : h = es.length) (hme : m = es.length) (hy : S.get y = .p (.sl bs)) (hne : d2 ≠ d1) (hyd : (S.put d1 .any).get y = .p (.sl bs))
    (hn1 : d1 < n) (hn2 : d2 < n) (hn3 : d3 < n) (hes : ∀ e ∈ es, e.cells.length = sz) (hbs : ∀ e ∈ bs, e.cells.length = sz)
    (hlim : (es.length + bs.length) * by_ ≤ 140737488355328 ∧ es.length + bs.length ≤ maxLen) (hzs : z.cells.size = sz) (hsz : 0 < sz)
    (hr : zY P n ops rest (((S.put d1 .any).put d2 (.p (.sl bs))).put d3 (.p (.sl (es ++ bs)))) K) : zY P n ops (o1 :: o2 :: o3 :: rest) S K := by
  subst hhe hme
  intro M w0 ρ a w Q hs hK
  obtain ⟨i, hi1, hi2⟩ := Option.map_eq_some_iff.1 hi.h
  simp only [Prod.mk.injEq] at hi2
  obtain ⟨hz, hisz, hiby⟩ := hi2
  have hel : P.elem t = e := by simp [Program.elem, ht.h]
  have ht2 : P.underlying t = some (.slice (P.elem t)) := by rw [hel]; exact ht.h
  have r1 := yR hs hx
  have r2 := hs.val hh
  have r3 := hs.val hm
  -- the slice cut to its length
  have key : ∃ v1, (execOp a.eval o1).run P w = .ok (.value v1) w ∧ (((∃ b, v1 = .slice b 0 0) ∧ es = []) ∨ ∃ g off ys, v1 = .slice (some ⟨g, off, none⟩) es.length es.length ∧ RepL (Mut M S ρ) w (flat es) ys ∧ (∀ v ∈ ys, v.oneCell' = true) ∧ (∀ (j : Nat) y, ys[j]? = some y → w.cell? ⟨g, off + j, none⟩ = some y) ∧ (∀ j, j < ys.length → ¬ Mut M S ρ g (off + j)) ∧ g < w.heap.size ∧ es.length ≤ maxLen) := by
    rcases rep_sl r1 with ⟨⟨b, hv⟩, h0⟩ | ⟨g, off, cap, ys, hv, hly, hcell, hM, hgl, hcap, hmx⟩
    · subst h0
      refine ⟨.slice b 0 0, ?_, .inl ⟨⟨b, rfl⟩, rfl⟩⟩
      unfold execOp
      rw [h1]
      simp only [Option.map_some, Option.map_none, hv, r2, r3, Sem.run_bind, run_sliceAt_slice w t _ _ _ _ ht2, run_slice_hm w t b 0 0 ht2 _ _ (([] : List PV).length : Int) (([] : List PV).length : Int) (by simp) (by simp) (by simp)]
      rw [hel, he.sz w]
      rfl
    · refine ⟨.slice (some ⟨g, off, none⟩) es.length es.length, ?_, .inr ⟨g, off, ys, rfl, hly, hly.one, hcell, hM, hgl, by omega⟩⟩
      unfold execOp
      rw [h1]
      simp only [Option.map_some, Option.map_none, hv, r2, r3, Sem.run_bind, run_sliceAt_slice w t _ _ _ _ ht2, run_slice_hm w t (some ⟨g, off, none⟩) es.length cap ht2 _ _ (es.length : Int) (es.length : Int) (by omega) (by omega) (by omega)]
      rw [hel, he.sz w]
      simp [sliced, Result.andThen, Addr.add]
  obtain ⟨v1, hr1, hv1⟩ := key
  unfold wpList
  rw [if_pos (by simp [Region.wanted, g1])]
  refine .inl ?_
  unfold Oper.wp
  rw [hr1]
  show wpList P ops Q (o2 :: o3 :: rest) (a.put o1.dst v1) w
  rw [e1]
  have hs1 : Sat M n w0 (S.put d1 .any) ρ (a.put (some d1) v1) w := hs.put hn1 (.any v1)
  have ry := yR hs1 hyd
  unfold wpList
  rw [if_pos (by simp [Region.wanted, g2])]
  refine .inl ?_
  unfold Oper.wp
  have hr2 : (execOp (a.put (some d1) v1).eval o2).run P w = .ok (.value ((a.put (some d1) v1).eval y)) w := by
    unfold execOp
    rw [h2]
    rfl
  rw [hr2]
  show wpList P ops Q (o3 :: rest) ((a.put (some d1) v1).put o2.dst _) w
  rw [e2]
  generalize hvy : (a.put (some d1) v1).eval y = vy at ry ⊢
  have hs2 := hs1.put (d := d2) hn2 (.p ry)
  have t1 : ((a.put (some d1) v1).put (some d2) vy).eval (.tmp d1) = v1 := by
    have : d1 < a.tmps.size := by rw [hs.size]; exact hn1
    simp [Act.eval, Act.put, Array.getD_eq_getD_getElem?, Array.getElem?_setIfInBounds, hne, this]
  have t2 : ((a.put (some d1) v1).put (some d2) vy).eval (.tmp d2) = vy := by
    have : d2 < a.tmps.size := by rw [hs.size]; exact hn2
    simp [Act.eval, Act.put, Array.getD_eq_getD_getElem?, Array.getElem?_setIfInBounds, this]
  obtain ⟨us, hus, hnews⟩ := news_p (ρ := ρ) ry hbs
  have hMut : Mut M ((S.put d1 .any).put d2 (.p (.sl bs))) ρ = Mut M S ρ := rfl
  have main : ∀ v' w', (Builtin.append_ #[t, t] o3.type #[v1, vy]).run P w = .ok v' w' → Below w.heap.size w w' → Rep (Mut M S ρ) w' (.sl (es ++ bs)) v' → wpList P ops Q (o3 :: rest) ((a.put (some d1) v1).put (some d2) vy) w := by
    intro v' w' hr3 hb hrep
    unfold wpList
    rw [if_pos (by simp [Region.wanted, g3])]
    refine .inl ?_
    unfold Oper.wp execOp
    simp only [h3, resolve, invoke, builtin, Sem.run_bind, Sem.run_pure, Result.andThen_ok, List.map_toArray, List.map_cons, List.map_nil, t1, t2, hr3]
    show wpList P ops Q rest (((a.put (some d1) v1).put (some d2) vy).put o3.dst v') w'
    rw [e3]
    exact hr M w0 ρ _ w' Q ((hs2.ext hb).put hn3 (.p hrep)) hK
  have hflat : flat (es ++ bs) = flat es ++ flat bs := by simp [flat]
  have hlt : ∀ k c, Mut M S ρ k c → k < w.heap.size := fun k c hk => Mut.lt hs hk
  have grown : ∀ v' w' ys, w.grownBy w' none → w'.ownsRow w.heap.size e sz v' (es.length + bs.length) (ys ++ us) → RepL (Mut M S ρ) w (flat es) ys → Rep (Mut M S ρ) w' (.sl (es ++ bs)) v' := by
    intro v' w' ys hg hown hys
    have hk : Keeps (Mut M S ρ) w w' := ⟨hg.size, fun k c hk _ => World.cell?_of_block (w := w) (hg.block k hk (by simp))⟩
    have hus2 : RepL (Mut M S ρ) w (flat bs) us := cellsA_pure (hMut ▸ hus)
    refine rep_ownsRow hlt hown (by rw [List.length_append]) ?_
    rw [hflat]
    exact (hys.keep hk).append (hus2.keep hk)
  rcases hv1 with ⟨⟨b, hv1⟩, h0⟩ | ⟨g, off, ys, hv1, hys, hone, hcell, hM, hgl, hmx⟩
  · subst h0
    cases b with
    | some b =>
      rcases Nat.eq_zero_or_pos bs.length with hb | hb
      · have hb0 : bs = [] := List.eq_nil_of_length_eq_zero hb
        subst hb0
        refine main v1 w ?_ (Below.refl _ _) ?_
        · have hv : vy = .slice none 0 0 ∨ ∃ ad c, vy = .slice (some ad) 0 c := by
            rcases hnews with ⟨hyv, _, _⟩ | ⟨ad, c, hyv, _⟩
            · exact .inl hyv
            · exact .inr ⟨ad, c, hyv⟩
          rw [hv1]
          refine run_append_nothing w t t o3.type e i ht.h hi1 _ _ _ (Nat.le_refl _) _ ?_
          rcases hv with hv | ⟨ad, c, hv⟩ <;> rw [hv]
          · exact .ofNil w ht.h 0
          · exact .ofSlice w ht.h ad 0 c [] (by simp) (fun j u h => by simp at h) (fun u h => by simp at h)
        · rw [hv1]
          exact .nil
      · rcases hnews with ⟨hyv, hk0, hu0⟩ | ⟨ad, c, hyv, hul, hcell2⟩
        · omega
        · obtain ⟨v', w', hr, hown', hg⟩ := run_append_arg_grows (P := P) w t o3.type e i z sz by_ ht.h hi1 hz hisz hiby hzs hsz b 0 0 [] (by simp) (fun j u hu => by simp at hu) ad bs.length c us hul hcell2 (by omega) (by simpa using hlim.2) (by simpa using hlim.1)
          rw [← hv1, ← hyv] at hr
          exact main v' w' hr ⟨hg.os, hg.tape, hg.output, hg.size, fun k hk => hg.block k hk (by simp)⟩ (grown v' w' [] hg (by simpa using hown') ⟨rfl, fun i c v h => by simp [flat] at h, fun v h => by simp at h⟩)
    | none =>
    have hown : ∀ B, w.ownsRow B e sz (.slice none 0 0) 0 [] := fun B => ⟨by simp, .inl ⟨rfl, rfl⟩⟩
    rcases hnews with ⟨hyv, hk0, hu0⟩ | ⟨ad, c, hyv, hul, hcell2⟩
    · have hb0 : bs = [] := List.eq_nil_of_length_eq_zero hk0
      subst hb0
      refine main (.slice none 0 0) w ?_ (Below.refl _ _) .nil
      rw [hyv, hv1]
      exact run_append_owned_none (P := P) w 0 t o3.type e i sz ht.h hi1 (.slice none 0 0) 0 [] (hown 0)
    · obtain ⟨v', w', hr, hown', hg, _, _⟩ := run_append_own_at (P := P) w w.heap.size t o3.type e i z sz by_ ht.h hi1 hz hisz hiby hzs hsz (.slice none 0 0) 0 [] (hown _) ad bs.length c us hul hcell2 hus.one (by simpa using hlim.2) (by simpa using hlim.1) (Nat.le_refl _)
      rw [← hv1, ← hyv] at hr
      exact main v' w' hr ⟨hg.os, hg.tape, hg.output, hg.size, fun k hk => hg.block k hk (fun h => by cases h)⟩ (grown v' w' [] hg (by simpa using hown') ⟨rfl, fun i c v h => by simp [flat] at h, fun v h => by simp at h⟩)
  · have hyl : ys.length = es.length * sz := by rw [hys.len, flat_len hes]
    rcases Nat.eq_zero_or_pos bs.length with hb | hb
    · have hb0 : bs = [] := List.eq_nil_of_length_eq_zero hb
      subst hb0
      refine main v1 w ?_ (Below.refl _ _) ?_
      · have hv : vy = .slice none 0 0 ∨ ∃ ad c, vy = .slice (some ad) 0 c := by
          rcases hnews with ⟨hyv, _, _⟩ | ⟨ad, c, hyv, _⟩
          · exact .inl hyv
          · exact .inr ⟨ad, c, hyv⟩
        rw [hv1]
        refine run_append_nothing w t t o3.type e i ht.h hi1 _ _ _ (Nat.le_refl _) _ ?_
        rcases hv with hv | ⟨ad, c, hv⟩ <;> rw [hv]
        · exact .ofNil w ht.h 0
        · exact .ofSlice w ht.h ad 0 c [] (by simp) (fun j u h => by simp at h) (fun u h => by simp at h)
      · rw [hv1, List.append_nil]
        exact .sl es g off es.length es.length ys rfl hys.len hcell hys.each hone hM hgl (Nat.le_refl _) hmx
    · rcases hnews with ⟨hyv, hk0, hu0⟩ | ⟨ad, c, hyv, hul, hcell2⟩
      · omega
      · obtain ⟨v', w', hr, hown', hg⟩ := run_append_arg_grows (P := P) w t o3.type e i z sz by_ ht.h hi1 hz hisz hiby hzs hsz ⟨g, off, none⟩ es.length es.length ys hyl (fun j u hu => by rw [add_lit]; exact hcell j u hu) ad bs.length c us hul hcell2 (by omega) hlim.2 hlim.1
        rw [← hv1, ← hyv] at hr
        exact main v' w' hr ⟨hg.os, hg.tape, hg.output, hg.size, fun k hk => hg.block k hk (by simp)⟩ (grown v' w' ys hg hown' hys)
/-- A call of a closure that turns nothing, by its contract: a value. -/
theorem w_callClo {o : Oper} {d k : Nat} {x : Operand} {f : FuncId} {args : Array Operand} {ts : Array TypeId} {ys : List PV} {b : Blk} {r : PV} [hc : HasFn P f] (hf : FnE P f (ys.map AV.p ++ [.ptr 1000 0]) [b] (.ret (.p r)) [b])
    (ho : o.op = .call { callee := .value x, args := args, argTypes := ts }) (hx : S.get x = .clo f [k]) (hargs : args.toList.map S.get = ys.map AV.p) (hb : S.blk k = some b) (hren : b.ren (sig [k]) = b) (hok : b.okE 1 = true) (hd : o.dst = some d) (hn : d < n) :
    zX P n o S [k] (.p r) none := by
  intro S2 hg hbk M w0 ρ a w KK Q hs hK
  have hbk2 : S2.blk k = some b := by rw [hbk k (by simp), hb]
  have hx2 : S2.get x = .clo f [k] := by rw [hg x (by rw [ho]; simp [Op.operands, Call.operands]), hx]
  have ha2 : args.toList.map S2.get = ys.map AV.p := by
    rw [← hargs]
    exact List.map_congr_left fun y hy => hg y (by rw [ho]; simp [Op.operands, Call.operands]; exact .inr (by simpa using hy))
  have hh : Hands S2 [k] [b] := vH (by simp) (by simpa using hok) ⟨by rw [hbk2, hren], trivial⟩
  have st := zF.eRet (P := P) (n := n) (o := o) (S := S2) (K := fun _ _ => False) (N := fun S1 => S1 = (S2.after [k] [b]).put d (.p r)) [k] hf hd hn (enters_clo ho hx2) (by
    rw [ha2, List.map_append, List.map_map]
    rfl) hh rfl (by simpa using hok) (by
    rw [List.all_append]
    simp only [List.all_map, Bool.and_eq_true, List.all_cons, List.all_nil]
    exact ⟨List.all_eq_true.2 fun _ _ => rfl, rfl, trivial⟩) rfl rfl
  refine st M w0 ρ a w KK Q hs ?_ ?_
  · intro S1 ρ' a' w' hN hs'
    subst hN
    rw [hd] at hK
    refine hK ρ' a' w' ?_
    refine xS.sat (S := (S2.after [k] [b]).put d (.p r)) (S' := S2.put d (.p r)) ⟨fun _ => rfl, fun j => ?_⟩ hs'
    show (look (vJ [k] [b.ren (sig [k])] S2.s) j = none ∧ S2.blk j = none) ∨ ∃ b1 b2, look (vJ [k] [b.ren (sig [k])] S2.s) j = some b1 ∧ S2.blk j = some b2 ∧ Alike b1 b2
    rw [hren]
    by_cases hj : k = j
    · subst hj
      exact .inr ⟨b, b, by simp [vJ, qH], hbk2, .refl b⟩
    · have e : look (vJ [k] [b] S2.s) j = S2.blk j := by simp [vJ, qH, hj, AS.blk]
      rw [e]
      cases h : S2.blk j with
      | none => exact .inl ⟨rfl, rfl⟩
      | some c => exact .inr ⟨c, c, rfl, rfl, .refl c⟩
  · intro e S' _ _ _ h
    exact h.elim
/-- A call of a function value, by its contract: a value. -/
theorem w_callFV {o : Oper} {d : Nat} {x : Operand} {f : FuncId} {args : Array Operand} {ts : Array TypeId} {ys : List PV} {r : PV} [hc : HasFn P f] (hf : Fn P f ys (.p r))
    (ho : o.op = .call { callee := .value x, args := args, argTypes := ts }) (hx : S.get x = .p (.val (.func (.func f) #[] #[]))) (hargs : args.toList.map S.get = ys.map AV.p) (hd : o.dst = some d) (hn : d < n) :
    zX P n o S [] (.p r) none := by
  intro S2 hg _ M w0 ρ a w KK Q hs hK
  have hx2 : S2.get x = .p (.val (.func (.func f) #[] #[])) := by rw [hg x (by rw [ho]; simp [Op.operands, Call.operands]), hx]
  have ha2 : args.toList.map S2.get = ys.map AV.p := by
    rw [← hargs]
    exact List.map_congr_left fun y hy => hg y (by rw [ho]; simp [Op.operands, Call.operands]; exact .inr (by simpa using hy))
  have st := zF.eRet (P := P) (n := n) (o := o) (S := S2) (K := fun _ _ => False) (N := fun S1 => S1 = (S2.after [] []).put d (.p r)) [] (FnE.ofFn hf) hd hn (enters_val ho hx2) (by
    rw [ha2, List.map_map]
    rfl) (vH (by simp) (by simp) trivial) rfl (by simp) (by
    simp only [List.all_map]
    exact List.all_eq_true.2 fun _ _ => rfl) rfl rfl
  refine st M w0 ρ a w KK Q hs ?_ ?_
  · intro S1 ρ' a' w' hN hs'
    subst hN
    rw [hd] at hK
    exact hK ρ' a' w' hs'
  · intro e S' _ _ _ h
    exact h.elim
end
end Go.Proofs.YtmfbamiciieooaaGreatDoor
/- A struct's literal of which parts are own rows, stored into a new variable; appending to nil. Generic over the program. -/
namespace Go.Proofs.YtmfbamiciieooaaGreatDoor
set_option maxRecDepth 100000
set_option maxHeartbeats 16000000
open Go Go.RowKit
set_option linter.unusedSimpArgs false
theorem cells_own {M : Nat → Nat → Prop} {n : Nat} {w0 : Home} {w : World} {S : AS} {ρ : Nat → Value} {a : Act} (hs : Sat M n w0 S ρ a w) {id2 : Nat} {b2 : Blk} {v : Value} (hb2 : S.blk id2 = some b2) (hrow : b2.isRow = true) (h2 : yY (Mut M S ρ) ρ w (.own id2) v) :
    yA (Mut M S ρ) ρ w (AV.own id2).xH v.cells.toList := own_cells hs hb2 hrow h2
section
variable {P : Program} {n : Nat} {ops : Array Oper} {S : AS} {K : Exit → AS → Prop}
theorem w_makeV1 {o : Oper} {d t e sz by_ m : Nat} {k : IntKind} {z : Value} {xl xc : Operand} [ht : Und P t (.slice e)] [hi : InfoA P e z sz by_] (ho : o.op = .makeSlice t xl xc) (hl : S.get xl = .p (.val (.int k (m : Int)))) (hc : S.get xc = .p (.val (.int k (m : Int)))) (hlim : m * sz ≤ 16777216 ∧ by_ * m ≤ 281474976710656 ∧ m ≤ maxLen)
    (hzs : z.cells.size = sz) (hsz : 0 < sz) (hzp : [z] = z.cells.toList) (h1 : z.cells.toList.all (fun u => u.oneCell') = true) (hd : o.dst = some d) (hn : d < n) : zX P n o S [] (.own d) (some (qF e sz (List.replicate m (.val z)))) :=
  w_makeV ho hl hc hlim hzs hsz (zp := .val z) (by rw [← hzp]; rfl) h1 hd hn
theorem w_makeVN {o : Oper} {d t e sz by_ m : Nat} {k : IntKind} {z : Value} {xl xc : Operand} [ht : Und P t (.slice e)] [hi : InfoA P e z sz by_] (ho : o.op = .makeSlice t xl xc) (hl : S.get xl = .p (.val (.int k (m : Int)))) (hc : S.get xc = .p (.val (.int k (m : Int)))) (hlim : m * sz ≤ 16777216 ∧ by_ * m ≤ 281474976710656 ∧ m ≤ maxLen)
    (hzs : z.cells.size = sz) (hsz : 0 < sz) (h1 : z.cells.toList.all (fun u => u.oneCell') = true) (hd : o.dst = some d) (hn : d < n) : zX P n o S [] (.own d) (some (qF e sz (List.replicate m (.agg (z.cells.toList.map PV.val))))) :=
  w_makeV ho hl hc hlim hzs hsz (zp := .agg (z.cells.toList.map PV.val)) rfl h1 hd hn
end
theorem sub_frzE {S : AS} (id e sz : Nat) (es : List PV) (hb : S.blk id = some (qF e sz es)) : Sub S (S.frz id (.sl es)) := sub_frz hb
end Go.Proofs.YtmfbamiciieooaaGreatDoor
/- Rows of slices that own their rows: a cell read as a slice that nobody turns; a nil in a cell as an own row; code in two parts with a frame between. Generic over the program. -/
namespace Go.Proofs.YtmfbamiciieooaaGreatDoor
set_option maxRecDepth 100000
set_option maxHeartbeats 16000000
open Go Go.RowKit
set_option linter.unusedSimpArgs false
section
variable {P : Program} {n : Nat} {o : Oper} {S : AS} {d : Nat} {t : TypeId} {x : Operand}
end
/-- a goal that a walk leaves -/
def Hold (p : Prop) : Prop := p
theorem Hold.go {p : Prop} (h : p) : Hold p := h
theorem zZ.hold {P : Program} {n id : Nat} {ops : Array Oper} {d : Bool} {S : AS} {c2 : Code} {K : Exit → AS → Prop} (h : Hold (zZ P n (.seq (.region id ops d) c2) S K)) : zZ P n (.seq (.region id ops d) c2) S K := h
attribute [irreducible] Hold
end Go.Proofs.YtmfbamiciieooaaGreatDoor
/- Iterators: code that calls yield between stretches that only make new values. Generic over the program. -/
namespace Go.Proofs.YtmfbamiciieooaaGreatDoor
set_option maxRecDepth 100000
set_option maxHeartbeats 16000000
open Go Go.RowKit
set_option linter.unusedSimpArgs false
set_option linter.unusedVariables false
section
variable {P : Program} {n : Nat} {S S' : AS} {M : Nat → Nat → Prop} {h : Home} {Q : Exit → Act → World → Prop}
/-- a way out, its end told in full -/
def WE (n : Nat) (M : Nat → Nat → Prop) (h : Home) (Q : Exit → Act → World → Prop) (e : Exit) (S : AS) : Prop := e ≠ .outgrown ∧ (∀ c, e ≠ .panic c) ∧ ∀ ρ a w, Sat M n h S ρ a w → Q e a w
/-- code of a frame at a home that is told, its end told in full -/
def WC (P : Program) (n : Nat) (c : Code) (S : AS) (M : Nat → Nat → Prop) (h : Home) (Q : Exit → Act → World → Prop) : Prop := ∀ ρ a w, Sat M n h S ρ a w → c.wp P Q a w
theorem bare_of {e e' : Exit} (h : bare e = e') (hn : ∀ c, e' ≠ .panic c) : e = e' := by
  cases e <;> first | exact h | exact absurd h.symm (hn _)
theorem WC.block {id : Nat} {c : Code} (hc : WC P n c S M h (Exit.inBlock id Q)) : WC P n (.block id c) S M h Q := fun ρ a w hs => wp_block (hc ρ a w hs)
theorem WC.run {c : Code} (hc : WC P n c S M h Q) {ρ : Nat → Value} {a : Act} {w : World} (hs : Sat M n h S ρ a w) : c.wp P Q a w := hc ρ a w hs
theorem WC.mk {c : Code} (hc : ∀ ρ a w, Sat M n h S ρ a w → c.wp P Q a w) : WC P n c S M h Q := hc
theorem WC.sub {c : Code} (hs : Sub S S') (hc : WC P n c S' M h Q) : WC P n c S M h Q := fun ρ a w h1 => by
  obtain ⟨ρ', h2⟩ := hs M n h ρ a w h1
  exact hc ρ' a w h2
/-- The caller's side of a loop over an iterator: J i Z w: i rounds are over; the blocks Z are the caller's to turn. -/
structure Yields (P : Program) (l : Nat) (M0 : Nat → Nat → Prop) (N : Nat) (ys : Nat → List PV) (J : Nat → (Nat → Prop) → World → Prop) : Prop where
  lt : ∀ i Z w k, J i Z w → Z k → k < w.heap.size
  ext : ∀ i Z w w', J i Z w → Below w.heap.size w w' → J i Z w'
  round : ∀ i Z w (vs : List Value), i < N → J i Z w → vs.length = (ys i).length → (∀ (j : Nat) c v, (ys i)[j]? = some c → vs[j]? = some v → Rep (fun k c => M0 k c ∨ Z k) w c v) →
    YieldAt Fence.wide 0 P l vs.toArray w fun e w' => e = .returned (.bool true) ∧ ∃ Z', J (i + 1) Z' w' ∧ w.heap.size ≤ w'.heap.size ∧ (∀ k, k < w.heap.size → ¬ Z k → w'.heap[k]? = w.heap[k]?) ∧ ∀ k, Z' k → Z k ∨ w.heap.size ≤ k
theorem run_yieldOp {o : Oper} {x : Operand} {args : Array Operand} {ts : Array TypeId} {l : Nat} {a : Act} {w : World} (ho : o.op = .call { callee := .value x, args := args, argTypes := ts }) (hx : a.eval x = .func (.yield l) #[] #[]) :
    (execOp a.eval o).run P w = (Instr.yield l (args.map a.eval)).run P w := by
  unfold execOp
  rw [ho]
  simp [resolve, Deferred.ofValue, hx, invoke]
/-- rounds, no more than N -/
theorem wp_loop_iter {c : Code} {N i0 : Nat} {a : Act} {w : World} (I : Nat → Act → World → Prop) (h0 : I i0 a w) (hi0 : i0 ≤ N) (round : ∀ i a w, i ≤ N → I i a w → c.wp P (Exit.then (fun a' w' => ∃ j, i < j ∧ j ≤ N ∧ I j a' w') Q) a w) : (Code.loop c).wp P Q a w := by
  intro b k cs
  have key : ∀ (m i : Nat) (a : Act) (w : World), N - i = m → i ≤ N → I i a w → ∃ e a' w', Q e a' w' ∧ Arrives P (lone (b.at a (.code c :: .inLoop c :: k)) cs w) b k cs e a' w' := by
    intro m
    induction m using Nat.strongRecOn with
    | _ m ih =>
      intro i a w hm hi hI
      obtain ⟨e, a₁, w₁, hq, harr⟩ := round i a w hi hI b (.inLoop c :: k) cs
      cases e with
      | normal =>
        obtain ⟨j, hlt, hj, hI'⟩ := hq
        obtain ⟨e₂, a₂, w₂, hq₂, harr₂⟩ := ih (N - j) (by omega) j a₁ w₁ rfl hj hI'
        exact ⟨e₂, a₂, w₂, hq₂, .of_steps (Steps.trans harr (.one step_inLoop)) harr₂⟩
      | exit id => exact ⟨_, a₁, w₁, hq, .pass (x := .inLoop c) rfl (fun _ _ => .inl (by simp)) harr⟩
      | goto l => exact ⟨_, a₁, w₁, hq, .pass (x := .inLoop c) rfl (fun _ _ => .inl (by simp)) harr⟩
      | ret => exact ⟨_, a₁, w₁, hq, .pass (x := .inLoop c) rfl (fun _ _ => .inl (by simp)) harr⟩
      | panic ch => exact ⟨_, a₁, w₁, hq, .pass (x := .inLoop c) rfl (fun _ _ => .inl (by simp)) harr⟩
      | outgrown => exact ⟨_, a₁, w₁, hq, .pass (x := .inLoop c) rfl (fun _ _ => .inl (by simp)) harr⟩
  obtain ⟨e, a', w', hq, harr⟩ := key _ i0 a w rfl hi0 h0
  exact ⟨e, a', w', hq, .of_steps (.one step_loop) harr⟩
end
attribute [irreducible] WC WE
end Go.Proofs.YtmfbamiciieooaaGreatDoor
/- A loop over an iterator: the caller's side. Generic over the program. -/
namespace Go.Proofs.YtmfbamiciieooaaGreatDoor
set_option maxRecDepth 100000
set_option maxHeartbeats 16000000
open Go Go.RowKit
set_option linter.unusedSimpArgs false
set_option linter.unusedVariables false
section
variable {P : Program} {n : Nat} {S : AS} {M : Nat → Nat → Prop} {h : Home} {ρ : Nat → Value} {a : Act} {w : World}
/-- the same frame, other deferred calls -/
theorem Sat.withD (hs : Sat M n h S ρ a w) (D : List Deferred) : Sat M n { h with d := D } S ρ { a with defers := D } w :=
  ⟨⟨hs.below.os, hs.below.tape, hs.below.output, hs.below.size, hs.below.block⟩, hs.out, hs.tab, hs.size, rfl, hs.tmps, hs.blks, hs.mine, hs.fix, hs.free, hs.dist⟩
end
section
variable {P : Program} {n : Nat} {M : Nat → Nat → Prop} {h : Home} {ρ : Nat → Value} {a : Act} {w : World}
end
end Go.Proofs.YtmfbamiciieooaaGreatDoor
/- Loops over iterators, where the iterators' accesses and the rounds' may panic. Generic over the program. -/
namespace Go.Proofs.YtmfbamiciieooaaGreatDoor
set_option maxRecDepth 100000
set_option maxHeartbeats 16000000
open Go Go.RowKit
set_option linter.unusedSimpArgs false
set_option linter.unusedVariables false
/-! ### A round that may panic -/
section
variable {n : Nat} {P : Program}
def roundPostP (P : Program) (l : Nat) (R : Ending → World → Prop) : Exit → Act → World → Prop
  | .normal, _, w => ∃ v w', (Instr.endRound l none).run P w = .ok v w' ∧ R (.returned v) w'
  | .ret, _, w => ∃ v w', (Instr.endRound l (some .ret)).run P w = .ok v w' ∧ R (.returned v) w'
  | .panic chain, a, w => a.defers = [] ∧ R (.panicked chain) w
  | _, _, _ => False
theorem roundIn_of_wpP {l : Nat} {f : FuncId} {fn : Func} {tmps : Array Value} {assign body : Code} {w : World} {R : Ending → World → Prop} (hf : P.funcs[f]? = some fn)
    (h : assign.wpIn (Fence.wide.inRound l) n P (Exit.then (fun a₁ w₁ => ∃ w₂, (Instr.beginRound l).run P w₁ = .ok () w₂ ∧ body.wpIn (Fence.wide.inRound l) n P (roundPostP P l R) a₁ w₂) (fun _ _ _ => False)) { tmps := tmps, defers := [] } w) :
    RoundIn Fence.wide n P l f tmps assign body w R := by
  refine ⟨trivial, fun c cs hr => ?_⟩
  let b : Frame := { (default : Frame) with fn := f, kind := .normal, roundOf := some l }
  have hb0 : Frame.round l f tmps assign body .normal = b.atR { tmps := tmps, defers := [] } [.code assign, .beginRound, .code body] := by
    simp [Frame.round, Frame.atR, b]
  have hr' : (Fence.wide.inRound l).room ((c :: cs).length + 1 + n) := hr
  have hF' : (Fence.wide.inRound l).fn b.fn := trivial
  obtain ⟨e, a₁, w₁, hq, harr⟩ := h b [.beginRound, .code body] (c :: cs) rfl hF' hr'
  rw [← hb0] at harr
  cases e with
  | normal =>
    obtain ⟨w₂, hbr, hbody⟩ := hq
    have s1 : StepsIn (Machine.fenced P (Fence.wide.inRound l)) P (lone (b.atR a₁ [.beginRound, .code body]) (c :: cs) w₁) (lone (b.atR a₁ [.code body]) (c :: cs) w₂) :=
      .one (fenced_calm (fr := b.atR a₁ [.beginRound, .code body]) hF' hr' rfl) (stepR_beginRound rfl hbr)
    obtain ⟨e₂, a₂, w₃, hq₂, harr₂⟩ := hbody b [] (c :: cs) rfl hF' hr'
    cases e₂ with
    | normal =>
      obtain ⟨v, w₄, hend, hR⟩ := hq₂
      exact ⟨.returned v, w₄, hR, (StepsIn.trans harr s1).trans (StepsIn.trans harr₂ (.one (fenced_calm (fr := b.atR a₂ []) hF' hr' rfl) (stepR_round_end rfl rfl hend)))⟩
    | ret =>
      obtain ⟨v, w₄, hend, hR⟩ := hq₂
      obtain ⟨k₁, hs⟩ := harr₂.2 rfl
      exact ⟨.returned v, w₄, hR, (StepsIn.trans harr s1).trans (StepsIn.trans hs (.one (fenced_calm (fr := b.atR a₂ (.code .ret :: k₁)) hF' hr' rfl) (stepR_round_ret rfl rfl hend)))⟩
    | panic chain =>
      obtain ⟨hd, hR⟩ := hq₂
      obtain ⟨todo, hs⟩ := harr₂
      have hl : ({ b.atR a₂ todo with mode := .panicking chain } : Frame).leaving P w₃ (.panicked chain) := ⟨rfl, hd, fn, hf⟩
      exact ⟨.panicked chain, w₃, hR, (StepsIn.trans harr s1).trans (StepsIn.trans hs (.one (fenced_leaving hF' hr' hl) (step_leave_panicked hl)))⟩
    | exit id => exact hq₂.elim
    | goto t => exact hq₂.elim
    | outgrown => exact hq₂.elim
  | exit id => exact hq.elim
  | goto t => exact hq.elim
  | ret => exact hq.elim
  | panic chain => exact hq.elim
  | outgrown => exact hq.elim
/-! ### Code of a function's own frames -/
def wpAt (fid : FuncId) (P : Program) (c : Code) (Q : Exit → Act → World → Prop) (a : Act) (w : World) : Prop := ∀ (b : Frame) (k : List Item) (cs : List Frame), b.fn = fid → ∃ e a' w', Q e a' w' ∧ Arrives P (lone (b.at a (.code c :: k)) cs w) b k cs e a' w'
variable {fid : FuncId} {Q : Exit → Act → World → Prop} {a : Act} {w : World}
theorem wpAt.of {c : Code} (h : c.wp P Q a w) : wpAt fid P c Q a w := fun b k cs _ => h b k cs
theorem wpAt.seq {x y : Code} (h : wpAt fid P x (Exit.then (wpAt fid P y Q) Q) a w) : wpAt fid P (.seq x y) Q a w := by
  intro b k cs hb
  obtain ⟨e, a₁, w₁, hq, harr⟩ := h b (.code y :: k) cs hb
  cases e with
  | normal =>
    obtain ⟨e₂, a₂, w₂, hq₂, harr₂⟩ := hq b k cs hb
    exact ⟨e₂, a₂, w₂, hq₂, .of_steps (.head step_seq harr) harr₂⟩
  | exit id => exact ⟨_, a₁, w₁, hq, .of_steps (.one step_seq) (.pass (x := .code y) rfl (fun _ _ => .inl (by simp)) harr)⟩
  | goto l => exact ⟨_, a₁, w₁, hq, .of_steps (.one step_seq) (.pass (x := .code y) rfl (fun _ _ => .inl (by simp)) harr)⟩
  | ret => exact ⟨_, a₁, w₁, hq, .of_steps (.one step_seq) (.pass (x := .code y) rfl (fun _ _ => .inl (by simp)) harr)⟩
  | panic ch => exact ⟨_, a₁, w₁, hq, .of_steps (.one step_seq) (.pass (x := .code y) rfl (fun _ _ => .inl (by simp)) harr)⟩
  | outgrown => exact ⟨_, a₁, w₁, hq, .of_steps (.one step_seq) (.pass (x := .code y) rfl (fun _ _ => .inl (by simp)) harr)⟩
theorem wpAt.block {id : Nat} {c : Code} (h : wpAt fid P c (Exit.inBlock id Q) a w) : wpAt fid P (.block id c) Q a w := by
  intro b k cs hb
  obtain ⟨e, a₁, w₁, hq, harr⟩ := h b (.inBlock id :: k) cs hb
  cases e with
  | normal => exact ⟨.normal, a₁, w₁, hq, .head step_block (Steps.trans harr (.one step_inBlock))⟩
  | exit id' =>
    by_cases hid : id' = id
    · simp only [Exit.inBlock, hid, if_true] at hq
      exact ⟨.normal, a₁, w₁, hq, .head step_block (harr k (by simp [exitTo, hid]))⟩
    · simp only [Exit.inBlock, hid, if_false] at hq
      refine ⟨.exit id', a₁, w₁, hq, fun k' hk => .head step_block (harr k' ?_)⟩
      have : (id == id') = false := by simp; exact fun h => hid h.symm
      simp [exitTo, this, hk]
  | goto l => exact ⟨_, a₁, w₁, hq, fun k' hk => .head step_block (harr k' (by simp [gotoIn, hk]))⟩
  | ret => exact ⟨_, a₁, w₁, hq, .of_steps (.one step_block) harr⟩
  | panic ch => exact ⟨_, a₁, w₁, hq, .of_steps (.one step_block) harr⟩
  | outgrown => exact ⟨_, a₁, w₁, hq, .of_steps (b := b) (k := k) (cs := cs) (e := .outgrown) (.one step_block) harr⟩
/-- the loop's statement -/
theorem wpAt.range {g : Operand} {ps : Array Tmp} {assign body : Code} {l : Nat} {mark : List Deferred} {w₁ w₁' w₂ : World} {d : Deferred} {f : FuncId} {args : Array Value}
    (he : (Instr.enterLoop fid a.tmps ps assign body none).run P w = .ok (l, mark) w₁) (hres : (resolve a.eval (rangeCall g l) 0).run P w₁ = .ok d w₁') (hinv : (invoke d.target d.args).run P w₁' = .ok (.enter f args) w₂)
    (hcall : Calls P f args w₂ fun e w₃ => match e with
      | .returned _ => ∃ w₄, (Instr.endLoop l).run P w₃ = .ok none w₄ ∧ Q .normal { a with defers := mark ++ a.defers } w₄
      | .panicked chain => Q (.panic chain) { a with defers := mark ++ a.defers } w₃
      | .outgrown => False) : wpAt fid P (.rangeFunc g ps assign body) Q a w := by
  intro b0 k cs hb
  let b : Frame := { b0 with roundOf := none }
  have hat : ∀ a k, b0.at a k = b.atR a k := fun a k => by simp [Frame.at, Frame.atR, b]
  have he' : (Instr.enterLoop b.fn a.tmps ps assign body b.roundOf).run P w = .ok (l, mark) w₁ := by
    show (Instr.enterLoop b0.fn a.tmps ps assign body none).run P w = _
    rw [hb]; exact he
  have henter := stepR_rangeFunc (P := P) (b := b) (a := a) (k := k) (cs := cs) (w := w) he' hres hinv
  obtain ⟨e, w₃, fr, hR, hsteps, hfn, hleave⟩ := hcall (b.atR { a with defers := mark ++ a.defers } (.inRangeFunc l :: k) :: cs)
  cases e with
  | outgrown => exact hR.elim
  | returned v =>
    obtain ⟨w₄, hend, hj⟩ := hR
    refine ⟨.normal, _, w₄, hj, ?_⟩
    show Steps P _ _
    rw [hat, hat]
    refine .head henter (Steps.trans hsteps (.head ?_ (.one (stepR_endRangeFunc hend))))
    rw [← finish_atR_inRangeFunc l v]; exact step_leave_returned hleave
  | panicked chain =>
    refine ⟨.panic chain, _, w₃, hR, .inRangeFunc l :: k, ?_⟩
    rw [hat, hat]
    exact .head henter (Steps.trans hsteps (.one (step_leave_panicked hleave)))
/-- a function's contract, with marks among its deferred calls -/
theorem calls_of_at {f : FuncId} {fn : Func} {c : Code} {args : Array Value} {w : World} {R : Ending → World → Prop} (hf : P.funcs[f]? = some fn) (hb : fn.body = some c)
    (h : wpAt f P c (bodyPostM Fence.wide 0 P fn R) { tmps := args ++ Array.replicate (fn.ntmps - args.size) undef, defers := [] } w) : Calls P f args w R := by
  refine callsIn_wide (n := 0).1 ⟨trivial, fun cs hr => ?_⟩
  let b : Frame := { (default : Frame) with fn := f, kind := .normal, roundOf := none }
  have hat : ∀ a k, b.at a k = b.atR a k := fun a k => by simp [Frame.at, Frame.atR, b]
  have henter : Frame.enter P f args .normal = b.atR { tmps := args ++ Array.replicate (fn.ntmps - args.size) undef, defers := [] } [.code c] := by
    simp [Frame.enter, Frame.atR, hf, hb, b]
  obtain ⟨e, a', w', hq, harr⟩ := h b [] cs rfl
  rw [henter]
  rw [hat] at harr
  have harr := (arrivesIn_iff (I := Machine.fenced P Fence.wide) (b := b) (fun _ _ => stepsIn_wide) rfl).2 harr
  cases e with
  | normal =>
    obtain ⟨e', w'', fr', hR, hs, hfn, hl⟩ := leaves_stepsInM a'.defers .returning w' { b.atR a' [] with mode := .returning } cs rfl rfl rfl hf rfl trivial hr hq
    exact ⟨e', w'', fr', hR, ComesIn.of_steps (StepsIn.trans harr (.one (fenced_calm (fr := b.atR a' []) trivial hr rfl) (stepR_end rfl))) hs, hfn, hl⟩
  | ret =>
    obtain ⟨todo, hs₀⟩ := harr.1 rfl
    obtain ⟨e', w'', fr', hR, hs, hfn, hl⟩ := leaves_stepsInM a'.defers .returning w' { b.atR a' todo with mode := .returning } cs rfl rfl rfl hf rfl trivial hr hq
    exact ⟨e', w'', fr', hR, ComesIn.of_steps hs₀ hs, hfn, hl⟩
  | panic chain =>
    obtain ⟨todo, hs₀⟩ := harr
    obtain ⟨e', w'', fr', hR, hs, hfn, hl⟩ := leaves_stepsInM a'.defers (.panicking chain) w' { b.atR a' todo with mode := .panicking chain } cs rfl rfl rfl hf rfl trivial hr hq
    exact ⟨e', w'', fr', hR, ComesIn.of_steps hs₀ hs, hfn, hl⟩
  | exit id => exact hq.elim
  | goto l => exact hq.elim
  | outgrown => exact ⟨.outgrown, w', b, hq, harr.resolve_left (by simp [b]), rfl, trivial⟩
end
/-! ### A loop's record, as a frame's own object -/
def recB (l : Nat) (r : Loop) : Blk := .obj false fun g o => g = l ∧ o = .loop r
def dfB (l : Nat) : Blk := .obj false fun g o => g = l ∧ o = .deferred (some [])
def anyB : Blk := .obj false fun _ _ => True
section
variable {P : Program} {n : Nat} {M : Nat → Nat → Prop} {h : Home} {S : AS} {ρ : Nat → Value} {a : Act} {w : World}
theorem grown_putObj (w : World) (l : Nat) (o : Obj) : w.grownBy (w.putObj l o) (some l) :=
  ⟨rfl, rfl, rfl, by simp [World.putObj], fun q hq hne => World.putObj_heap_other fun e => hne (by rw [e])⟩
theorem Sat.objAt (hs : Sat M n h S ρ a w) {id l : Nat} {o : Obj} (hb : S.blk id = some (.obj false fun g x => g = l ∧ x = o)) : zU (ρ id) = some l ∧ w.heap[l]? = some o := by
  obtain ⟨g, x, e, _, hh, rfl, rfl⟩ := hs.blks id _ hb
  exact ⟨by rw [e]; exact objV_blk _ _, hh⟩
/-- an own object is turned -/
theorem Sat.turnObj (hs : Sat M n h S ρ a w) {id l : Nat} {o o' : Obj} {Q : Nat → Obj → Prop} (hb : S.blk id = some (.obj false fun g x => g = l ∧ x = o)) (hQ : Q l o') : Sat M n h { S with s := putL S.s id (.obj false Q) } ρ a (w.putObj l o') := by
  obtain ⟨h1, h2⟩ := hs.objAt hb
  obtain ⟨g, x, e, hg, _, rfl, _⟩ := hs.blks id _ hb
  exact hs.turn hb h1 (grown_putObj w g o') (fun _ => trivial) ⟨g, o', e, Nat.zero_le _, World.putObj_heap_same (Array.getElem?_eq_some_iff.1 h2).1, hQ⟩
/-- an own object is made -/
theorem Sat.makeObj (hs : Sat M n h S ρ a w) {id : Nat} (o : Obj) {Q : Nat → Obj → Prop} (hid : id < n) (hQ : Q w.heap.size o) : Sat M n h (S.create id (.obj false Q)) (upd ρ id (.pointer (some ⟨w.heap.size, 0, none⟩))) a (w.alloc o) := by
  refine hs.change id _ _ none (hs.free id hid) (World.grownBy_alloc w _ none) (fun k hk => by cases hk) (fun k hk => .inl ?_) ⟨w.heap.size, o, rfl, Nat.zero_le _, ?_, hQ⟩
  · simp only [zU, Option.some.injEq] at hk
    omega
  · exact World.alloc_heap_new w o
end
/-! ### Yield, as something that is called; the iterator's side -/
/-- how a call ends, and what it leaves of the variables that were handed to it -/
def PQ (M : Nat → Nat → Prop) (h : Home) (Post : EV → List Blk → Prop) (e : Ending) (w' : World) : Prop := ∃ ev B', Post ev B' ∧ ∃ ρ', Sat M 0 h (asB B') ρ' xP w' ∧ EvOK (Mut M (asB B') ρ') ρ' w' ev e
def YieldQ (P : Program) (l : Nat) (pv : Nat → Value) (m : Nat) (args : List AV) (B : List Blk) (Post : EV → List Blk → Prop) : Prop :=
  ∀ (M : Nat → Nat → Prop) (h : Home) (ρ : Nat → Value) (vs : List Value), (∀ i, i < m → ρ (1000 + i) = pv i) → Handed h B ρ → Sat M 0 h (asB B) ρ xP h.w → vs.length = args.length →
    (∀ (i : Nat) x v, args[i]? = some x → vs[i]? = some v → yY (Mut M (asB B) ρ) ρ h.w x v) → YieldAt Fence.wide 0 P l vs.toArray h.w (PQ M h Post)
/-- FnQ, of callers whose first m variables are known -/
def FnL (P : Program) (f : FuncId) (pv : Nat → Value) (m : Nat) (args : List AV) (B : List Blk) (Post : EV → List Blk → Prop) : Prop :=
  ∀ (M : Nat → Nat → Prop) (h : Home) (ρ : Nat → Value) (vs : List Value), (∀ i, i < m → ρ (1000 + i) = pv i) → Handed h B ρ → Sat M 0 h (asB B) ρ xP h.w → vs.length = args.length →
    (∀ (i : Nat) x v, args[i]? = some x → vs[i]? = some v → yY (Mut M (asB B) ρ) ρ h.w x v) → Calls P f vs.toArray h.w (PQ M h Post)
/-- a way out, its end told in full -/
def WX (n : Nat) (M : Nat → Nat → Prop) (h : Home) (Q : Exit → Act → World → Prop) (e : Exit) (S : AS) : Prop := e ≠ .outgrown ∧ ∀ e' ρ a w, bare e' = e → Sat M n h S ρ a w → ExOK M S ρ w e' → Q e' a w
section
variable {P : Program} {n : Nat} {S : AS} {M : Nat → Nat → Prop} {h : Home} {Q : Exit → Act → World → Prop}
theorem WX.mk {e : Exit} (h1 : e ≠ .outgrown) (h2 : ∀ e' ρ a w, bare e' = e → Sat M n h S ρ a w → ExOK M S ρ w e' → Q e' a w) : WX n M h Q e S := ⟨h1, h2⟩
theorem WC.seqX {x y : Code} (hc : zZ P n x S (zB (fun S' => WC P n y S' M h Q) (WX n M h Q))) : WC P n (.seq x y) S M h Q := WC.mk fun ρ a w hs =>
  wp_seq (hc M h ρ a w _ hs fun e S' ρ' a' w' hk hs' hx => by
    cases e with
    | normal => exact WC.run hk hs'
    | exit id => exact hk.2 (.exit id) ρ' a' w' rfl hs' hx
    | goto l => exact hk.2 (.goto l) ρ' a' w' rfl hs' hx
    | ret => exact hk.2 .ret ρ' a' w' rfl hs' hx
    | panic c => exact hk.2 (.panic c) ρ' a' w' rfl hs' hx
    | outgrown => exact absurd rfl hk.1)
theorem WC.ofX {c : Code} (hc : zZ P n c S (WX n M h Q)) : WC P n c S M h Q := WC.mk fun ρ a w hs => hc M h ρ a w Q hs fun e S' ρ' a' w' hk hs' hx => hk.2 e ρ' a' w' rfl hs' hx
theorem WC.pairX {x y : Code} (hx : WC P n x S M h (Exit.then (y.wp P Q) Q)) : WC P n (.seq x y) S M h Q := WC.mk fun ρ a w hs => wp_seq (WC.run hx hs)
theorem WX.subN {S' : AS} (hs : Sub S S') (hw : WX n M h Q .normal S') : WX n M h Q .normal S := ⟨by simp, fun e' ρ a w he h1 _ => by
  obtain rfl := bare_of he (fun c hc => by cases hc)
  obtain ⟨ρ', h2⟩ := hs M n h ρ a w h1
  exact hw.2 .normal ρ' a w rfl h2 trivial⟩
theorem WX.nxtC {y : Code} (hw : WC P n y S M h Q) : WX n M h (Exit.then (y.wp P Q) Q) .normal S := ⟨by simp, fun e' ρ a w he hs _ => by
  obtain rfl := bare_of he (fun c hc => by cases hc)
  exact WC.run hw hs⟩
theorem WX.endX {id : Nat} {K : Act → World → Prop} (hw : WX n M h Q .normal S) : WX n M h (Exit.then K (Exit.inBlock id Q)) (.exit id) S := ⟨by simp, fun e' ρ a w he hs hx => by
  obtain rfl := bare_of he (fun c hc => by cases hc)
  show (if id = id then Q .normal a w else Q (.exit id) a w)
  rw [if_pos rfl]
  exact hw.2 .normal ρ a w rfl hs hx⟩
theorem WX.thn {K : Act → World → Prop} (hw : WX n M h Q (.panic []) S) : WX n M h (Exit.then K Q) (.panic []) S := ⟨by simp, fun e' ρ a w he hs hx => by
  cases e' with
  | panic c => exact hw.2 (.panic c) ρ a w rfl hs hx
  | _ => cases he⟩
theorem WX.blkN {id : Nat} (hw : WX n M h Q .normal S) : WX n M h (Exit.inBlock id Q) .normal S := ⟨by simp, fun e' ρ a w he hs hx => by
  obtain rfl := bare_of he (fun c hc => by cases hc)
  exact hw.2 .normal ρ a w rfl hs hx⟩
theorem WX.blkP {id : Nat} (hw : WX n M h Q (.panic []) S) : WX n M h (Exit.inBlock id Q) (.panic []) S := ⟨by simp, fun e' ρ a w he hs hx => by
  cases e' with
  | panic c => exact hw.2 (.panic c) ρ a w rfl hs hx
  | _ => cases he⟩
/-- A region that calls yield. -/
theorem WC.yieldQ {id d l m : Nat} {pre post : List Oper} {oy : Oper} {x : Operand} {args : Array Operand} {ts : Array TypeId} {y : Code} {B : List Blk} {Post : EV → List Blk → Prop} {pv : Nat → Value} (S1 : AS) (ids : List Nat) (xs : List AV)
    (hpre : zY P n (pre ++ oy :: post).toArray pre S (fun e S' => e = .normal ∧ Sub S' S1)) (hdp : noDefer pre = true) (hdq : noDefer post = true)
    (ho : oy.op = .call { callee := .value x, args := args, argTypes := ts }) (hg : oy.guard = none) (hd : oy.dst = some d) (hn : d < n) (hx : S1.get x = .p (.val (.func (.yield l) #[] #[])))
    (hY : YieldQ P l pv m xs B Post) (hargs : args.toList.map S1.get = xs.map (AV.ren (sig ids))) (hh : Hands S1 ids B) (hxs : xs.all (AV.okE B.length) = true) (hm : m ≤ B.length)
    (hP : ∀ ev B', Post ev B' → B'.length = B.length ∧ B'.all (Blk.okE B.length) = true) (hpin : ∀ i, i < m → h.r (sig ids (1000 + i)) = some (pv i))
    (hr : ∀ rx B', Post (.ret rx) B' → rx.okE B.length = true ∧ zY P n (pre ++ oy :: post).toArray post ((S1.after ids B').put d (rx.ren (sig ids))) (zB (fun S' => WC P n y S' M h Q) (WX n M h Q)))
    (hp : ∀ rx B', Post (.pan rx) B' → rx.okE B.length = true ∧ WX n M h Q (.panic []) { S1.after ids B' with x := rx.ren (sig ids) }) :
    WC P n (.seq (.region id (pre ++ oy :: post).toArray false) y) S M h Q := by
  refine WC.mk fun ρ a w hs => ?_
  refine wp_seq ((wpIn_wide (n := 0)).1 ?_)
  show (Code.region id _ false).wpIn (wideF none) 0 P _ a w
  refine wpIn_region_lit ?_
  have h1 := hpre M h ρ a w (fun e a' w' => e = .normal ∧ ∃ ρ', Sat M n h S1 ρ' a' w') hs fun e S' ρ' a' w' hk hs' _ => by
    obtain ⟨he, hsub⟩ := hk
    obtain ⟨ρ2, h2⟩ := hsub M n h ρ' a' w' hs'
    exact ⟨bare_of he (fun c hc => by cases hc), ρ2, h2⟩
  refine wpList_app none (fun a w h => by cases h.1) (fun e a w hne h => absurd h.1 hne) (fun a1 w1 hq => ?_) (noDefer_of hdp) h1
  obtain ⟨_, ρ1, hs2⟩ := hq
  unfold wpListIn
  rw [if_pos (by simp [Region.wanted, hg])]
  refine ⟨fun _ _ => trivial, ?_⟩
  show oy.uponIn _ 0 P a1 _ _ ((oy.semAt none a1.eval).run P w1)
  rw [sem_at none a1.eval oy (fun c hc => by rw [ho] at hc; cases hc), run_yieldOp ho (hs2.val hx)]
  have key := call_effP (C := fun R => YieldAt Fence.wide 0 P l (args.toList.map a1.eval).toArray w1 R) (fun R R' hRR' ⟨fn, t1, t2, t3, q1, q2⟩ => ⟨fn, t1, t2, t3, q1, q2.mono hRR'⟩) hh hP hxs hs2 (vs := args.toList.map a1.eval) (fun i x v q1 q2 => by
      rw [List.getElem?_map, Option.map_eq_some_iff] at q2
      obtain ⟨o, ho2, rfl⟩ := q2
      have q3 : (args.toList.map S1.get)[i]? = some (x.ren (sig ids)) := by rw [hargs, List.getElem?_map, q1]; rfl
      rw [List.getElem?_map, ho2] at q3
      rw [← Option.some.inj q3]
      exact hs2.rep o) (fun M' h' ρ' hw hd' hand hsat hreps hfix => by
      subst hw
      refine hY M' h' ρ' _ (fun i hi => ?_) hand hsat ?_ hreps
      · rw [hfix (1000 + i) (by omega) (by omega)]
        exact hs2.fix _ _ (hpin i hi)
      · have := congrArg List.length hargs
        simpa using this)
  obtain ⟨fn, tmps, assign, body, hy, hR⟩ := key
  have e : (args.toList.map a1.eval).toArray = args.map a1.eval := by apply Array.ext'; simp
  rw [e] at hy
  rw [hy]
  refine ⟨fun h => (by cases h), RoundIn.mono hR fun ev w2 he => ?_⟩
  obtain ⟨ev', B', hpost, hs3, hev⟩ := he
  cases ev' with
  | ret rx =>
    obtain ⟨hok, hN⟩ := hr rx B' hpost
    obtain ⟨v, rfl, hv⟩ := hev hok
    have hs4 := hs3.put hn hv
    have h5 := hN M h ρ1 _ w2 (fun e a' w' => e ≠ .outgrown ∧ Exit.then (y.wp P Q) Q e a' w') hs4 (fun e S' ρ' a' w' hk hs' hx => by
      cases e with
      | normal => exact ⟨by simp, WC.run hk hs'⟩
      | exit id => exact ⟨by simp, hk.2 (.exit id) ρ' a' w' rfl hs' hx⟩
      | goto l => exact ⟨by simp, hk.2 (.goto l) ρ' a' w' rfl hs' hx⟩
      | ret => exact ⟨by simp, hk.2 .ret ρ' a' w' rfl hs' hx⟩
      | panic c => exact ⟨by simp, hk.2 (.panic c) ρ' a' w' rfl hs' hx⟩
      | outgrown => exact absurd rfl hk.1)
    show wpListIn (wideF none) 0 P _ _ post (a1.put oy.dst v) w2
    rw [hd]
    have h7 := wpList_app (l2 := []) none (fun a w h => h.1 rfl) (Q' := Exit.then (y.wp P Q) Q) (fun e a w _ h => h.2) (fun a w h => h.2) (noDefer_of hdq) h5
    rwa [List.append_nil] at h7
  | pan rx =>
    obtain ⟨hok, hN⟩ := hp rx B' hpost
    obtain ⟨v, rfl, hv⟩ := hev hok
    exact hN.2 (.panic _) ρ1 a1 w2 rfl ⟨hs3.below, hs3.out, hs3.tab, hs3.size, hs3.defers, hs3.tmps, hs3.blks, hs3.mine, hs3.fix, hs3.free, hs3.dist⟩ ⟨v, rfl, hv⟩
/-- at a body's end -/
theorem WX.endQ {fn : Func} {Post : EV → List Blk → Prop} {e : Exit} (hd : h.d = []) (hend : EndQ P fn Post e S) : WX n M h (bodyPost P fn (PQ M h Post)) e S := by
  refine ⟨fun e1 => ?_, fun e' ρ0 a' w' he0 hs1 hx => ?_⟩
  · subst e1
    cases hend with
    | ret he => rcases he with h | h <;> cases h
  cases hend with
  | @pan _ S' x B' hsub hm hxx hB hp =>
    subst hxx
    cases e' with
    | panic c =>
      obtain ⟨v, rfl, hv⟩ := hx
      have hs2 := hsub M n h ρ0 a' w' hs1
      obtain ⟨h1, h2⟩ := hs2.asB hd hB
      exact ⟨hs1.defers.trans hd, _, B', hp, ρ0, h1, v, rfl, hv.mono fun k c _ hk => hm M ρ0 k c (h2 k c hk)⟩
    | _ => cases he0
  | @ret _ _ S' x B' he hsub hg hB hp =>
    obtain ⟨ρ', hs'⟩ := hsub M n h ρ0 a' w' hs1
    obtain ⟨h1, h2⟩ := hs'.asB hd hB
    have fin : a'.defers = [] ∧ ∃ v, (results fn a'.tmps).run P w' = .ok v w' ∧ PQ M h Post (.returned v) w' := by
      refine ⟨hs'.defers.trans hd, ?_⟩
      cases hg with
      | none hr => exact ⟨_, results_none hr _ _ _, _, B', hp, ρ', h1, _, rfl, .any _⟩
      | one hr ht =>
        subst ht
        exact ⟨_, results_tmp hr _ _ _, _, B', hp, ρ', h1, _, rfl, (hs'.tmps _).mono fun k c _ hk => h2 k c hk⟩
      | p hr hx =>
        obtain ⟨v, g1, g2⟩ := res_oneM hs' hx
        have g3 := xX (P := P) (w := w') fn a'.tmps (rs := [_]) (vs := [v]) hr (by simp only [List.mapM_cons, List.mapM_nil, Sem.run_bind, Sem.run_pure, g1, Result.andThen_ok])
        exact ⟨v, g3, _, B', hp, ρ', h1, _, rfl, .p (g2.mono fun k c _ hk => h2 k c hk)⟩
      | tup hr hl hx =>
        obtain ⟨us, g1, g2, g4, g3⟩ := res_allM hs' hx
        have g5 := xX (P := P) (w := w') fn a'.tmps hr g1
        rw [dif_neg (by simp only [List.size_toArray]; omega)] at g5
        refine ⟨_, g5, _, B', hp, ρ', h1, _, rfl, .tup _ us (by simpa using g2) fun i c v hc hv => ?_⟩
        rw [List.getElem?_map, Option.map_eq_some_iff] at hc
        obtain ⟨y, hy, rfl⟩ := hc
        exact .p ((g3 i y v hy hv).mono fun k c _ hk => h2 k c hk)
    cases e' with
    | ret => exact fin
    | normal => exact fin
    | exit id => subst he0; rcases he with h | h <;> cases h
    | goto l => subst he0; rcases he with h | h <;> cases h
    | panic c => subst he0; rcases he with h | h <;> cases h
    | outgrown => subst he0; rcases he with h | h <;> cases h
/-- a frame at its beginning, of what was handed to it -/
theorem entry_asB {args : List AV} {B : List Blk} {ρ : Nat → Value} {vs : List Value} {m : Nat} (hm : m = n) (hle : args.length ≤ n) (h1000 : n ≤ 1000) (hs0 : Sat M 0 h (asB B) ρ xP h.w) (hvl : vs.length = args.length)
    (hvs : ∀ (i : Nat) x v, args[i]? = some x → vs[i]? = some v → yY (Mut M (asB B) ρ) ρ h.w x v) : Sat M n h { t := zipA 0 args, s := numB 1000 B } ρ { tmps := vs.toArray ++ Array.replicate (m - vs.toArray.size) undef, defers := [] } h.w := by
  subst hm
  refine ⟨hs0.below, hs0.out, hs0.tab, by simp; omega, hs0.defers, fun i => ?_, hs0.blks, hs0.mine, hs0.fix, fun k hk => h.lo k (by omega), hs0.dist⟩
  show yY _ _ _ ((look (zipA 0 args) i).getD .any) _
  rw [look_zipA]
  simp only [Nat.zero_le, if_true, Nat.sub_zero]
  cases hx : args[i]? with
  | none => exact .any _
  | some x =>
    have hi : i < vs.length := by rw [hvl]; exact (List.getElem?_eq_some_iff.1 hx).1
    have e : ({ tmps := vs.toArray ++ Array.replicate (m - vs.toArray.size) undef, defers := [] } : Act).tmps.getD i undef = vs[i] := by
      simp [Array.getD_eq_getD_getElem?, Array.getElem?_append, hi]
    rw [e]
    exact hvs i x vs[i] hx (List.getElem?_eq_getElem hi)
theorem fn_ofL {f : FuncId} {fn : Func} {c : Code} {args : List AV} {B : List Blk} {Post : EV → List Blk → Prop} {pv : Nat → Value} {m : Nat} (hf : P.funcs[f]? = some fn) (hb : fn.body = some c) (hn : fn.ntmps = n) (hle : args.length ≤ n) (h1000 : n ≤ 1000) (hm : m ≤ B.length)
    (hc : ∀ (M : Nat → Nat → Prop) (h : Home), h.d = [] → (∀ i, i < m → h.r (1000 + i) = some (pv i)) → WC P n c { t := zipA 0 args, s := numB 1000 B } M h (bodyPost P fn (PQ M h Post))) : FnL P f pv m args B Post := by
  intro M hh ρ vs hpin hand hs0 hvl hvs
  refine calls_of_wp hf hb ?_
  exact WC.run (hc M hh hs0.defers.symm fun i hi => by rw [hand.r i (by omega), hpin i hi]) (entry_asB hn hle h1000 hs0 hvl hvs)
end
/-! ### The caller's side -/
/-- what a value says hangs on the first m variables alone -/
def stab (m : Nat) : AV → Bool
  | .p (.val _) => true
  | .clo _ ks => ks.all fun k => decide (1000 ≤ k ∧ k < 1000 + m)
  | .ptr k _ => decide (1000 ≤ k ∧ k < 1000 + m)
  | _ => false
theorem yY.stab {M M' : Nat → Nat → Prop} {ids : List Nat} {m : Nat} {ρ ρ' : Nat → Value} {w w' : World} {x : AV} {v : Value} (h : yY M ρ w (x.ren (sig ids)) v) (hs : stab m x = true) (hp : ∀ i, i < m → ρ' (1000 + i) = ρ (sig ids (1000 + i))) : yY M' ρ' w' x v := by
  have hk : ∀ k, 1000 ≤ k ∧ k < 1000 + m → ρ' k = ρ (sig ids k) := fun k hk => by
    have := hp (k - 1000) (by omega)
    rwa [show 1000 + (k - 1000) = k by omega] at this
  cases x with
  | p y =>
    cases y with
    | val u =>
      have h0 : yY M ρ w (.p (.val u)) v := h
      cases h0 with
      | p h1 => cases h1; exact .p (.val _)
    | _ => cases hs
  | clo f ks =>
    have h0 : yY M ρ w (.clo f (ks.map (sig ids))) v := h
    cases h0 with
    | clo _ _ vs hl h1 =>
      refine .clo f ks vs (by simpa using hl) fun i k u hk2 hv => ?_
      have h3 := List.all_eq_true.1 hs k (List.mem_of_getElem? hk2)
      rw [hk k (by simpa using h3)]
      exact h1 i (sig ids k) u (by rw [List.getElem?_map, hk2]; rfl) hv
  | ptr k o =>
    have h0 : yY M ρ w (.ptr (sig ids k) o) v := h
    cases h0 with
    | ptr _ _ g h1 => exact .ptr k o g (by rw [hk k (by simpa [Go.Proofs.YtmfbamiciieooaaGreatDoor.stab] using hs)]; exact h1)
  | _ => cases hs
/-- a loop's record, between two rounds -/
structure RecOK (fid : FuncId) (ps : Array Tmp) (assign body : Code) (n : Nat) (pv : Nat → Value) (m : Nat) (Tl : List (Nat × AV)) (r : Loop) : Prop where
  st : r.state = .ready
  pe : r.pending = none
  fn : r.fn = fid
  ps : r.params = ps
  asg : r.assign = assign
  bd : r.body = body
  sz : r.tmps.size = n
  tm : ∀ p ∈ Tl, ∀ (M : Nat → Nat → Prop) (ρ : Nat → Value) (w : World), (∀ i, i < m → ρ (1000 + i) = pv i) → yY M ρ w p.2 (r.tmps.getD p.1 undef)
def busyL (r : Loop) : Loop := { r with state := .busy }
/-- how a round ends -/
inductive EndY (l : Nat) (r : Loop) (m : Nat) (Post : EV → List Blk → Prop) : Exit → AS → Prop
  | norm {S S' : AS} {B : List Blk} (hs : Sub S S') (hl : B.length = m) (hB : HasB S' (B ++ [recB l (busyL r)])) (hp : Post (.ret (.p (.val (.bool true)))) (B ++ [recB l r])) : EndY l r m Post .normal S
  | pan {S S' : AS} {x : AV} {B' : List Blk} (hs : ∀ (M : Nat → Nat → Prop) (n : Nat) (w0 : Home) (ρ : Nat → Value) (a : Act) (w : World), Sat M n w0 S ρ a w → Sat M n w0 S' ρ a w) (hm : ∀ (M : Nat → Nat → Prop) (ρ : Nat → Value) k c, Mut M S' ρ k c → Mut M S ρ k c) (hx : S.x = x) (hB : HasB S' B') (hp : Post (.pan x) B') : EndY l r m Post (.panic []) S
section
variable {P : Program} {n : Nat}
theorem HasB.last {S : AS} {B : List Blk} {b : Blk} (h : HasB S (B ++ [b])) : S.blk (1000 + B.length) = some b := h B.length b (by simp)
theorem HasB.turn {S : AS} {B : List Blk} {b b' : Blk} (h : HasB S (B ++ [b])) : HasB { S with s := putL S.s (1000 + B.length) b' } (B ++ [b']) := fun i c hi => by
  show look (putL S.s (1000 + B.length) b') (1000 + i) = some c
  rw [qH]
  by_cases e : i < B.length
  · rw [List.getElem?_append_left e] at hi
    rw [if_neg (by omega)]
    exact h i c (by rw [List.getElem?_append_left e]; exact hi)
  · have hlt := (List.getElem?_eq_some_iff.1 hi).1
    simp at hlt
    obtain rfl : i = B.length := by omega
    rw [if_pos rfl]
    simpa using hi
theorem yieldQ_of {fid : FuncId} {fn : Func} {ps : Array Tmp} {assign body : Code} {l m d : Nat} {pv : Nat → Value} {r : Loop} {Tl : List (Nat × AV)} {x : Value} {B : List Blk} {Post : EV → List Blk → Prop} (Sa : AS) (hf : P.funcs[fid]? = some fn) (hrec : RecOK fid ps assign body n pv m Tl r)
    (hps : ps = #[d]) (hd : d < n) (h1000 : n ≤ 1000) (hl : B.length = m)
    (hass : ACodeR l P n assign { t := (d, .p (.val x)) :: Tl, s := numB 1000 (B ++ [recB l r]) } (fun e S' => e = .normal ∧ Sub S' Sa)) (hbl : Sa.blk (1000 + m) = some (recB l r))
    (hbody : ACodeR l P n body { Sa with s := putL Sa.s (1000 + m) (recB l (busyL r)) } (EndY l r m Post)) : YieldQ P l pv m [.p (.val x)] (B ++ [recB l r]) Post := by
  intro M h ρ vs hpin hand hs0 hvl hvs
  obtain ⟨v, rfl⟩ : ∃ v, vs = [v] := by
    match vs, hvl with
    | [v], _ => exact ⟨v, rfl⟩
  obtain rfl : v = x := by
    have h1 := hvs 0 _ v rfl rfl
    cases h1 with
    | p h2 => cases h2; rfl
  have hrl : h.w.heap[l]? = some (.loop r) := (hs0.objAt (id := 1000 + m) (l := l) (o := .loop r) (by
    show look (numB 1000 (B ++ [recB l r])) (1000 + m) = _
    rw [look_numB, if_pos (by omega), show 1000 + m - 1000 = m by omega, ← hl]
    simp [recB])).2
  have hvp : #[v].size = r.params.size := by rw [hrec.ps, hps]; rfl
  refine ⟨r.fn, (r.params.zip #[v]).foldl (fun t (p, v) => t.setIfInBounds p v) r.tmps, r.assign, r.body, run_yield hrl hvp, ?_⟩
  have efold : (r.params.zip #[v]).foldl (fun t (p, v) => t.setIfInBounds p v) r.tmps = r.tmps.setIfInBounds d v := by
    rw [hrec.ps, hps, ← Array.foldl_toList]; simp
  rw [efold, hrec.fn, hrec.asg, hrec.bd]
  refine roundIn_of_wpP hf ?_
  have hd0 : h.d = [] := hs0.defers.symm
  have hs1 : Sat M n h { t := (d, .p (.val v)) :: Tl, s := numB 1000 (B ++ [recB l r]) } ρ { tmps := r.tmps.setIfInBounds d v, defers := [] } h.w := by
    refine ⟨hs0.below, hs0.out, hs0.tab, by simp [hrec.sz], hs0.defers, fun i => ?_, hs0.blks, hs0.mine, hs0.fix, fun k hk => h.lo k (by omega), hs0.dist⟩
    show yY _ _ _ ((look ((d, .p (.val v)) :: Tl) i).getD .any) _
    unfold look
    by_cases hdi : d = i
    · subst hdi
      rw [if_pos rfl]
      have e : (r.tmps.setIfInBounds d v).getD d undef = v := by
        simp [Array.getD_eq_getD_getElem?, hrec.sz, hd]
      show yY _ _ _ (.p (.val v)) ((r.tmps.setIfInBounds d v).getD d undef)
      rw [e]
      exact .p (.val _)
    · rw [if_neg hdi]
      have e : (r.tmps.setIfInBounds d v).getD i undef = r.tmps.getD i undef := by
        simp [Array.getD_eq_getD_getElem?, Array.getElem?_setIfInBounds, hdi]
      show yY _ _ _ ((look Tl i).getD .any) ((r.tmps.setIfInBounds d v).getD i undef)
      rw [e]
      cases hlk : look Tl i with
      | none => exact .any _
      | some y =>
        have mem : ∀ (T : List (Nat × AV)) x, look T i = some x → ∃ p ∈ T, p.1 = i ∧ p.2 = x := by
          intro T x
          induction T with
          | nil => intro h; cases h
          | cons p T ih =>
            intro h
            obtain ⟨k, y⟩ := p
            unfold look at h
            split at h
            · rename_i hk
              exact ⟨(k, y), by simp, hk, Option.some.inj h⟩
            · obtain ⟨q, hq, e⟩ := ih h
              exact ⟨q, by simp [hq], e⟩
        obtain ⟨p, hp, rfl, rfl⟩ := mem Tl y hlk
        exact hrec.tm p hp _ _ _ hpin
  refine hass (fun S h => by cases h.1) M h ρ _ h.w _ hs1 fun e S' ρ' a' w' hk hs' _ => ?_
  obtain ⟨he, hsub⟩ := hk
  obtain rfl := bare_of he (fun c hc => by cases hc)
  obtain ⟨ρa, hsA⟩ := hsub _ _ _ ρ' a' w' hs'
  have hA := hsA.objAt (o := .loop r) hbl
  refine ⟨_, run_beginRound hA.2 hrec.st, ?_⟩
  have hsB := hsA.turnObj (o := .loop r) (o' := .loop (busyL r)) (Q := fun g o => g = l ∧ o = .loop (busyL r)) hbl ⟨rfl, rfl⟩
  refine hbody (fun S h => by cases h) M h ρa _ _ _ hsB fun e S' ρ' a3 w3 hk hs' hx => ?_
  generalize he0 : bare e = e0 at hk
  cases hk with
  | @norm _ S2 B2 hsub hl2 hB hp =>
    obtain rfl := bare_of he0 (fun c hc => by cases hc)
    obtain ⟨ρ3, hsC⟩ := hsub _ _ _ ρ' a3 w3 hs'
    have hC := hsC.objAt (o := .loop (busyL r)) hB.last
    have hend := run_endRound (P := P) none hC.2
    have erec : ({ busyL r with state := if (none : Option Code).isNone then .ready else .done, pending := none } : Loop) = r := by
      have e1 := hrec.st
      have e2 := hrec.pe
      cases r
      simp only at e1 e2
      subst e1 e2
      rfl
    rw [erec] at hend
    refine ⟨_, _, hend, _, _, hp, ρ3, (hsC.turnObj (o := .loop (busyL r)) (o' := .loop r) (Q := fun g o => g = l ∧ o = .loop r) hB.last ⟨rfl, rfl⟩).asB hd0 hB.turn |>.1, _, rfl, .p (.val _)⟩
  | @pan _ S2 x B2 hsub hm hxx hB hp =>
    subst hxx
    cases e with
    | panic c =>
      obtain ⟨v, rfl, hv⟩ := hx
      have hs2 := hsub M n h ρ' a3 w3 hs'
      obtain ⟨h1, h2⟩ := hs2.asB hd0 hB
      exact ⟨hs'.defers.trans hd0, _, B2, hp, ρ', h1, v, rfl, hv.mono fun k c _ hk => hm M ρ' k c (h2 k c hk)⟩
    | _ => cases he0
end
/-! ### Code of a function that holds a loop -/
def WA (P : Program) (n : Nat) (fid : FuncId) (c : Code) (S : AS) (M : Nat → Nat → Prop) (h : Home) (Q : Exit → Act → World → Prop) : Prop := ∀ ρ a w, Sat M n h S ρ a w → wpAt fid P c Q a w
def markD (D : Nat) : Deferred := { target := .collected D, args := #[] }
def Home.withD (h : Home) (d : List Deferred) : Home := { h with d := d }
section
variable {P : Program} {n : Nat} {fid : FuncId} {S S' : AS} {M : Nat → Nat → Prop} {h : Home} {Q : Exit → Act → World → Prop} {x y c : Code}
theorem WA.seq (hc : zZ P n x S (zB (fun S' => WA P n fid y S' M h Q) (WX n M h Q))) : WA P n fid (.seq x y) S M h Q := fun ρ a w hs =>
  wpAt.seq (wpAt.of (hc M h ρ a w _ hs fun e S' ρ' a' w' hk hs' hx => by
    cases e with
    | normal => exact hk ρ' a' w' hs'
    | exit id => exact hk.2 (.exit id) ρ' a' w' rfl hs' hx
    | goto l => exact hk.2 (.goto l) ρ' a' w' rfl hs' hx
    | ret => exact hk.2 .ret ρ' a' w' rfl hs' hx
    | panic c => exact hk.2 (.panic c) ρ' a' w' rfl hs' hx
    | outgrown => exact absurd rfl hk.1))
theorem WA.of (hc : zZ P n c S (WX n M h Q)) : WA P n fid c S M h Q := fun ρ a w hs => wpAt.of (hc M h ρ a w Q hs fun e S' ρ' a' w' hk hs' hx => hk.2 e ρ' a' w' rfl hs' hx)
theorem WA.pair (hx : WA P n fid x S M h (Exit.then (wpAt fid P y Q) Q)) : WA P n fid (.seq x y) S M h Q := fun ρ a w hs => wpAt.seq (hx ρ a w hs)
theorem WA.block {id : Nat} (hc : WA P n fid c S M h (Exit.inBlock id Q)) : WA P n fid (.block id c) S M h Q := fun ρ a w hs => wpAt.block (hc ρ a w hs)
theorem WA.sub (hs : Sub S S') (hc : WA P n fid c S' M h Q) : WA P n fid c S M h Q := fun ρ a w h1 => by
  obtain ⟨ρ', h2⟩ := hs M n h ρ a w h1
  exact hc ρ' a w h2
theorem WX.nxt (hw : WA P n fid y S M h Q) : WX n M h (Exit.then (wpAt fid P y Q) Q) .normal S := ⟨by simp, fun e' ρ a w he hs _ => by
  obtain rfl := bare_of he (fun c hc => by cases hc)
  exact hw ρ a w hs⟩
/-- the frame within the loop: the block for its rounds' deferred calls, and its record -/
def AS.looped (S : AS) (dD dl D l : Nat) (r : Loop) : AS := (S.create dD (dfB D)).create dl (recB l r)
/-- 'for .. := range g { .. }' -/
theorem WA.range {g : Operand} {ps : Array Tmp} {assign body : Code} {gf : FuncId} {kc : List Nat} {B Bc : List Blk} {m : Nat} {Tl : List (Nat × AV)} {caps : List AV} {Post : Nat → Loop → EV → List Blk → Prop} (dD dl : Nat) (ids : List Nat) [hc : HasFn P gf]
    (hdD : dD < n) (hdl : dl < n) (hg : ∀ D l r, (S.looped dD dl D l r).get g = .clo gf kc) (hT : ∀ p ∈ Tl, stab m p.2 = true ∧ ∀ D l r, (S.looped dD dl D l r).tmp p.1 = p.2.ren (sig ids))
    (hh : ∀ D l r, Hands (S.looped dD dl D l r) ids (B ++ recB l r :: Bc)) (hB : B.length = m) (hcap : caps.map (AV.ren (sig ids)) = kc.map fun k => .ptr k 0) (hcok : caps.all (AV.okE (m + 1 + Bc.length)) = true)
    (hit : ∀ l r pv, RecOK fid ps assign body n pv m Tl r → FnL P gf pv m (.p (.val (.func (.yield l) #[] #[])) :: caps) (B ++ recB l r :: Bc) (Post l r))
    (hP : ∀ l r ev B', Post l r ev B' → B'.length = m + 1 + Bc.length ∧ B'.all (Blk.okE (m + 1 + Bc.length)) = true)
    (hret : ∀ D l r rx B', Post l r (.ret rx) B' → rx.okE (m + 1 + Bc.length) = true ∧ ((S.looped dD dl D l r).after ids B').blk dl = some (recB l r) ∧
      WX n M (h.withD (markD D :: h.d)) Q .normal { (S.looped dD dl D l r).after ids B' with s := putL ((S.looped dD dl D l r).after ids B').s dl anyB })
    (hpan : ∀ D l r rx B', Post l r (.pan rx) B' → rx.okE (m + 1 + Bc.length) = true ∧ WX n M (h.withD (markD D :: h.d)) Q (.panic []) { (S.looped dD dl D l r).after ids B' with x := rx.ren (sig ids) }) :
    WA P n fid (.rangeFunc g ps assign body) S M h Q := by
  intro ρ a w hs
  obtain ⟨r, hr⟩ : ∃ r : Loop, r = { state := .ready, pending := none, fn := fid, tmps := a.tmps, params := ps, assign, body, defers := w.heap.size } := ⟨_, rfl⟩
  have hs1 := hs.makeObj (id := dD) (.deferred (some [])) (Q := fun g o => g = w.heap.size ∧ o = .deferred (some [])) hdD ⟨rfl, rfl⟩
  have hs2 := hs1.makeObj (id := dl) (.loop r) (Q := fun g o => g = w.heap.size + 1 ∧ o = .loop r) hdl ⟨World.size_alloc _ _, rfl⟩
  obtain ⟨W1, hW1⟩ : ∃ W1, (w.alloc (.deferred (some []))).alloc (.loop r) = W1 := ⟨_, rfl⟩
  rw [hW1] at hs2
  have hs3 := hs2.withD (markD w.heap.size :: a.defers)
  change Sat M n _ (S.looped dD dl w.heap.size (w.heap.size + 1) r) _ _ _ at hs2 hs3
  generalize hρ : upd (upd ρ dD _) dl _ = ρ2 at hs2 hs3
  generalize hD : w.heap.size = D at *
  have hev := hs2.rep g
  rw [hg] at hev
  obtain ⟨lb, hlb, hlen, hptr⟩ : ∃ lb : List Value, a.eval g = .func (.func gf) #[] lb.toArray ∧ lb.length = kc.length ∧ ∀ (i : Nat) k v, kc[i]? = some k → lb[i]? = some v → ∃ g, zU (ρ2 k) = some g ∧ v = .pointer (some ⟨g, 0, none⟩) := by
    generalize a.eval g = u at hev
    cases hev with
    | clo _ _ vs hl h1 => exact ⟨vs, rfl, hl, h1⟩
  have hlB : (B ++ recB (D + 1) r :: Bc).length = m + 1 + Bc.length := by simp [hB]; omega
  have hrok : RecOK fid ps assign body n (fun i => ρ2 (sig ids (1000 + i))) m Tl r := by
    subst hr
    refine ⟨rfl, rfl, rfl, rfl, rfl, rfl, hs.size, fun p hp M' ρ' w' hpin => ?_⟩
    obtain ⟨h1, h2⟩ := hT p hp
    have h3 := hs2.tmps p.1
    rw [h2] at h3
    exact h3.stab h1 hpin
  refine wpAt.range (l := D + 1) (mark := [markD D]) (w₁ := W1) (w₁' := W1) (w₂ := W1) (d := { target := .fn (.func gf) lb.toArray, args := #[.func (.yield (D + 1)) #[] #[]] }) (f := gf) (args := (Value.func (.yield (D + 1)) #[] #[] :: lb).toArray) ?_ ?_ ?_ ?_
  · have := run_enterLoop_outer (P := P) (w := w) fid a.tmps ps assign body
    rw [hD] at this
    rw [← hW1, hr, this]
    rfl
  · simp only [resolve, hlb]
    simp [go_sem]
  · simp [invoke, go_sem, hc.h]
  have key := call_effP (Post := Post (D + 1) r) (C := fun R => Calls P gf (Value.func (.yield (D + 1)) #[] #[] :: lb).toArray W1 R) (fun R R' hRR' hq => hq.mono hRR') (hh D (D + 1) r) (fun ev B' hp => by rw [hlB]; exact hP _ _ ev B' hp) (xs := .p (.val (.func (.yield (D + 1)) #[] #[])) :: caps) (by rw [hlB]; simpa [AV.okE] using hcok) hs3
    (vs := Value.func (.yield (D + 1)) #[] #[] :: lb) (fun i x v q1 q2 => by
      cases i with
      | zero =>
        simp at q1 q2
        subst q1 q2
        exact .p (.val _)
      | succ i =>
        simp at q1 q2
        have q3 : (kc.map fun k => AV.ptr k 0)[i]? = some (x.ren (sig ids)) := by rw [← hcap, List.getElem?_map, q1]; rfl
        rw [List.getElem?_map, Option.map_eq_some_iff] at q3
        obtain ⟨k, q4, q5⟩ := q3
        rw [← q5]
        obtain ⟨g', q6, rfl⟩ := hptr i k v q4 q2
        exact .ptr k 0 g' q6) (fun M' h' ρ' hw hd' hand hsat hreps hfix => by
      subst hw
      refine hit _ _ _ hrok M' h' ρ' _ (fun i hi => hfix _ (by omega) (by rw [hlB]; omega)) hand hsat ?_ hreps
      have := congrArg List.length hcap
      simp at this
      simp [hlen, this])
  refine key.mono fun e W2 he => ?_
  obtain ⟨ev, B', hpost, hs4, hev⟩ := he
  have hd0 : a.defers = h.d := hs.defers
  rw [hlB] at hev
  cases ev with
  | ret rx =>
    obtain ⟨hok, hbl, hWX⟩ := hret D _ _ rx B' hpost
    obtain ⟨v, rfl, hv⟩ := hev hok
    have hL := hs4.objAt (o := .loop r) hbl
    have hend := run_endLoop (P := P) hL.2 (by rw [hr]; simp)
    have hpe : r.pending = none := by rw [hr]
    rw [hpe] at hend
    rw [← hd0] at hWX
    exact ⟨_, hend, hWX.2 .normal _ _ _ rfl (hs4.turnObj (o := .loop r) (Q := fun _ _ => True) hbl trivial) trivial⟩
  | pan rx =>
    obtain ⟨hok, hWX⟩ := hpan D _ _ rx B' hpost
    obtain ⟨v, rfl, hv⟩ := hev hok
    rw [← hd0] at hWX
    exact hWX.2 (.panic _) _ _ _ rfl ⟨hs4.below, hs4.out, hs4.tab, hs4.size, hs4.defers, hs4.tmps, hs4.blks, hs4.mine, hs4.fix, hs4.free, hs4.dist⟩ ⟨v, rfl, hv⟩
/-- at the body's end, ahead of the loop -/
theorem WX.endN {fn : Func} {Post : EV → List Blk → Prop} {e : Exit} (hd : h.d = []) (hend : EndQ P fn Post e S) : WX n M h (bodyPostM Fence.wide 0 P fn (PQ M h Post)) e S := by
  have h1 := WX.endQ (n := n) (M := M) hd hend
  refine ⟨h1.1, fun e' ρ a w he hs hx => ?_⟩
  have h2 := h1.2 e' ρ a w he hs hx
  cases e' with
  | normal =>
    show LeavesInM _ _ _ _ _ _ _ _ _
    rw [h2.1]
    exact h2.2
  | ret =>
    show LeavesInM _ _ _ _ _ _ _ _ _
    rw [h2.1]
    exact h2.2
  | panic c =>
    show LeavesInM _ _ _ _ _ _ _ _ _
    rw [h2.1]
    exact h2.2
  | exit id => exact h2.elim
  | goto l => exact h2.elim
  | outgrown => exact h2
/-- at the body's end, behind the loop -/
theorem WX.endM {fn : Func} {Post : EV → List Blk → Prop} {e : Exit} {D : Nat} (dD : Nat) (hd : h.d = []) (hb : S.blk dD = some (dfB D)) (hend : EndQ P fn Post e { S with s := putL S.s dD anyB }) : WX n M (h.withD [markD D]) (bodyPostM Fence.wide 0 P fn (PQ M h Post)) e S := by
  have h1 := WX.endQ (n := n) (M := M) hd hend
  refine ⟨h1.1, fun e' ρ a w he hs hx => ?_⟩
  have hD := hs.objAt (o := .deferred (some [])) hb
  have hs2 := hs.turnObj (o := .deferred (some [])) (o' := .deferred none) (Q := fun _ _ => True) hb trivial
  have hs3 := hs2.withD []
  have eh : ({ h.withD [markD D] with d := [] } : Home) = h := by
    cases h
    simp only at hd
    subst hd
    rfl
  rw [eh] at hs3
  have hks : Keeps (Mut M S ρ) w (w.putObj D (.deferred none)) := .of_block (by simp [World.putObj]) fun k hk ⟨c, hc⟩ => World.putObj_heap_other fun e => hc (.inr ⟨dD, _, hb, by rw [e]; exact hD.1, trivial⟩)
  have hx2 : ExOK M { S with s := putL S.s dD anyB } ρ (w.putObj D (.deferred none)) e' := by
    cases e' with
    | panic c =>
      obtain ⟨v, rfl, hv⟩ := hx
      refine ⟨v, rfl, (hv.keep hks).mono fun k c _ hk => ?_⟩
      rcases hk with hk | ⟨j, bj, hj, hkj, htj⟩
      · exact .inl hk
      · have hj' : (if dD = j then some anyB else S.blk j) = some bj := by rw [← hj]; show _ = look (putL S.s dD anyB) j; rw [qH]; rfl
        by_cases e1 : dD = j
        · subst e1
          exact .inr ⟨dD, _, hb, hkj, trivial⟩
        · rw [if_neg e1] at hj'
          exact .inr ⟨j, bj, hj', hkj, htj⟩
    | _ => trivial
  have h2 := h1.2 e' ρ _ _ he hs3 hx2
  have hdf : a.defers = [markD D] := hs.defers
  have htk := run_takeDeferred (P := P) hD.2
  cases e' with
  | normal =>
    show LeavesInM _ _ _ _ _ _ _ _ _
    rw [hdf]
    exact ⟨by simp, .inl ⟨D, _, rfl, htk, h2.2⟩⟩
  | ret =>
    show LeavesInM _ _ _ _ _ _ _ _ _
    rw [hdf]
    exact ⟨by simp, .inl ⟨D, _, rfl, htk, h2.2⟩⟩
  | panic c =>
    show LeavesInM _ _ _ _ _ _ _ _ _
    rw [hdf]
    exact ⟨by simp, .inl ⟨D, _, rfl, htk, h2.2⟩⟩
  | exit id => exact h2.elim
  | goto l => exact h2.elim
  | outgrown => exact absurd he.symm h1.1
theorem fn_ofA {f : FuncId} {fn : Func} {c : Code} {args : List AV} {B : List Blk} {Post : EV → List Blk → Prop} (hf : P.funcs[f]? = some fn) (hb : fn.body = some c) (hn : fn.ntmps = n) (hle : args.length ≤ n) (h1000 : n ≤ 1000)
    (hc : ∀ (M : Nat → Nat → Prop) (h : Home), h.d = [] → WA P n f c { t := zipA 0 args, s := numB 1000 B } M h (bodyPostM Fence.wide 0 P fn (PQ M h Post))) : FnQ P f args B Post := by
  intro M hh ρ vs hand hs0 hvl hvs
  exact calls_of_at hf hb (hc M hh hs0.defers.symm _ _ _ (entry_asB hn hle h1000 hs0 hvl hvs))
end
/-! ### Over trees -/
/-- how such a function ends, by what its tree does -/
def HP {α : Type} (H : Hnd) (res : α → AV) (bk : List Blk) (bk' : α → List Blk) (m : Held H.σ α) (ev : EV) (B : List Blk) : Prop := match m with
  | .done x s' => ev = .ret (res x) ∧ B = H.b0 s' :: H.b1 s' :: H.b2 s' :: bk' x
  | .need q s' => ev = .pan (needA (accQ q)) ∧ B = H.b0 s' :: H.b1 s' :: H.b2 s' :: bk.map Blk.forget
  | .stuck => False
theorem EndH.q {α : Type} {H : Hnd} {fn : Func} {res : α → AV} {bk : List Blk} {bk' : α → List Blk} {m : Held H.σ α} {e : Exit} {S : AS} (h : EndH H fn res bk bk' m e S) : EndQ Tryz.prog fn (HP H res bk bk' m) e S := by
  cases h with
  | ret he hg hB h => subst h; exact .ret he (Sub.refl _) hg (wL hB) ⟨rfl, rfl⟩
  | @pan _ q2 s2 hx hB hF h =>
    subst h
    refine .pan (S' := S.forget) (fun M n w0 ρ a w hs => hs.forget) (fun M ρ k c => (AS.forget_mut S M ρ k c).1) hx (fun i b hi => ?_) ⟨rfl, rfl⟩
    match i with
    | 0 =>
      simp at hi; subst hi
      rw [AS.xI, hB.1]; rfl
    | 1 =>
      simp at hi; subst hi
      rw [AS.xI, hB.2.1]; rfl
    | 2 =>
      simp at hi; subst hi
      rw [AS.xI, hB.2.2.1]; rfl
    | i + 3 =>
      rw [show 1000 + (i + 3) = 1003 + i by omega]
      exact fg_at bk 1003 (by omega) hF i b (by simpa using hi)
theorem fn_ofHQ {α : Type} {H : Hnd} {f : FuncId} {args : List AV} {bk : List Blk} {res : α → AV} {bk' : α → List Blk} {good : α → Prop} {s : H.σ} {p : Pr α} (hfine : p.yZ good)
    (h : H.ok s → p.run H.st s ≠ .stuck → FnQ Tryz.prog f args (H.b0 s :: H.b1 s :: H.b2 s :: bk) (HP H res bk bk' (p.run H.st s))) : FnH H f args bk res bk' good s p := by
  intro hok
  have hg := Pr.yZ.run H.stOK hfine hok
  have hb := h hok
  cases m : p.run H.st s with
  | stuck => trivial
  | done x s' =>
    rw [m] at hg hb
    exact ⟨hg.1, hg.2, (hb (by simp)).e⟩
  | need q s' =>
    rw [m] at hg hb
    exact ⟨hg, (hb (by simp)).e⟩
end Go.Proofs.YtmfbamiciieooaaGreatDoor
/- Drawn regions in a round; how a round ends, over trees. -/
namespace Go.Proofs.YtmfbamiciieooaaGreatDoor
set_option maxRecDepth 100000
set_option maxHeartbeats 16000000
open Go Go.RowKit
set_option linter.unusedSimpArgs false
set_option linter.unusedVariables false
section
variable {P : Program} {n : Nat} {S : AS}
theorem ACodeR.mono {r : Nat} {c : Code} {K K' : Exit → AS → Prop} (h : ACodeR r P n c S K) (hk : ∀ e S, K e S → K' e S) : ACodeR r P n c S K' := fun h0 M w0 ρ a w Q hs hK =>
  h (fun S hS => h0 S (hk _ S hS)) M w0 ρ a w Q hs fun e S' ρ' a' w' h1 h2 h3 => hK e S' ρ' a' w' (hk _ _ h1) h2 h3
variable {fid : FuncId} {M : Nat → Nat → Prop} {h : Home} {Q : Exit → Act → World → Prop} {x y : Code}
theorem WA.seqK {K : Exit → AS → Prop} (hK : ∀ e S, e ≠ .normal → K e S → WX n M h Q e S) (hc : zZ P n x S (zB (fun S' => WA P n fid y S' M h Q) K)) : WA P n fid (.seq x y) S M h Q := WA.seq (hc.mono fun e S hk => by
  cases e with
  | normal => exact hk
  | _ => exact hK _ _ (by simp) hk)
theorem WX.thnK {K : Act → World → Prop} {e : Exit} (he : e ≠ .normal) (hw : WX n M h Q e S) : WX n M h (Exit.then K Q) e S := ⟨hw.1, fun e' ρ a w hb hs hx => by
  cases e' with
  | normal => exact absurd hb.symm he
  | _ => exact hw.2 _ ρ a w hb hs hx⟩
end
/-- how a round's body ends, by what its tree does -/
inductive EndYH (H : Hnd) (l : Nat) (r : Loop) (bk : List Blk) (m : Held H.σ Unit) : Exit → AS → Prop
  | norm {S : AS} {s' : H.σ} (hB : hasL S 1000 (H.b0 s' :: H.b1 s' :: H.b2 s' :: (bk ++ [recB l (busyL r)]))) (h : m = .done () s') : EndYH H l r bk m .normal S
  | pan {S : AS} {q : Ned} {s' : H.σ} (hx : S.x = needA (accQ q)) (hB : hasL S 1000 [H.b0 s', H.b1 s', H.b2 s']) (hF : fgL S 1003 (bk ++ [recB l (busyL r)])) (h : m = .need q s') : EndYH H l r bk m (.panic []) S
theorem fgL_t {S : AS} : ∀ (bk : List Blk) (i : Nat), fgL S i bk → fgL { S with t := [] } i bk
  | [], _, _ => trivial
  | _ :: r, i, h => ⟨h.1, fgL_t r (i + 1) h.2⟩
theorem hasL_t {S : AS} : ∀ (bk : List Blk) (i : Nat), hasL S i bk → hasL { S with t := [] } i bk
  | [], _, _ => trivial
  | _ :: r, i, h => ⟨h.1, hasL_t r (i + 1) h.2⟩
instance {H : Hnd} {l : Nat} {r : Loop} {bk : List Blk} {m : Held H.σ Unit} : PanK (EndYH H l r bk m) := ⟨fun S hk => by
  cases hk with
  | pan hx hB hF h => exact .pan hx (hasL_t _ _ hB) (fgL_t _ _ hF) h⟩
theorem EndYH.y {H : Hnd} {l : Nat} {r : Loop} {bk : List Blk} {m : Held H.σ Unit} {e : Exit} {S : AS} (h : EndYH H l r bk m e S) : EndY l r (bk.length + 3) (HP H (fun _ => .p (.val (.bool true))) (bk ++ [recB l r]) (fun _ => bk ++ [recB l r]) m) e S := by
  cases h with
  | @norm _ s' hB h =>
    subst h
    exact .norm (B := H.b0 s' :: H.b1 s' :: H.b2 s' :: bk) (Sub.refl _) rfl (wL hB) ⟨rfl, rfl⟩
  | @pan _ q2 s2 hx hB hF h =>
    subst h
    have e0 : (bk ++ [recB l r]).map Blk.forget = (bk ++ [recB l (busyL r)]).map Blk.forget := by
      rw [List.map_append, List.map_append]; rfl
    refine .pan (S' := S.forget) (B' := H.b0 s2 :: H.b1 s2 :: H.b2 s2 :: (bk ++ [recB l r]).map Blk.forget) (fun M n w0 ρ a w hs => hs.forget) (fun M ρ k c => (AS.forget_mut S M ρ k c).1) hx (fun i b hi => ?_) ⟨rfl, rfl⟩
    rw [e0] at hi
    match i with
    | 0 =>
      simp at hi; subst hi
      rw [AS.xI, hB.1]; rfl
    | 1 =>
      simp at hi; subst hi
      rw [AS.xI, hB.2.1]; rfl
    | 2 =>
      simp at hi; subst hi
      rw [AS.xI, hB.2.2.1]; rfl
    | i + 3 =>
      rw [show 1000 + (i + 3) = 1003 + i by omega]
      exact fg_at (bk ++ [recB l (busyL r)]) 1003 (by omega) hF i b (by simpa using hi)
end Go.Proofs.YtmfbamiciieooaaGreatDoor
/- Structs that hold an own row's slice: what a function hands back. Generic over the program. -/
namespace Go.Proofs.YtmfbamiciieooaaGreatDoor
set_option maxRecDepth 100000
set_option maxHeartbeats 16000000
open Go Go.RowKit
set_option linter.unusedVariables false
set_option linter.unusedSimpArgs false
/-- a struct's cells, pure ones and own rows' slices -/
def cls : List AV → Option (List Cl)
  | [] => some []
  | .p x :: r => (cls r).map (.p x :: ·)
  | .own id :: r => (cls r).map (.o id :: ·)
  | .clo f ids :: r => (cls r).map (.c f ids :: ·)
  | _ :: _ => none
theorem cls_spec : ∀ {xs : List AV} {cs : List Cl}, cls xs = some cs → xs = cs.map Cl.av
  | [], cs, h => by cases h; rfl
  | .p x :: r, cs, h => by
    unfold cls at h
    rw [Option.map_eq_some_iff] at h
    obtain ⟨l, h1, rfl⟩ := h
    rw [cls_spec h1]; rfl
  | .own id :: r, cs, h => by
    unfold cls at h
    rw [Option.map_eq_some_iff] at h
    obtain ⟨l, h1, rfl⟩ := h
    rw [cls_spec h1]; rfl
  | .any :: _, _, h => by cases h
  | .ptr _ _ :: _, _, h => by cases h
  | .pt _ :: _, _, h => by cases h
  | .tup _ :: _, _, h => by cases h
  | .clo f ids :: r, cs, h => by
    unfold cls at h
    rw [Option.map_eq_some_iff] at h
    obtain ⟨l, h1, rfl⟩ := h
    rw [cls_spec h1]; rfl
  | .glob _ :: _, _, h => by cases h
  | .ifp _ _ :: _, _, h => by cases h
  | .ag _ :: _, _, h => by cases h
theorem clOK_of {M : Nat → Nat → Prop} {ρ : Nat → Value} {w : World} {c : Cl} {v : Value} (h : yY M ρ w c.av v) : ClOK M ρ w c v := by
  cases c with
  | p x => exact qO h
  | o id => exact vD h
  | c f ids =>
    have h0 : yY M ρ w (.clo f ids) v := h
    cases h0 with
    | clo _ _ vs hl h1 => exact ⟨vs, rfl, hl, h1⟩
theorem repA_ag {M : Nat → Nat → Prop} {ρ : Nat → Value} {w : World} {xs : List AV} {ys : List Value} {cs : List Cl} (h : yA M ρ w xs ys) (hc : xs = cs.map Cl.av) : yY M ρ w (.ag cs) (.agg ys.toArray) := by
  subst hc
  refine .ag cs ys (by simpa using h.len) (fun i c v h1 h2 => clOK_of (h.each i c.av v (by rw [List.getElem?_map, h1]; rfl) h2)) h.one
section
variable {P : Program} {n : Nat} {o : Oper} {S : AS} {d : Nat} {x : Operand} {t : TypeId}
theorem w_extractAg {avs : List AV} {i : Nat} {cs : List Cl} (ho : o.op = .extract x i) (hx : S.get x = .tup avs) (hi : avs[i]? = some (.ag cs)) (hd : o.dst = some d) (hn : d < n) : zX P n o S [] (.ag cs) none :=
  zX.pure hd hn fun S2 hg _ M w0 ρ a w hs => by
    have h1 := hs.rep x
    rw [hg x (by rw [ho]; simp [Op.operands]), hx] at h1
    generalize hev : a.eval x = ev at h1
    cases h1 with
    | tup _ vs hl h =>
      have hlt : i < vs.length := by rw [hl]; exact (List.getElem?_eq_some_iff.1 hi).1
      refine ⟨vs[i], w, ?_, Below.refl _ _, h i _ _ hi (List.getElem?_eq_getElem hlt)⟩
      unfold execOp
      rw [ho]
      simp [hev, Instr.extract, hlt]
theorem w_boxAg {t : TypeId} {x : Operand} {cs : List Cl} (ho : o.op = .box t x) (hx : S.get x = .ag cs) (hd : o.dst = some d) (hn : d < n) : zX P n o S [] (.ptr d 0) (some (.box t (cs.map Cl.av))) :=
  zX.made hd hn fun S2 hg _ M w0 ρ a w hs => by
    have hr := hs.rep x
    rw [hg x (by rw [ho]; simp [Op.operands]), hx] at hr
    refine ⟨.pointer (some ⟨w.heap.size, 0, none⟩), w.alloc (.cells (a.eval x).cells t), ?_, World.grownBy_alloc w _ none, fun k hk => ?_, ?_, .inr ⟨rfl, _, rfl⟩⟩
    · unfold execOp
      rw [ho]
      simp [Instr.box, newVar, newRow]
    · simp only [zU, Option.some.injEq] at hk; omega
    · have hc := repA_cells hr rfl
      refine ⟨w.heap.size, (a.eval x).cells.toList, rfl, Nat.zero_le _, by rw [heap_alloc_new], ⟨hc.len, fun i c u h2 h3 => ?_, hc.one⟩⟩
      refine ((hc.each i c u h2 h3).mono fun k c hk h => ?_).keep (.of_below _ ((Below.refl _ _).alloc (Nat.le_refl _) _))
      rcases h with h | h
      · exact h
      · simp only [zU, Option.some.injEq] at h; omega
theorem w_loadAg {id off m : Nat} {b : Blk} {cs : List Cl} [h : TyA P t true m] (ho : o.op = .load t x) (hx : S.get x = .ptr id off) (hb : S.blk id = some b) (hc : cls ((b.xs.drop off).take m) = some cs) (hl : cs.length = m) (hd : o.dst = some d) (hn : d < n) : zX P n o S [id] (.ag cs) none :=
  zX.pure hd hn fun S2 hg hbl M w0 ρ a w hs => by
    have h1 := hs.rep x
    rw [hg x (by rw [ho]; simp [Op.operands]), hx] at h1
    obtain ⟨g, hgv, hv⟩ := wU h1
    have hb2 : S2.blk id = some b := (hbl id (by simp)).trans hb
    obtain ⟨ys, hcs, hcell⟩ := (hs.blks id b hb2).cells hgv
    have hcm := cls_spec hc
    have hlen : ((b.xs.drop off).take m).length = m := by rw [hcm, List.length_map, hl]
    have hlen2 : ((ys.drop off).take m).length = m := by
      simp only [List.length_take, List.length_drop] at hlen ⊢
      rw [hcs.len]
      exact hlen
    have get : ∀ (j : Nat) y, ((ys.drop off).take m)[j]? = some y → j < m ∧ ys[off + j]? = some y := by
      intro j y hy
      rw [List.getElem?_take] at hy
      split at hy
      · rename_i hj
        rw [List.getElem?_drop] at hy
        exact ⟨hj, hy⟩
      · cases hy
    refine ⟨.agg ((ys.drop off).take m).toArray, w, ?_, Below.refl _ _, repA_ag (xs := (b.xs.drop off).take m) ⟨by rw [hlen, hlen2], fun i c v h1 h2 => ?_, fun v hv => hcs.one v (List.mem_of_mem_drop (List.mem_of_mem_take hv))⟩ hcm⟩
    · unfold execOp
      rw [ho]
      have := loadAt_many (P := P) (w := w) (t := t) (g := g) (o := off) (ys := (ys.drop off).take m) (h.ag w) (h.sz w) hlen2 (fun j y hy => (hcell (off + j) y (get j y hy).2).1)
      simp only [hv, Sem.run_bind, this]
      rfl
    · obtain ⟨hj, hy⟩ := get i v h2
      rw [List.getElem?_take, if_pos hj, List.getElem?_drop] at h1
      exact hcs.each (off + i) c v h1 hy
def ownB (id : Nat) (av : AV) : Bool := av.vU || (match av with
  | .own j => j == id
  | _ => false)
/-- a struct's literal that holds own row id (0: none) -/
theorem w_buildAg (id : Nat) {ps : Array (Nat × Operand)} {pl : List (Nat × Nat)} {z : Value} {zs : List AV} {cs : List Cl} {b : Blk} [hb : BuildA P t pl] [hz : ZeroA P t z] (ho : o.op = .build t ps) (h1 : z.cells.toList.all (fun u => u.oneCell') = true)
    (hk : ps.toList.all (fun p => ownB id (S.get p.2)) = true) (hbk : S.blk id = some b) (hrow : b.isRow = true)
    (hf : fillA (fun i => pl[i]?) (z.cells.toList.map fun u => .p (.val u)) (ps.toList.map fun p => (p.1, S.get p.2)) = some zs) (hp : cls zs = some cs) (hd : o.dst = some d) (hn : d < n) : zX P n o S [id] (.ag cs) none :=
  zX.pure hd hn fun S2 hg hbl M w0 ρ a w hs => by
    have hargs : ∀ p ∈ ps.toList, S2.get p.2 = S.get p.2 := fun p hp => hg p.2 (by rw [ho]; simp only [Op.operands, List.mem_map]; exact ⟨p, hp, rfl⟩)
    have hb2 : S2.blk id = some b := (hbl id (by simp)).trans hbk
    have parts : ∀ p ∈ ps.toList, yA (Mut M S2 ρ) ρ w (S.get p.2).xH (a.eval p.2).cells.toList := fun p hp => by
      have h := List.all_eq_true.1 hk p hp
      have hrep := hs.rep p.2
      rw [hargs p hp] at hrep
      generalize hav : S.get p.2 = av at h hrep ⊢
      cases hpo : av.vU with
      | true => exact repA_cells hrep hpo
      | false =>
        unfold ownB at h
        rw [hpo, Bool.false_or] at h
        cases av with
        | own j =>
          obtain rfl : j = id := by simpa using h
          exact cells_own hs hb2 hrow hrep
        | _ => cases h
    obtain ⟨us, h3, h4⟩ := fill_rep (fun i => pl[i]?) S.get a.eval ps.toList _ zs z.cells.toList parts hf (zerosA fun u hu => List.all_eq_true.1 h1 u hu)
    refine ⟨.agg us.toArray, w, ?_, Below.refl _ _, repA_ag h4 (cls_spec hp)⟩
    unfold execOp
    rw [ho]
    have e : (ps.map fun (i, x) => (i, a.eval x)) = (ps.toList.map fun p => (p.1, a.eval p.2)).toArray := by apply Array.ext'; simp
    simp only [e, Sem.run_bind, run_build (P := P) (t := t) (pl := pl) (z := z) _ w _ h3]
    rfl
/-- without one -/
theorem w_buildAg0 {ps : Array (Nat × Operand)} {pl : List (Nat × Nat)} {z : Value} {zs : List AV} {cs : List Cl} [hb : BuildA P t pl] [hz : ZeroA P t z] (ho : o.op = .build t ps) (h1 : z.cells.toList.all (fun u => u.oneCell') = true)
    (hk : ps.toList.all (fun p => (S.get p.2).vU) = true)
    (hf : fillA (fun i => pl[i]?) (z.cells.toList.map fun u => .p (.val u)) (ps.toList.map fun p => (p.1, S.get p.2)) = some zs) (hp : cls zs = some cs) (hd : o.dst = some d) (hn : d < n) : zX P n o S [] (.ag cs) none :=
  zX.pure hd hn fun S2 hg _ M w0 ρ a w hs => by
    have hargs : ∀ p ∈ ps.toList, S2.get p.2 = S.get p.2 := fun p hp => hg p.2 (by rw [ho]; simp only [Op.operands, List.mem_map]; exact ⟨p, hp, rfl⟩)
    obtain ⟨us, h3, h4⟩ := fill_rep (fun i => pl[i]?) S.get a.eval ps.toList _ zs z.cells.toList (parts_ok hs hargs hk) hf (zerosA fun u hu => List.all_eq_true.1 h1 u hu)
    refine ⟨.agg us.toArray, w, ?_, Below.refl _ _, repA_ag h4 (cls_spec hp)⟩
    unfold execOp
    rw [ho]
    have e : (ps.map fun (i, x) => (i, a.eval x)) = (ps.toList.map fun p => (p.1, a.eval p.2)).toArray := by apply Array.ext'; simp
    simp only [e, Sem.run_bind, run_build (P := P) (t := t) (pl := pl) (z := z) _ w _ h3]
    rfl
end
/-! ### A function that hands back a struct with an own row -/
def Cl.at_ (d : Nat) : Cl → Cl
  | .o _ => .o d
  | .p x => .p x
  | .c _ _ => .p (.val undef)
structure AgRes (cs : List Cl) (t sz : Nat) (es : List PV) (M : Nat → Nat → Prop) (w w' : World) (us : List Value) (u : Value) : Prop where
  len : us.length = cs.length
  each : ∀ (i : Nat) c x, cs[i]? = some c → us[i]? = some x → match c with
    | .p y => Rep (fun k c => M k c ∨ zU u = some k) w' y x
    | .o _ => x = u
    | .c _ _ => x = undef
  one : ∀ x ∈ us, x.oneCell' = true
  row : ∃ ys, w'.ownsRow w.heap.size t sz u es.length ys ∧ RepL (fun k c => M k c ∨ zU u = some k) w' (flat es) ys
def agV (z : Option Value) (us : List Value) : Value := match z with
  | none => .agg us.toArray
  | some c => .tuple #[.agg us.toArray, c]
def FnAg (P : Program) (f : FuncId) (args : List PV) (cs : List Cl) (t sz : Nat) (es : List PV) (z : Option Value) : Prop :=
  ∀ (M : Nat → Nat → Prop) (w : World) (vs : List Value), Lays w ∧ (∀ g c, Tabs g → ¬ M g c) → (∀ k c, M k c → k < w.heap.size) → vs.length = args.length → (∀ (i : Nat) x v, args[i]? = some x → vs[i]? = some v → Rep M w x v) →
    Calls P f vs.toArray w fun e w' => ∃ us u, e = .returned (agV z us) ∧ AgRes cs t sz es M w w' us u ∧ Below w.heap.size w w'
/-- the results, as they lie at the end -/
inductive AgEnd (P : Program) (fn : Func) (S : AS) (cs : List Cl) (t sz : Nat) (es : List PV) : Option Value → Prop
  | one {a ty id off m k : Nat} {b : Blk} [ht : TyA P ty true m] (hr : fn.results = #[.cell a ty]) (h : S.tmp a = .ptr id off) (hb : S.blk id = some b) (hc : cls ((b.xs.drop off).take m) = some (cs.map (Cl.at_ k))) (hl : cs.length = m) (hk : S.blk k = some (qF t sz es)) : AgEnd P fn S cs t sz es none
  | two {a ty id off m k q : Nat} {b : Blk} {z : Value} [ht : TyA P ty true m] (hr : fn.results = #[.cell a ty, .tmp q]) (h : S.tmp a = .ptr id off) (hb : S.blk id = some b) (hc : cls ((b.xs.drop off).take m) = some (cs.map (Cl.at_ k))) (hl : cs.length = m) (hk : S.blk k = some (qF t sz es)) (hq : S.tmp q = .p (.val z)) : AgEnd P fn S cs t sz es (some z)
theorem ag_cell {P : Program} {M : Nat → Nat → Prop} {n : Nat} {w : World} {hl0 : Lays w} {w' : World} {S : AS} {ρ : Nat → Value} {a : Act} (hs : Sat M n (Home.plain w hl0) S ρ a w') {cs : List Cl} {t sz p ty id off m k : Nat} {es : List PV} {b : Blk} [ht : TyA P ty true m]
    (h : S.tmp p = .ptr id off) (hb : S.blk id = some b) (hc : cls ((b.xs.drop off).take m) = some (cs.map (Cl.at_ k))) (hl : cs.length = m) (hk : S.blk k = some (qF t sz es)) :
    ∃ us, (resOne a.tmps (.cell p ty)).run P w' = .ok (.agg us.toArray) w' ∧ AgRes cs t sz es M w w' us (ρ k) := by
  have h1 := hs.tmps p
  rw [h] at h1
  obtain ⟨g, hgv, hv⟩ := wU h1
  obtain ⟨ys, hcs, hcell⟩ := (hs.blks id b hb).cells hgv
  have hcm := cls_spec hc
  have hlen : ((b.xs.drop off).take m).length = m := by rw [hcm, List.length_map, List.length_map, hl]
  have hlen2 : ((ys.drop off).take m).length = m := by
    simp only [List.length_take, List.length_drop] at hlen ⊢
    rw [hcs.len]
    exact hlen
  have get : ∀ (j : Nat) y, ((ys.drop off).take m)[j]? = some y → j < m ∧ ys[off + j]? = some y := by
    intro j y hy
    rw [List.getElem?_take] at hy
    split at hy
    · rename_i hj
      rw [List.getElem?_drop] at hy
      exact ⟨hj, hy⟩
    · cases hy
  have hup : ∀ k' c, k' < w'.heap.size → (M k' c ∨ zU (ρ k) = some k') → Mut M S ρ k' c := fun k' c _ h => h.elim .inl fun h => .inr ⟨k, _, hk, h, trivial⟩
  refine ⟨(ys.drop off).take m, ?_, ⟨by rw [hlen2, hl], fun i c x h1 h2 => ?_, fun v hv => hcs.one v (List.mem_of_mem_drop (List.mem_of_mem_take hv)), ?_⟩⟩
  · have := loadAt_many (P := P) (w := w') (t := ty) (g := g) (o := off) (ys := (ys.drop off).take m) (ht.ag w') (ht.sz w') hlen2 (fun j y hy => (hcell (off + j) y (get j y hy).2).1)
    simp only [Instr.loadAt, Instr.sureAddr, Sem.run_bind, Sem.run_pure, Result.andThen_ok] at this
    simp only [resOne, hv, asAddr, Sem.run_bind, Sem.run_pure, Result.andThen_ok]
    exact this
  · obtain ⟨hj, hy⟩ := get i x h2
    have h3 : b.xs[off + i]? = some (c.at_ k).av := by
      have h4 : ((b.xs.drop off).take m)[i]? = ((cs.map (Cl.at_ k)).map Cl.av)[i]? := by rw [hcm]
      rw [List.getElem?_take, if_pos hj, List.getElem?_drop, List.getElem?_map, List.getElem?_map, h1] at h4
      exact h4
    have h5 := clOK_of (hcs.each (off + i) _ x h3 hy)
    cases c with
    | p y => exact Rep.mono h5 hup
    | o j => exact h5
    | c f ids =>
      have h6 : Rep _ _ (.val undef) x := h5
      cases h6
      rfl
  · obtain ⟨ys2, ho, hc2⟩ := hs.blks k _ hk
    refine ⟨ys2, vC ho (fun k' hk' => (hs.mine k _ k' hk hk').elim (fun h => h) (fun h => h.elim)), by simpa using hc2.len, fun i c v h3 h4 => ?_, hc2.one⟩
    exact (qO (hc2.each i (.p c) v (by rw [List.getElem?_map, h3]; rfl) h4)).mono hup
theorem fn_ofAg {P : Program} {f : FuncId} {fn : Func} {c : Code} {args : List PV} {cs : List Cl} {t sz : Nat} {es : List PV} {z : Option Value} {n : Nat} (hf : P.funcs[f]? = some fn) (hb : fn.body = some c) (hn : fn.ntmps = n) (hle : args.length ≤ n)
    (h : zZ P n c (AS.entry args) (fun e S => (e = .ret ∨ e = .normal) ∧ AgEnd P fn S cs t sz es z)) : FnAg P f args cs t sz es z := by
  intro M w vs hT hM hvl hvs
  refine calls_of_wp hf hb ?_
  have hsat : Sat M n (Home.plain w hT.1) (AS.entry args) (fun _ => undef) { tmps := vs.toArray ++ Array.replicate (fn.ntmps - vs.toArray.size) undef, defers := [] } w := by
    refine ⟨xO.refl (Home.plain w hT.1), (fun k c hk hh => by rcases hh with hh | hh; exact absurd (hM k c hk) (Nat.not_lt.2 hh); exact hh), hT.2, by simp; omega, rfl, fun i => ?_, (fun id b hb => by cases hb), (fun id b k hb => by cases hb), (fun k v hk => by cases hk), (fun _ _ => rfl), (fun i j bi bj k hi => by cases hi)⟩
    show yY _ _ _ ((look (zipArgs 0 args) i).getD .any) _
    rw [look_zipArgs]
    simp only [Nat.zero_le, if_true, Nat.sub_zero]
    cases hx : args[i]? with
    | none => exact .any _
    | some x =>
      have hi : i < vs.length := by rw [hvl]; exact (List.getElem?_eq_some_iff.1 hx).1
      have e : ({ tmps := vs.toArray ++ Array.replicate (fn.ntmps - vs.toArray.size) undef, defers := [] } : Act).tmps.getD i undef = vs[i] := by
        simp [Array.getD_eq_getD_getElem?, Array.getElem?_append, hi]
      rw [e]
      refine .p ((hvs i x vs[i] hx (List.getElem?_eq_getElem hi)).mono ?_)
      rintro k c _ (hk | ⟨id, b, hb, _⟩)
      · exact hk
      · cases hb
  refine h M (Home.plain w hT.1) _ _ w _ hsat ?_
  rintro e S0 ρ' a' w' ⟨he, hend⟩ hs'
  have fin : a'.defers = [] ∧ ∃ v, (results fn a'.tmps).run P w' = .ok v w' ∧ (∃ us u, Ending.returned v = .returned (agV z us) ∧ AgRes cs t sz es M w w' us u ∧ Below w.heap.size w w') := by
    refine ⟨hs'.defers, ?_⟩
    cases hend with
    | @one p ty id off m k b ht hr hp hbk hc hl hk =>
      obtain ⟨us, h1, h2⟩ := ag_cell (P := P) (ty := ty) hs' hp hbk hc hl hk
      have h5 := xX (P := P) (w := w') fn a'.tmps (rs := [_]) (vs := [.agg us.toArray]) hr (by simp only [List.mapM_cons, List.mapM_nil, Sem.run_bind, Sem.run_pure, h1, Result.andThen_ok])
      exact ⟨_, h5, us, _, rfl, h2, hs'.below.plain⟩
    | @two p ty id off m k q b z ht hr hp hbk hc hl hk hq =>
      obtain ⟨us, h1, h2⟩ := ag_cell (P := P) (ty := ty) hs' hp hbk hc hl hk
      have e3 : a'.tmps.getD q undef = z := by
        have g1 := hs'.tmps q
        rw [hq] at g1
        have g2 := qO g1
        generalize a'.tmps.getD q undef = u at g2
        cases g2; rfl
      have hq2 : (resOne a'.tmps (.tmp q)).run P w' = .ok z w' := by rw [← e3]; rfl
      have h5 := xX (P := P) (w := w') fn a'.tmps (rs := [_, _]) (vs := [.agg us.toArray, z]) hr (by simp only [List.mapM_cons, List.mapM_nil, Sem.run_bind, Sem.run_pure, h1, hq2, Result.andThen_ok])
      exact ⟨_, h5, us, _, rfl, h2, hs'.below.plain⟩
  intro _
  cases e with
  | ret => exact fin
  | normal => exact fin
  | exit id => rcases he with h | h <;> cases h
  | goto l => rcases he with h | h <;> cases h
  | panic c => rcases he with h | h <;> cases h
  | outgrown => rcases he with h | h <;> cases h
def agA (z : Option Value) (cs : List Cl) : AV := match z with
  | none => .ag cs
  | some c => .tup [.ag cs, .p (.val c)]
section
variable {P : Program} {n : Nat} {o : Oper} {S : AS} {d : Nat}
theorem w_callAg {f : Nat} {args : Array Operand} {ts : Array TypeId} {xs : List PV} {cs : List Cl} {e sz : Nat} {es : List PV} {z : Option Value} [hc : HasFn P f] (hf : FnAg P f xs cs e sz es z) (ho : o.op = .call { callee := .value (.func f), args := args, argTypes := ts })
    (hx : args.toList.map S.get = xs.map AV.p) (hd : o.dst = some d) (hn : d < n) : zX P n o S [] (agA z (cs.map (Cl.at_ d))) (some (qF e sz es)) := by
  intro S2 hg _ M w0 ρ a w K Q hs hK
  have hargs : ∀ x ∈ args.toList, S2.get x = S.get x := fun x hx => hg x (by rw [ho]; simp [Op.operands, Call.operands]; exact .inr (by simpa using hx))
  have he : (execOp a.eval o).run P w = .ok (.enter f (args.map a.eval)) w := by
    unfold execOp
    rw [ho]
    simp [resolve, Deferred.ofValue, Act.eval, invoke, hc.h]
  unfold Oper.wp
  rw [he, Oper.upon_enter]
  have hlen : (args.toList.map a.eval).length = xs.length := by
    have := congrArg List.length hx
    simpa using this
  have := hf (Mut M S2 ρ) w (args.toList.map a.eval) ⟨hs.lays, hs.tabs⟩ (fun k c hk => Mut.lt hs hk) hlen (fun i x v h1 h2 => by
    rw [List.getElem?_map, Option.map_eq_some_iff] at h2
    obtain ⟨y, hy, rfl⟩ := h2
    have h3 : S.get y = .p x := by
      have h4 : (args.toList.map S.get)[i]? = (xs.map AV.p)[i]? := by rw [hx]
      rw [List.getElem?_map, List.getElem?_map, hy, h1] at h4
      simpa using h4
    exact yR hs ((hargs y (List.mem_of_getElem? hy)).trans h3))
  have e1 : (args.toList.map a.eval).toArray = args.map a.eval := by apply Array.ext'; simp
  rw [e1] at this
  refine this.mono ?_
  rintro en w' ⟨us, v, rfl, hres, hb⟩
  obtain ⟨ys, hown, hl⟩ := hres.row
  show K (a.put o.dst (agV z us)) w'
  rw [hd] at hK ⊢
  have hnew : ∀ k, zU v = some k → w.heap.size ≤ k := fun k hk => by
    rcases hown.2 with ⟨rfl, _⟩ | ⟨g, cap, cur, rfl, hg2, _⟩
    · cases hk
    · simp only [zU, Option.some.injEq] at hk; omega
  have hbk : xG (fun k c => Mut M S2 ρ k c ∨ (zU v = some k ∧ (qF e sz es).turns c)) 0 ρ w' v (qF e sz es) :=
    ⟨ys, vC hown (fun _ _ => Nat.zero_le _), ⟨by simpa using hl.len, fun i c u h1 h2 => by
      rw [List.getElem?_map, Option.map_eq_some_iff] at h1
      obtain ⟨y, hy, rfl⟩ := h1
      exact .p ((hl.each i y u hy h2).mono fun k c _ hk => hk.elim .inl fun h => .inr h.1), hl.one⟩⟩
  have hs' := hs.change d (qF e sz es) v none (hs.free d hn) (w' := w') ⟨hb.os, hb.tape, hb.output, hb.size, fun k hk _ => hb.block k hk⟩ (fun k hk => by cases hk) (fun k hk => .inl (hnew k hk)) hbk
  refine hK _ _ w' (hs'.put hn ?_)
  have hag : yY (Mut M (S2.create d (qF e sz es)) (upd ρ d v)) (upd ρ d v) w' (.ag (cs.map (Cl.at_ d))) (.agg us.toArray) := by
    refine .ag _ us (by simpa using hres.len) (fun i c x hc hx => ?_) hres.one
    rw [List.getElem?_map, Option.map_eq_some_iff] at hc
    obtain ⟨c0, hc0, rfl⟩ := hc
    have h2 := hres.each i c0 x hc0 hx
    cases c0 with
    | o j => show x = upd ρ d v d; simp only [upd, if_true]; exact h2
    | c f ids =>
      obtain rfl : x = undef := h2
      exact Rep.val _
    | p y =>
      refine Rep.mono h2 fun k c _ hk => ?_
      rcases hk with hk | ⟨id, b, hb1, hv1, ht1⟩
      · exact .inl (.inl hk)
      · rw [AS.wT] at hb1
        by_cases hid : d = id
        · subst hid
          rw [show upd ρ d v d = v from by simp [upd]] at hv1
          exact .inr hv1
        · rw [if_neg hid, Option.map_eq_some_iff] at hb1
          obtain ⟨b0, hb0, rfl⟩ := hb1
          have hv2 : zU (ρ id) = some k := by simpa [upd, Ne.symm hid] using hv1
          exact .inl (.inr ⟨id, b0, hb0, hv2, (Blk.turns_kill b0 d c).1 ht1⟩)
  cases z with
  | none => exact hag
  | some c =>
    refine .tup [.ag (cs.map (Cl.at_ d)), .p (.val c)] [.agg us.toArray, c] rfl fun i c' x hc hx => ?_
    match i with
    | 0 => cases hc; cases hx; exact hag
    | 1 => cases hc; cases hx; exact .p (.val _)
    | i + 2 => simp at hc
end
end Go.Proofs.YtmfbamiciieooaaGreatDoor
/- A drawn region's orders, joined where the same is done. Generic over the program. -/
namespace Go.Proofs.YtmfbamiciieooaaGreatDoor
set_option maxRecDepth 100000
set_option maxHeartbeats 16000000
open Go Go.RowKit
def sameB (a b : List Nat) : Bool := a.all b.contains && b.all a.contains
theorem sameB_iff {a b : List Nat} (h : sameB a b = true) (i : Nat) : a.contains i = b.contains i := by
  unfold sameB at h
  rw [Bool.and_eq_true, List.all_eq_true, List.all_eq_true] at h
  cases ha : a.contains i with
  | true => exact (h.1 i (by simpa using ha)).symm
  | false =>
    cases hb : b.contains i with
    | false => rfl
    | true => exact ha.symm.trans (h.2 i (by simpa using hb))
section
variable {P : Program} {n fu : Nat} {l : List Oper} {K : Exit → AS → Prop} {done done' : List Nat} {S S' : AS}
theorem DGo.subp (hp : sameB done done' = true) (hs : Sub S S') (h : DGo P n l K fu done' S') : DGo P n l K fu done S := by
  unfold DGo at h ⊢
  intro M w0 ρ a w listed hz hl h1
  obtain ⟨ρ', h2⟩ := hs M n w0 ρ a w h1
  exact h M w0 ρ' a w listed hz (fun i => (hl i).trans (sameB_iff hp i)) h2
theorem DGo.share {fu' : Nat} {D' : List Nat} {F' : AS} (k : DGo P n l K fu' D' F') (h : DGo P n l K fu' D' F' → DGo P n l K fu done S) : DGo P n l K fu done S := h k
theorem DGo.shareA {α : Type} {c : α → Prop} {fu' : Nat} {D' : List Nat} {F' : α → AS} (k : ∀ y, c y → DGo P n l K fu' D' (F' y)) (h : (∀ y, c y → DGo P n l K fu' D' (F' y)) → DGo P n l K fu done S) : DGo P n l K fu done S := h k
theorem DGo.keep {l0 : List (Nat × AV)} {m0 : List (Nat × Blk)} (is js : List Nat) (h : DGo P n l K fu done' { t := l0, s := m0 }) (hp : sameB done done' = true := by kernel_rfl)
    (ht : zG S is l0 := by repeat' first | exact zG.nil | apply zG.p rfl | apply zG.ptr rfl | apply zG.own rfl | apply zG.ag rfl | apply zG.clo rfl | apply zG.tup rfl | apply zG.skip)
    (hb : zO S js m0 := by repeat' first | exact zO.nil | apply zO.boxP rfl rfl | apply zO.vF rfl | apply zO.some rfl | apply zO.skip) : DGo P n l K fu done S := DGo.subp hp (sub_keep ht hb) h
/-- what is left hangs on it, or keeps apart from it; it may be guarded -/
def freeYB (l : List Oper) (done : List Nat) (i : Nat) : Bool := match l[i]? with
  | some o => noSel l && !done.contains i && (o.after.toList.all fun e => !Region.binds .any e || done.contains e.on) && ((List.range l.length).all fun j => j == i || done.contains j || (match l[j]? with
    | some q => q.after.toList.any (fun e => Region.binds .any e && e.on == i) || o.apart l.toArray q
    | none => true))
  | none => false
theorem DGo.freeY [hp : PanK K] {o : Oper} {d : Nat} (i : Nat) {av : AV} (hf : freeYB l done i = true) (ho : l[i]? = some o) (hd : o.dst = some d) (hn : d < n)
    (h : ∀ (M : Nat → Nat → Prop) (w0 : Home) (ρ : Nat → Value) (a : Act) (w : World), Sat M n w0 S ρ a w → ∃ v, Go.Yields P l.toArray o v a ∧ yY (Mut M S ρ) ρ w av v) (hr : DGo P n l K fu (i :: done) (S.put d av)) : DGo P n l K (fu + 1) done S := by
  unfold DGo at hr ⊢
  intro M w0 ρ a w listed hz hl hs
  unfold freeYB at hf
  rw [ho] at hf
  simp only [Bool.and_eq_true, Bool.not_eq_true', List.all_eq_true, List.mem_range, Bool.or_eq_true, beq_iff_eq] at hf
  obtain ⟨⟨⟨hsel, hnd⟩, hrd⟩, hap⟩ := hf
  have hil : i < l.length := (List.getElem?_eq_some_iff.1 ho).1
  obtain ⟨v, hv, hrep⟩ := h M w0 ρ a w hs
  have key := wpAny_first (P := P) (md := .any) (ops := l.toArray) (Q := QK M n w0 K) (i := i) (oi := o) (v := v) (by simpa using ho) (fun j q cs b hj e => by
      have hq : q ∈ l := List.mem_of_getElem? (by simpa using hj)
      have := List.all_eq_true.1 hsel q hq
      rw [e] at this
      cases this)
    (fun c a' w' ⟨S', ρ', h1, h2, h3⟩ => ⟨{ S' with t := [] }, ρ', hp.h S' h1, h2.bareT, by
      obtain ⟨u, hu, hx⟩ := h3
      exact ⟨u, hu, hx⟩⟩) fu listed a w
  refine key (fun j q hj hji hlj hno => ?_) ?_ hv ?_
  · have hjl : j < l.length := by
      have := (Array.getElem?_eq_some_iff.1 hj).1
      simpa using this
    have hj' : l[j]? = some q := by simpa using hj
    rcases hap j hjl with (h1 | h1) | h1
    · exact absurd h1 hji
    · rw [← hl j] at h1
      have : listed.getD j true = true := by
        have hlt : j < listed.size := by rw [hz]; exact hjl
        simp only [Array.getD_eq_getD_getElem?, Array.getElem?_eq_getElem hlt, Option.getD_some] at h1 ⊢
        exact h1
      rw [this] at hlj
      cases hlj
    · rw [hj'] at h1
      simp only [Bool.or_eq_true, List.any_eq_true, Bool.and_eq_true, beq_iff_eq] at h1
      rcases h1 with ⟨e, he, hb, hon⟩ | h1
      · exact absurd hon (hno e (by simpa using he) hb)
      · exact h1
  · refine (vN hz hl i).2 ?_
    unfold readyD
    simp only [List.mem_filter, List.mem_range, ho, Bool.and_eq_true, Bool.not_eq_true', List.all_eq_true]
    exact ⟨hil, hnd, fun e he => by simpa using hrd e he⟩
  · refine hr M w0 ρ _ w _ (by simp [hz]) (listed_step hz hil hl) ?_
    rw [hd]
    exact hs.put hn hrep
/-- guarded, and wanted: it hangs on its operands alone -/
theorem DGo.frY [hp : PanK K] {o : Oper} {d j t : Nat} {want b : Bool} (i : Nat) {av : AV} (hr : DGo P n l K fu (i :: done) (S.put d av)) (h : FStep P n o S av) (ho : l[i]? = some o := by rfl) (hd : o.dst = some d := by rfl) (hn : d < n := by decide) (hg : o.guard = some (j, want) := by rfl) (ht : wZ l j = some t := by rfl) (htn : t < n := by decide) (hb : S.tmp t = .p (.val (.bool b)) := by rfl) (hbw : b = want := by rfl) (hf : freeYB l done i = true := by kernel_rfl) : DGo P n l K (fu + 1) done S :=
  DGo.freeY i hf ho hd hn (fun M w0 ρ a w hs => by
    unfold FStep at h
    obtain ⟨v, hv, hrep⟩ := h M w0 ρ a w hs
    have hw := hs.wanted (ops := l.toArray) hg (by simpa [wZ] using ht) htn hb
    exact ⟨v, .inl ⟨by rw [hw]; simp [wantB, hbw], hv⟩, hrep⟩) hr
/-- guarded, and not wanted -/
theorem DGo.frN [hp : PanK K] {o : Oper} {d j t : Nat} {want b : Bool} (i : Nat) (hr : DGo P n l K fu (i :: done) (S.put d wN)) (ho : l[i]? = some o := by rfl) (hd : o.dst = some d := by rfl) (hn : d < n := by decide) (hg : o.guard = some (j, want) := by rfl) (ht : wZ l j = some t := by rfl) (htn : t < n := by decide) (hb : S.tmp t = .p (.val (.bool b)) := by rfl) (hbw : b = !want := by rfl) (hf : freeYB l done i = true := by kernel_rfl) : DGo P n l K (fu + 1) done S :=
  DGo.freeY i hf ho hd hn (fun M w0 ρ a w hs => by
    have hw := hs.wanted (ops := l.toArray) hg (by simpa [wZ] using ht) htn hb
    exact ⟨undef, .inr ⟨by rw [hw]; subst hbw; cases want <;> simp [wantB], rfl⟩, .p (.val _)⟩) hr
end
end Go.Proofs.YtmfbamiciieooaaGreatDoor
/- Functions that make variables, and hand them back to their callers. Generic over the program. -/
namespace Go.Proofs.YtmfbamiciieooaaGreatDoor
set_option maxRecDepth 100000
set_option maxHeartbeats 16000000
open Go Go.RowKit
set_option linter.unusedSimpArgs false
set_option linter.unusedVariables false
/-- What function f does: of such arguments, and such variables of its callers'; it hands back new variables, numbered behind those. -/
def FnX (P : Program) (f : FuncId) (args : List AV) (B : List Blk) (x : AV) (B' New : List Blk) : Prop :=
  ∀ (M : Nat → Nat → Prop) (h : Home) (ρ : Nat → Value) (vs : List Value), Handed h B ρ → (∀ k, 1000 + B.length ≤ k → h.r k = none) → Sat M 0 h (asB B) ρ xP h.w → vs.length = args.length →
    (∀ (i : Nat) x v, args[i]? = some x → vs[i]? = some v → yY (Mut M (asB B) ρ) ρ h.w x v) →
    Calls P f vs.toArray h.w fun e w' => ∃ ρ' v, e = .returned v ∧ Sat M 0 h (asB (B' ++ New)) ρ' xP w' ∧ yY (Mut M (asB (B' ++ New)) ρ') ρ' w' x v
section
variable {M : Nat → Nat → Prop} {n : Nat} {w0 : Home} {w : World} {S : AS} {ρ : Nat → Value} {a : Act}
theorem Sat.dropU (h : Sat M n w0 S ρ a w) (id : Nat) (u : Value) (hr : w0.r id = none) : Sat M n w0 (S.drop id) (upd ρ id u) a w := by
  have hu : ∀ j, j ≠ id → upd ρ id u j = ρ j := fun j hj => by simp [upd, hj]
  have hm : ∀ k c, Mut M (S.drop id) (upd ρ id u) k c → Mut M S ρ k c := fun k c hk => by
    rcases hk with hk | ⟨j, b, hb, hk, ht⟩
    · exact .inl hk
    · rw [AS.xR] at hb
      split at hb
      · cases hb
      · rename_i hne
        obtain ⟨b1, h1, rfl⟩ := Option.map_eq_some_iff.1 hb
        rw [hu j (fun e => hne e.symm)] at hk
        exact .inr ⟨j, b1, h1, hk, (Blk.turns_kill b1 id c).1 ht⟩
  have hk : ∀ {x : AV} {v : Value}, yY (Mut M S ρ) ρ w x v → yY (Mut M (S.drop id) (upd ρ id u)) (upd ρ id u) w (x.kill id) v := fun {x v} hx => (hx.killed id u).mono fun k c _ hk => hm k c hk
  refine ⟨h.below, h.out, h.tab, h.size, h.defers, fun i => ?_, fun j b hb => ?_, fun j b k hb hk => ?_, fun k v hv => ?_, h.free, fun i j bi bj k hi hj h1 h2 => ?_⟩
  · have e : (S.drop id).tmp i = (S.tmp i).kill id := S.tmp_kill id i
    rw [e]
    exact hk (h.tmps i)
  · rw [AS.xR] at hb
    split at hb
    · cases hb
    · rename_i hne
      obtain ⟨b1, h1, rfl⟩ := Option.map_eq_some_iff.1 hb
      have := h.blks j b1 h1
      rw [hu j (fun e => hne e.symm)]
      cases b1 with
      | row t size m xs =>
        obtain ⟨ys, ho, hc⟩ := this
        exact ⟨ys, ho, (hc.killed id u).mono fun k c _ hk => hm k c hk⟩
      | prow t size m xs =>
        obtain ⟨ys, ho, hc⟩ := this
        exact ⟨ys, ho, (vB xs id ▸ hc.killed id u : yA _ _ _ (xs.map AV.p) ys).mono fun k c _ hk => hm k c hk⟩
      | box t xs =>
        obtain ⟨g, ys, hv, hg, hh, hc⟩ := this
        exact ⟨g, ys, hv, hg, hh, (hc.killed id u).mono fun k c _ hk => hm k c hk⟩
      | lent t size m xs =>
        obtain ⟨ys, ho, hc⟩ := this
        exact ⟨ys, ho, (vB xs id ▸ hc.killed id u : yA _ _ _ (xs.map AV.p) ys).mono fun k c _ hk => hm k c hk⟩
      | obj mp Q => exact this
  · rw [AS.xR] at hb
    split at hb
    · cases hb
    · rename_i hne
      obtain ⟨b1, h1, _⟩ := Option.map_eq_some_iff.1 hb
      rw [hu j (fun e => hne e.symm)] at hk
      exact h.mine j b1 k h1 hk
  · by_cases e : k = id
    · subst e
      rw [hr] at hv; cases hv
    · rw [hu k e]
      exact h.fix k v hv
  · rw [AS.xR] at hi hj
    split at hi
    · cases hi
    · rename_i hi1
      split at hj
      · cases hj
      · rename_i hj1
        obtain ⟨b1, h3, _⟩ := Option.map_eq_some_iff.1 hi
        obtain ⟨b2, h4, _⟩ := Option.map_eq_some_iff.1 hj
        rw [hu i (fun e => hi1 e.symm)] at h1
        rw [hu j (fun e => hj1 e.symm)] at h2
        exact h.dist i j b1 b2 k h3 h4 h1 h2
theorem xG.monoW {M M' : Nat → Nat → Prop} {B : Nat} {ρ : Nat → Value} {w : World} {v : Value} {b : Blk} (h : xG M B ρ w v b) (hM : ∀ k c, k < w.heap.size → M' k c → M k c) : xG M' B ρ w v b := by
  cases b with
  | row t size m xs => obtain ⟨ys, ho, hc⟩ := h; exact ⟨ys, ho, hc.mono hM⟩
  | prow t size m xs => obtain ⟨ys, ho, hc⟩ := h; exact ⟨ys, ho, hc.mono hM⟩
  | lent t size m xs => obtain ⟨ys, ho, hc⟩ := h; exact ⟨ys, ho, hc.mono hM⟩
  | obj mp Q => exact h
  | box t xs => obtain ⟨g, ys, hv, hg, hh, hc⟩ := h; exact ⟨g, ys, hv, hg, hh, hc.mono hM⟩
def AS.drops (S : AS) (ids : List Nat) : AS := ids.foldl AS.drop S
theorem Sat.drops : ∀ (ids : List Nat) {S : AS} {ρ : Nat → Value}, Sat M n w0 S ρ a w → (∀ j ∈ ids, w0.r j = none) → ∀ ρ', (∀ j, j ∉ ids → ρ' j = ρ j) → Sat M n w0 (S.drops ids) ρ' a w
  | [], S, ρ, h, _, ρ', e => by
    have : ρ' = ρ := funext fun j => e j (by simp)
    subst this
    exact h
  | id :: r, S, ρ, h, hr, ρ', e => by
    show Sat M n w0 ((S.drop id).drops r) ρ' a w
    refine Sat.drops r (h.dropU id (ρ' id) (hr id (by simp))) (fun j hj => hr j (by simp [hj])) ρ' fun j hj => ?_
    by_cases h1 : j = id
    · subst h1
      simp [upd]
    · rw [e j (by simp [h1, hj])]
      simp [upd, h1]
theorem drops_none : ∀ (ids : List Nat) {S : AS} {j : Nat}, S.blk j = none → (S.drops ids).blk j = none
  | [], _, _, h => h
  | id :: r, S, j, h => drops_none r (S := S.drop id) (by rw [AS.xR, h]; simp)
theorem drops_blk : ∀ (ids : List Nat) {S : AS} {j : Nat}, j ∈ ids → (S.drops ids).blk j = none
  | id :: r, S, j, h => by
    show ((S.drop id).drops r).blk j = none
    by_cases h1 : id = j
    · exact drops_none r (by rw [AS.xR, if_pos h1])
    · exact drops_blk r ((List.mem_cons.1 h).resolve_left fun e => h1 e.symm)
theorem drops_mut : ∀ (ids : List Nat) {S : AS} {k c : Nat}, Mut M (S.drops ids) ρ k c → Mut M S ρ k c
  | [], _, _, _, h => h
  | id :: r, S, k, c, h => Mut.drop (drops_mut r (S := S.drop id) h)
end
section
variable {P : Program} {n : Nat} {o : Oper} {S : AS} {d : Nat}
theorem call_new {f : FuncId} {xs : List AV} {ids nids : List Nat} {B B' New : List Blk} {rx : AV} (hf : FnX P f xs B rx B' New) (hh : Hands S ids B) (hB' : B'.length = B.length) (hnl : nids.length = New.length) (hnd : (ids ++ nids).Nodup)
    (hok' : (B' ++ New).all (Blk.okE (B' ++ New).length) = true) (hxs : xs.all (AV.okE B.length) = true) (hrx : rx.okE (B' ++ New).length = true) (hno : ∀ j ∈ nids, S.blk j = none)
    {M : Nat → Nat → Prop} {w0 : Home} {ρ : Nat → Value} {a : Act} {w : World} (hs : Sat M n w0 S ρ a w) (hfree : ∀ ρ', (∀ j, j ∉ nids → ρ' j = ρ j) → Sat M n w0 S ρ' a w) {vs : List Value} (hvl : vs.length = xs.length)
    (hvs : ∀ (i : Nat) x v, xs[i]? = some x → vs[i]? = some v → yY (Mut M S ρ) ρ w (x.ren (sig ids)) v) :
    Calls P f vs.toArray w fun e w' => ∃ ρ' v, e = .returned v ∧ Sat M n w0 (S.after (ids ++ nids) (B' ++ New)) ρ' a w' ∧ yY (Mut M (S.after (ids ++ nids) (B' ++ New)) ρ') ρ' w' (rx.ren (sig (ids ++ nids))) v := by
  have hlen := hh.len
  have hLL : (ids ++ nids).length = (B' ++ New).length := by simp [hlen, hB', hnl]
  have at_i : ∀ i, i < B.length → ∃ id b, ids[i]? = some id ∧ B[i]? = some b ∧ S.blk id = some (b.ren (sig ids)) ∧ sig ids (1000 + i) = id := fun i hi => by
    have h1 : ids[i]? = some (ids[i]'(by omega)) := List.getElem?_eq_getElem _
    have h2 : B[i]? = some B[i] := List.getElem?_eq_getElem _
    exact ⟨_, _, h1, h2, hh.at_ i _ _ h1 h2, sig_at h1⟩
  have box_i : ∀ i, i < B.length → ∃ mp g, ρ (sig ids (1000 + i)) = objV mp g := fun i hi => by
    obtain ⟨id, b, h1, h2, h3, h4⟩ := at_i i hi
    have hb := hs.blks id _ h3
    have hbo := List.all_eq_true.1 hh.ok b (List.mem_of_getElem? h2)
    rw [h4]
    cases b with
    | box t cs =>
      obtain ⟨g, ys, hv, _⟩ := hb
      exact ⟨false, g, hv⟩
    | row t s m cs => cases hbo
    | prow t s m cs => cases hbo
    | lent t s m cs => cases hbo
    | obj mp Q =>
      obtain ⟨g, o, hv, _⟩ := hb
      exact ⟨mp, g, hv⟩
  let T : Nat → Prop := fun k => ∃ i, i < B.length ∧ zU (ρ (sig ids (1000 + i))) = some k
  have T_mut : ∀ k c, T k → Mut M S ρ k c := fun k c ⟨i, hi, hk⟩ => by
    obtain ⟨id, b, h1, h2, h3, h4⟩ := at_i i hi
    rw [h4] at hk
    exact .inr ⟨id, _, h3, hk, (Blk.vP c).2 (Blk.wJ (List.all_eq_true.1 hh.ok b (List.mem_of_getElem? h2)) c)⟩
  have T_has : ∀ k, T k → w0.has k := fun k ⟨i, hi, hk⟩ => by
    obtain ⟨id, b, h1, h2, h3, h4⟩ := at_i i hi
    rw [h4] at hk
    exact hs.mine id _ k h3 hk
  let M' : Nat → Nat → Prop := fun k c => Mut M S ρ k c ∧ ¬ T k
  let h : Home := ⟨w, T, hs.lays, (fun g hg ht => hs.tabs g 0 hg (T_mut g 0 ht)), fun k => if 1000 ≤ k ∧ k < 1000 + B.length then some (ρ (sig ids k)) else none, (fun k v hk => by
      by_cases hc : 1000 ≤ k ∧ k < 1000 + B.length
      · simp only [hc, and_self, if_true, Option.some.injEq] at hk
        obtain ⟨mp, g, hg⟩ := box_i (k - 1000) (by omega)
        have e : 1000 + (k - 1000) = k := by omega
        rw [e] at hg
        exact ⟨mp, g, by rw [← hk, hg]⟩
      · rw [if_neg hc] at hk; cases hk), (fun k hk => if_neg (by omega)), []⟩
  have hr_i : ∀ k, 1000 ≤ k → k < 1000 + B.length → h.r k = some (ρ (sig ids k)) := fun k h1 h2 => if_pos ⟨h1, h2⟩
  have mutc : ∀ k c, Mut M' (asB B) (fun k => ρ (sig ids k)) k c → Mut M S ρ k c := by
    rintro k c (hk | ⟨id, b, hb, hk, _⟩)
    · exact hk.1
    · obtain ⟨i, rfl, hbi⟩ := yI hb
      exact T_mut k c ⟨i, (List.getElem?_eq_some_iff.1 hbi).1, hk⟩
  have hsat : Sat M' 0 h (asB B) (fun k => ρ (sig ids k)) xP h.w := by
    refine ⟨xO.refl h, fun k c hk hh2 => ?_, fun g c hg hk => ?_, rfl, rfl, fun i => .any _, fun id b hb => ?_, fun id b k hb hk => ?_, fun k v hk => ?_, fun k hk => by omega, fun i j bi bj k hi hj h1 h2 => ?_⟩
    · rcases hh2 with hh2 | hh2
      · exact absurd (Mut.lt hs hk.1) (Nat.not_lt.2 hh2)
      · exact hk.2 hh2
    · exact hs.tabs g c hg hk.1
    · obtain ⟨i, rfl, hbi⟩ := yI hb
      have hi : i < B.length := (List.getElem?_eq_some_iff.1 hbi).1
      obtain ⟨id, b2, h1, h2, h3, h4⟩ := at_i i hi
      rw [hbi] at h2
      obtain rfl := Option.some.inj h2
      have hbo := List.all_eq_true.1 hh.ok b (List.mem_of_getElem? hbi)
      have hb2 := hs.blks id _ h3
      cases b with
      | box t cs =>
        obtain ⟨g, ys, hv, hg, hhp, hc⟩ := hb2
        exact ⟨g, ys, by show ρ (sig ids (1000 + i)) = _; rw [h4]; exact hv, hg, hhp, yA.inn hc hbo fun k c _ hk => mutc k c hk⟩
      | row t s m cs => cases hbo
      | prow t s m cs => cases hbo
      | lent t s m cs => cases hbo
      | obj mp Q =>
        obtain ⟨g, o, hv, hg, hhp, hq⟩ := hb2
        exact ⟨g, o, by show ρ (sig ids (1000 + i)) = _; rw [h4]; exact hv, hg, hhp, hq⟩
    · obtain ⟨i, rfl, hbi⟩ := yI hb
      exact .inr ⟨i, (List.getElem?_eq_some_iff.1 hbi).1, hk⟩
    · by_cases hc : 1000 ≤ k ∧ k < 1000 + B.length
      · rw [hr_i k hc.1 hc.2] at hk
        exact Option.some.inj hk
      · have : h.r k = none := if_neg hc
        rw [this] at hk; cases hk
    · obtain ⟨i', rfl, hbi⟩ := yI hi
      obtain ⟨j', rfl, hbj⟩ := yI hj
      obtain ⟨id, b1, p1, p2, p3, p4⟩ := at_i i' (List.getElem?_eq_some_iff.1 hbi).1
      obtain ⟨jd, b2, q1, q2, q3, q4⟩ := at_i j' (List.getElem?_eq_some_iff.1 hbj).1
      rw [p4] at h1
      rw [q4] at h2
      have e := hs.dist id jd _ _ k p3 q3 h1 h2
      subst e
      rw [nodup_inj hh.nodup p1 q1]
  have hcall := hf M' h _ vs ⟨fun i hi => hr_i _ (by omega) (by omega), fun k hk => hk⟩ (fun k hk => if_neg (by omega)) hsat hvl (fun i x v h1 h2 => yY.inn (hvs i x v h1 h2) (List.all_eq_true.1 hxs x (List.mem_of_getElem? h1)) fun k c _ hk => mutc k c hk)
  refine Calls.mono hcall ?_
  rintro e w' ⟨ρ2, v, rfl, hs2, hrep⟩
  have hρ1 : ∀ k, 1000 ≤ k → k < 1000 + B.length → ρ2 k = ρ (sig ids k) := fun k h1 h2 => hs2.fix k _ (hr_i k h1 h2)
  -- the names' values behind the call
  let ρ3 : Nat → Value := fun j => if j ∈ nids then ρ2 (1000 + (ids ++ nids).idxOf j) else ρ j
  have hs3 : Sat M n w0 S ρ3 a w := hfree ρ3 fun j hj => if_neg hj
  have idx_at : ∀ i j, (ids ++ nids)[i]? = some j → (ids ++ nids).idxOf j = i := fun i j hi => by
    have hm : j ∈ ids ++ nids := List.mem_of_getElem? hi
    have h1 : (ids ++ nids).idxOf j < (ids ++ nids).length := List.idxOf_lt_length_of_mem hm
    have h2 : (ids ++ nids)[(ids ++ nids).idxOf j]? = some j := by rw [List.getElem?_eq_getElem h1, List.getElem_idxOf h1]
    exact nodup_inj hnd h2 hi
  have old_not : ∀ j, j ∈ ids → j ∉ nids := fun j h1 h2 => (List.nodup_append.1 hnd).2.2 j h1 j h2 rfl
  have old3 : ∀ j, j ∈ ids → ρ3 j = ρ j := fun j hj => if_neg (old_not j hj)
  have hρ : ∀ k, 1000 ≤ k → k < 1000 + (B' ++ New).length → ρ2 k = ρ3 (sig (ids ++ nids) k) := fun k h1 h2 => by
    obtain ⟨i, rfl⟩ : ∃ i, k = 1000 + i := ⟨k - 1000, by omega⟩
    have hi : i < (ids ++ nids).length := by omega
    have hat : (ids ++ nids)[i]? = some (ids ++ nids)[i] := List.getElem?_eq_getElem hi
    rw [sig_at hat]
    by_cases hlt : i < ids.length
    · have e1 : (ids ++ nids)[i] = ids[i] := List.getElem_append_left hlt
      have e2 : ids[i]? = some ids[i] := List.getElem?_eq_getElem hlt
      rw [e1, old3 _ (List.getElem_mem _), hρ1 (1000 + i) (by omega) (by omega), sig_at e2]
    · have e1 : (ids ++ nids)[i] ∈ nids := by
        rw [List.getElem_append_right (by omega)]
        exact List.getElem_mem _
      show _ = if _ then _ else _
      rw [if_pos e1, idx_at i _ hat]
  have hblk : ∀ j, (S.after (ids ++ nids) (B' ++ New)).blk j = if j ∈ ids ++ nids then ((B' ++ New).map (Blk.ren (sig (ids ++ nids))))[(ids ++ nids).idxOf j]? else S.blk j := fun j => look_putBs _ _ S.s j (by rw [List.length_map]; exact hLL) hnd
  have mem_at : ∀ j, j ∈ ids ++ nids → ∃ i b, (ids ++ nids).idxOf j = i ∧ i < (B' ++ New).length ∧ (ids ++ nids)[i]? = some j ∧ (B' ++ New)[i]? = some b ∧ sig (ids ++ nids) (1000 + i) = j := fun j hj => by
    have h1 : (ids ++ nids).idxOf j < (ids ++ nids).length := List.idxOf_lt_length_of_mem hj
    have h2 : (ids ++ nids)[(ids ++ nids).idxOf j]? = some j := by rw [List.getElem?_eq_getElem h1, List.getElem_idxOf h1]
    have h3 : (ids ++ nids).idxOf j < (B' ++ New).length := by omega
    exact ⟨_, _, rfl, h3, h2, List.getElem?_eq_getElem h3, sig_at h2⟩
  have T_old : ∀ j k, j ∈ ids → zU (ρ j) = some k → T k := fun j k hj hk => by
    obtain ⟨i, hi, he⟩ := List.getElem_of_mem hj
    refine ⟨i, by omega, ?_⟩
    have : ids[i]? = some j := by rw [List.getElem?_eq_getElem hi, he]
    rw [sig_at this]; exact hk
  have new_ge : ∀ j k, j ∈ nids → zU (ρ3 j) = some k → w.heap.size ≤ k := fun j k hj hk => by
    obtain ⟨i, b, h1, h2, h3, h4, h5⟩ := mem_at j (List.mem_append_right _ hj)
    have e3 : ρ2 (1000 + i) = ρ3 j := by rw [hρ (1000 + i) (by omega) (by omega), h5]
    have hb : (asB (B' ++ New)).blk (1000 + i) = some b := by rw [qP]; exact h4
    rcases hs2.mine (1000 + i) b k hb (by rw [e3]; exact hk) with h6 | ⟨i', h6, h7⟩
    · exact h6
    · have h8 : i' < (B' ++ New).length := by simp; omega
      have hb' : (asB (B' ++ New)).blk (1000 + i') = some (B' ++ New)[i'] := by rw [qP]; exact List.getElem?_eq_getElem h8
      have e := hs2.dist _ _ _ _ k hb hb' (by rw [e3]; exact hk) (by rw [hρ1 (1000 + i') (by omega) (by omega)]; exact h7)
      have e' : i = i' := by omega
      subst e'
      have : (ids ++ nids)[i]? = ids[i]? := List.getElem?_append_left (by omega)
      rw [this] at h3
      exact absurd hj (old_not j (List.mem_of_getElem? h3))
  have mut3 : ∀ k c, Mut M (S.after (ids ++ nids) (B' ++ New)) ρ3 k c → Mut M' (asB (B' ++ New)) ρ2 k c := fun k c hk => by
    by_cases ht : T k
    · obtain ⟨i, hi, hk2⟩ := ht
      have h8 : i < (B' ++ New).length := by simp; omega
      refine .inr ⟨1000 + i, (B' ++ New)[i], by rw [qP]; exact List.getElem?_eq_getElem h8, ?_, Blk.wJ (List.all_eq_true.1 hok' _ (List.getElem_mem _)) c⟩
      rw [hρ1 (1000 + i) (by omega) (by omega)]
      exact hk2
    · rcases hk with hk | ⟨j, b, hb, hk, htn⟩
      · exact .inl ⟨.inl hk, ht⟩
      · rw [hblk] at hb
        by_cases hj : j ∈ ids ++ nids
        · obtain ⟨i, b', h1, h2, h3, h4, h5⟩ := mem_at j hj
          refine .inr ⟨1000 + i, b', by rw [qP]; exact h4, ?_, Blk.wJ (List.all_eq_true.1 hok' b' (List.mem_of_getElem? h4)) c⟩
          rw [hρ (1000 + i) (by omega) (by omega), h5]
          exact hk
        · rw [if_neg hj] at hb
          refine .inl ⟨.inr ⟨j, b, hb, ?_, htn⟩, ht⟩
          have : ρ3 j = ρ j := if_neg fun h => hj (List.mem_append_right _ h)
          rw [← this]; exact hk
  have mut1 : ∀ k c, k < w.heap.size → Mut M (S.after (ids ++ nids) (B' ++ New)) ρ3 k c → Mut M S ρ3 k c := by
    rintro k c hlt (hk | ⟨j, b, hb, hk, ht⟩)
    · exact .inl hk
    · rw [hblk] at hb
      by_cases hj : j ∈ ids ++ nids
      · rcases List.mem_append.1 hj with hj | hj
        · rw [old3 j hj] at hk
          obtain ⟨i, hi, he⟩ := List.getElem_of_mem hj
          obtain ⟨id, b0, h1, h2, h3, h4⟩ := at_i i (by omega)
          have : ids[i]? = some j := by rw [List.getElem?_eq_getElem hi, he]
          rw [this] at h1
          obtain rfl := Option.some.inj h1
          exact .inr ⟨j, _, h3, by rw [old3 j hj]; exact hk, (Blk.vP c).2 (Blk.wJ (List.all_eq_true.1 hh.ok b0 (List.mem_of_getElem? h2)) c)⟩
        · have := new_ge j k hj hk
          omega
      · rw [if_neg hj] at hb
        exact .inr ⟨j, b, hb, hk, ht⟩
  have mutS : ∀ k c, Mut M S ρ3 k c ↔ Mut M S ρ k c := fun k c => by
    constructor
    all_goals
      rintro (hk | ⟨j, b, hb, hk, ht⟩)
      · exact .inl hk
      · have hj : j ∉ nids := fun h => by rw [hno j h] at hb; cases hb
        have e : ρ3 j = ρ j := if_neg hj
        exact .inr ⟨j, b, hb, by first | rw [← e]; exact hk | rw [e]; exact hk, ht⟩
  have grow : Keeps (Mut M S ρ3) w w' := ⟨hs2.below.size, fun k c hk hnm => World.cell?_of_block (w := w) (hs2.below.block k hk (fun ht => hnm ((mutS k c).2 (T_mut k c ht))))⟩
  refine ⟨ρ3, v, rfl, ?_, yY.outw hrep hrx (fun k c _ hk => mut3 k c hk) hρ⟩
  refine ⟨⟨hs2.below.os.trans hs.below.os, hs2.below.tape.trans hs.below.tape, hs2.below.output.trans hs.below.output, Nat.le_trans hs.below.size hs2.below.size, fun k hk ht => ?_⟩, hs.out, hs.tab, hs.size, hs.defers, fun i => ?_, fun j b hb => ?_, fun j b k hb hk => ?_, hs3.fix, hs.free, fun i j bi bj k hi hj h1 h2 => ?_⟩
  · refine (hs2.below.block k (Nat.lt_of_lt_of_le hk hs.below.size) (fun hT => ?_)).trans (hs.below.block k hk ht)
    rcases T_has k hT with h1 | h1
    · omega
    · exact ht h1
  · exact ((hs3.tmps i).mono (M' := Mut M (S.after (ids ++ nids) (B' ++ New)) ρ3) mut1).keep ⟨hs2.below.size, fun k c hk hnm => World.cell?_of_block (w := w) (hs2.below.block k hk (fun ht => hnm (by
      obtain ⟨i, hi, hk2⟩ := ht
      obtain ⟨id, b0, h1, h2, h3, h4⟩ := at_i i hi
      rw [h4] at hk2
      have hm : id ∈ ids := List.mem_of_getElem? h1
      obtain ⟨i2, b2, q1, q2, q3, q4, q5⟩ := mem_at id (List.mem_append_left _ hm)
      refine .inr ⟨id, b2.ren (sig (ids ++ nids)), ?_, by rw [old3 id hm]; exact hk2, (Blk.vP c).2 (Blk.wJ (List.all_eq_true.1 hok' b2 (List.mem_of_getElem? q4)) c)⟩
      rw [hblk, if_pos (List.mem_append_left _ hm), q1, List.getElem?_map, q4]; rfl)))⟩
  · rw [hblk] at hb
    by_cases hj : j ∈ ids ++ nids
    · obtain ⟨i, b', h1, hi, h2, h4, h6⟩ := mem_at j hj
      rw [if_pos hj, h1, List.getElem?_map, h4] at hb
      obtain rfl := Option.some.inj hb
      have hb2 := hs2.blks (1000 + i) b' (by rw [qP]; exact h4)
      have hbo := List.all_eq_true.1 hok' b' (List.mem_of_getElem? h4)
      cases b' with
      | box t cs =>
        obtain ⟨g, ys, hv, hg, hhp, hc⟩ := hb2
        rw [hρ (1000 + i) (by omega) (by omega), h6] at hv
        exact ⟨g, ys, hv, hg, hhp, yA.outw hc hbo (fun k c _ hk => mut3 k c hk) hρ⟩
      | row t s m cs => cases hbo
      | prow t s m cs => cases hbo
      | lent t s m cs => cases hbo
      | obj mp Q =>
        obtain ⟨g, o, hv, hg, hhp, hq⟩ := hb2
        rw [hρ (1000 + i) (by omega) (by omega), h6] at hv
        exact ⟨g, o, hv, hg, hhp, hq⟩
    · rw [if_neg hj] at hb
      have hjn : j ∉ nids := fun h => hj (List.mem_append_right _ h)
      have e3 : ρ3 j = ρ j := if_neg hjn
      have hlt : ∀ k, zU (ρ3 j) = some k → k < w.heap.size := fun k hk => Mut.blk_lt hs3 hb hk
      have hb3 := (hs3.blks j b hb).monoW (M' := Mut M (S.after (ids ++ nids) (B' ++ New)) ρ3) mut1
      refine xG.keep hb3 (fun k hk => ?_) ⟨hs2.below.size, fun k c hk hnm => World.cell?_of_block (w := w) (hs2.below.block k hk (fun ht => hnm (by
        obtain ⟨i, hi, hk2⟩ := ht
        obtain ⟨id, b0, h1, h2, h3, h4⟩ := at_i i hi
        rw [h4] at hk2
        have hm : id ∈ ids := List.mem_of_getElem? h1
        obtain ⟨i2, b2, q1, q2, q3, q4, q5⟩ := mem_at id (List.mem_append_left _ hm)
        refine .inr ⟨id, b2.ren (sig (ids ++ nids)), ?_, by rw [old3 id hm]; exact hk2, (Blk.vP c).2 (Blk.wJ (List.all_eq_true.1 hok' b2 (List.mem_of_getElem? q4)) c)⟩
        rw [hblk, if_pos (List.mem_append_left _ hm), q1, List.getElem?_map, q4]; rfl)))⟩ (fun k c _ hk => hk)
      refine hs2.below.block k (hlt k hk) (fun ⟨i, hi, hk2⟩ => ?_)
      obtain ⟨id, b2, p1, p2, p3, p4⟩ := at_i i hi
      rw [p4] at hk2
      rw [e3] at hk
      have := hs.dist j id _ _ k hb p3 hk hk2
      subst this
      exact hj (List.mem_append_left _ (List.mem_of_getElem? p1))
  · rw [hblk] at hb
    by_cases hj : j ∈ ids ++ nids
    · rcases List.mem_append.1 hj with hj2 | hj2
      · rw [old3 j hj2] at hk
        exact T_has k (T_old j k hj2 hk)
      · exact .inl (Nat.le_trans hs.below.size (new_ge j k hj2 hk))
    · rw [if_neg hj] at hb
      exact hs3.mine j b k hb hk
  · rw [hblk] at hi hj
    by_cases hi2 : i ∈ ids ++ nids
    · obtain ⟨ii, bI, p1, p2, p3, p4, p5⟩ := mem_at i hi2
      have eI : ρ2 (1000 + ii) = ρ3 i := by rw [hρ (1000 + ii) (by omega) (by omega), p5]
      by_cases hj2 : j ∈ ids ++ nids
      · obtain ⟨jj, bJ, q1, q2, q3, q4, q5⟩ := mem_at j hj2
        have eJ : ρ2 (1000 + jj) = ρ3 j := by rw [hρ (1000 + jj) (by omega) (by omega), q5]
        have e := hs2.dist (1000 + ii) (1000 + jj) bI bJ k (by rw [qP]; exact p4) (by rw [qP]; exact q4) (by rw [eI]; exact h1) (by rw [eJ]; exact h2)
        have e' : ii = jj := by omega
        subst e'
        rw [p3] at q3
        exact Option.some.inj q3
      · rw [if_neg hj2] at hj
        have hlt := Mut.blk_lt hs3 hj h2
        rcases List.mem_append.1 hi2 with hi3 | hi3
        · rw [old3 i hi3] at h1
          obtain ⟨i', h6, h7⟩ := T_old i k hi3 h1
          obtain ⟨id, b0, r1, r2, r3, r4⟩ := at_i i' h6
          have e3 : ρ3 j = ρ j := if_neg fun h => hj2 (List.mem_append_right _ h)
          rw [r4] at h7
          rw [e3] at h2
          have e := hs.dist id j _ _ k r3 hj h7 h2
          subst e
          exact absurd (List.mem_append_left _ (List.mem_of_getElem? r1)) hj2
        · have := new_ge i k hi3 h1
          omega
    · rw [if_neg hi2] at hi
      have hlt := Mut.blk_lt hs3 hi h1
      by_cases hj2 : j ∈ ids ++ nids
      · rcases List.mem_append.1 hj2 with hj3 | hj3
        · rw [old3 j hj3] at h2
          obtain ⟨i', h6, h7⟩ := T_old j k hj3 h2
          obtain ⟨id, b0, r1, r2, r3, r4⟩ := at_i i' h6
          have e3 : ρ3 i = ρ i := if_neg fun h => hi2 (List.mem_append_right _ h)
          rw [r4] at h7
          rw [e3] at h1
          have e := hs.dist id i _ _ k r3 hi h7 h1
          subst e
          exact absurd (List.mem_append_left _ (List.mem_of_getElem? r1)) hi2
        · have := new_ge j k hj3 h2
          omega
      · rw [if_neg hj2] at hj
        exact hs3.dist i j bi bj k hi hj h1 h2
/-- A call by a contract, that comes back with new variables. -/
theorem zF.eNew {f : FuncId} {avs xs : List AV} {B B' New : List Blk} {rx : AV} {K : Exit → AS → Prop} {N : AS → Prop} (ids nids : List Nat) (hf : FnX P f xs B rx B' New) (hd : o.dst = some d) (hn : d < n) (he : Enters P o S f avs) (hx : avs = xs.map (AV.ren (sig ids))) (hh : Hands (S.drops nids) ids B) (hlo : nids.all (fun k => decide (k < 1000)) = true)
    (hB' : B'.length = B.length) (hnl : nids.length = New.length) (hnd : (ids ++ nids).Nodup) (hok' : (B' ++ New).all (Blk.okE (B' ++ New).length) = true) (hxs : xs.all (AV.okE B.length) = true) (hrx : rx.okE (B' ++ New).length = true)
    (hr : N (((S.drops nids).after (ids ++ nids) (B' ++ New)).put d (rx.ren (sig (ids ++ nids))))) : zF P n o S K N := by
  intro M w0 ρ a w KK Q hs hK _
  obtain ⟨vs, he1, he2, he3⟩ := he M n w0 ρ a w hs
  unfold Oper.wp
  rw [he1, Oper.upon_enter]
  have hlo' : ∀ j ∈ nids, w0.r j = none := fun j hj => w0.lo j (by simpa using List.all_eq_true.1 hlo j hj)
  have hall := Sat.drops nids hs hlo'
  refine Calls.mono (call_new hf hh hB' hnl hnd hok' hxs hrx (fun j hj => drops_blk nids hj) (hall ρ fun _ _ => rfl) hall (by rw [he2, hx, List.length_map]) fun i x v h1 h2 => ?_) ?_
  · exact (reps_ren hx he3 i x v h1 h2).mono fun k c _ hk => drops_mut nids hk
  · rintro e w' ⟨ρ', v, rfl, hs', hv⟩
    show KK (a.put o.dst v) w'
    rw [hd]
    exact hK _ ρ' _ w' hr (hs'.put hn hv)
theorem fn_ofX {f : FuncId} {fn : Func} {c : Code} {args : List AV} {B B' New : List Blk} {x : AV} (IDS : List Nat) (hf : P.funcs[f]? = some fn) (hb : fn.body = some c) (hn : fn.ntmps = n) (hle : args.length ≤ n) (h1000 : n ≤ 1000) (hids : IDS.take B.length = (List.range B.length).map (1000 + ·)) (hrx : x.okE (B' ++ New).length = true)
    (h : zZ P n c { t := zipA 0 args, s := numB 1000 B } (fun e S => (e = .ret ∨ e = .normal) ∧ ∃ S', Sub S S' ∧ GivesA P fn S' (x.ren (sig IDS)) ∧ Hands S' IDS (B' ++ New))) : FnX P f args B x B' New := by
  intro M hh ρ vs hand hnone hs0 hvl hvs
  refine calls_of_wp hf hb ?_
  have hsat : Sat M n hh { t := zipA 0 args, s := numB 1000 B } ρ { tmps := vs.toArray ++ Array.replicate (fn.ntmps - vs.toArray.size) undef, defers := [] } hh.w := by
    refine ⟨hs0.below, hs0.out, hs0.tab, by simp; omega, hs0.defers, fun i => ?_, hs0.blks, hs0.mine, hs0.fix, fun k hk => hh.lo k (by omega), hs0.dist⟩
    show yY _ _ _ ((look (zipA 0 args) i).getD .any) _
    rw [look_zipA]
    simp only [Nat.zero_le, if_true, Nat.sub_zero]
    cases hx : args[i]? with
    | none => exact .any _
    | some x =>
      have hi : i < vs.length := by rw [hvl]; exact (List.getElem?_eq_some_iff.1 hx).1
      have e : ({ tmps := vs.toArray ++ Array.replicate (fn.ntmps - vs.toArray.size) undef, defers := [] } : Act).tmps.getD i undef = vs[i] := by
        simp [Array.getD_eq_getD_getElem?, Array.getElem?_append, hi]
      rw [e]
      exact hvs i x vs[i] hx (List.getElem?_eq_getElem hi)
  refine h M hh ρ _ hh.w _ hsat ?_
  rintro e S0 ρ0 a' w' ⟨he, S', hsub, hg, hH⟩ hs1 hx
  obtain ⟨ρ', hs'⟩ := hsub M n hh ρ0 a' w' hs1
  have at_i : ∀ i b, (B' ++ New)[i]? = some b → ∃ id, IDS[i]? = some id ∧ S'.blk id = some (b.ren (sig IDS)) ∧ sig IDS (1000 + i) = id := fun i b hb => by
    have hi : i < IDS.length := by rw [hH.len]; exact (List.getElem?_eq_some_iff.1 hb).1
    have h1 : IDS[i]? = some IDS[i] := List.getElem?_eq_getElem hi
    exact ⟨_, h1, hH.at_ i _ b h1 hb, sig_at h1⟩
  have low : ∀ i, i < B.length → sig IDS (1000 + i) = 1000 + i := fun i hi => by
    have h1 : (IDS.take B.length)[i]? = some (1000 + i) := by rw [hids, List.getElem?_map, List.getElem?_range hi]; rfl
    rw [List.getElem?_take, if_pos hi] at h1
    exact sig_at h1
  have mutc : ∀ k c, Mut M (asB (B' ++ New)) (fun k => ρ' (sig IDS k)) k c → Mut M S' ρ' k c := by
    rintro k c (hk | ⟨id, b, hb, hk, ht⟩)
    · exact .inl hk
    · obtain ⟨i, rfl, hbi⟩ := yI hb
      obtain ⟨id, h1, h2, h3⟩ := at_i i b hbi
      exact .inr ⟨id, _, h2, by rw [← h3]; exact hk, (Blk.vP c).2 ht⟩
  have hfin : Sat M 0 hh (asB (B' ++ New)) (fun k => ρ' (sig IDS k)) xP w' := by
    refine ⟨hs'.below, hs'.out, hs'.tab, rfl, hs0.defers, fun i => .any _, fun id b hb => ?_, fun id b k hb hk => ?_, fun k v hk => ?_, fun k hk => by omega, fun i j bi bj k hi hj h1 h2 => ?_⟩
    · obtain ⟨i, rfl, hbi⟩ := yI hb
      obtain ⟨id, h1, h2, h3⟩ := at_i i b hbi
      have hbo := List.all_eq_true.1 hH.ok b (List.mem_of_getElem? hbi)
      have hb2 := hs'.blks id _ h2
      cases b with
      | box t cs =>
        obtain ⟨g, ys, hv, hg, hhp, hc⟩ := hb2
        exact ⟨g, ys, by show ρ' (sig IDS (1000 + i)) = _; rw [h3]; exact hv, hg, hhp, yA.inn hc hbo fun k c _ hk => mutc k c hk⟩
      | row t s m cs => cases hbo
      | prow t s m cs => cases hbo
      | lent t s m cs => cases hbo
      | obj mp Q =>
        obtain ⟨g, o, hv, hg, hhp, hq⟩ := hb2
        exact ⟨g, o, by show ρ' (sig IDS (1000 + i)) = _; rw [h3]; exact hv, hg, hhp, hq⟩
    · obtain ⟨i, rfl, hbi⟩ := yI hb
      obtain ⟨id, h1, h2, h3⟩ := at_i i b hbi
      exact hs'.mine id _ k h2 (by rw [← h3]; exact hk)
    · rcases Nat.lt_or_ge k 1000 with h1 | h1
      · rw [hh.lo k h1] at hk; cases hk
      · rcases Nat.lt_or_ge k (1000 + B.length) with h2 | h2
        · have e := low (k - 1000) (by omega)
          have e2 : 1000 + (k - 1000) = k := by omega
          rw [e2] at e
          show ρ' (sig IDS k) = v
          rw [e]
          exact hs'.fix k v hk
        · rw [hnone k h2] at hk; cases hk
    · obtain ⟨i', rfl, hbi⟩ := yI hi
      obtain ⟨j', rfl, hbj⟩ := yI hj
      obtain ⟨id, p1, p2, p3⟩ := at_i i' bi hbi
      obtain ⟨jd, q1, q2, q3⟩ := at_i j' bj hbj
      have e := hs'.dist id jd _ _ k p2 q2 (by rw [← p3]; exact h1) (by rw [← q3]; exact h2)
      subst e
      rw [nodup_inj hH.nodup p1 q1]
  have fin : a'.defers = [] ∧ ∃ v, (results fn a'.tmps).run P w' = .ok v w' ∧ (∃ ρ' v2, Ending.returned v = .returned v2 ∧ Sat M 0 hh (asB (B' ++ New)) ρ' xP w' ∧ yY (Mut M (asB (B' ++ New)) ρ') ρ' w' x v2) := by
    refine ⟨hs'.defers.trans hs0.defers.symm, ?_⟩
    generalize hy : x.ren (sig IDS) = y at hg
    cases hg with
    | none hr => exact ⟨_, results_none hr _ _ _, _, _, rfl, hfin, yY.inn (ids := IDS) (ρ := ρ') (M := Mut M S' ρ') (by rw [hy]; exact .any _) hrx fun k c _ hk => mutc k c hk⟩
    | one hr ht =>
      refine ⟨_, results_tmp hr _ _ _, _, _, rfl, hfin, yY.inn (ids := IDS) (ρ := ρ') (M := Mut M S' ρ') ?_ hrx fun k c _ hk => mutc k c hk⟩
      rw [hy, ← ht]
      exact hs'.tmps _
    | p hr hx =>
      obtain ⟨v, g1, g2⟩ := res_oneM hs' hx
      have g3 := xX (P := P) (w := w') fn a'.tmps (rs := [_]) (vs := [v]) hr (by simp only [List.mapM_cons, List.mapM_nil, Sem.run_bind, Sem.run_pure, g1, Result.andThen_ok])
      exact ⟨v, g3, _, _, rfl, hfin, yY.inn (ids := IDS) (ρ := ρ') (M := Mut M S' ρ') (by rw [hy]; exact .p g2) hrx fun k c _ hk => mutc k c hk⟩
    | tup hr hl hx =>
      obtain ⟨us, g1, g2, g4, g3⟩ := res_allM hs' hx
      have g5 := xX (P := P) (w := w') fn a'.tmps hr g1
      rw [dif_neg (by simp only [List.size_toArray]; omega)] at g5
      refine ⟨_, g5, _, _, rfl, hfin, yY.inn (ids := IDS) (ρ := ρ') (M := Mut M S' ρ') ?_ hrx fun k c _ hk => mutc k c hk⟩
      rw [hy]
      refine .tup _ us (by simpa using g2) fun i c v hc hv => ?_
      rw [List.getElem?_map, Option.map_eq_some_iff] at hc
      obtain ⟨y, hy, rfl⟩ := hc
      exact .p (g3 i y v hy hv)
  cases e with
  | ret => exact fin
  | normal => exact fin
  | exit id => rcases he with h | h <;> cases h
  | goto l => rcases he with h | h <;> cases h
  | panic c => rcases he with h | h <;> cases h
  | outgrown => rcases he with h | h <;> cases h
end
end Go.Proofs.YtmfbamiciieooaaGreatDoor
/- Calls that make no access. Generic over the program. -/
namespace Go.Proofs.YtmfbamiciieooaaGreatDoor
set_option maxRecDepth 100000
set_option maxHeartbeats 16000000
open Go Go.RowKit
set_option linter.unusedVariables false
section
variable {n : Nat} {o : Oper} {S : AS} {d : Nat} {K : Exit → AS → Prop}
/-- a call of what makes no access -/
theorem zF.h0 {α : Type} {f0 : FuncId} {avs xs : List AV} {bk : List Blk} {res : α → AV} {bk' : α → List Blk} {good : α → Prop} {H : Hnd} {s : H.σ} {x : α} {N : AS → Prop} (i : List Nat) (hd : o.dst = some d := by rfl) (hn : d < n := by decide) (he : Enters Tryz.prog o S f0 avs := by exact enA)
    (hx : avs = xs.map (AV.ren (sig (1000 :: 1001 :: 1002 :: i))) := by rfl) (hnd : (1000 :: 1001 :: 1002 :: i).Nodup := by decide)
    (h0 : S.blk 1000 = some (H.b0 s) := by first | rfl | exact xB rfl (H.nk _).1 (by repeat' first | exact KB.refl | apply KB.kill | decide)) (h1 : S.blk 1001 = some (H.b1 s) := by first | rfl | exact xB rfl (H.nk _).2.1 (by repeat' first | exact KB.refl | apply KB.kill | decide)) (h2 : S.blk 1002 = some (H.b2 s) := by first | rfl | exact xB rfl (H.nk _).2.2 (by repeat' first | exact KB.refl | apply KB.kill | decide))
    (hat : AtB S (1000 :: 1001 :: 1002 :: i) i bk := by repeat' first | exact trivial | rfl | constructor) (hbk : bk.all (Blk.okE (bk.length + 3)) = true := by rfl) (hxs : xs.all (AV.okE (bk.length + 3)) = true := by rfl) (hrx : ∀ x, (res x).okE (bk.length + 3) = true := by exact fun _ => rfl)
    (hbk' : ∀ x, (bk' x).length = bk.length ∧ (bk' x).all (Blk.okE (bk.length + 3)) = true := by exact fun _ => ⟨rfl, rfl⟩) (hok : H.ok s := by assumption) (f : FnH H f0 xs bk res bk' good s (.ret x))
    (r : good x → N (({ S with s := vJ (1000 :: 1001 :: 1002 :: i) (H.b0 s :: H.b1 s :: H.b2 s :: (bk' x).map (Blk.ren (sig (1000 :: 1001 :: 1002 :: i)))) S.s } : AS).put d ((res x).ren (sig (1000 :: 1001 :: 1002 :: i))))) : zF Tryz.prog n o S K N :=
  zF.held H i hd hn he hx hnd h0 h1 h2 hat hbk hxs hrx hbk' hok f (fun y s' e g _ => by rw [zC] at e; cases e; exact r g) (fun q s' e => by rw [zC] at e; cases e) (by rw [zC]; intro e; cases e)
/-- a call, two ways by what is answered -/
theorem zF.hdB {α : Type} {f0 : FuncId} {avs xs : List AV} {bk : List Blk} {res : α → AV} {bk' : α → List Blk} {good : α → Prop} {H : Hnd} {s : H.σ} {p0 : Pr α} {N : AS → Prop} (c : α → Bool) (i : List Nat) (hd : o.dst = some d := by rfl) (hn : d < n := by decide) (he : Enters Tryz.prog o S f0 avs := by exact enA)
    (hx : avs = xs.map (AV.ren (sig (1000 :: 1001 :: 1002 :: i))) := by rfl) (hnd : (1000 :: 1001 :: 1002 :: i).Nodup := by decide)
    (h0 : S.blk 1000 = some (H.b0 s) := by first | rfl | exact xB rfl (H.nk _).1 (by repeat' first | exact KB.refl | apply KB.kill | decide)) (h1 : S.blk 1001 = some (H.b1 s) := by first | rfl | exact xB rfl (H.nk _).2.1 (by repeat' first | exact KB.refl | apply KB.kill | decide)) (h2 : S.blk 1002 = some (H.b2 s) := by first | rfl | exact xB rfl (H.nk _).2.2 (by repeat' first | exact KB.refl | apply KB.kill | decide))
    (hat : AtB S (1000 :: 1001 :: 1002 :: i) i bk := by repeat' first | exact trivial | rfl | constructor) (hbk : bk.all (Blk.okE (bk.length + 3)) = true := by rfl) (hxs : xs.all (AV.okE (bk.length + 3)) = true := by rfl) (hrx : ∀ x, (res x).okE (bk.length + 3) = true := by exact fun _ => rfl)
    (hbk' : ∀ x, (bk' x).length = bk.length ∧ (bk' x).all (Blk.okE (bk.length + 3)) = true := by exact fun _ => ⟨rfl, rfl⟩) (hok : H.ok s := by assumption) (f : FnH H f0 xs bk res bk' good s p0)
    (r0 : ∀ x s', p0.run H.st s = .done x s' → good x → H.ok s' → c x = false → N (({ S with s := vJ (1000 :: 1001 :: 1002 :: i) (H.b0 s' :: H.b1 s' :: H.b2 s' :: (bk' x).map (Blk.ren (sig (1000 :: 1001 :: 1002 :: i)))) S.s } : AS).put d ((res x).ren (sig (1000 :: 1001 :: 1002 :: i)))))
    (r1 : ∀ x s', p0.run H.st s = .done x s' → good x → H.ok s' → c x = true → N (({ S with s := vJ (1000 :: 1001 :: 1002 :: i) (H.b0 s' :: H.b1 s' :: H.b2 s' :: (bk' x).map (Blk.ren (sig (1000 :: 1001 :: 1002 :: i)))) S.s } : AS).put d ((res x).ren (sig (1000 :: 1001 :: 1002 :: i)))))
    (p : ∀ q s', p0.run H.st s = .need q s' → K (.panic []) { S with s := vJ (1000 :: 1001 :: 1002 :: i) (H.b0 s' :: H.b1 s' :: H.b2 s' :: (bk.map Blk.forget).map (Blk.ren (sig (1000 :: 1001 :: 1002 :: i)))) S.s, x := needA (accQ q) })
    (t : p0.run H.st s ≠ .stuck) : zF Tryz.prog n o S K N := zF.held H i hd hn he hx hnd h0 h1 h2 hat hbk hxs hrx hbk' hok f (fun x s' e g k => by
      cases hc : c x
      · exact r0 x s' e g k hc
      · exact r1 x s' e g k hc) p t
end
end Go.Proofs.YtmfbamiciieooaaGreatDoor
