/- For every input SaveDirect returns true, and leaves its arguments as they were; tied: Rows.SaveDirectCardSaid. Conditions: none beyond the given statement's own. (Part 6 of 7.) -/
import Derived.Test.YthnmfmdkdngggaaDoorDr5
/- Functions that make variables, and hand them back to their callers. Generic over the program. -/
namespace Go.Proofs.YthnmfmdkdngggaaDoor
set_option maxRecDepth 100000
set_option maxHeartbeats 16000000
open Go Go.RowKit
set_option linter.unusedSimpArgs false
set_option linter.unusedVariables false
/-- What function f does: of such arguments, and such variables of its callers'; it hands back new variables, numbered behind those. -/
def FnX (P : Program) (f : FuncId) (args : List AV) (B : List Blk) (x : AV) (B' New : List Blk) : Prop :=
  ∀ (M : Nat → Nat → Prop) (h : Home) (ρ : Nat → Value) (vs : List Value), Handed h B ρ → (∀ k, 1000 + B.length ≤ k → h.r k = none) → Sat M 0 h (asB B) ρ wI h.w → vs.length = args.length →
    (∀ (i : Nat) x v, args[i]? = some x → vs[i]? = some v → yB (Mut M (asB B) ρ) ρ h.w x v) →
    Calls P f vs.toArray h.w fun e w' => ∃ ρ' v, e = .returned v ∧ Sat M 0 h (asB (B' ++ New)) ρ' wI w' ∧ yB (Mut M (asB (B' ++ New)) ρ') ρ' w' x v
section
variable {M : Nat → Nat → Prop} {n : Nat} {w0 : Home} {w : World} {S : AS} {ρ : Nat → Value} {a : Act}
theorem Sat.dropU (h : Sat M n w0 S ρ a w) (id : Nat) (u : Value) (hr : w0.r id = none) : Sat M n w0 (S.drop id) (upd ρ id u) a w := by
  have hu : ∀ j, j ≠ id → upd ρ id u j = ρ j := fun j hj => by simp [upd, hj]
  have hm : ∀ k c, Mut M (S.drop id) (upd ρ id u) k c → Mut M S ρ k c := fun k c hk => by
    rcases hk with hk | ⟨j, b, hb, hk, ht⟩
    · exact .inl hk
    · rw [AS.xO] at hb
      split at hb
      · cases hb
      · rename_i hne
        obtain ⟨b1, h1, rfl⟩ := Option.map_eq_some_iff.1 hb
        rw [hu j (fun e => hne e.symm)] at hk
        exact .inr ⟨j, b1, h1, hk, (Blk.turns_kill b1 id c).1 ht⟩
  have hk : ∀ {x : AV} {v : Value}, yB (Mut M S ρ) ρ w x v → yB (Mut M (S.drop id) (upd ρ id u)) (upd ρ id u) w (x.kill id) v := fun {x v} hx => (hx.killed id u).mono fun k c _ hk => hm k c hk
  refine ⟨h.below, h.out, h.tab, h.size, h.defers, fun i => ?_, fun j b hb => ?_, fun j b k hb hk => ?_, fun k v hv => ?_, h.free, fun i j bi bj k hi hj h1 h2 => ?_⟩
  · have e : (S.drop id).tmp i = (S.tmp i).kill id := S.tmp_kill id i
    rw [e]
    exact hk (h.tmps i)
  · rw [AS.xO] at hb
    split at hb
    · cases hb
    · rename_i hne
      obtain ⟨b1, h1, rfl⟩ := Option.map_eq_some_iff.1 hb
      have := h.blks j b1 h1
      rw [hu j (fun e => hne e.symm)]
      cases b1 with
      | row t size m xs =>
        obtain ⟨ys, ho, hc⟩ := this
        exact ⟨ys, ho, (hc.killed id u).mono fun k c _ hk => hm k c hk⟩
      | prow t size m xs =>
        obtain ⟨ys, ho, hc⟩ := this
        exact ⟨ys, ho, (wT xs id ▸ hc.killed id u : yA _ _ _ (xs.map AV.p) ys).mono fun k c _ hk => hm k c hk⟩
      | box t xs =>
        obtain ⟨g, ys, hv, hg, hh, hc⟩ := this
        exact ⟨g, ys, hv, hg, hh, (hc.killed id u).mono fun k c _ hk => hm k c hk⟩
      | lent t size m xs =>
        obtain ⟨ys, ho, hc⟩ := this
        exact ⟨ys, ho, (wT xs id ▸ hc.killed id u : yA _ _ _ (xs.map AV.p) ys).mono fun k c _ hk => hm k c hk⟩
  · rw [AS.xO] at hb
    split at hb
    · cases hb
    · rename_i hne
      obtain ⟨b1, h1, _⟩ := Option.map_eq_some_iff.1 hb
      rw [hu j (fun e => hne e.symm)] at hk
      exact h.mine j b1 k h1 hk
  · by_cases e : k = id
    · subst e
      rw [hr] at hv; cases hv
    · rw [hu k e]
      exact h.fix k v hv
  · rw [AS.xO] at hi hj
    split at hi
    · cases hi
    · rename_i hi1
      split at hj
      · cases hj
      · rename_i hj1
        obtain ⟨b1, h3, _⟩ := Option.map_eq_some_iff.1 hi
        obtain ⟨b2, h4, _⟩ := Option.map_eq_some_iff.1 hj
        rw [hu i (fun e => hi1 e.symm)] at h1
        rw [hu j (fun e => hj1 e.symm)] at h2
        exact h.dist i j b1 b2 k h3 h4 h1 h2
theorem xH.monoW {M M' : Nat → Nat → Prop} {B : Nat} {ρ : Nat → Value} {w : World} {v : Value} {b : Blk} (h : xH M B ρ w v b) (hM : ∀ k c, k < w.heap.size → M' k c → M k c) : xH M' B ρ w v b := by
  cases b with
  | row t size m xs => obtain ⟨ys, ho, hc⟩ := h; exact ⟨ys, ho, hc.mono hM⟩
  | prow t size m xs => obtain ⟨ys, ho, hc⟩ := h; exact ⟨ys, ho, hc.mono hM⟩
  | lent t size m xs => obtain ⟨ys, ho, hc⟩ := h; exact ⟨ys, ho, hc.mono hM⟩
  | box t xs => obtain ⟨g, ys, hv, hg, hh, hc⟩ := h; exact ⟨g, ys, hv, hg, hh, hc.mono hM⟩
def AS.drops (S : AS) (ids : List Nat) : AS := ids.foldl AS.drop S
theorem Sat.drops : ∀ (ids : List Nat) {S : AS} {ρ : Nat → Value}, Sat M n w0 S ρ a w → (∀ j ∈ ids, w0.r j = none) → ∀ ρ', (∀ j, j ∉ ids → ρ' j = ρ j) → Sat M n w0 (S.drops ids) ρ' a w
  | [], S, ρ, h, _, ρ', e => by
    have : ρ' = ρ := funext fun j => e j (by simp)
    subst this
    exact h
  | id :: r, S, ρ, h, hr, ρ', e => by
    show Sat M n w0 ((S.drop id).drops r) ρ' a w
    refine Sat.drops r (h.dropU id (ρ' id) (hr id (by simp))) (fun j hj => hr j (by simp [hj])) ρ' fun j hj => ?_
    by_cases h1 : j = id
    · subst h1
      simp [upd]
    · rw [e j (by simp [h1, hj])]
      simp [upd, h1]
theorem drops_none : ∀ (ids : List Nat) {S : AS} {j : Nat}, S.blk j = none → (S.drops ids).blk j = none
  | [], _, _, h => h
  | id :: r, S, j, h => drops_none r (S := S.drop id) (by rw [AS.xO, h]; simp)
theorem drops_blk : ∀ (ids : List Nat) {S : AS} {j : Nat}, j ∈ ids → (S.drops ids).blk j = none
  | id :: r, S, j, h => by
    show ((S.drop id).drops r).blk j = none
    by_cases h1 : id = j
    · exact drops_none r (by rw [AS.xO, if_pos h1])
    · exact drops_blk r ((List.mem_cons.1 h).resolve_left fun e => h1 e.symm)
theorem drops_mut : ∀ (ids : List Nat) {S : AS} {k c : Nat}, Mut M (S.drops ids) ρ k c → Mut M S ρ k c
  | [], _, _, _, h => h
  | id :: r, S, k, c, h => Mut.drop (drops_mut r (S := S.drop id) h)
end
section
variable {P : Program} {n : Nat} {o : Oper} {S : AS} {d : Nat}
theorem call_new {f : FuncId} {xs : List AV} {ids nids : List Nat} {B B' New : List Blk} {rx : AV} (hf : FnX P f xs B rx B' New) (hh : Hands S ids B) (hB' : B'.length = B.length) (hnl : nids.length = New.length) (hnd : (ids ++ nids).Nodup)
    (hok' : (B' ++ New).all (Blk.okE (B' ++ New).length) = true) (hxs : xs.all (AV.okE B.length) = true) (hrx : rx.okE (B' ++ New).length = true) (hno : ∀ j ∈ nids, S.blk j = none)
    {M : Nat → Nat → Prop} {w0 : Home} {ρ : Nat → Value} {a : Act} {w : World} (hs : Sat M n w0 S ρ a w) (hfree : ∀ ρ', (∀ j, j ∉ nids → ρ' j = ρ j) → Sat M n w0 S ρ' a w) {vs : List Value} (hvl : vs.length = xs.length)
    (hvs : ∀ (i : Nat) x v, xs[i]? = some x → vs[i]? = some v → yB (Mut M S ρ) ρ w (x.ren (sig ids)) v) :
    Calls P f vs.toArray w fun e w' => ∃ ρ' v, e = .returned v ∧ Sat M n w0 (S.after (ids ++ nids) (B' ++ New)) ρ' a w' ∧ yB (Mut M (S.after (ids ++ nids) (B' ++ New)) ρ') ρ' w' (rx.ren (sig (ids ++ nids))) v := by
  have hlen := hh.len
  have hLL : (ids ++ nids).length = (B' ++ New).length := by simp [hlen, hB', hnl]
  have at_i : ∀ i, i < B.length → ∃ id b, ids[i]? = some id ∧ B[i]? = some b ∧ S.blk id = some (b.ren (sig ids)) ∧ sig ids (1000 + i) = id := fun i hi => by
    have h1 : ids[i]? = some (ids[i]'(by omega)) := List.getElem?_eq_getElem _
    have h2 : B[i]? = some B[i] := List.getElem?_eq_getElem _
    exact ⟨_, _, h1, h2, hh.at_ i _ _ h1 h2, sig_at h1⟩
  have box_i : ∀ i, i < B.length → ∃ g, ρ (sig ids (1000 + i)) = .pointer (some ⟨g, 0, none⟩) := fun i hi => by
    obtain ⟨id, b, h1, h2, h3, h4⟩ := at_i i hi
    have hb := hs.blks id _ h3
    have hbo := List.all_eq_true.1 hh.ok b (List.mem_of_getElem? h2)
    rw [h4]
    cases b with
    | box t cs =>
      obtain ⟨g, ys, hv, _⟩ := hb
      exact ⟨g, hv⟩
    | row t s m cs => cases hbo
    | prow t s m cs => cases hbo
    | lent t s m cs => cases hbo
  let T : Nat → Prop := fun k => ∃ i, i < B.length ∧ zU (ρ (sig ids (1000 + i))) = some k
  have T_mut : ∀ k c, T k → Mut M S ρ k c := fun k c ⟨i, hi, hk⟩ => by
    obtain ⟨id, b, h1, h2, h3, h4⟩ := at_i i hi
    rw [h4] at hk
    exact .inr ⟨id, _, h3, hk, (Blk.ren_turns c).2 (Blk.vY (List.all_eq_true.1 hh.ok b (List.mem_of_getElem? h2)) c)⟩
  have T_has : ∀ k, T k → w0.has k := fun k ⟨i, hi, hk⟩ => by
    obtain ⟨id, b, h1, h2, h3, h4⟩ := at_i i hi
    rw [h4] at hk
    exact hs.mine id _ k h3 hk
  let M' : Nat → Nat → Prop := fun k c => Mut M S ρ k c ∧ ¬ T k
  let h : Home := ⟨w, T, hs.lays, (fun g hg ht => hs.tabs g 0 hg (T_mut g 0 ht)), fun k => if 1000 ≤ k ∧ k < 1000 + B.length then some (ρ (sig ids k)) else none, (fun k v hk => by
      by_cases hc : 1000 ≤ k ∧ k < 1000 + B.length
      · simp only [hc, and_self, if_true, Option.some.injEq] at hk
        obtain ⟨g, hg⟩ := box_i (k - 1000) (by omega)
        have e : 1000 + (k - 1000) = k := by omega
        rw [e] at hg
        exact ⟨g, by rw [← hk, hg]⟩
      · rw [if_neg hc] at hk; cases hk), (fun k hk => if_neg (by omega)), []⟩
  have hr_i : ∀ k, 1000 ≤ k → k < 1000 + B.length → h.r k = some (ρ (sig ids k)) := fun k h1 h2 => if_pos ⟨h1, h2⟩
  have mutc : ∀ k c, Mut M' (asB B) (fun k => ρ (sig ids k)) k c → Mut M S ρ k c := by
    rintro k c (hk | ⟨id, b, hb, hk, _⟩)
    · exact hk.1
    · obtain ⟨i, rfl, hbi⟩ := y7 hb
      exact T_mut k c ⟨i, (List.getElem?_eq_some_iff.1 hbi).1, hk⟩
  have hsat : Sat M' 0 h (asB B) (fun k => ρ (sig ids k)) wI h.w := by
    refine ⟨xS.refl h, fun k c hk hh2 => ?_, fun g c hg hk => ?_, rfl, rfl, fun i => .any _, fun id b hb => ?_, fun id b k hb hk => ?_, fun k v hk => ?_, fun k hk => by omega, fun i j bi bj k hi hj h1 h2 => ?_⟩
    · rcases hh2 with hh2 | hh2
      · exact absurd (Mut.lt hs hk.1) (Nat.not_lt.2 hh2)
      · exact hk.2 hh2
    · exact hs.tabs g c hg hk.1
    · obtain ⟨i, rfl, hbi⟩ := y7 hb
      have hi : i < B.length := (List.getElem?_eq_some_iff.1 hbi).1
      obtain ⟨id, b2, h1, h2, h3, h4⟩ := at_i i hi
      rw [hbi] at h2
      obtain rfl := Option.some.inj h2
      have hbo := List.all_eq_true.1 hh.ok b (List.mem_of_getElem? hbi)
      have hb2 := hs.blks id _ h3
      cases b with
      | box t cs =>
        obtain ⟨g, ys, hv, hg, hhp, hc⟩ := hb2
        exact ⟨g, ys, by show ρ (sig ids (1000 + i)) = _; rw [h4]; exact hv, hg, hhp, yA.inn hc hbo fun k c _ hk => mutc k c hk⟩
      | row t s m cs => cases hbo
      | prow t s m cs => cases hbo
      | lent t s m cs => cases hbo
    · obtain ⟨i, rfl, hbi⟩ := y7 hb
      exact .inr ⟨i, (List.getElem?_eq_some_iff.1 hbi).1, hk⟩
    · by_cases hc : 1000 ≤ k ∧ k < 1000 + B.length
      · rw [hr_i k hc.1 hc.2] at hk
        exact Option.some.inj hk
      · have : h.r k = none := if_neg hc
        rw [this] at hk; cases hk
    · obtain ⟨i', rfl, hbi⟩ := y7 hi
      obtain ⟨j', rfl, hbj⟩ := y7 hj
      obtain ⟨id, b1, p1, p2, p3, p4⟩ := at_i i' (List.getElem?_eq_some_iff.1 hbi).1
      obtain ⟨jd, b2, q1, q2, q3, q4⟩ := at_i j' (List.getElem?_eq_some_iff.1 hbj).1
      rw [p4] at h1
      rw [q4] at h2
      have e := hs.dist id jd _ _ k p3 q3 h1 h2
      subst e
      rw [nodup_inj hh.nodup p1 q1]
  have hcall := hf M' h _ vs ⟨fun i hi => hr_i _ (by omega) (by omega), fun k hk => hk⟩ (fun k hk => if_neg (by omega)) hsat hvl (fun i x v h1 h2 => yB.inn (hvs i x v h1 h2) (List.all_eq_true.1 hxs x (List.mem_of_getElem? h1)) fun k c _ hk => mutc k c hk)
  refine Calls.mono hcall ?_
  rintro e w' ⟨ρ2, v, rfl, hs2, hrep⟩
  have hρ1 : ∀ k, 1000 ≤ k → k < 1000 + B.length → ρ2 k = ρ (sig ids k) := fun k h1 h2 => hs2.fix k _ (hr_i k h1 h2)
  -- the names' values behind the call
  let ρ3 : Nat → Value := fun j => if j ∈ nids then ρ2 (1000 + (ids ++ nids).idxOf j) else ρ j
  have hs3 : Sat M n w0 S ρ3 a w := hfree ρ3 fun j hj => if_neg hj
  have idx_at : ∀ i j, (ids ++ nids)[i]? = some j → (ids ++ nids).idxOf j = i := fun i j hi => by
    have hm : j ∈ ids ++ nids := List.mem_of_getElem? hi
    have h1 : (ids ++ nids).idxOf j < (ids ++ nids).length := List.idxOf_lt_length_of_mem hm
    have h2 : (ids ++ nids)[(ids ++ nids).idxOf j]? = some j := by rw [List.getElem?_eq_getElem h1, List.getElem_idxOf h1]
    exact nodup_inj hnd h2 hi
  have old_not : ∀ j, j ∈ ids → j ∉ nids := fun j h1 h2 => (List.nodup_append.1 hnd).2.2 j h1 j h2 rfl
  have old3 : ∀ j, j ∈ ids → ρ3 j = ρ j := fun j hj => if_neg (old_not j hj)
  have hρ : ∀ k, 1000 ≤ k → k < 1000 + (B' ++ New).length → ρ2 k = ρ3 (sig (ids ++ nids) k) := fun k h1 h2 => by
    obtain ⟨i, rfl⟩ : ∃ i, k = 1000 + i := ⟨k - 1000, by omega⟩
    have hi : i < (ids ++ nids).length := by omega
    have hat : (ids ++ nids)[i]? = some (ids ++ nids)[i] := List.getElem?_eq_getElem hi
    rw [sig_at hat]
    by_cases hlt : i < ids.length
    · have e1 : (ids ++ nids)[i] = ids[i] := List.getElem_append_left hlt
      have e2 : ids[i]? = some ids[i] := List.getElem?_eq_getElem hlt
      rw [e1, old3 _ (List.getElem_mem _), hρ1 (1000 + i) (by omega) (by omega), sig_at e2]
    · have e1 : (ids ++ nids)[i] ∈ nids := by
        rw [List.getElem_append_right (by omega)]
        exact List.getElem_mem _
      show _ = if _ then _ else _
      rw [if_pos e1, idx_at i _ hat]
  have hblk : ∀ j, (S.after (ids ++ nids) (B' ++ New)).blk j = if j ∈ ids ++ nids then ((B' ++ New).map (Blk.ren (sig (ids ++ nids))))[(ids ++ nids).idxOf j]? else S.blk j := fun j => look_putBs _ _ S.s j (by rw [List.length_map]; exact hLL) hnd
  have mem_at : ∀ j, j ∈ ids ++ nids → ∃ i b, (ids ++ nids).idxOf j = i ∧ i < (B' ++ New).length ∧ (ids ++ nids)[i]? = some j ∧ (B' ++ New)[i]? = some b ∧ sig (ids ++ nids) (1000 + i) = j := fun j hj => by
    have h1 : (ids ++ nids).idxOf j < (ids ++ nids).length := List.idxOf_lt_length_of_mem hj
    have h2 : (ids ++ nids)[(ids ++ nids).idxOf j]? = some j := by rw [List.getElem?_eq_getElem h1, List.getElem_idxOf h1]
    have h3 : (ids ++ nids).idxOf j < (B' ++ New).length := by omega
    exact ⟨_, _, rfl, h3, h2, List.getElem?_eq_getElem h3, sig_at h2⟩
  have T_old : ∀ j k, j ∈ ids → zU (ρ j) = some k → T k := fun j k hj hk => by
    obtain ⟨i, hi, he⟩ := List.getElem_of_mem hj
    refine ⟨i, by omega, ?_⟩
    have : ids[i]? = some j := by rw [List.getElem?_eq_getElem hi, he]
    rw [sig_at this]; exact hk
  have new_ge : ∀ j k, j ∈ nids → zU (ρ3 j) = some k → w.heap.size ≤ k := fun j k hj hk => by
    obtain ⟨i, b, h1, h2, h3, h4, h5⟩ := mem_at j (List.mem_append_right _ hj)
    have e3 : ρ2 (1000 + i) = ρ3 j := by rw [hρ (1000 + i) (by omega) (by omega), h5]
    have hb : (asB (B' ++ New)).blk (1000 + i) = some b := by rw [asB_blk]; exact h4
    rcases hs2.mine (1000 + i) b k hb (by rw [e3]; exact hk) with h6 | ⟨i', h6, h7⟩
    · exact h6
    · have h8 : i' < (B' ++ New).length := by simp; omega
      have hb' : (asB (B' ++ New)).blk (1000 + i') = some (B' ++ New)[i'] := by rw [asB_blk]; exact List.getElem?_eq_getElem h8
      have e := hs2.dist _ _ _ _ k hb hb' (by rw [e3]; exact hk) (by rw [hρ1 (1000 + i') (by omega) (by omega)]; exact h7)
      have e' : i = i' := by omega
      subst e'
      have : (ids ++ nids)[i]? = ids[i]? := List.getElem?_append_left (by omega)
      rw [this] at h3
      exact absurd hj (old_not j (List.mem_of_getElem? h3))
  have mut3 : ∀ k c, Mut M (S.after (ids ++ nids) (B' ++ New)) ρ3 k c → Mut M' (asB (B' ++ New)) ρ2 k c := fun k c hk => by
    by_cases ht : T k
    · obtain ⟨i, hi, hk2⟩ := ht
      have h8 : i < (B' ++ New).length := by simp; omega
      refine .inr ⟨1000 + i, (B' ++ New)[i], by rw [asB_blk]; exact List.getElem?_eq_getElem h8, ?_, Blk.vY (List.all_eq_true.1 hok' _ (List.getElem_mem _)) c⟩
      rw [hρ1 (1000 + i) (by omega) (by omega)]
      exact hk2
    · rcases hk with hk | ⟨j, b, hb, hk, htn⟩
      · exact .inl ⟨.inl hk, ht⟩
      · rw [hblk] at hb
        by_cases hj : j ∈ ids ++ nids
        · obtain ⟨i, b', h1, h2, h3, h4, h5⟩ := mem_at j hj
          refine .inr ⟨1000 + i, b', by rw [asB_blk]; exact h4, ?_, Blk.vY (List.all_eq_true.1 hok' b' (List.mem_of_getElem? h4)) c⟩
          rw [hρ (1000 + i) (by omega) (by omega), h5]
          exact hk
        · rw [if_neg hj] at hb
          refine .inl ⟨.inr ⟨j, b, hb, ?_, htn⟩, ht⟩
          have : ρ3 j = ρ j := if_neg fun h => hj (List.mem_append_right _ h)
          rw [← this]; exact hk
  have mut1 : ∀ k c, k < w.heap.size → Mut M (S.after (ids ++ nids) (B' ++ New)) ρ3 k c → Mut M S ρ3 k c := by
    rintro k c hlt (hk | ⟨j, b, hb, hk, ht⟩)
    · exact .inl hk
    · rw [hblk] at hb
      by_cases hj : j ∈ ids ++ nids
      · rcases List.mem_append.1 hj with hj | hj
        · rw [old3 j hj] at hk
          obtain ⟨i, hi, he⟩ := List.getElem_of_mem hj
          obtain ⟨id, b0, h1, h2, h3, h4⟩ := at_i i (by omega)
          have : ids[i]? = some j := by rw [List.getElem?_eq_getElem hi, he]
          rw [this] at h1
          obtain rfl := Option.some.inj h1
          exact .inr ⟨j, _, h3, by rw [old3 j hj]; exact hk, (Blk.ren_turns c).2 (Blk.vY (List.all_eq_true.1 hh.ok b0 (List.mem_of_getElem? h2)) c)⟩
        · have := new_ge j k hj hk
          omega
      · rw [if_neg hj] at hb
        exact .inr ⟨j, b, hb, hk, ht⟩
  have mutS : ∀ k c, Mut M S ρ3 k c ↔ Mut M S ρ k c := fun k c => by
    constructor
    all_goals
      rintro (hk | ⟨j, b, hb, hk, ht⟩)
      · exact .inl hk
      · have hj : j ∉ nids := fun h => by rw [hno j h] at hb; cases hb
        have e : ρ3 j = ρ j := if_neg hj
        exact .inr ⟨j, b, hb, by first | rw [← e]; exact hk | rw [e]; exact hk, ht⟩
  have grow : Keeps (Mut M S ρ3) w w' := ⟨hs2.below.size, fun k c hk hnm => World.cell?_of_block (w := w) (hs2.below.block k hk (fun ht => hnm ((mutS k c).2 (T_mut k c ht))))⟩
  refine ⟨ρ3, v, rfl, ?_, yB.outw hrep hrx (fun k c _ hk => mut3 k c hk) hρ⟩
  refine ⟨⟨hs2.below.os.trans hs.below.os, hs2.below.tape.trans hs.below.tape, hs2.below.output.trans hs.below.output, Nat.le_trans hs.below.size hs2.below.size, fun k hk ht => ?_⟩, hs.out, hs.tab, hs.size, hs.defers, fun i => ?_, fun j b hb => ?_, fun j b k hb hk => ?_, hs3.fix, hs.free, fun i j bi bj k hi hj h1 h2 => ?_⟩
  · refine (hs2.below.block k (Nat.lt_of_lt_of_le hk hs.below.size) (fun hT => ?_)).trans (hs.below.block k hk ht)
    rcases T_has k hT with h1 | h1
    · omega
    · exact ht h1
  · exact ((hs3.tmps i).mono (M' := Mut M (S.after (ids ++ nids) (B' ++ New)) ρ3) mut1).keep ⟨hs2.below.size, fun k c hk hnm => World.cell?_of_block (w := w) (hs2.below.block k hk (fun ht => hnm (by
      obtain ⟨i, hi, hk2⟩ := ht
      obtain ⟨id, b0, h1, h2, h3, h4⟩ := at_i i hi
      rw [h4] at hk2
      have hm : id ∈ ids := List.mem_of_getElem? h1
      obtain ⟨i2, b2, q1, q2, q3, q4, q5⟩ := mem_at id (List.mem_append_left _ hm)
      refine .inr ⟨id, b2.ren (sig (ids ++ nids)), ?_, by rw [old3 id hm]; exact hk2, (Blk.ren_turns c).2 (Blk.vY (List.all_eq_true.1 hok' b2 (List.mem_of_getElem? q4)) c)⟩
      rw [hblk, if_pos (List.mem_append_left _ hm), q1, List.getElem?_map, q4]; rfl)))⟩
  · rw [hblk] at hb
    by_cases hj : j ∈ ids ++ nids
    · obtain ⟨i, b', h1, hi, h2, h4, h6⟩ := mem_at j hj
      rw [if_pos hj, h1, List.getElem?_map, h4] at hb
      obtain rfl := Option.some.inj hb
      have hb2 := hs2.blks (1000 + i) b' (by rw [asB_blk]; exact h4)
      have hbo := List.all_eq_true.1 hok' b' (List.mem_of_getElem? h4)
      cases b' with
      | box t cs =>
        obtain ⟨g, ys, hv, hg, hhp, hc⟩ := hb2
        rw [hρ (1000 + i) (by omega) (by omega), h6] at hv
        exact ⟨g, ys, hv, hg, hhp, yA.outw hc hbo (fun k c _ hk => mut3 k c hk) hρ⟩
      | row t s m cs => cases hbo
      | prow t s m cs => cases hbo
      | lent t s m cs => cases hbo
    · rw [if_neg hj] at hb
      have hjn : j ∉ nids := fun h => hj (List.mem_append_right _ h)
      have e3 : ρ3 j = ρ j := if_neg hjn
      have hlt : ∀ k, zU (ρ3 j) = some k → k < w.heap.size := fun k hk => Mut.blk_lt hs3 hb hk
      have hb3 := (hs3.blks j b hb).monoW (M' := Mut M (S.after (ids ++ nids) (B' ++ New)) ρ3) mut1
      refine xH.keep hb3 (fun k hk => ?_) ⟨hs2.below.size, fun k c hk hnm => World.cell?_of_block (w := w) (hs2.below.block k hk (fun ht => hnm (by
        obtain ⟨i, hi, hk2⟩ := ht
        obtain ⟨id, b0, h1, h2, h3, h4⟩ := at_i i hi
        rw [h4] at hk2
        have hm : id ∈ ids := List.mem_of_getElem? h1
        obtain ⟨i2, b2, q1, q2, q3, q4, q5⟩ := mem_at id (List.mem_append_left _ hm)
        refine .inr ⟨id, b2.ren (sig (ids ++ nids)), ?_, by rw [old3 id hm]; exact hk2, (Blk.ren_turns c).2 (Blk.vY (List.all_eq_true.1 hok' b2 (List.mem_of_getElem? q4)) c)⟩
        rw [hblk, if_pos (List.mem_append_left _ hm), q1, List.getElem?_map, q4]; rfl)))⟩ (fun k c _ hk => hk)
      refine hs2.below.block k (hlt k hk) (fun ⟨i, hi, hk2⟩ => ?_)
      obtain ⟨id, b2, p1, p2, p3, p4⟩ := at_i i hi
      rw [p4] at hk2
      rw [e3] at hk
      have := hs.dist j id _ _ k hb p3 hk hk2
      subst this
      exact hj (List.mem_append_left _ (List.mem_of_getElem? p1))
  · rw [hblk] at hb
    by_cases hj : j ∈ ids ++ nids
    · rcases List.mem_append.1 hj with hj2 | hj2
      · rw [old3 j hj2] at hk
        exact T_has k (T_old j k hj2 hk)
      · exact .inl (Nat.le_trans hs.below.size (new_ge j k hj2 hk))
    · rw [if_neg hj] at hb
      exact hs3.mine j b k hb hk
  · rw [hblk] at hi hj
    by_cases hi2 : i ∈ ids ++ nids
    · obtain ⟨ii, bI, p1, p2, p3, p4, p5⟩ := mem_at i hi2
      have eI : ρ2 (1000 + ii) = ρ3 i := by rw [hρ (1000 + ii) (by omega) (by omega), p5]
      by_cases hj2 : j ∈ ids ++ nids
      · obtain ⟨jj, bJ, q1, q2, q3, q4, q5⟩ := mem_at j hj2
        have eJ : ρ2 (1000 + jj) = ρ3 j := by rw [hρ (1000 + jj) (by omega) (by omega), q5]
        have e := hs2.dist (1000 + ii) (1000 + jj) bI bJ k (by rw [asB_blk]; exact p4) (by rw [asB_blk]; exact q4) (by rw [eI]; exact h1) (by rw [eJ]; exact h2)
        have e' : ii = jj := by omega
        subst e'
        rw [p3] at q3
        exact Option.some.inj q3
      · rw [if_neg hj2] at hj
        have hlt := Mut.blk_lt hs3 hj h2
        rcases List.mem_append.1 hi2 with hi3 | hi3
        · rw [old3 i hi3] at h1
          obtain ⟨i', h6, h7⟩ := T_old i k hi3 h1
          obtain ⟨id, b0, r1, r2, r3, r4⟩ := at_i i' h6
          have e3 : ρ3 j = ρ j := if_neg fun h => hj2 (List.mem_append_right _ h)
          rw [r4] at h7
          rw [e3] at h2
          have e := hs.dist id j _ _ k r3 hj h7 h2
          subst e
          exact absurd (List.mem_append_left _ (List.mem_of_getElem? r1)) hj2
        · have := new_ge i k hi3 h1
          omega
    · rw [if_neg hi2] at hi
      have hlt := Mut.blk_lt hs3 hi h1
      by_cases hj2 : j ∈ ids ++ nids
      · rcases List.mem_append.1 hj2 with hj3 | hj3
        · rw [old3 j hj3] at h2
          obtain ⟨i', h6, h7⟩ := T_old j k hj3 h2
          obtain ⟨id, b0, r1, r2, r3, r4⟩ := at_i i' h6
          have e3 : ρ3 i = ρ i := if_neg fun h => hi2 (List.mem_append_right _ h)
          rw [r4] at h7
          rw [e3] at h1
          have e := hs.dist id i _ _ k r3 hi h7 h1
          subst e
          exact absurd (List.mem_append_left _ (List.mem_of_getElem? r1)) hi2
        · have := new_ge j k hj3 h2
          omega
      · rw [if_neg hj2] at hj
        exact hs3.dist i j bi bj k hi hj h1 h2
/-- A call by a contract, that comes back with new variables. -/
theorem zI.eNew {f : FuncId} {avs xs : List AV} {B B' New : List Blk} {rx : AV} {K : Exit → AS → Prop} {N : AS → Prop} (ids nids : List Nat) (hf : FnX P f xs B rx B' New) (hd : o.dst = some d) (hn : d < n) (he : Enters P o S f avs) (hx : avs = xs.map (AV.ren (sig ids))) (hh : Hands (S.drops nids) ids B) (hlo : nids.all (fun k => decide (k < 1000)) = true)
    (hB' : B'.length = B.length) (hnl : nids.length = New.length) (hnd : (ids ++ nids).Nodup) (hok' : (B' ++ New).all (Blk.okE (B' ++ New).length) = true) (hxs : xs.all (AV.okE B.length) = true) (hrx : rx.okE (B' ++ New).length = true)
    (hr : N (((S.drops nids).after (ids ++ nids) (B' ++ New)).put d (rx.ren (sig (ids ++ nids))))) : zI P n o S K N := by
  intro M w0 ρ a w KK Q hs hK _
  obtain ⟨vs, he1, he2, he3⟩ := he M n w0 ρ a w hs
  unfold Oper.wp
  rw [he1, Oper.upon_enter]
  have hlo' : ∀ j ∈ nids, w0.r j = none := fun j hj => w0.lo j (by simpa using List.all_eq_true.1 hlo j hj)
  have hall := Sat.drops nids hs hlo'
  refine Calls.mono (call_new hf hh hB' hnl hnd hok' hxs hrx (fun j hj => drops_blk nids hj) (hall ρ fun _ _ => rfl) hall (by rw [he2, hx, List.length_map]) fun i x v h1 h2 => ?_) ?_
  · exact (reps_ren hx he3 i x v h1 h2).mono fun k c _ hk => drops_mut nids hk
  · rintro e w' ⟨ρ', v, rfl, hs', hv⟩
    show KK (a.put o.dst v) w'
    rw [hd]
    exact hK _ ρ' _ w' hr (hs'.put hn hv)
theorem fn_ofX {f : FuncId} {fn : Func} {c : Code} {args : List AV} {B B' New : List Blk} {x : AV} (IDS : List Nat) (hf : P.funcs[f]? = some fn) (hb : fn.body = some c) (hn : fn.ntmps = n) (hle : args.length ≤ n) (h1000 : n ≤ 1000) (hids : IDS.take B.length = (List.range B.length).map (1000 + ·)) (hrx : x.okE (B' ++ New).length = true)
    (h : zX P n c { t := zipA 0 args, s := numB 1000 B } (fun e S => (e = .ret ∨ e = .normal) ∧ ∃ S', Sub S S' ∧ GivesA P fn S' (x.ren (sig IDS)) ∧ Hands S' IDS (B' ++ New))) : FnX P f args B x B' New := by
  intro M hh ρ vs hand hnone hs0 hvl hvs
  refine calls_of_wp hf hb ?_
  have hsat : Sat M n hh { t := zipA 0 args, s := numB 1000 B } ρ { tmps := vs.toArray ++ Array.replicate (fn.ntmps - vs.toArray.size) undef, defers := [] } hh.w := by
    refine ⟨hs0.below, hs0.out, hs0.tab, by simp; omega, hs0.defers, fun i => ?_, hs0.blks, hs0.mine, hs0.fix, fun k hk => hh.lo k (by omega), hs0.dist⟩
    show yB _ _ _ ((look (zipA 0 args) i).getD .any) _
    rw [look_zipA]
    simp only [Nat.zero_le, if_true, Nat.sub_zero]
    cases hx : args[i]? with
    | none => exact .any _
    | some x =>
      have hi : i < vs.length := by rw [hvl]; exact (List.getElem?_eq_some_iff.1 hx).1
      have e : ({ tmps := vs.toArray ++ Array.replicate (fn.ntmps - vs.toArray.size) undef, defers := [] } : Act).tmps.getD i undef = vs[i] := by
        simp [Array.getD_eq_getD_getElem?, Array.getElem?_append, hi]
      rw [e]
      exact hvs i x vs[i] hx (List.getElem?_eq_getElem hi)
  refine h M hh ρ _ hh.w _ hsat ?_
  rintro e S0 ρ0 a' w' ⟨he, S', hsub, hg, hH⟩ hs1 hx
  obtain ⟨ρ', hs'⟩ := hsub M n hh ρ0 a' w' hs1
  have at_i : ∀ i b, (B' ++ New)[i]? = some b → ∃ id, IDS[i]? = some id ∧ S'.blk id = some (b.ren (sig IDS)) ∧ sig IDS (1000 + i) = id := fun i b hb => by
    have hi : i < IDS.length := by rw [hH.len]; exact (List.getElem?_eq_some_iff.1 hb).1
    have h1 : IDS[i]? = some IDS[i] := List.getElem?_eq_getElem hi
    exact ⟨_, h1, hH.at_ i _ b h1 hb, sig_at h1⟩
  have low : ∀ i, i < B.length → sig IDS (1000 + i) = 1000 + i := fun i hi => by
    have h1 : (IDS.take B.length)[i]? = some (1000 + i) := by rw [hids, List.getElem?_map, List.getElem?_range hi]; rfl
    rw [List.getElem?_take, if_pos hi] at h1
    exact sig_at h1
  have mutc : ∀ k c, Mut M (asB (B' ++ New)) (fun k => ρ' (sig IDS k)) k c → Mut M S' ρ' k c := by
    rintro k c (hk | ⟨id, b, hb, hk, ht⟩)
    · exact .inl hk
    · obtain ⟨i, rfl, hbi⟩ := y7 hb
      obtain ⟨id, h1, h2, h3⟩ := at_i i b hbi
      exact .inr ⟨id, _, h2, by rw [← h3]; exact hk, (Blk.ren_turns c).2 ht⟩
  have hfin : Sat M 0 hh (asB (B' ++ New)) (fun k => ρ' (sig IDS k)) wI w' := by
    refine ⟨hs'.below, hs'.out, hs'.tab, rfl, hs0.defers, fun i => .any _, fun id b hb => ?_, fun id b k hb hk => ?_, fun k v hk => ?_, fun k hk => by omega, fun i j bi bj k hi hj h1 h2 => ?_⟩
    · obtain ⟨i, rfl, hbi⟩ := y7 hb
      obtain ⟨id, h1, h2, h3⟩ := at_i i b hbi
      have hbo := List.all_eq_true.1 hH.ok b (List.mem_of_getElem? hbi)
      have hb2 := hs'.blks id _ h2
      cases b with
      | box t cs =>
        obtain ⟨g, ys, hv, hg, hhp, hc⟩ := hb2
        exact ⟨g, ys, by show ρ' (sig IDS (1000 + i)) = _; rw [h3]; exact hv, hg, hhp, yA.inn hc hbo fun k c _ hk => mutc k c hk⟩
      | row t s m cs => cases hbo
      | prow t s m cs => cases hbo
      | lent t s m cs => cases hbo
    · obtain ⟨i, rfl, hbi⟩ := y7 hb
      obtain ⟨id, h1, h2, h3⟩ := at_i i b hbi
      exact hs'.mine id _ k h2 (by rw [← h3]; exact hk)
    · rcases Nat.lt_or_ge k 1000 with h1 | h1
      · rw [hh.lo k h1] at hk; cases hk
      · rcases Nat.lt_or_ge k (1000 + B.length) with h2 | h2
        · have e := low (k - 1000) (by omega)
          have e2 : 1000 + (k - 1000) = k := by omega
          rw [e2] at e
          show ρ' (sig IDS k) = v
          rw [e]
          exact hs'.fix k v hk
        · rw [hnone k h2] at hk; cases hk
    · obtain ⟨i', rfl, hbi⟩ := y7 hi
      obtain ⟨j', rfl, hbj⟩ := y7 hj
      obtain ⟨id, p1, p2, p3⟩ := at_i i' bi hbi
      obtain ⟨jd, q1, q2, q3⟩ := at_i j' bj hbj
      have e := hs'.dist id jd _ _ k p2 q2 (by rw [← p3]; exact h1) (by rw [← q3]; exact h2)
      subst e
      rw [nodup_inj hH.nodup p1 q1]
  have fin : a'.defers = [] ∧ ∃ v, (results fn a'.tmps).run P w' = .ok v w' ∧ (∃ ρ' v2, Ending.returned v = .returned v2 ∧ Sat M 0 hh (asB (B' ++ New)) ρ' wI w' ∧ yB (Mut M (asB (B' ++ New)) ρ') ρ' w' x v2) := by
    refine ⟨hs'.defers.trans hs0.defers.symm, ?_⟩
    generalize hy : x.ren (sig IDS) = y at hg
    cases hg with
    | none hr => exact ⟨_, results_none hr _ _ _, _, _, rfl, hfin, yB.inn (ids := IDS) (ρ := ρ') (M := Mut M S' ρ') (by rw [hy]; exact .any _) hrx fun k c _ hk => mutc k c hk⟩
    | one hr ht =>
      refine ⟨_, results_tmp hr _ _ _, _, _, rfl, hfin, yB.inn (ids := IDS) (ρ := ρ') (M := Mut M S' ρ') ?_ hrx fun k c _ hk => mutc k c hk⟩
      rw [hy, ← ht]
      exact hs'.tmps _
    | p hr hx =>
      obtain ⟨v, g1, g2⟩ := res_oneM hs' hx
      have g3 := wY (P := P) (w := w') fn a'.tmps (rs := [_]) (vs := [v]) hr (by simp only [List.mapM_cons, List.mapM_nil, Sem.run_bind, Sem.run_pure, g1, Result.andThen_ok])
      exact ⟨v, g3, _, _, rfl, hfin, yB.inn (ids := IDS) (ρ := ρ') (M := Mut M S' ρ') (by rw [hy]; exact .p g2) hrx fun k c _ hk => mutc k c hk⟩
    | tup hr hl hx =>
      obtain ⟨us, g1, g2, g4, g3⟩ := res_allM hs' hx
      have g5 := wY (P := P) (w := w') fn a'.tmps hr g1
      rw [dif_neg (by simp only [List.size_toArray]; omega)] at g5
      refine ⟨_, g5, _, _, rfl, hfin, yB.inn (ids := IDS) (ρ := ρ') (M := Mut M S' ρ') ?_ hrx fun k c _ hk => mutc k c hk⟩
      rw [hy]
      refine .tup _ us (by simpa using g2) fun i c v hc hv => ?_
      rw [List.getElem?_map, Option.map_eq_some_iff] at hc
      obtain ⟨y, hy, rfl⟩ := hc
      exact .p (g3 i y v hy hv)
  cases e with
  | ret => exact fin
  | normal => exact fin
  | exit id => rcases he with h | h <;> cases h
  | goto l => rcases he with h | h <;> cases h
  | panic c => rcases he with h | h <;> cases h
  | outgrown => rcases he with h | h <;> cases h
theorem w_boxPtr {t : TypeId} {x : Operand} {id off : Nat} (ho : o.op = .box t x) (hx : S.get x = .ptr id off) (hd : o.dst = some d) (hn : d < n) : zC P n o S [] (.ptr d 0) (some (.box t [.ptr id off])) :=
  zC.made hd hn fun S2 hg _ M w0 ρ a w hs => by
    have hr := hs.rep x
    rw [hg x (by rw [ho]; simp [Op.operands]), hx] at hr
    refine ⟨.pointer (some ⟨w.heap.size, 0, none⟩), w.alloc (.cells (a.eval x).cells t), ?_, World.grownBy_alloc w _ none, fun k hk => ?_, ?_, .inr ⟨rfl, _, rfl⟩⟩
    · unfold execOp
      rw [ho]
      simp [Instr.box, newVar, newRow]
    · simp only [zU, Option.some.injEq] at hk; omega
    · have hc := repA_cells hr rfl
      refine ⟨w.heap.size, (a.eval x).cells.toList, rfl, Nat.zero_le _, by rw [heap_alloc_new], ⟨hc.len, fun i c u h2 h3 => ?_, hc.one⟩⟩
      refine ((hc.each i c u h2 h3).mono fun k c hk h => ?_).keep (.of_below _ ((Below.refl _ _).alloc (Nat.le_refl _) _))
      rcases h with h | h
      · exact h
      · simp only [zU, Option.some.injEq] at h; omega
end
end Go.Proofs.YthnmfmdkdngggaaDoor
/- A region that draws its order, of which some operations may come late. Generic over the program. -/
namespace Go.Proofs.YthnmfmdkdngggaaDoor
set_option maxRecDepth 100000
set_option maxHeartbeats 16000000
open Go Go.RowKit
attribute [local semireducible] xW wE Draws
/-- as schedB; some of the first m may come behind others -/
def schedL (l : List Oper) (m : Nat) (bss : List (List Nat)) (late : List Nat) : Bool :=
  decide (m ≤ l.length) && ((List.range l.length).all fun i => match l[i]? with
    | some o => o.after.toList.all fun e => !Region.binds .any e || decide (e.on < i)
    | none => true) &&
  ((List.range m).all fun i => (List.range m).all fun j =>
    (i == j || xY l i != xY l j) && (xY l i).isSome && (decide (i < j) || !(ord l i j)) &&
    (match xY l j with
     | some t => (!(readsOf l i).contains t || i == j || (decide (j < i) && ord l j i) || (decide (i < j) && ord l i j)) && (!(bss.getD i []).contains t || (decide (j < i) && ord l j i))
     | none => true)) &&
  ((List.range l.length).all fun t => decide (t < m) || (List.range m).all fun j => ord l j t || late.contains j)
structure SchedL (l : List Oper) (xs : List AI) (late : List Nat) : Prop where
  len : xs.length ≤ l.length
  back : ∀ (i : Nat) (o : Oper), l[i]? = some o → ∀ e ∈ o.after.toList, Region.binds .any e = true → e.on < i
  one : ∀ i j, i < xs.length → j < xs.length → xY l i = xY l j → i = j
  has : ∀ i, i < xs.length → (xY l i).isSome = true
  fwd : ∀ i j, i < xs.length → j < xs.length → ord l i j = true → i < j
  reads : ∀ i j t, i < xs.length → j < xs.length → xY l j = some t → t ∈ readsOf l i → i = j ∨ (j < i ∧ ord l j i = true) ∨ (i < j ∧ ord l i j = true)
  blks : ∀ i j t x, i < xs.length → j < xs.length → xY l j = some t → xs[i]? = some x → t ∈ x.bs → j < i ∧ ord l j i = true
  tail : ∀ t, xs.length ≤ t → t < l.length → ∀ j, j < xs.length → ord l j t = true ∨ late.contains j = true
theorem SchedL.of {l : List Oper} {xs : List AI} {late : List Nat} (h : schedL l xs.length (xs.map (·.bs)) late = true) : SchedL l xs late := by
  unfold schedL at h
  simp only [Bool.and_eq_true, List.all_eq_true, List.mem_range, decide_eq_true_eq, Bool.or_eq_true] at h
  obtain ⟨⟨⟨h1, h2⟩, h3⟩, h4⟩ := h
  refine ⟨h1, fun i o ho e he hb => ?_, fun i j hi hj he => ?_, fun i hi => ?_, fun i j hi hj ho => ?_, fun i j t hi hj hd ht => ?_, fun i j t x hi hj hd hx ht => ?_, fun t ht htl j hj => ?_⟩
  · have hi : i < l.length := (List.getElem?_eq_some_iff.1 ho).1
    have := h2 i hi
    rw [ho] at this
    simp only [List.all_eq_true, Bool.or_eq_true, decide_eq_true_eq, Bool.not_eq_true'] at this
    rcases this e he with h5 | h5
    · rw [hb] at h5; cases h5
    · exact h5
  · have := (h3 i hi j hj).1.1.1
    rcases this with h5 | h5
    · simpa using h5
    · simp [he] at h5
  · exact (h3 i hi i hi).1.1.2
  · rcases (h3 i hi j hj).1.2 with h5 | h5
    · exact h5
    · simp [ho] at h5
  · have := (h3 i hi j hj).2
    rw [hd] at this
    simp only [Bool.and_eq_true, Bool.or_eq_true, decide_eq_true_eq, beq_iff_eq] at this
    rcases this.1 with ((h5 | h5) | h5) | h5
    · simp [ht] at h5
    · exact .inl h5
    · exact .inr (.inl h5)
    · exact .inr (.inr h5)
  · have := (h3 i hi j hj).2
    rw [hd] at this
    simp only [Bool.and_eq_true, Bool.or_eq_true, decide_eq_true_eq, beq_iff_eq] at this
    rcases this.2 with h5 | h5
    · exfalso
      have e : (List.map (fun x : AI => x.bs) xs).getD i [] = x.bs := by simp [List.getD_eq_getElem?_getD, hx]
      rw [e] at h5
      simp [ht] at h5
    · exact h5
  · rcases h4 t htl with h5 | h5
    · omega
    · exact h5 j hj
theorem Apart.ofL {l : List Oper} {xs : List AI} {late : List Nat} {S0 : AS} (hs : SchedL l xs late) (h : madeB l xs S0 = true) : Apart l xs S0 := by
  have hd' : ∀ {i : Nat} {o : Oper}, l[i]? = some o → xY l i = o.dst := fun {i o} ho => by simp [xY, ho]
  have hlt : ∀ {i : Nat} {x : AI}, xs[i]? = some x → i < xs.length := fun {i x} hx => (List.getElem?_eq_some_iff.1 hx).1
  have main : ∀ (i : Nat) (o : Oper) (x : AI) (d : Nat), l[i]? = some o → xs[i]? = some x → o.dst = some d → x.nb ≠ none → noRef d S0 = true ∧ ∀ (k : Nat) (x' : AI), xs[k]? = some x' →
      (ord l i k = true ∧ i ≠ k) ∨ ((i = k ∨ freeOf d x'.av = true) ∧ ∀ b, x'.nb = some b → freeOfB d b = true) := by
    intro i o x d ho hx hd hnb
    unfold madeB at h
    rw [List.all_eq_true] at h
    have h1 := h i (List.mem_range.2 (hlt hx))
    rw [hx, hd' ho, hd] at h1
    obtain ⟨b, hb⟩ := Option.ne_none_iff_exists'.1 hnb
    obtain ⟨bs, av, nb⟩ := x
    simp only at hb
    subst hb
    simp only [Bool.and_eq_true, List.all_eq_true, List.mem_range, Bool.or_eq_true] at h1
    refine ⟨h1.1, fun k x' hx' => ?_⟩
    have h2 := h1.2 k (hlt hx')
    rw [hx'] at h2
    rcases h2 with h2 | h2
    · exact .inl ⟨h2.1, by simpa using h2.2⟩
    · right
      simp only [Bool.and_eq_true, Bool.or_eq_true, beq_iff_eq] at h2
      refine ⟨h2.1, fun b' hb' => ?_⟩
      have h3 := h2.2
      rw [hb'] at h3
      exact h3
  refine ⟨fun i j o o' x x' d ho ho' hx hx' hd hd2 => hs.one i j (hlt hx) (hlt hx') (by rw [hd' ho, hd' ho', hd, hd2]), fun i k o x x' d ho hx hx' hd hnb => (main i o x d ho hx hd hnb).2 k x' hx', fun i o x d ho hx hd hnb => (main i o x d ho hx hd hnb).1, fun i o x ho hx => ?_⟩
  have := hs.has i (hlt hx)
  rw [hd' ho] at this
  exact Option.isSome_iff_exists.1 this
/-- What an operation that may come up reads is as it is where the text comes to it. -/
theorem Agr.readsL {l : List Oper} {xs : List AI} {late : List Nat} {S0 S2 Si : AS} {listed : Array Bool} (hs : SchedL l xs late) (hc : Closed l listed) {i : Nat} {x : AI} (hr : i ∈ Region.ready .any l.toArray listed)
    (hx : xs[i]? = some x) (h : Agr l xs S0 (Done listed) S2) (h' : Agr l xs S0 (fun k => k < i) Si) :
    (∀ t ∈ readsOf l i, S2.tmp t = Si.tmp t) ∧ ∀ id ∈ x.bs, S2.blk id = Si.blk id := by
  have hix : i < xs.length := (List.getElem?_eq_some_iff.1 hx).1
  have hnd := (yP hr).2.1
  have hil := (yP hr).1
  have hd' : ∀ {k : Nat} {ok : Oper}, l[k]? = some ok → xY l k = ok.dst := fun {k ok} hk => by simp [xY, hk]
  refine ⟨fun t ht => ?_, fun id hid => ?_⟩
  · have iff : ∀ (k : Nat) (ok : Oper) (xk : AI), l[k]? = some ok → xs[k]? = some xk → ok.dst = some t → (Done listed k ↔ k < i) := by
      intro k ok xk h1 h2 h3
      have hkx : k < xs.length := (List.getElem?_eq_some_iff.1 h2).1
      rcases hs.reads i k t hix hkx (by rw [hd' h1, h3]) ht with h4 | ⟨h4, h5⟩ | ⟨h4, h5⟩
      · subst h4; exact ⟨fun h => (hnd h).elim, fun h => by omega⟩
      · exact ⟨fun _ => h4, fun _ => hc.ready_ord hr h5⟩
      · refine ⟨fun h => (hnd ?_).elim, fun h => by omega⟩
        exact hc.ord (k + 1) k i (by omega) (Nat.lt_of_lt_of_le hkx hs.len) h h5
    by_cases hex : ∃ (k : Nat) (ok : Oper) (xk : AI), l[k]? = some ok ∧ xs[k]? = some xk ∧ Done listed k ∧ ok.dst = some t
    · obtain ⟨k, ok, xk, h1, h2, h3, h4⟩ := hex
      rw [h.t1 k ok xk t h1 h2 h3 h4, h'.t1 k ok xk t h1 h2 ((iff k ok xk h1 h2 h4).1 h3) h4]
    · rw [h.t2 t fun k ok xk h1 h2 h3 h4 => hex ⟨k, ok, xk, h1, h2, h3, h4⟩, h'.t2 t fun k ok xk h1 h2 h3 h4 => hex ⟨k, ok, xk, h1, h2, (iff k ok xk h1 h2 h4).2 h3, h4⟩]
  · have iff : ∀ (k : Nat) (ok : Oper) (xk : AI), l[k]? = some ok → xs[k]? = some xk → ok.dst = some id → (Done listed k ∧ k < i) := by
      intro k ok xk h1 h2 h3
      have hkx : k < xs.length := (List.getElem?_eq_some_iff.1 h2).1
      obtain ⟨h4, h5⟩ := hs.blks i k id x hix hkx (by rw [hd' h1, h3]) hx hid
      exact ⟨hc.ready_ord hr h5, h4⟩
    by_cases hex : ∃ (k : Nat) (ok : Oper) (xk : AI), l[k]? = some ok ∧ xs[k]? = some xk ∧ xk.nb ≠ none ∧ ok.dst = some id
    · obtain ⟨k, ok, xk, h1, h2, h4, h5⟩ := hex
      obtain ⟨b, hb⟩ := Option.ne_none_iff_exists'.1 h4
      obtain ⟨h6, h7⟩ := iff k ok xk h1 h2 h5
      rw [h.b1 k ok xk id b h1 h2 h6 h5 hb, h'.b1 k ok xk id b h1 h2 h7 h5 hb]
    · rw [h.b2 id fun k ok xk h1 h2 _ h4 h5 => hex ⟨k, ok, xk, h1, h2, h4, h5⟩, h'.b2 id fun k ok xk h1 h2 _ h4 h5 => hex ⟨k, ok, xk, h1, h2, h4, h5⟩]
theorem ready_or_allL {l : List Oper} {xs : List AI} {late : List Nat} {listed : Array Bool} (hs : SchedL l xs late) (hc : Closed l listed) : Region.ready .any l.toArray listed ≠ [] ∨ ∀ i, i < l.length → Done listed i := by
  by_cases hall : ∀ i, i < l.length → Done listed i
  · exact .inr hall
  · left
    have hex : ∃ i, i < l.length ∧ ¬ Done listed i := by
      apply Classical.byContradiction
      intro h
      exact hall fun i hi => Classical.byContradiction fun hn => h ⟨i, hi, hn⟩
    -- the least that is not done may come up
    have least : ∃ i, i < l.length ∧ ¬ Done listed i ∧ ∀ j, j < i → Done listed j := by
      obtain ⟨i, hi, hn⟩ := hex
      induction i using Nat.strongRecOn with
      | _ i ih =>
        by_cases h : ∀ j, j < i → Done listed j
        · exact ⟨i, hi, hn, h⟩
        · obtain ⟨j, hj, hnj⟩ : ∃ j, j < i ∧ ¬ Done listed j := by
            apply Classical.byContradiction
            intro h2
            exact h fun j hj => Classical.byContradiction fun hn => h2 ⟨j, hj, hn⟩
          exact ih j hj (by omega) hnj
    obtain ⟨i, hi, hn, hlow⟩ := least
    intro hnil
    have : i ∈ Region.ready .any l.toArray listed := by
      unfold Region.ready
      simp only [List.size_toArray, List.mem_filter, List.mem_range, Bool.and_eq_true, Bool.not_eq_true']
      refine ⟨hi, ?_, ?_⟩
      · unfold Done at hn
        have hil : i < listed.size := by rw [hc.size]; exact hi
        simp [hil] at hn ⊢
        exact hn
      · simp only [List.getElem?_toArray, List.getElem?_eq_getElem hi, Option.map_some, Option.getD_some]
        rw [Array.all_eq_true']
        intro e he
        by_cases hb : Region.binds .any e = true
        · have := hlow e.on (hs.back i l[i] (List.getElem?_eq_getElem hi) e (by simpa using he) hb)
          unfold Done at this
          simp [hb, this]
        · simp [Bool.not_eq_true] at hb; simp [hb]
    rw [hnil] at this
    cases this
theorem runA_agrL {P : Program} {n : Nat} {l : List Oper} {xs : List AI} {late : List Nat} {S0 : AS} (hs : SchedL l xs late) (hA : Apart l xs S0) :
    ∀ (m : Nat) (S : AS), m ≤ xs.length → Agr l xs S0 (fun k => k < m) S → AChain P n l S (l.drop m) (xs.drop m) →
      (∀ (i : Nat) (o : Oper) (x : AI), m ≤ i → l[i]? = some o → xs[i]? = some x → ∃ Si, Agr l xs S0 (fun k => k < i) Si ∧ GStep P n l Si o x) ∧ Agr l xs S0 (fun k => k < xs.length) (runA S (l.drop m) (xs.drop m)) := by
  intro m
  generalize hd : xs.length - m = d
  induction d generalizing m with
  | zero =>
    intro S hm hagr _
    have e : xs.length = m := by omega
    refine ⟨fun i o x hi ho hx => ?_, ?_⟩
    · have := (List.getElem?_eq_some_iff.1 hx).1; omega
    · rw [List.drop_eq_nil_of_le (by omega : xs.length ≤ m)]
      have : runA S (l.drop m) [] = S := by cases l.drop m <;> rfl
      rw [this, e]
      exact hagr
  | succ d ih =>
    intro S hm hagr hc
    have hmx : m < xs.length := by omega
    have hml : m < l.length := Nat.lt_of_lt_of_le hmx hs.len
    rw [List.drop_eq_getElem_cons hmx, List.drop_eq_getElem_cons hml] at hc
    obtain ⟨hg, hc⟩ := hc
    have ho : l[m]? = some l[m] := List.getElem?_eq_getElem hml
    have hx : xs[m]? = some xs[m] := List.getElem?_eq_getElem hmx
    have hst := hagr.step hA ho hx (by omega) (fun k hk hok => by
      have := hs.fwd m k hmx (by omega) hok
      omega)
    have e : (fun k => k = m ∨ k < m) = (fun k => k < m + 1) := by funext k; apply propext; omega
    rw [e] at hst
    obtain ⟨r1, r2⟩ := ih (m + 1) (by omega) (S.out l[m].dst xs[m].av xs[m].nb) (by omega) hst hc
    refine ⟨fun i o x hi ho' hx' => ?_, ?_⟩
    · by_cases him : i = m
      · subst him
        rw [ho] at ho'; rw [hx] at hx'
        obtain rfl := Option.some.inj ho'
        obtain rfl := Option.some.inj hx'
        exact ⟨S, hagr, hg⟩
      · exact r1 i o x (by omega) ho' hx'
    · rw [List.drop_eq_getElem_cons hmx, List.drop_eq_getElem_cons hml]
      exact r2
section
variable {P : Program} {n : Nat} {S : AS}
theorem xW.any {l : List Oper} {K : Exit → AS → Prop} {M : Nat → Nat → Prop} {w0 : Home} {Q : Exit → Act → World → Prop} (hK : ∀ e S' ρ' a' w', K (bare e) S' → Sat M n w0 S' ρ' a' w' → ExOK M S' ρ' w' e → Q e a' w') :
    ∀ (m : Nat) (listed : Array Bool) (done : List Nat) (S : AS) (ρ : Nat → Value) (a : Act) (w : World), listed.size = l.length → (∀ i, listed.getD i false = done.contains i) → xW P n l K m done S → Sat M n w0 S ρ a w → wpAny P .any l.toArray Q m listed a w := by
  intro m
  induction m with
  | zero =>
    intro listed done S ρ a w hz hl hd hs
    refine ⟨List.eq_nil_iff_forall_not_mem.2 fun i hi => ?_, hK .normal S ρ a w hd.2 hs trivial⟩
    have := (readyD_iff hz hl i).1 hi
    rw [hd.1] at this
    simp at this
  | succ m ih =>
    intro listed done S ρ a w hz hl hd hs
    refine ⟨fun hnil => ?_, fun i hi => ?_⟩
    · obtain ⟨j, hj⟩ := List.exists_mem_of_ne_nil _ hd.1
      have := (readyD_iff hz hl j).2 hj
      rw [hnil] at this
      simp at this
    · obtain ⟨hil, _, _⟩ := yP hi
      obtain ⟨o, ho, hg, ht⟩ := hd.2 i ((readyD_iff hz hl i).1 hi)
      unfold wpOp
      simp only [List.getElem?_toArray, ho]
      rw [if_pos (by simp [Region.wanted, hg])]
      refine .inl (ht M w0 ρ a w _ Q hs (fun S1 ρ' a' w' hd1 hs' => ?_) hK)
      refine ih _ _ S1 ρ' a' w' (by simp [hz]) (fun k => ?_) hd1 hs'
      simp only [Array.getD_eq_getD_getElem?, Array.getElem?_setIfInBounds, List.contains_cons]
      by_cases hik : i = k
      · subst hik
        simp [hz, hil]
      · have : (k == i) = false := by simpa using fun e => hik e.symm
        rw [if_neg hik, this, Bool.false_or, ← hl k, Array.getD_eq_getD_getElem?]
def subs1 : List Nat → List (List Nat)
  | [] => []
  | a :: r => subs1 r ++ ([a] :: (subs1 r).map (a :: ·))
theorem filter_subs1 (p : Nat → Bool) : ∀ l : List Nat, l.filter p = [] ∨ l.filter p ∈ subs1 l
  | [] => .inl rfl
  | a :: r => by
    rw [List.filter_cons]
    by_cases h : p a = true
    · rw [if_pos h]
      right
      unfold subs1
      rcases filter_subs1 p r with h1 | h1
      · rw [h1]; exact List.mem_append.2 (.inr (List.mem_cons_self ..))
      · exact List.mem_append.2 (.inr (List.mem_cons_of_mem _ (List.mem_map.2 ⟨_, h1, rfl⟩)))
    · rw [if_neg h]
      rcases filter_subs1 p r with h1 | h1
      · exact .inl h1
      · right
        unfold subs1
        exact List.mem_append.2 (.inl h1)
/-- the frame behind the first operations, without some -/
def runX : Nat → List Nat → AS → List Oper → List AI → AS
  | i, X, S, o :: os, x :: xs => runX (i + 1) X (bif X.contains i then S else S.out o.dst x.av x.nb) os xs
  | _, _, S, _, _ => S
def vQ (m : Nat) (X : List Nat) : List Nat := (List.range m).filter fun i => !X.contains i
def restX (l : List Oper) (done : List Nat) : List Nat := (List.range l.length).filter fun i => !done.contains i
theorem doneX_iff {m : Nat} {X : List Nat} {i : Nat} : i ∈ vQ m X ↔ i < m ∧ X.contains i = false := by
  unfold vQ
  rw [List.mem_filter, List.mem_range, Bool.not_eq_true']
theorem left_done {l : List Oper} {listed : Array Bool} {done : List Nat} (hz : listed.size = l.length) (h : ∀ i, listed.getD i false = done.contains i) : left listed = (restX l done).length := by
  unfold left restX
  rw [List.countP_eq_length_filter, hz]
  congr 1
  exact List.filter_congr fun i _ => by rw [h i]
theorem runX_agr {l : List Oper} {xs : List AI} {late : List Nat} {S0 : AS} (hs : SchedL l xs late) (hA : Apart l xs S0) (X : List Nat) :
    ∀ (m : Nat) (S : AS), m ≤ xs.length → Agr l xs S0 (fun k => k < m ∧ X.contains k = false) S → Agr l xs S0 (fun k => k < xs.length ∧ X.contains k = false) (runX m X S (l.drop m) (xs.drop m)) := by
  intro m
  generalize hd : xs.length - m = d
  induction d generalizing m with
  | zero =>
    intro S hm hagr
    have e : xs.length = m := by omega
    rw [List.drop_eq_nil_of_le (by omega : xs.length ≤ m)]
    have : runX m X S (l.drop m) [] = S := by cases l.drop m <;> rfl
    rw [this, e]
    exact hagr
  | succ d ih =>
    intro S hm hagr
    have hmx : m < xs.length := by omega
    have hml : m < l.length := Nat.lt_of_lt_of_le hmx hs.len
    rw [List.drop_eq_getElem_cons hmx, List.drop_eq_getElem_cons hml]
    have ho : l[m]? = some l[m] := List.getElem?_eq_getElem hml
    have hx : xs[m]? = some xs[m] := List.getElem?_eq_getElem hmx
    unfold runX
    refine ih (m + 1) (by omega) _ (by omega) ?_
    cases hX : X.contains m with
    | true =>
      have e : (fun k => k < m ∧ X.contains k = false) = (fun k => k < m + 1 ∧ X.contains k = false) := by
        funext k; apply propext
        constructor
        · rintro ⟨h1, h2⟩; exact ⟨by omega, h2⟩
        · rintro ⟨h1, h2⟩
          refine ⟨?_, h2⟩
          rcases Nat.lt_or_ge k m with h | h
          · exact h
          · have : k = m := by omega
            subst this
            rw [hX] at h2; cases h2
      rw [← e]
      exact hagr
    | false =>
      have hst := hagr.step hA ho hx (by omega) (fun k hk hok => by
        have := hs.fwd m k hmx (by omega) hok
        omega)
      have e : (fun k => k = m ∨ (k < m ∧ X.contains k = false)) = (fun k => k < m + 1 ∧ X.contains k = false) := by
        funext k; apply propext
        constructor
        · rintro (h | ⟨h1, h2⟩)
          · subst h; exact ⟨by omega, hX⟩
          · exact ⟨by omega, h2⟩
        · rintro ⟨h1, h2⟩
          rcases Nat.lt_or_ge k m with h | h
          · exact .inr ⟨h, h2⟩
          · exact .inl (by omega)
      rw [e] at hst
      exact hst
/-- A region that draws its order, of which some operations may come late. -/
theorem zX.drawL {id : Nat} {l : List Oper} {K : Exit → AS → Prop} (xs : List AI) (late : List Nat) (hm : P.follows .mixedOrders = true) (hsch : schedL l xs.length (xs.map (·.bs)) late = true) (hmade : madeB l xs S = true)
    (hch : AChain P n l S l xs) (h0 : xW P n l K (restX l (vQ xs.length [])).length (vQ xs.length []) (runA S l xs))
    (h1 : ∀ X ∈ subs1 late, xW P n l K (restX l (vQ xs.length X)).length (vQ xs.length X) (runX 0 X S l xs)) : zX P n (.region id l.toArray true) S K := by
  have hS := SchedL.of hsch
  have hA := Apart.ofL hS hmade
  intro M w0 ρ a w Q hs hK
  have start : Agr l xs S (fun k => k < 0) S := ⟨fun i o x d _ _ h => by omega, fun _ _ => rfl, fun i o x d b _ _ h => by omega, fun _ _ => rfl⟩
  have startX : ∀ X : List Nat, Agr l xs S (fun k => k < 0 ∧ X.contains k = false) S := fun X => ⟨fun i o x d _ _ h => by omega, fun _ _ => rfl, fun i o x d b _ _ h => by omega, fun _ _ => rfl⟩
  obtain ⟨hgs, hfin⟩ := runA_agrL hS hA 0 S (by omega) start hch
  have tailD : ∀ (fuel : Nat) (listed : Array Bool) (S2 : AS) (ρ : Nat → Value) (a : Act) (w : World), Closed l listed → (∀ i, xs.length ≤ i → i < l.length → ¬ Done listed i) → (∀ i, i < xs.length → Done listed i ∨ late.contains i = true) → Agr l xs S (Done listed) S2 → left listed = fuel →
      Sat M n w0 S2 ρ a w → wpAny P .any l.toArray Q fuel listed a w := by
    intro fuel listed S2 ρ a w hc htl hnl hagr hl hsat
    let X := late.filter fun i => !(listed.getD i false)
    have hX : ∀ i, i < xs.length → (Done listed i ↔ X.contains i = false) := by
      intro i hi
      have e : X.contains i = true ↔ late.contains i = true ∧ ¬ Done listed i := by
        simp only [X, List.contains_iff_mem, List.mem_filter, Bool.not_eq_true', Done]
        simp
      constructor
      · intro h
        apply Bool.eq_false_iff.2
        intro h2
        exact (e.1 h2).2 h
      · intro h
        rcases hnl i hi with h2 | h2
        · exact h2
        · apply Classical.byContradiction
          intro h3
          rw [e.2 ⟨h2, h3⟩] at h
          cases h
    have hlt : ∀ k, Done listed k → k < xs.length := by
      intro k hk
      apply Classical.byContradiction
      intro h
      rcases Nat.lt_or_ge k l.length with h2 | h2
      · exact htl k (by omega) h2 hk
      · unfold Done at hk
        simp [Array.getD_eq_getD_getElem?, Array.getElem?_eq_none (by rw [hc.size]; omega : listed.size ≤ k)] at hk
    have hdone : ∀ i, listed.getD i false = (vQ xs.length X).contains i := by
      intro i
      have h2 : Done listed i ↔ i ∈ vQ xs.length X := by
        rw [doneX_iff]
        exact ⟨fun h => ⟨hlt i h, (hX i (hlt i h)).1 h⟩, fun h => (hX i h.1).2 h.2⟩
      unfold Done at h2
      rw [Bool.eq_iff_iff, h2, List.contains_iff_mem]
    have eD : Done listed = fun k => k < xs.length ∧ X.contains k = false := by
      funext k; apply propext
      exact ⟨fun h => ⟨hlt k h, (hX k (hlt k h)).1 h⟩, fun h => (hX k h.1).2 h.2⟩
    have hfuel := left_done hc.size hdone
    rw [hl] at hfuel
    rw [hfuel]
    rcases filter_subs1 (fun i => !(listed.getD i false)) late with h | h
    · have eX : X = [] := h
      rw [eX] at eD hdone ⊢
      refine xW.any hK _ listed _ (runA S l xs) ρ a w hc.size hdone h0 (hsat.same (hagr.same ?_))
      rw [eD]
      have e : (fun k => k < xs.length) = (fun k => k < xs.length ∧ ([] : List Nat).contains k = false) := by
        funext k; apply propext; simp
      rw [← e]
      exact hfin
    · refine xW.any hK _ listed _ (runX 0 X S l xs) ρ a w hc.size hdone (h1 X h) (hsat.same (hagr.same ?_))
      rw [eD]
      exact runX_agr hS hA X 0 S (by omega) (startX X)
  have main1 : ∀ (fuel : Nat) (listed : Array Bool) (S2 : AS) (ρ : Nat → Value) (a : Act) (w : World), Closed l listed → (∀ i, xs.length ≤ i → i < l.length → ¬ Done listed i) → Agr l xs S (Done listed) S2 → left listed = fuel →
      Sat M n w0 S2 ρ a w → wpAny P .any l.toArray Q fuel listed a w := by
    intro fuel
    induction fuel with
    | zero =>
      intro listed S2 ρ a w hc htl hagr hl hsat
      refine tailD 0 listed S2 ρ a w hc htl (fun i hi => .inl ?_) hagr hl hsat
      apply Classical.byContradiction
      intro hn
      have := left_set (listed := listed) (by rw [hc.size]; exact Nat.lt_of_lt_of_le hi hS.len) hn
      omega
    | succ fuel ih =>
      intro listed S2 ρ a w hc htl hagr hl hsat
      by_cases hallA : ∀ i, i < xs.length → Done listed i ∨ late.contains i = true
      · exact tailD (fuel + 1) listed S2 ρ a w hc htl hallA hagr hl hsat
      · refine ⟨fun hnil => ?_, fun i hi => ?_⟩
        · rcases ready_or_allL hS hc with h | h
          · exact (h hnil).elim
          · exact (hallA fun i hi => .inl (h i (Nat.lt_of_lt_of_le hi hS.len))).elim
        · obtain ⟨hil, hnd, o, hoi, _⟩ := yP hi
          have hix : i < xs.length := by
            apply Classical.byContradiction
            intro h
            exact hallA fun j hj => (hS.tail i (by omega) hil j hj).imp (fun h2 => hc.ready_ord hi h2) (fun h2 => h2)
          have hx : xs[i]? = some xs[i] := List.getElem?_eq_getElem hix
          obtain ⟨Si, hagi, hgst⟩ := hgs i o xs[i] (by omega) hoi hx
          obtain ⟨hrt, hrb⟩ := Agr.readsL hS hc hi hx hagr hagi
          have hget : ∀ y ∈ o.op.operands.toList, S2.get y = Si.get y := by
            intro y hy
            cases y with
            | tmp t => exact hrt t (readsOf_operand hoi hy)
            | _ => rfl
          have hnext := hagr.step hA hoi hx hnd (fun k hk hok => hnd (hc.ord (k + 1) k i (by omega) (by
            apply Classical.byContradiction
            intro h
            unfold Done at hk
            simp [Array.getD_eq_getD_getElem?, Array.getElem?_eq_none (by rw [hc.size]; omega : listed.size ≤ k)] at hk) hk hok))
          have cont : ∀ ρ' a' w', Sat M n w0 (S2.out o.dst xs[i].av xs[i].nb) ρ' a' w' → wpAny P .any l.toArray Q fuel (listed.setIfInBounds i true) a' w' := by
            intro ρ' a' w' hs'
            refine ih _ _ ρ' a' w' (hc.set hi) (fun k hk hkl hdk => ?_) ?_ ?_ hs'
            · rw [done_set (by rw [hc.size]; exact hil)] at hdk
              rcases hdk with h | h
              · omega
              · exact htl k hk hkl h
            · have e : (fun k => k = i ∨ Done listed k) = Done (listed.setIfInBounds i true) := by
                funext k
                apply propext
                rw [done_set (by rw [hc.size]; exact hil)]
                constructor
                · rintro (h | h)
                  · exact .inl h.symm
                  · exact .inr h
                · rintro (h | h)
                  · exact .inl h.symm
                  · exact .inr h
              rw [← e]
              exact hnext
            · have := left_set (listed := listed) (by rw [hc.size]; exact hil) hnd
              omega
          unfold wpOp
          simp only [List.getElem?_toArray, hoi]
          rcases hgst with ⟨hg, hast⟩ | ⟨j, want, t, b, hg, hdj, htn, hb, hcase⟩
          · rw [if_pos (by simp [Region.wanted, hg])]
            exact .inl (hast S2 hget hrb M w0 ρ a w _ Q hsat cont)
          · have hb2 : S2.tmp t = .p (.val b) := by rw [hrt t (readsOf_guard hoi hg hdj)]; exact hb
            have hw := hsat.wanted (ops := l.toArray) hg (by simpa [xY] using hdj) htn hb2
            rcases hcase with ⟨hbw, hast⟩ | ⟨hbw, hav, hnb, d, hd, hdn⟩
            · rw [if_pos (by rw [hw, hbw])]
              exact .inl (hast S2 hget hrb M w0 ρ a w _ Q hsat cont)
            · rw [if_neg (by rw [hw, hbw]; simp)]
              rw [hd]
              refine cont ρ _ w ?_
              rw [hd, hav, hnb]
              exact hsat.put_undef hdn
  refine wp_region_any hm ?_
  refine main1 _ _ S ρ a _ ⟨by simp, fun i o hi hd => ?_⟩ (fun i _ _ hd => ?_) ⟨fun i o x d _ _ h => ?_, fun _ _ => rfl, fun i o x d b _ _ h => ?_, fun _ _ => rfl⟩ ?_ (hs.ext ((Below.refl _ _).drew))
  · unfold Done at hd; rw [getD_replicate_false] at hd; cases hd
  · unfold Done at hd; rw [getD_replicate_false] at hd; cases hd
  · unfold Done at h; rw [getD_replicate_false] at h; cases h
  · unfold Done at h; rw [getD_replicate_false] at h; cases h
  · unfold left
    simp only [Array.size_replicate, List.size_toArray]
    have : ∀ k ∈ List.range l.length, (!((Array.replicate l.length false).getD k false)) = true := fun k _ => by rw [getD_replicate_false]; rfl
    rw [List.countP_eq_length.2 this, List.length_range]
def vM (p : List Nat → Prop) : List (List Nat) → Prop
  | [] => True
  | X :: r => p X ∧ vM p r
theorem vM.all {p : List Nat → Prop} : ∀ {rs : List (List Nat)}, vM p rs → ∀ X ∈ rs, p X
  | [], _, i, hi => by simp at hi
  | j :: r, h, i, hi => by
    rcases List.mem_cons.1 hi with rfl | hi
    · exact h.1
    · exact vM.all h.2 i hi
theorem vM.nil {p : List Nat → Prop} : vM p [] := trivial
theorem vM.cons {p : List Nat → Prop} {X : List Nat} {r : List (List Nat)} (h : p X) (hr : vM p r) : vM p (X :: r) := ⟨h, hr⟩
theorem Draws.late {id : Nat} {l os : List Oper} {S0 S : AS} {K : Exit → AS → Prop} {rev : List AI} (late : List Nat) (hm : P.follows .mixedOrders = true) (hsch : schedL l rev.reverse.length (rev.reverse.map (·.bs)) late = true) (hmade : madeB l rev.reverse S0 = true)
    (h0 : xW P n l K (restX l (vQ rev.reverse.length [])).length (vQ rev.reverse.length []) S) (h1 : vM (fun X => xW P n l K (restX l (vQ rev.reverse.length X)).length (vQ rev.reverse.length X) (runX 0 X S0 l rev.reverse)) (subs1 late)) : Draws P n id l S0 K rev S os := by
  unfold Draws
  intro hc
  obtain ⟨c1, c2, c3⟩ := hc.chain
  exact zX.drawL _ late hm hsch hmade c1 (by rw [c2]; exact h0) h1.all
theorem Draws.late2 {id : Nat} {l os : List Oper} {S0 S : AS} {K : Exit → AS → Prop} {rev : List AI} (late : List Nat) (fu : Nat) (done : List Nat) (hm : P.follows .mixedOrders = true) (hsch : schedL l rev.reverse.length (rev.reverse.map (·.bs)) late = true) (hmade : madeB l rev.reverse S0 = true)
    (e1 : (restX l (vQ rev.reverse.length [])).length = fu) (e2 : vQ rev.reverse.length [] = done)
    (h0 : xW P n l K fu done S) (h1 : vM (fun X => xW P n l K (restX l (vQ rev.reverse.length X)).length (vQ rev.reverse.length X) (runX 0 X S0 l rev.reverse)) (subs1 late)) : Draws P n id l S0 K rev S os :=
  Draws.late late hm hsch hmade (by rw [e1, e2]; exact h0) h1
theorem vM.consD {l : List Oper} {S0 : AS} {K : Exit → AS → Prop} {xs : List AI} {X : List Nat} {r : List (List Nat)} {m : Nat} (fu : Nat) (done : List Nat) (e1 : (restX l (vQ m X)).length = fu) (e2 : vQ m X = done) (h : xW P n l K fu done (runX 0 X S0 l xs))
    (hr : vM (fun X => xW P n l K (restX l (vQ m X)).length (vQ m X) (runX 0 X S0 l xs)) r) : vM (fun X => xW P n l K (restX l (vQ m X)).length (vQ m X) (runX 0 X S0 l xs)) (X :: r) :=
  .cons (by rw [e1, e2]; exact h) hr
theorem xW.as {l : List Oper} {K : Exit → AS → Prop} {fu : Nat} {done : List Nat} {S : AS} (fu' : Nat) (done' : List Nat) (h1 : fu = fu') (h2 : done = done') (h : xW P n l K fu' done' S) : xW P n l K fu done S := by
  subst h1 h2
  exact h
end
end Go.Proofs.YthnmfmdkdngggaaDoor
/- A struct's literal of which parts are own rows, stored into a new variable; appending to nil. Generic over the program. -/
namespace Go.Proofs.YthnmfmdkdngggaaDoor
set_option maxRecDepth 100000
set_option maxHeartbeats 16000000
open Go Go.RowKit
set_option linter.unusedSimpArgs false
theorem cells_own {M : Nat → Nat → Prop} {n : Nat} {w0 : Home} {w : World} {S : AS} {ρ : Nat → Value} {a : Act} (hs : Sat M n w0 S ρ a w) {id2 : Nat} {b2 : Blk} {v : Value} (hb2 : S.blk id2 = some b2) (hrow : b2.isRow = true) (h2 : yB (Mut M S ρ) ρ w (.own id2) v) :
    yA (Mut M S ρ) ρ w (AV.own id2).xQ v.cells.toList := by
  have hown : ∃ e sz m2 ys, w.ownsRow 0 e sz (ρ id2) m2 ys := by
    have h := hs.blks id2 _ hb2
    cases b2 with
    | box _ _ => cases hrow
    | _ => exact let ⟨ys, h, _⟩ := h; ⟨_, _, _, ys, h⟩
  obtain ⟨_, _, _, _, hown⟩ := hown
  have e1 : v = ρ id2 := by
    cases h2
    rfl
  rw [e1]
  rcases hown.2 with ⟨e, _⟩ | ⟨g', cap, cur, e, _⟩
  · rw [e]
    exact ⟨rfl, fun i c u h1 h3 => by
      cases i with
      | zero => simp [Value.cells, AV.xQ] at h1 h3; subst h1; subst h3; rw [← e]; exact .own id2
      | succ i => simp [AV.xQ] at h1, fun u hu => by simp [Value.cells] at hu; subst hu; rfl⟩
  · rw [e]
    exact ⟨rfl, fun i c u h1 h3 => by
      cases i with
      | zero => simp [Value.cells, AV.xQ] at h1 h3; subst h1; subst h3; rw [← e]; exact .own id2
      | succ i => simp [AV.xQ] at h1, fun u hu => by simp [Value.cells] at hu; subst hu; rfl⟩
def partB (S : AS) (av : AV) : Bool := av.vR || (match av with
  | .own id => (match S.blk id with | some b => b.isRow | none => false)
  | _ => false)
section
variable {P : Program} {n : Nat} {ops : Array Oper} {S : AS} {K : Exit → AS → Prop}
theorem zY.buildStore {o1 o2 o3 : Oper} {rest : List Oper} {d1 d2 t m : Nat} {ps : Array (Nat × Operand)} {pl : List (Nat × Nat)} {z : Value} {zs : List AV} {agg : Bool} [hb : BuildA P t pl] [hz : ZeroA P t z] [ht : TyA P t agg m]
    (h1 : o1.op = .build t ps) (g1 : o1.guard = none) (e1 : o1.dst = some d1)
    (h2 : o2.op = .alloc t) (g2 : o2.guard = none) (e2 : o2.dst = some d2)
    (h3 : o3.op = .store t (.tmp d2) (.tmp d1)) (g3 : o3.guard = none) (e3 : o3.dst = none)
    (hn1 : d1 < n) (hn2 : d2 < n) (hne : d2 ≠ d1) (hz1 : z.cells.toList.all (fun u => u.oneCell') = true)
    (hk : ps.toList.all (fun p => partB S (S.get p.2)) = true)
    (hf : fillA (fun i => pl[i]?) (z.cells.toList.map fun u => .p (.val u)) (ps.toList.map fun p => (p.1, S.get p.2)) = some zs) (hl : zs.length = z.cells.toList.length) (hm : z.cells.size = m)
    (hr : zY P n ops rest (((S.put d1 .any).create d2 (.box t zs)).put d2 (.ptr d2 0)) K) : zY P n ops (o1 :: o2 :: o3 :: rest) S K := by
  intro M w0 ρ a w Q hs hK
  have parts : ∀ p ∈ ps.toList, yA (Mut M S ρ) ρ w (S.get p.2).xQ (a.eval p.2).cells.toList := fun p hp => by
    have h := List.all_eq_true.1 hk p hp
    have hrep := hs.rep p.2
    generalize hav : S.get p.2 = av at h hrep ⊢
    cases hpo : av.vR with
    | true => exact repA_cells hrep hpo
    | false =>
      unfold partB at h
      rw [hpo, Bool.false_or] at h
      cases av with
      | own id =>
        cases hbk : S.blk id with
        | none => simp only [hbk] at h; cases h
        | some b =>
          simp only [hbk] at h
          exact cells_own hs hbk h hrep
      | _ => cases h
  obtain ⟨us, hu1, hu2⟩ := fill_rep (fun i => pl[i]?) S.get a.eval ps.toList _ zs z.cells.toList parts hf (zerosA fun u hu => List.all_eq_true.1 hz1 u hu)
  have hul : us.length = z.cells.toList.length := by rw [hu2.len, hl]
  have hr1 : (execOp a.eval o1).run P w = .ok (.value (.agg us.toArray)) w := by
    unfold execOp
    rw [h1]
    have e : (ps.map fun (i, x) => (i, a.eval x)) = (ps.toList.map fun p => (p.1, a.eval p.2)).toArray := by apply Array.ext'; simp
    simp only [e, Sem.run_bind, run_build (P := P) (t := t) (pl := pl) (z := z) _ w _ hu1]
    rfl
  unfold wpList
  rw [if_pos (by simp [Region.wanted, g1])]
  refine .inl ?_
  unfold Oper.wp
  rw [hr1]
  show wpList P ops Q (o2 :: o3 :: rest) (a.put o1.dst (.agg us.toArray)) w
  rw [e1]
  have hs1 : Sat M n w0 (S.put d1 .any) ρ (a.put (some d1) (.agg us.toArray)) w := hs.put hn1 (.any _)
  generalize hsS1 : S.put d1 .any = S1 at hs1 hr
  generalize ha1 : a.put (some d1) (.agg us.toArray) = a1 at hs1
  have hMut : Mut M S1 ρ = Mut M S ρ := by subst hsS1; rfl
  have hr2 : (execOp a1.eval o2).run P w = .ok (.value (.pointer (some ⟨w.heap.size, 0, none⟩))) (w.alloc (.cells z.cells t)) := by
    unfold execOp
    rw [h2]
    simp [Instr.alloc, newVar, newRow, newObj, Sem.run, Result.andThen, hz.h w]
  unfold wpList
  rw [if_pos (by simp [Region.wanted, g2])]
  refine .inl ?_
  unfold Oper.wp
  rw [hr2]
  show wpList P ops Q (o3 :: rest) (a1.put o2.dst (.pointer (some ⟨w.heap.size, 0, none⟩))) (w.alloc (.cells z.cells t))
  rw [e2]
  generalize hw1 : w.alloc (.cells z.cells t) = w1
  have hh1 : w1.heap[w.heap.size]? = some (.cells z.cells t (0, 0)) := by rw [← hw1]; exact heap_alloc_new w _
  have hg1 : w.grownBy w1 none := by rw [← hw1]; exact World.grownBy_alloc w _ none
  have t1 : (a1.put (some d2) (.pointer (some ⟨w.heap.size, 0, none⟩))).eval (.tmp d1) = .agg us.toArray := by
    have : d1 < a.tmps.size := by rw [hs.size]; exact hn1
    subst ha1
    simp [Act.eval, Act.put, Array.getD_eq_getD_getElem?, Array.getElem?_setIfInBounds, hne, this]
  have t2 : (a1.put (some d2) (.pointer (some ⟨w.heap.size, 0, none⟩))).eval (.tmp d2) = .pointer (some ⟨w.heap.size, 0, none⟩) := by
    have : d2 < a1.tmps.size := by rw [hs1.size]; exact hn2
    simp [Act.eval, Act.put, Array.getD_eq_getD_getElem?, Array.getElem?_setIfInBounds, this]
  have hst := run_storeCells_at P w.heap.size 0 t us 0 z.cells w1 hh1 (by simp; simpa using Nat.le_of_eq hul) hu2.one
  have hspl : (z.cells.toList.take (0 + 0) ++ us ++ z.cells.toList.drop (0 + 0 + us.length)).toArray = us.toArray := by
    rw [hul]; simp
  rw [hspl] at hst
  have hr3 : (execOp (a1.put (some d2) (.pointer (some ⟨w.heap.size, 0, none⟩))).eval o3).run P w1 = .ok .skip (w1.setRow w.heap.size us.toArray) := by
    unfold execOp
    rw [h3]
    have hsz : us.length = m := by rw [hul, ← hm]; simp
    simp only [t1, t2, Instr.storeAt, Instr.sureAddr, storeVar, Sem.run_bind, Sem.run_pure, Result.andThen_ok, ht.sz, Value.cells, List.size_toArray, hsz, ne_eq, not_true_eq_false, if_false]
    rw [hst]
    rfl
  unfold wpList
  rw [if_pos (by simp [Region.wanted, g3])]
  refine .inl ?_
  unfold Oper.wp
  rw [hr3]
  show wpList P ops Q rest ((a1.put (some d2) (.pointer (some ⟨w.heap.size, 0, none⟩))).put o3.dst undef) _
  rw [e3]
  show wpList P ops Q rest (a1.put (some d2) (.pointer (some ⟨w.heap.size, 0, none⟩))) _
  generalize hw2 : w1.setRow w.heap.size us.toArray = w2
  have hg2 : w.grownBy w2 none := by
    rw [← hw2]
    refine ⟨hg1.os, hg1.tape, hg1.output, by simpa [World.setRow] using hg1.size, fun k hk _ => ?_⟩
    rw [setRow_other w1 _ k _ (by omega)]
    exact hg1.block k hk (fun h => by cases h)
  have hh2 : w2.heap[w.heap.size]? = some (.cells us.toArray t (0, 0)) := by rw [← hw2]; exact setRow_heap w1 _ _ _ t _ hh1
  have hs2 := hs1.change d2 (.box t zs) (.pointer (some ⟨w.heap.size, 0, none⟩)) none (hs1.free d2 hn2) hg2 (fun k hk => by cases hk) (fun k hk => .inl (by simp only [zU, Option.some.injEq] at hk; omega)) (by
    rw [hMut]
    refine ⟨w.heap.size, us, rfl, Nat.zero_le _, hh2, (hu2.mono fun k c hk h => ?_).keep ⟨hg2.size, fun k c hk _ => World.cell?_of_block (w := w) (hg2.block k hk (fun h => by cases h))⟩⟩
    rcases h with h | ⟨h, _⟩
    · exact h
    · simp only [zU, Option.some.injEq] at h
      omega)
  have hs3 := hs2.put (d := d2) (x := .ptr d2 0) (v := .pointer (some ⟨w.heap.size, 0, none⟩)) hn2 (.ptr d2 0 w.heap.size (by simp [upd, zU]))
  exact hr M w0 _ _ w2 Q hs3 hK
theorem w_makeV1 {o : Oper} {d t e sz by_ m : Nat} {k : IntKind} {z : Value} {xl xc : Operand} [ht : Und P t (.slice e)] [hi : InfoA P e z sz by_] (ho : o.op = .makeSlice t xl xc) (hl : S.get xl = .p (.val (.int k (m : Int)))) (hc : S.get xc = .p (.val (.int k (m : Int)))) (hlim : m * sz ≤ 16777216 ∧ by_ * m ≤ 281474976710656 ∧ m ≤ maxLen)
    (hzs : z.cells.size = sz) (hsz : 0 < sz) (hzp : [z] = z.cells.toList) (h1 : z.cells.toList.all (fun u => u.oneCell') = true) (hd : o.dst = some d) (hn : d < n) : zC P n o S [] (.own d) (some (rowV e sz (List.replicate m (.val z)))) :=
  w_makeV ho hl hc hlim hzs hsz (zp := .val z) (by rw [← hzp]; rfl) h1 hd hn
theorem w_makeVN {o : Oper} {d t e sz by_ m : Nat} {k : IntKind} {z : Value} {xl xc : Operand} [ht : Und P t (.slice e)] [hi : InfoA P e z sz by_] (ho : o.op = .makeSlice t xl xc) (hl : S.get xl = .p (.val (.int k (m : Int)))) (hc : S.get xc = .p (.val (.int k (m : Int)))) (hlim : m * sz ≤ 16777216 ∧ by_ * m ≤ 281474976710656 ∧ m ≤ maxLen)
    (hzs : z.cells.size = sz) (hsz : 0 < sz) (h1 : z.cells.toList.all (fun u => u.oneCell') = true) (hd : o.dst = some d) (hn : d < n) : zC P n o S [] (.own d) (some (rowV e sz (List.replicate m (.agg (z.cells.toList.map PV.val))))) :=
  w_makeV ho hl hc hlim hzs hsz (zp := .agg (z.cells.toList.map PV.val)) rfl h1 hd hn
/-- append(nil, es...): a new row, that nobody turns. -/
theorem w_appNil {o : Oper} {d t e sz by_ : Nat} {x y : Operand} {z : Value} {es : List PV} [ht : Und P t (.slice e)] [hi : InfoA P e z sz by_] (ho : o.op = .call { callee := .builtin .append, args := #[x, y], argTypes := #[t, t] })
    (hx : S.get x = .p (.val (.slice none 0 0))) (hy : S.get y = .p (.sl es)) (hes : ∀ e ∈ es, e.cells.length = sz) (hlim : es.length * by_ ≤ 140737488355328 ∧ es.length ≤ maxLen) (hzs : z.cells.size = sz) (hsz : 0 < sz) (hd : o.dst = some d) (hn : d < n) : zC P n o S [] (.p (.sl es)) none :=
  zC.pure hd hn fun S2 hg _ M w0 ρ a w hs => by
    obtain ⟨i, hi1, hi2⟩ := Option.map_eq_some_iff.1 hi.h
    simp only [Prod.mk.injEq] at hi2
    obtain ⟨hz, hisz, hiby⟩ := hi2
    have hv := hs.val ((hg x (by rw [ho]; simp [Op.operands, Call.operands])).trans hx)
    have ry := yR hs ((hg y (by rw [ho]; simp [Op.operands, Call.operands])).trans hy)
    obtain ⟨us, hus, hnews⟩ := news_p (ρ := ρ) ry hes
    have hown : ∀ B, w.ownsRow B e sz (.slice none 0 0) 0 [] := fun B => ⟨by simp, .inl ⟨rfl, rfl⟩⟩
    rcases hnews with ⟨hyv, hk0, hu0⟩ | ⟨ad, c, hyv, hul, hcell2⟩
    · have hb0 : es = [] := List.eq_nil_of_length_eq_zero hk0
      subst hb0
      refine ⟨.slice none 0 0, w, ?_, Below.refl _ _, .p .nil⟩
      unfold execOp
      simp only [ho, resolve, invoke, builtin, Sem.run_bind, Sem.run_pure, Result.andThen_ok, List.map_toArray, List.map_cons, List.map_nil, hv, hyv, run_append_owned_none (P := P) w 0 t o.type e i sz ht.h hi1 (.slice none 0 0) 0 [] (hown 0)]
    · obtain ⟨v', w', hr, hown', hgr, _, _⟩ := run_append_own_at (P := P) w w.heap.size t o.type e i z sz by_ ht.h hi1 hz hisz hiby hzs hsz (.slice none 0 0) 0 [] (hown _) ad es.length c us hul hcell2 hus.one (by simpa using hlim.2) (by simpa using hlim.1) (Nat.le_refl _)
      rw [← hyv] at hr
      have hk : Keeps (Mut M S2 ρ) w w' := ⟨hgr.size, fun k c hk _ => World.cell?_of_block (w := w) (hgr.block k hk (fun h => by cases h))⟩
      refine ⟨v', w', ?_, ⟨hgr.os, hgr.tape, hgr.output, hgr.size, fun k hk => hgr.block k hk (fun h => by cases h)⟩, .p (rep_ownsRow (fun k c hk => Mut.lt hs hk) (by simpa using hown') rfl ((cellsA_pure hus).keep hk))⟩
      unfold execOp
      simp only [ho, resolve, invoke, builtin, Sem.run_bind, Sem.run_pure, Result.andThen_ok, List.map_toArray, List.map_cons, List.map_nil, hv, hr]
end
theorem rowB_V (e : Nat) (bs : List Int) : yG e bs = rowV e 1 (byts bs) := by
  unfold yG rowV
  rw [byts_flat, vD]
theorem sub_frzE {S : AS} (id e sz : Nat) (es : List PV) (hb : S.blk id = some (rowV e sz es)) : Sub S (S.frz id (.sl es)) := sub_frz hb
theorem sub_frzB {S : AS} (id : Nat) {e : Nat} {bs : List Int} (hb : S.blk id = some (yG e bs)) : Sub S (S.frz id (.sl (byts bs))) := sub_frz (hb.trans (congrArg some (rowB_V e bs)))
end Go.Proofs.YthnmfmdkdngggaaDoor
/- An operation that steps alone, as a tree in a world: contract. -/
namespace Go.Proofs.YthnmfmdkdngggaaDoor
set_option maxRecDepth 100000
set_option maxHeartbeats 16000000
open Go Go.RowKit
set_option linter.unusedSimpArgs false
set_option linter.unusedVariables false
attribute [local irreducible] zY zX Step zC Sub zL zI Fn
def bools (l : List Bool) : List PV := l.map fun b => .val (.bool b)
def xV (l : List Bool) (i : Nat) : Bool := l.getD i false
structure AlSt where
  n : Nat
  W : Wd
  L : List xM
  p : Pr OutI
def aloneS (me : Nat) (k u v w : Int) (most : Int) (fail : List Bool) (s : AlSt) : AS :=
  { t := [(1, .p (.val (.int .i64 me))), (3, .p (.val (.int .i64 most))), (4, .p (.sl (bools fail))), (5, .ptr 5 0), (7, .ptr 7 0), (10, .ptr 10 0), (11, .ptr 11 0), (12, .p (.val (.bool false))), (13, .own 13), (14, .p (.val (.int .i64 (s.n : Nat))))],
    s := [(5, .box 33 (s.W.pv.cells.map AV.p)), (7, .box 42 ((opV k u v w).cells.map AV.p)), (10, .box 33 ([.val (.int .i64 0), .val (.int .i64 0), y8, .val (.int .u64 0), y8, y8].map AV.p)),
      (11, .box 38 ((outV 0 false 0 0).cells.map AV.p)), (13, lentV 60 3 (s.L.map resV))] }
theorem next_needW (L : List xM) (hL : LogOK L) {t : Int} (c me : Int) {k u v w : Int} (h : OpOK t k u v w) {q : Ned} {j : Nat} (hm : (opP t k u v w).run (wK L) 0 = .need q j) (hq : vV q) :
    Fn Tryd.prog 14 [.val (.int .i64 t), .val (.int .i64 c), .val (.int .i64 me), opV k u v w, logV L] (.tup [accV q.kind q.cell q.a q.b (.sl (byts (qZ q.d))), outV 0 false 0 0, .val (.bool false)]) := by
  refine (next_need L hL c me h hm).weakT (.cons (.agg (.cons (.refl _) (.cons (.refl _) (.cons (.refl _) (.cons (.refl _) (.cons ?_ (.cons (.refl _) .nil))))))) (.cons (.refl _) (.cons (.refl _) .nil)))
  rcases hq.d with ⟨_, e⟩ | ⟨_, bs, _, _, e⟩
  · rw [e]; exact .nil
  · rw [e, bytsOf_byts]; exact .refl _
theorem alone_fn (B : Nat) (W W' : Wd) (me : Nat) (k u v w : Int) (most : Nat) (fail : List Bool) (m : Nat) (o : OutI) (hW : vB B W) (hme : me < W.r0.length) (hop : OpOK W.t k u v w)
    (hr : (opP W.t k u v w).run (wSt me (xV fail)) (W, 0) = .done o (W', m)) (hmm : m ≤ most) (h1000 : most ≤ 100) (hB : B ≤ 700000) :
    Fn Tryd.prog 9 [W.pv, .val (.int .i64 me), opV k u v w, .val (.int .i64 most), .sl (bools fail)] (.tup [W'.pv, outV o.e o.is 0 o.w, .val (.bool true)]) := by
  have hfine := fine_op hop
  obtain ⟨t, c, ws, root, r0, r1⟩ := W
  have hme : me < r0.length := hme
  refine yM Tryd.func9 rfl Tryd.ntmps9 (Nat.le_of_ble_eq_true rfl) ?_
  repeat' ((refine zX.is ?_; first | refine zX.seq ?_ | (refine zX.isR (id := 0) ?_; refine zX.zV [0, 1, 2, 3, 4] [5, 7, 10, 11, 13, 15, 16, 18, 19, 62] (by repeat' first | exact zZ.nil | apply zZ.p rfl) (by repeat' first | exact zW.nil | apply zW.skip) ?_; (refine zY.m rfl rfl (yX rfl rfl rfl (by decide)) ?_); (refine zY.m rfl rfl (yX rfl rfl rfl (by decide)) ?_); (refine zY.m rfl rfl (zG rfl (by decide) rfl (by decide)) ?_); (refine zY.m rfl rfl (zG rfl (by decide) rfl (by decide)) ?_); (refine zY.v rfl rfl (zK rfl rfl rfl (by decide)) ?_); refine zY.nil ?_) | (refine zX.isR (id := 1) ?_; refine zX.zV [1, 3, 4, 5, 7, 10, 11, 12] [5, 7, 10, 11, 13, 15, 16, 18, 19, 62] (by repeat' first | exact zZ.nil | apply zZ.p rfl | apply zZ.ptr rfl) (by repeat' first | exact zW.nil | apply zW.boxP rfl rfl | apply zW.skip) ?_; (refine zY.v rfl rfl (zK rfl rfl rfl (by decide)) ?_); refine zY.nil ?_) | (refine zX.isR (id := 2) ?_; refine zX.zV [1, 3, 4, 5, 7, 10, 11, 12, 13] [5, 7, 10, 11, 13, 15, 16, 18, 19, 62] (by repeat' first | exact zZ.nil | apply zZ.p rfl | apply zZ.ptr rfl) (by repeat' first | exact zW.nil | apply zW.boxP rfl rfl | apply zW.skip) ?_; (refine zY.v rfl rfl (zK rfl rfl rfl (by decide)) ?_); refine zY.nil ?_) | refine zX.block ?_))
  refine zX.loop (fun s => aloneS me k u v w most fail s) (fun s => s.n ≤ m ∧ s.W.t = t ∧ s.W.r0.length = r0.length ∧ vB (B + 1000 * s.n) s.W ∧ s.L.length = s.n ∧ (∀ r ∈ s.L, U r.n) ∧ (opP t k u v w).after s.L = some s.p ∧ s.p.xA yes (many - s.n) ∧ s.p.run (wSt me (xV fail)) (s.W, s.n) = .done o (W', m)) (fun s => most + 1 - s.n) ⟨0, ⟨t, c, ws, root, r0, r1⟩, [], opP t k u v w⟩ ?h0
    ⟨Nat.zero_le _, rfl, rfl, hW, rfl, (fun r h => by simp at h), (by cases opP t k u v w <;> rfl), hfine, hr⟩ ?rd
  case h0 =>
    refine (sub_adopt (d := 13) (id := 13) (ty := 60) (sz := 3) (by decide) rfl).trans ?_
    refine (w9 (id := 13) (b := .row 60 3 0 []) (b' := rowV 60 3 []) (by rfl) (rowV_alike 60 3 [])).sub.trans ?_
    refine (sub_lend (id := 13) (e := 60) (sz := 3) (es := []) (by rfl)).trans ?_
    refine zN (is := [1, 3, 4, 5, 7, 10, 11, 12, 13, 14]) (js := [5, 7, 10, 11, 13]) ?_ ?_
    repeat' first | exact zZ.nil | apply zZ.p rfl | apply zZ.ptr rfl | apply zZ.own rfl | apply zZ.clo rfl | apply zZ.pt rfl | apply zZ.tup rfl | apply zZ.skip
    repeat' first | exact zW.nil | apply zW.boxP rfl rfl | apply zW.yG rfl | apply zW.some rfl | apply zW.skip
  case rd =>
    rintro ⟨n, W, L, p⟩ ⟨hn, ht, hrl, hok, hl, hru, haf, hfi, hrun⟩
    dsimp only at hn ht hrl hok hl hru haf hfi hrun
    obtain ⟨t', c', ws', root', r0', r1'⟩ := W
    have ht : t' = t := ht
    subst ht
    change zX _ _ _ (aloneS me k u v w most fail ⟨n, ⟨t', c', ws', root', r0', r1'⟩, L, p⟩) _
    unfold aloneS
    dsimp only
    have g1 : decide ((n : Int) ≤ most) = true := decide_eq_true (by omega)
    repeat' ((refine zX.is ?_; first | refine zX.seq ?_ | (refine zX.isR (id := 3) ?_; refine zX.zV [1, 3, 4, 5, 7, 10, 11, 12, 13, 14, 15, 16, 17, 18, 19, 22, 39] [5, 7, 10, 11, 13, 15, 16, 18, 19, 62] (by repeat' first | exact zZ.nil | apply zZ.p rfl | apply zZ.ptr rfl | apply zZ.own rfl | apply zZ.skip) (by repeat' first | exact zW.nil | apply zW.boxP rfl rfl | apply zW.some rfl | apply zW.skip) ?_; (refine zY.v rfl rfl (zQ rfl rfl rfl (by decide)) ?_); (refine zY.v rfl rfl (zQ rfl rfl rfl (by decide)) ?_); (refine zY.v rfl rfl (by exact r_leq rfl rfl rfl (by exact g1) rfl (by decide)) ?_); refine zY.nil ?_) | (refine zX.isR (id := 5) ?_; refine zX.zV [1, 3, 4, 5, 7, 10, 11, 12, 13, 14, 15, 16, 17, 18, 19, 22, 39] [5, 7, 10, 11, 13, 15, 16, 18, 19, 62] (by repeat' first | exact zZ.nil | apply zZ.p rfl | apply zZ.ptr rfl | apply zZ.own rfl | apply zZ.skip) (by repeat' first | exact zW.nil | apply zW.boxP rfl rfl | apply zW.some rfl | apply zW.skip) ?_; all_goals (refine zY.v rfl rfl (zJ rfl rfl rfl (by decide)) ?_); all_goals (refine zY.v rfl rfl (zJ rfl rfl rfl (by decide)) ?_); all_goals (refine zY.v rfl rfl (zA rfl rfl rfl (by rfl) rfl (by decide)) ?_); all_goals (refine zY.v rfl rfl (zJ rfl rfl rfl (by decide)) ?_); all_goals (refine zY.v rfl rfl (zJ rfl rfl rfl (by decide)) ?_); all_goals (refine zY.v rfl rfl (zA rfl rfl rfl (by rfl) rfl (by decide)) ?_); all_goals (refine zY.v rfl rfl (zQ rfl rfl rfl (by decide)) ?_); all_goals (refine zY.v rfl rfl (zD rfl rfl rfl (by rfl) (by rfl) rfl (by decide)) ?_); all_goals (refine zY.v rfl rfl (a_moveO rfl rfl rfl (by decide)) ?_); all_goals (skip)) | refine zX.yS rfl (by first | assumption | with_reducible rfl) ?_ | refine zX.skip ?_ | refine zX.block ?_))
    refine zY.sub (sub_view (d := 34) (id := 13) (e := 60) (sz := 3) (es := L.map resV) rfl rfl) ?_
    have hL : LogOK L := ⟨by omega, hru⟩
    cases p with
    | stuck => cases hrun
    | ret o' =>
      rw [yQ] at hrun
      injection hrun with e1 e2
      injection e2 with e2 e3
      subst e1 e2
      have c1 := next_done L hL c' me hop (after_done haf)
      repeat' (first | (refine zY.is ?_; first | refine zY.nil ?_ | refine zY.v rfl rfl (by first | exact zK rfl rfl rfl (by decide) | exact zF rfl rfl rfl rfl (by decide) | exact yD rfl rfl rfl (by decide) | exact yU (c1) rfl rfl rfl (by decide)) ?_ | refine zY.m rfl rfl (zG rfl (by decide) rfl (by decide)) ?_ | refine zY.w rfl (by exact zB rfl rfl rfl rfl rfl (by rfl) (by exact Nat.le_of_ble_eq_true rfl) rfl rfl) ?_) | (refine zX.is ?_; first | refine zX.seq ?_ | (refine zX.isR (id := 6) ?_; refine zX.zV [1, 3, 4, 5, 7, 10, 11, 12, 13, 14, 15, 16, 17, 18, 19, 22, 39] [5, 7, 10, 11, 13, 15, 16, 18, 19, 62] (by repeat' first | exact zZ.nil | apply zZ.p rfl | apply zZ.ptr rfl | apply zZ.own rfl | apply zZ.skip) (by repeat' first | exact zW.nil | apply zW.boxP rfl rfl | apply zW.some rfl | apply zW.skip) ?_; (refine zY.v rfl rfl (zQ rfl rfl rfl (by decide)) ?_); refine zY.nil ?_) | (refine zX.isR (id := 7) ?_; refine zX.yF [1, 3, 4, 5, 7, 10, 11, 12, 13, 14, 15, 16, 17, 18, 19, 22, 39] [5, 7, 10, 11, 13, 15, 16, 18, 19, 62] (by repeat' first | exact zZ.nil | apply zZ.p rfl | apply zZ.ptr rfl | apply zZ.own rfl | apply zZ.skip) (by repeat' first | exact zW.nil | apply zW.boxP rfl rfl | apply zW.some rfl | apply zW.skip) (zX.vU (by kernel_rfl) ?_); repeat' (first | refine xW.many (by rfl) ?_ | refine xB.cons ?_ ?_ | exact xB.nil | refine wE.v rfl rfl rfl (by first | exact zK rfl rfl rfl (by decide) | exact zD rfl rfl rfl (by rfl) (by rfl) rfl (by decide)) ?_ | refine wE.w rfl rfl (by exact zB rfl rfl rfl rfl rfl (by rfl) (by exact Nat.le_of_ble_eq_true rfl) rfl rfl) ?_ | refine xW.fin (by rfl) ?_)) | refine zX.yS rfl (by first | assumption | with_reducible rfl) ?_ | refine zX.ret ?_) | refine yH.r ?_ | refine wH.r ?_)
      all_goals exact ⟨by first | exact .inl rfl | exact .inr rfl, _, Sub.refl _, .tup (rs := [.cell 10 33, .cell 11 38, .tmp 12]) (l := [Wd.pv ⟨t', c', ws', root', r0', r1'⟩, outV o'.e o'.is 0 o'.w, .val (.bool true)]) rfl (by decide) (.cons (.cellN rfl rfl (by rfl) (by rfl)) (.cons (.cellN rfl rfl (by rfl) (by rfl)) (.cons (.tmp rfl) .nil)))⟩
    | ask q kq =>
      have hq : vV q := hfi.1
      rw [wG] at hrun
      have hrun2 : (kq (doX ⟨t', c', ws', root', r0', r1'⟩ me q (xV fail n)).2).run (wSt me (xV fail)) ((doX ⟨t', c', ws', root', r0', r1'⟩ me q (xV fail n)).1, n + 1) = .done o (W', m) := hrun
      have hle := wSt_le hrun2
      dsimp only at hle
      have c1 := next_needW L hL c' me hop (after_need haf) hq
      have hdo := doX_ok hok hq me (xV fail n)
      have hkeep := doX_keeps ⟨t', c', ws', root', r0', r1'⟩ me q (xV fail n)
      have hme' : me < r0'.length := by have : r0'.length = r0.length := hrl; omega
      have c2 := doX_fn hok (by omega) hq (me := me) hme' (xV fail n)
      have haf2 := after_snoc (doX ⟨t', c', ws', root', r0', r1'⟩ me q (xV fail n)).2 haf
      generalize hde : doX ⟨t', c', ws', root', r0', r1'⟩ me q (xV fail n) = dd at *
      obtain ⟨W2, r⟩ := dd
      dsimp only at hrun2 hle c2 hdo hkeep haf2
      have g3 : IntKind.i64.wrap ((n : Int) + 1) = ((n + 1 : Nat) : Int) := by rw [wrap_i64 _ (by omega)]; omega
      have g4 : ∀ e ∈ L.map resV, e.cells.length = 3 := resV_cells L
      have g5 : ∀ e ∈ [resV r], e.cells.length = 3 := fun e he => by simp at he; subst he; rfl
      have g10 : ((L.map resV).length + ([resV r] : List PV).length) * 40 ≤ 140737488355328 ∧ (L.map resV).length + ([resV r] : List PV).length ≤ maxLen := by
        simp only [List.length_map, List.length_cons, List.length_nil, maxLen]
        omega
      have hnext : n + 1 ≤ m ∧ W2.t = t' ∧ W2.r0.length = r0.length ∧ vB (B + 1000 * (n + 1)) W2 ∧ (L ++ [r]).length = n + 1 ∧ (∀ x ∈ L ++ [r], U x.n) ∧ (opP t' k u v w).after (L ++ [r]) = some (kq r) ∧ (kq r).xA yes (many - (n + 1)) ∧ (kq r).run (wSt me (xV fail)) (W2, n + 1) = .done o (W', m) :=
        ⟨hle, hkeep.1, hkeep.2.2.1.trans hrl, hdo.1.le (by omega), by simp [hl], (fun x hx => by
          rcases List.mem_append.1 hx with hx | hx
          · exact hru x hx
          · simp at hx; subst hx; exact hdo.2), haf2, Pr.xA.le (by omega) (hfi.2 r hdo.2), hrun2⟩
      rcases Nat.lt_or_ge n fail.length with hnf | hnf
      · have g6 : decide ((n : Int) < (bools fail).length) = true := decide_eq_true (by simp [bools]; omega)
        have g7 : (bools fail)[n]? = some (.val (.bool (xV fail n))) := by simp [bools, xV, List.getD_eq_getElem?_getD, List.getElem?_eq_getElem hnf]
        have g8 : (0 : Int) ≤ (n : Int) ∧ (n : Int) < (bools fail).length := by simp [bools]; omega
        have g9 : ∀ e ∈ bools fail, e.cells.length = 1 := fun e he => by
          obtain ⟨x, _, rfl⟩ := List.mem_map.1 he
          rfl
        repeat' (first | (refine zY.is ?_; first | refine zY.nil ?_ | refine zY.v rfl rfl (by first | exact zK rfl rfl rfl (by decide) | exact zF rfl rfl rfl rfl (by decide) | exact yD rfl rfl rfl (by decide) | exact yU (c1) rfl rfl rfl (by decide)) ?_ | refine zY.m rfl rfl (zG rfl (by decide) rfl (by decide)) ?_ | refine zY.w rfl (by exact zB rfl rfl rfl rfl rfl (by rfl) (by exact Nat.le_of_ble_eq_true rfl) rfl rfl) ?_) | (refine zX.is ?_; first | refine zX.seq ?_ | (refine zX.isR (id := 6) ?_; refine zX.zV [1, 3, 4, 5, 7, 10, 11, 12, 13, 14, 15, 16, 17, 18, 19, 22, 39] [5, 7, 10, 11, 13, 15, 16, 18, 19, 62] (by repeat' first | exact zZ.nil | apply zZ.p rfl | apply zZ.ptr rfl | apply zZ.own rfl | apply zZ.skip) (by repeat' first | exact zW.nil | apply zW.boxP rfl rfl | apply zW.some rfl | apply zW.skip) ?_; (refine zY.v rfl rfl (zQ rfl rfl rfl (by decide)) ?_); refine zY.nil ?_) | (refine zX.isR (id := 8) ?_; refine zX.yF [1, 3, 4, 5, 7, 10, 11, 12, 13, 14, 15, 16, 17, 18, 19, 22, 39] [5, 7, 10, 11, 13, 15, 16, 18, 19, 62] (by repeat' first | exact zZ.nil | apply zZ.p rfl | apply zZ.ptr rfl | apply zZ.own rfl | apply zZ.skip) (by repeat' first | exact zW.nil | apply zW.boxP rfl rfl | apply zW.some rfl | apply zW.skip) (zX.draws ?_); all_goals (refine Draws.v rfl rfl (zD rfl rfl rfl (by rfl) (by rfl) rfl (by decide)) ?_); all_goals (refine Draws.v rfl rfl (zQ rfl rfl rfl (by decide)) ?_); all_goals (refine Draws.v rfl rfl (zD rfl rfl rfl (by rfl) (by rfl) rfl (by decide)) ?_); all_goals (refine Draws.v rfl rfl (zQ rfl rfl rfl (by decide)) ?_); all_goals (refine Draws.v rfl rfl (zQ rfl rfl rfl (by decide)) ?_); all_goals (refine Draws.v rfl rfl (wC rfl rfl rfl (by decide)) ?_); all_goals (refine Draws.v rfl rfl (by exact yI rfl rfl rfl (by exact g6) rfl (by decide)) ?_); all_goals (refine Draws.v rfl rfl (zQ rfl rfl rfl (by decide)) ?_); all_goals (refine Draws.gY rfl rfl (by decide) rfl (by with_reducible rfl) rfl (zQ rfl rfl rfl (by decide)) ?_); all_goals (refine Draws.gY rfl rfl (by decide) rfl (by with_reducible rfl) rfl (zQ rfl rfl rfl (by decide)) ?_); all_goals (refine Draws.gY rfl rfl (by decide) rfl (by with_reducible rfl) rfl (by exact yL rfl rfl rfl (by exact g9) (by exact g7) rfl (by decide)) ?_); all_goals (refine Draws.gY rfl rfl (by decide) rfl (by with_reducible rfl) rfl (yK rfl rfl rfl rfl (by decide)) ?_); all_goals (refine Draws.v rfl rfl (by exact yZ rfl rfl (by with_reducible rfl) rfl rfl (by decide)) ?_); all_goals (refine Draws.v rfl rfl (by exact yU (c2) rfl rfl rfl (by decide)) ?_); all_goals (refine Draws.v rfl rfl (yD rfl rfl rfl (by decide)) ?_); all_goals (refine Draws.v rfl rfl (zF rfl rfl rfl rfl (by decide)) ?_); all_goals (refine Draws.v rfl rfl (zF rfl rfl rfl rfl (by decide)) ?_); all_goals (refine Draws.m rfl rfl (zG rfl (by decide) rfl (by decide)) ?_); all_goals (refine Draws.m rfl rfl (zG rfl (by decide) rfl (by decide)) ?_); all_goals (((refine Draws.late2 [16] 2 [0, 1, 2, 3, 4, 5, 6, 7, 8, 9, 10, 11, 12, 13, 14, 15, 16, 17, 18] (by kernel_rfl) (by kernel_rfl) (by kernel_rfl) (by kernel_rfl) (by kernel_rfl) ?_ (vM.consD 3 [0, 1, 2, 3, 4, 5, 6, 7, 8, 9, 10, 11, 12, 13, 14, 15, 17, 18] (by kernel_rfl) (by kernel_rfl) ?_ vM.nil)) <;> (repeat' (first | refine xW.many (by rfl) ?_ | refine xB.cons ?_ ?_ | exact xB.nil | refine wE.v rfl rfl rfl (zF rfl rfl rfl rfl (by decide)) ?_ | refine wE.w rfl rfl (by exact zB rfl rfl rfl rfl rfl (by rfl) (by exact Nat.le_of_ble_eq_true rfl) rfl rfl) ?_ | refine xW.fin (by rfl) ?_))))) | (refine zX.isR (id := 9) ?_; refine zX.zV [1, 3, 4, 5, 7, 10, 11, 12, 13, 14, 15, 16, 17, 18, 19, 22, 39] [5, 7, 10, 11, 13, 15, 16, 18, 19, 62] (by repeat' first | exact zZ.nil | apply zZ.p rfl | apply zZ.ptr rfl | apply zZ.own rfl) (by repeat' first | exact zW.nil | apply zW.boxP rfl rfl | apply zW.some rfl | apply zW.skip) ?_; (refine zY.v rfl rfl (zD rfl rfl rfl (by rfl) (by rfl) rfl (by decide)) ?_); (refine zY.w rfl (by exact zB rfl rfl rfl rfl rfl (by rfl) (by exact Nat.le_of_ble_eq_true rfl) rfl rfl) ?_); refine zY.nil ?_) | (refine zX.isR (id := 10) ?_; refine zX.zV [1, 3, 4, 5, 7, 10, 11, 12, 13, 14, 15, 16, 17, 18, 19, 22, 39] [5, 7, 10, 11, 13, 15, 16, 18, 19, 62] (by repeat' first | exact zZ.nil | apply zZ.p rfl | apply zZ.ptr rfl | apply zZ.own rfl) (by repeat' first | exact zW.nil | apply zW.boxP rfl rfl | apply zW.some rfl | apply zW.skip) ?_; (refine zY.v rfl rfl (a_moveO rfl rfl rfl (by decide)) ?_); (refine zY.v rfl rfl (zD rfl rfl rfl (by rfl) (by rfl) rfl (by decide)) ?_); (refine zY.v rfl rfl (wR rfl (by decide) (by decide) (by decide) (by decide) (by rfl) (by rfl) (by rfl) (by rfl) (by rfl) (by rfl) (by rfl) rfl (by decide)) ?_); (refine zY.w rfl (by exact s_appL rfl rfl rfl rfl (by exact g5) (by exact g10) rfl (by decide) rfl (by decide)) ?_); (refine zY.v rfl rfl (xE rfl rfl rfl (by decide)) ?_); refine zY.nil ?_) | (refine zX.isR (id := 4) ?_; refine zX.zV [1, 3, 4, 5, 7, 10, 11, 12, 13, 14, 15, 16, 17, 18, 19, 22, 39] [5, 7, 10, 11, 13, 15, 16, 18, 19, 62] (by repeat' first | exact zZ.nil | apply zZ.p rfl | apply zZ.ptr rfl | apply zZ.own rfl) (by repeat' first | exact zW.nil | apply zW.boxP rfl rfl | apply zW.some rfl | apply zW.skip) ?_; (refine zY.v rfl rfl (zQ rfl rfl rfl (by decide)) ?_); (refine zY.v rfl rfl (by exact yE rfl rfl rfl (by exact g3) rfl (by decide)) ?_); (refine zY.v rfl rfl (zK rfl rfl rfl (by decide)) ?_); refine zY.nil ?_) | refine zX.yN rfl (by with_reducible rfl) ?_ | refine zX.skip ?_) | refine yH.n ?_)
        all_goals
          refine ⟨⟨n + 1, W2, L ++ [r], kq r⟩, ?_, hnext, by dsimp only; omega⟩
          show Sub _ (aloneS me k u v w most fail ⟨n + 1, W2, L ++ [r], kq r⟩)
          unfold aloneS
          dsimp only
          rw [List.map_append]
          refine zN (is := [1, 3, 4, 5, 7, 10, 11, 12, 13, 14]) (js := [5, 7, 10, 11, 13]) ?_ ?_
          repeat' first | exact zZ.nil | apply zZ.p rfl | apply zZ.ptr rfl | apply zZ.own rfl | apply zZ.clo rfl | apply zZ.pt rfl | apply zZ.tup rfl | apply zZ.skip
          repeat' first | exact zW.nil | apply zW.boxP rfl rfl | apply zW.yG rfl | apply zW.some rfl | apply zW.skip
      · have g6 : decide ((n : Int) < (bools fail).length) = false := decide_eq_false (by simp [bools]; omega)
        have g7 : xV fail n = false := by simp [xV, List.getD_eq_getElem?_getD, List.getElem?_eq_none hnf]
        rw [g7] at c2
        repeat' (first | (refine zY.is ?_; first | refine zY.nil ?_ | refine zY.v rfl rfl (by first | exact zK rfl rfl rfl (by decide) | exact zF rfl rfl rfl rfl (by decide) | exact yD rfl rfl rfl (by decide) | exact yU (c1) rfl rfl rfl (by decide)) ?_ | refine zY.m rfl rfl (zG rfl (by decide) rfl (by decide)) ?_ | refine zY.w rfl (by exact zB rfl rfl rfl rfl rfl (by rfl) (by exact Nat.le_of_ble_eq_true rfl) rfl rfl) ?_) | (refine zX.is ?_; first | refine zX.seq ?_ | (refine zX.isR (id := 6) ?_; refine zX.zV [1, 3, 4, 5, 7, 10, 11, 12, 13, 14, 15, 16, 17, 18, 19, 22, 39] [5, 7, 10, 11, 13, 15, 16, 18, 19, 62] (by repeat' first | exact zZ.nil | apply zZ.p rfl | apply zZ.ptr rfl | apply zZ.own rfl | apply zZ.skip) (by repeat' first | exact zW.nil | apply zW.boxP rfl rfl | apply zW.some rfl | apply zW.skip) ?_; (refine zY.v rfl rfl (zQ rfl rfl rfl (by decide)) ?_); refine zY.nil ?_) | (refine zX.isR (id := 8) ?_; refine zX.yF [1, 3, 4, 5, 7, 10, 11, 12, 13, 14, 15, 16, 17, 18, 19, 22, 39] [5, 7, 10, 11, 13, 15, 16, 18, 19, 62] (by repeat' first | exact zZ.nil | apply zZ.p rfl | apply zZ.ptr rfl | apply zZ.own rfl | apply zZ.skip) (by repeat' first | exact zW.nil | apply zW.boxP rfl rfl | apply zW.some rfl | apply zW.skip) (zX.draws ?_); all_goals (refine Draws.v rfl rfl (zD rfl rfl rfl (by rfl) (by rfl) rfl (by decide)) ?_); all_goals (refine Draws.v rfl rfl (zQ rfl rfl rfl (by decide)) ?_); all_goals (refine Draws.v rfl rfl (zD rfl rfl rfl (by rfl) (by rfl) rfl (by decide)) ?_); all_goals (refine Draws.v rfl rfl (zQ rfl rfl rfl (by decide)) ?_); all_goals (refine Draws.v rfl rfl (zQ rfl rfl rfl (by decide)) ?_); all_goals (refine Draws.v rfl rfl (wC rfl rfl rfl (by decide)) ?_); all_goals (refine Draws.v rfl rfl (by exact yI rfl rfl rfl (by exact g6) rfl (by decide)) ?_); all_goals (refine Draws.v rfl rfl (zQ rfl rfl rfl (by decide)) ?_); all_goals (refine Draws.gNT rfl rfl (by decide) rfl (by with_reducible rfl) rfl (by decide) ?_); all_goals (refine Draws.gNT rfl rfl (by decide) rfl (by with_reducible rfl) rfl (by decide) ?_); all_goals (refine Draws.gNT rfl rfl (by decide) rfl (by with_reducible rfl) rfl (by decide) ?_); all_goals (refine Draws.gNT rfl rfl (by decide) rfl (by with_reducible rfl) rfl (by decide) ?_); all_goals (refine Draws.v rfl rfl (by exact yC rfl rfl (by with_reducible rfl) rfl rfl (by decide)) ?_); all_goals (refine Draws.v rfl rfl (by exact yU (c2) rfl rfl rfl (by decide)) ?_); all_goals (refine Draws.v rfl rfl (yD rfl rfl rfl (by decide)) ?_); all_goals (refine Draws.v rfl rfl (zF rfl rfl rfl rfl (by decide)) ?_); all_goals (refine Draws.v rfl rfl (zF rfl rfl rfl rfl (by decide)) ?_); all_goals (refine Draws.m rfl rfl (zG rfl (by decide) rfl (by decide)) ?_); all_goals (refine Draws.m rfl rfl (zG rfl (by decide) rfl (by decide)) ?_); all_goals (((refine Draws.late2 [16] 2 [0, 1, 2, 3, 4, 5, 6, 7, 8, 9, 10, 11, 12, 13, 14, 15, 16, 17, 18] (by kernel_rfl) (by kernel_rfl) (by kernel_rfl) (by kernel_rfl) (by kernel_rfl) ?_ (vM.consD 3 [0, 1, 2, 3, 4, 5, 6, 7, 8, 9, 10, 11, 12, 13, 14, 15, 17, 18] (by kernel_rfl) (by kernel_rfl) ?_ vM.nil)) <;> (repeat' (first | refine xW.many (by rfl) ?_ | refine xB.cons ?_ ?_ | exact xB.nil | refine wE.v rfl rfl rfl (zF rfl rfl rfl rfl (by decide)) ?_ | refine wE.w rfl rfl (by exact zB rfl rfl rfl rfl rfl (by rfl) (by exact Nat.le_of_ble_eq_true rfl) rfl rfl) ?_ | refine xW.fin (by rfl) ?_))))) | (refine zX.isR (id := 9) ?_; refine zX.zV [1, 3, 4, 5, 7, 10, 11, 12, 13, 14, 15, 16, 17, 18, 19, 22, 39] [5, 7, 10, 11, 13, 15, 16, 18, 19, 62] (by repeat' first | exact zZ.nil | apply zZ.p rfl | apply zZ.ptr rfl | apply zZ.own rfl) (by repeat' first | exact zW.nil | apply zW.boxP rfl rfl | apply zW.some rfl | apply zW.skip) ?_; (refine zY.v rfl rfl (zD rfl rfl rfl (by rfl) (by rfl) rfl (by decide)) ?_); (refine zY.w rfl (by exact zB rfl rfl rfl rfl rfl (by rfl) (by exact Nat.le_of_ble_eq_true rfl) rfl rfl) ?_); refine zY.nil ?_) | (refine zX.isR (id := 10) ?_; refine zX.zV [1, 3, 4, 5, 7, 10, 11, 12, 13, 14, 15, 16, 17, 18, 19, 22, 39] [5, 7, 10, 11, 13, 15, 16, 18, 19, 62] (by repeat' first | exact zZ.nil | apply zZ.p rfl | apply zZ.ptr rfl | apply zZ.own rfl) (by repeat' first | exact zW.nil | apply zW.boxP rfl rfl | apply zW.some rfl | apply zW.skip) ?_; (refine zY.v rfl rfl (a_moveO rfl rfl rfl (by decide)) ?_); (refine zY.v rfl rfl (zD rfl rfl rfl (by rfl) (by rfl) rfl (by decide)) ?_); (refine zY.v rfl rfl (wR rfl (by decide) (by decide) (by decide) (by decide) (by rfl) (by rfl) (by rfl) (by rfl) (by rfl) (by rfl) (by rfl) rfl (by decide)) ?_); (refine zY.w rfl (by exact s_appL rfl rfl rfl rfl (by exact g5) (by exact g10) rfl (by decide) rfl (by decide)) ?_); (refine zY.v rfl rfl (xE rfl rfl rfl (by decide)) ?_); refine zY.nil ?_) | (refine zX.isR (id := 4) ?_; refine zX.zV [1, 3, 4, 5, 7, 10, 11, 12, 13, 14, 15, 16, 17, 18, 19, 22, 39] [5, 7, 10, 11, 13, 15, 16, 18, 19, 62] (by repeat' first | exact zZ.nil | apply zZ.p rfl | apply zZ.ptr rfl | apply zZ.own rfl) (by repeat' first | exact zW.nil | apply zW.boxP rfl rfl | apply zW.some rfl | apply zW.skip) ?_; (refine zY.v rfl rfl (zQ rfl rfl rfl (by decide)) ?_); (refine zY.v rfl rfl (by exact yE rfl rfl rfl (by exact g3) rfl (by decide)) ?_); (refine zY.v rfl rfl (zK rfl rfl rfl (by decide)) ?_); refine zY.nil ?_) | refine zX.yN rfl (by first | assumption | with_reducible rfl) ?_ | refine zX.skip ?_) | refine yH.n ?_)
        all_goals
          refine ⟨⟨n + 1, W2, L ++ [r], kq r⟩, ?_, hnext, by dsimp only; omega⟩
          show Sub _ (aloneS me k u v w most fail ⟨n + 1, W2, L ++ [r], kq r⟩)
          unfold aloneS
          dsimp only
          rw [List.map_append]
          refine zN (is := [1, 3, 4, 5, 7, 10, 11, 12, 13, 14]) (js := [5, 7, 10, 11, 13]) ?_ ?_
          repeat' first | exact zZ.nil | apply zZ.p rfl | apply zZ.ptr rfl | apply zZ.own rfl | apply zZ.clo rfl | apply zZ.pt rfl | apply zZ.tup rfl | apply zZ.skip
          repeat' first | exact zW.nil | apply zW.boxP rfl rfl | apply zW.yG rfl | apply zW.some rfl | apply zW.skip
theorem alone_nil (B : Nat) (W W' : Wd) (me : Nat) (k u v w : Int) (most : Nat) (m : Nat) (o : OutI) (hW : vB B W) (hme : me < W.r0.length) (hop : OpOK W.t k u v w)
    (hr : (opP W.t k u v w).run (wSt me (xV [])) (W, 0) = .done o (W', m)) (hmm : m ≤ most) (h1000 : most ≤ 100) (hB : B ≤ 700000) :
    Fn Tryd.prog 9 [W.pv, .val (.int .i64 me), opV k u v w, .val (.int .i64 most), y8] (.tup [W'.pv, outV o.e o.is 0 o.w, .val (.bool true)]) :=
  (alone_fn B W W' me k u v w most [] m o hW hme hop hr hmm h1000 hB).weakA (.cons (.refl _) (.cons (.refl _) (.cons (.refl _) (.cons (.refl _) (.cons (.one .nil) .nil)))))
end Go.Proofs.YthnmfmdkdngggaaDoor
/- New disks (reference): contract. -/
namespace Go.Proofs.YthnmfmdkdngggaaDoor
set_option maxRecDepth 100000
set_option maxHeartbeats 16000000
open Go Go.RowKit
set_option linter.unusedSimpArgs false
attribute [local irreducible] zY zX Step zC Sub zL zI Fn
def zStr : PV := .agg [.val (.slice none 0 0), .val (.int .i64 0)]
theorem flat_zs : ∀ t : Nat, PL0s (flat (List.replicate t zStr)) (flat (strs (List.replicate t ([], 0))))
  | 0 => .nil
  | t + 1 => .cons .nil (.cons (.refl _) (flat_zs t))
theorem zStr_cells (t : Nat) : ∀ e ∈ List.replicate t zStr, e.cells.length = 2 := fun e he => by
  rw [List.eq_of_mem_replicate he]
  rfl
theorem new7_fn (t : Nat) (h1 : 1 ≤ t) (h64 : t ≤ 64) : Fn Tryd.prog 31 [.val (.int .i64 t)] (.tup [wM 0 (List.replicate t ([], 0)) (List.replicate t ([], 0)), .val (.int .i64 0)]) := by
  have g1 : decide ((t : Int) < 1) = false := decide_eq_false (by omega)
  have g2 : decide ((64 : Int) < t) = false := decide_eq_false (by omega)
  have g3 : t * 2 ≤ 16777216 ∧ 32 * t ≤ 281474976710656 ∧ t ≤ maxLen := by simp only [maxLen]; omega
  have g4 := zStr_cells t
  refine Fn.weakT (l := [.agg [.val (.int .u64 0), .sl (List.replicate t zStr), .sl (List.replicate t zStr)], .val (.int .i64 0)]) ?_ (.cons (.agg (.cons (.refl _) (.cons (.sl (by simp [strs]) (flat_zs t)) (.cons (.sl (by simp [strs]) (flat_zs t)) .nil)))) (.cons (.refl _) .nil))
  refine yM Tryd.func31 rfl Tryd.ntmps31 (Nat.le_of_ble_eq_true rfl) ?_
  repeat' ((refine zX.is ?_; first | refine zX.seq ?_ | (refine zX.isR (id := 0) ?_; refine zX.zV [0] [2, 4, 13, 17] (by repeat' first | exact zZ.nil | apply zZ.p rfl) (by repeat' first | exact zW.nil | apply zW.skip) ?_; (refine zY.m rfl rfl (zG rfl (by decide) rfl (by decide)) ?_); (refine zY.v rfl rfl (zK rfl rfl rfl (by decide)) ?_); refine zY.nil ?_) | (refine zX.isR (id := 1) ?_; refine zX.zV [0, 2, 3] [2, 4, 13, 17] (by repeat' first | exact zZ.nil | apply zZ.p rfl | apply zZ.ptr rfl) (by repeat' first | exact zW.nil | apply zW.boxP rfl rfl | apply zW.skip) ?_; all_goals (refine zY.v rfl rfl (zQ rfl rfl rfl (by decide)) ?_); all_goals (refine zY.v rfl rfl (by exact yI rfl rfl rfl (by exact g1) rfl (by decide)) ?_); all_goals (refine zY.v rfl rfl (zQ rfl rfl rfl (by decide)) ?_); all_goals (refine zY.gY rfl rfl (by decide) rfl (by with_reducible rfl) rfl (by decide) (zQ rfl rfl rfl (by decide)) ?_); all_goals (refine zY.gY rfl rfl (by decide) rfl (by with_reducible rfl) rfl (by decide) (by exact r_gtr rfl rfl rfl (by exact g2) rfl (by decide)) ?_); all_goals (refine zY.v rfl rfl (by exact yC rfl rfl (by with_reducible rfl) rfl rfl (by decide)) ?_); all_goals (refine zY.nil ?_)) | (refine zX.isR (id := 3) ?_; refine zX.zV [0, 2, 3] [2, 4, 13, 17] (by repeat' first | exact zZ.nil | apply zZ.p rfl | apply zZ.ptr rfl) (by repeat' first | exact zW.nil | apply zW.boxP rfl rfl | apply zW.skip) ?_; (refine zY.m rfl rfl (zG rfl (by decide) rfl (by decide)) ?_); refine zY.nil ?_) | (refine zX.isR (id := 4) ?_; refine zX.zV [0, 2, 3, 4] [2, 4, 13, 17] (by repeat' first | exact zZ.nil | apply zZ.p rfl | apply zZ.ptr rfl) (by repeat' first | exact zW.nil | apply zW.boxP rfl rfl | apply zW.skip) ?_; (refine zY.v rfl rfl (zQ rfl rfl rfl (by decide)) ?_); (refine zY.m rfl rfl (by exact w_makeVN rfl rfl rfl (by exact g3) rfl (by decide) (by rfl) rfl (by decide)) ?_); (refine zY.v rfl rfl (zJ rfl rfl rfl (by decide)) ?_); (refine zY.v rfl rfl (by exact xJ rfl rfl rfl (by omega) rfl (by decide)) ?_); (refine zY.w rfl (by exact w_storeO rfl rfl rfl rfl rfl rfl (by exact Nat.le_of_ble_eq_true rfl) rfl rfl) ?_); refine zY.nil ?_) | (refine zX.isR (id := 5) ?_; refine zX.zV [0, 2, 3, 4] [2, 4, 13, 17] (by repeat' first | exact zZ.nil | apply zZ.p rfl | apply zZ.ptr rfl) (by repeat' first | exact zW.nil | apply zW.boxP rfl rfl | apply zW.some rfl | apply zW.skip) ?_; (refine zY.v rfl rfl (zQ rfl rfl rfl (by decide)) ?_); (refine zY.m rfl rfl (by exact w_makeVN rfl rfl rfl (by exact g3) rfl (by decide) (by rfl) rfl (by decide)) ?_); (refine zY.v rfl rfl (zJ rfl rfl rfl (by decide)) ?_); (refine zY.v rfl rfl (by exact xJ rfl rfl rfl (by omega) rfl (by decide)) ?_); (refine zY.w rfl (by exact w_storeO rfl rfl rfl rfl rfl rfl (by exact Nat.le_of_ble_eq_true rfl) rfl rfl) ?_); refine zY.nil ?_) | (refine zX.isR (id := 6) ?_; refine zX.sub (sub_frz (id := 13) rfl) ?_; refine zX.sub (sub_frz (id := 17) rfl) ?_; refine zX.zV [2, 3, 4] [2, 4, 13, 17] (by repeat' first | exact zZ.nil | apply zZ.p rfl | apply zZ.ptr rfl) (by repeat' first | exact zW.nil | apply zW.boxP rfl rfl | apply zW.skip) ?_; (refine zY.v rfl rfl (zD rfl rfl rfl (by rfl) (by rfl) rfl (by decide)) ?_); (refine zY.w rfl (by exact zB rfl rfl rfl rfl rfl (by rfl) (by exact Nat.le_of_ble_eq_true rfl) rfl rfl) ?_); (refine zY.v rfl rfl (zK rfl rfl rfl (by decide)) ?_); refine zY.nil ?_) | refine zX.yN rfl (by first | assumption | with_reducible rfl) ?_ | refine zX.skip ?_ | refine zX.ret ?_))
  all_goals exact ⟨by first | exact .inl rfl | exact .inr rfl, _, Sub.refl _, .tup (rs := [.cell 2 31, .tmp 3]) (l := [.agg [.val (.int .u64 0), .sl (List.replicate t zStr), .sl (List.replicate t zStr)], .val (.int .i64 0)]) rfl (by decide) (.cons (.cellN rfl rfl (by rfl) (by rfl)) (.cons (.tmp rfl) .nil))⟩
end Go.Proofs.YthnmfmdkdngggaaDoor
/- New worlds (reference): contracts. -/
namespace Go.Proofs.YthnmfmdkdngggaaDoor
set_option maxRecDepth 100000
set_option maxHeartbeats 16000000
open Go Go.RowKit
set_option linter.unusedSimpArgs false
attribute [local irreducible] zY zX Step zC Sub zL zI Fn
/-- the free list's words -/
def freeW (t : Nat) : Nat → List Int → List Int
  | 0, l => l
  | k + 1, l => (freeW t k l).set (8 + t + 8 * k + 7) ((k : Int) + 2)
theorem freeW_len (t : Nat) (l : List Int) : ∀ k, (freeW t k l).length = l.length
  | 0 => rfl
  | k + 1 => by rw [freeW, List.length_set, freeW_len t l k]
def newW (t c : Nat) : List Int := freeW t (c - 1) ((List.replicate (8 + t + 8 * c) 0).set 1 1)
def newS (t c : Nat) (k : Nat) : AS :=
  { t := [(0, .p (.val (.int .i64 (t : Nat)))), (1, .p (.val (.int .i64 (c : Nat)))), (4, .ptr 4 0), (5, .p (.val (.int .i64 0))), (6, .ptr 6 0), (7, .p (.val (.int .i64 ((k + 1 : Nat) : Int))))],
    s := [(4, .box 27 ([.val (.int .i64 0), .val (.int .i64 0), .val (.slice none 0 0)].map AV.p)), (6, .box 27 [.p (.val (.int .i64 (t : Nat))), .p (.val (.int .i64 (c : Nat))), .own 30]), (30, rowV 22 1 (wds (freeW t k ((List.replicate (8 + t + 8 * c) 0).set 1 1))))] }
theorem new9_fn (t c : Nat) (h1 : 1 ≤ t) (h64 : t ≤ 64) (hc1 : 1 ≤ c) (hc : c ≤ 65536) : Fn Tryd.prog 30 [.val (.int .i64 t), .val (.int .i64 c)] (.tup [memV t c (newW t c), .val (.int .i64 0)]) := by
  have g1 : decide ((t : Int) < 1) = false := decide_eq_false (by omega)
  have g2 : decide ((64 : Int) < t) = false := decide_eq_false (by omega)
  have f1 : decide ((c : Int) < 0) = false := decide_eq_false (by omega)
  have f2 : decide ((65536 : Int) < c) = false := decide_eq_false (by omega)
  have g3 : (8 + t + 8 * c) * 1 ≤ 16777216 ∧ 8 * (8 + t + 8 * c) ≤ 281474976710656 ∧ 8 + t + 8 * c ≤ maxLen := by simp only [maxLen]; omega
  have g4 : IntKind.i64.wrap (8 + (t : Int)) = 8 + (t : Int) := wrap_i64 _ (by omega)
  have g4b : IntKind.i64.wrap (8 * (c : Int)) = 8 * (c : Int) := wrap_i64 _ (by omega)
  have g5 : IntKind.i64.wrap (8 + (t : Int) + 8 * (c : Int)) = ((8 + t + 8 * c : Nat) : Int) := by rw [wrap_i64 _ (by omega)]; omega
  have g6 : ∀ e ∈ List.replicate (8 + t + 8 * c) (PV.val (.int .u64 0)), e.cells.length = 1 := fun e he => by rw [List.eq_of_mem_replicate he]; rfl
  have g7 : (0 : Int) ≤ 1 ∧ (1 : Int) < (List.replicate (8 + t + 8 * c) (PV.val (.int .u64 0))).length := by simp; omega
  have g8 : (1 : Int).toNat < (List.replicate (8 + t + 8 * c) (PV.val (.int .u64 0))).length := by simp; omega
  have g9 : decide ((0 : Int) < c) = true := decide_eq_true (by omega)
  refine yM Tryd.func30 rfl Tryd.ntmps30 (Nat.le_of_ble_eq_true rfl) ?_
  repeat' (first | (refine zY.is ?_; first | refine zY.v rfl rfl (by first | exact yE rfl rfl rfl (by first | exact g4 | exact g5) rfl (by decide) | exact a_mul rfl rfl rfl (by exact g4b) rfl (by decide) | exact zQ rfl rfl rfl (by decide)) ?_ | refine zY.m rfl rfl (by exact w_makeV1 rfl rfl rfl (by exact g3) rfl (by decide) rfl (by rfl) rfl (by decide)) ?_) | (refine zX.is ?_; first | refine zX.seq ?_ | (refine zX.isR (id := 0) ?_; refine zX.zV [0, 1] [4, 6, 30] (by repeat' first | exact zZ.nil | apply zZ.p rfl) (by repeat' first | exact zW.nil | apply zW.skip) ?_; (refine zY.m rfl rfl (zG rfl (by decide) rfl (by decide)) ?_); (refine zY.v rfl rfl (zK rfl rfl rfl (by decide)) ?_); refine zY.nil ?_) | (refine zX.isR (id := 1) ?_; refine zX.zV [0, 1, 4, 5] [4, 6, 30] (by repeat' first | exact zZ.nil | apply zZ.p rfl | apply zZ.ptr rfl) (by repeat' first | exact zW.nil | apply zW.boxP rfl rfl | apply zW.skip) ?_; all_goals (refine zY.v rfl rfl (zQ rfl rfl rfl (by decide)) ?_); all_goals (refine zY.v rfl rfl (by exact yI rfl rfl rfl (by exact g1) rfl (by decide)) ?_); all_goals (refine zY.v rfl rfl (zQ rfl rfl rfl (by decide)) ?_); all_goals (refine zY.gY rfl rfl (by decide) rfl (by assumption) rfl (by decide) (zQ rfl rfl rfl (by decide)) ?_); all_goals (refine zY.gY rfl rfl (by decide) rfl (by assumption) rfl (by decide) (by exact r_gtr rfl rfl rfl (by exact g2) rfl (by decide)) ?_); all_goals (refine zY.v rfl rfl (by exact yC rfl rfl (by assumption) rfl rfl (by decide)) ?_); all_goals (refine zY.v rfl rfl (zQ rfl rfl rfl (by decide)) ?_); all_goals (refine zY.gY rfl rfl (by decide) rfl (by assumption) rfl (by decide) (zQ rfl rfl rfl (by decide)) ?_); all_goals (refine zY.gY rfl rfl (by decide) rfl (by assumption) rfl (by decide) (by exact yI rfl rfl rfl (by exact f1) rfl (by decide)) ?_); all_goals (refine zY.v rfl rfl (by exact yC rfl rfl (by assumption) rfl rfl (by decide)) ?_); all_goals (refine zY.v rfl rfl (zQ rfl rfl rfl (by decide)) ?_); all_goals (refine zY.gY rfl rfl (by decide) rfl (by assumption) rfl (by decide) (zQ rfl rfl rfl (by decide)) ?_); all_goals (refine zY.gY rfl rfl (by decide) rfl (by assumption) rfl (by decide) (by exact r_gtr rfl rfl rfl (by exact f2) rfl (by decide)) ?_); all_goals (refine zY.v rfl rfl (by exact yC rfl rfl (by assumption) rfl rfl (by decide)) ?_); all_goals (refine zY.nil ?_)) | (refine zX.isR (id := 3) ?_; refine zX.zV [0, 1, 4, 5] [4, 6, 30] (by repeat' first | exact zZ.nil | apply zZ.p rfl | apply zZ.ptr rfl) (by repeat' first | exact zW.nil | apply zW.boxP rfl rfl | apply zW.skip) ?_) | refine zX.yN rfl (by assumption) ?_ | refine zX.skip ?_))
  refine zY.buildStore rfl rfl rfl rfl rfl rfl rfl rfl rfl (by decide) (by decide) (by decide) (by rfl) (by rfl) (by rfl) (by rfl) (by rfl) ?_
  repeat' (first | (refine zY.nil ?_) | (refine zX.is ?_; first | refine zX.seq ?_ | (refine zX.isR (id := 4) ?_; refine zX.zV [0, 1, 4, 5, 6] [4, 6, 30] (by repeat' first | exact zZ.nil | apply zZ.p rfl | apply zZ.ptr rfl) (by repeat' first | exact zW.nil | apply zW.boxP rfl rfl | apply zW.some rfl) ?_; (refine zY.v rfl rfl (zQ rfl rfl rfl (by decide)) ?_); (refine zY.v rfl rfl (by exact r_gtr rfl rfl rfl (by exact g9) rfl (by decide)) ?_); refine zY.nil ?_) | (refine zX.isR (id := 5) ?_; refine zX.zV [0, 1, 4, 5, 6] [4, 6, 30] (by repeat' first | exact zZ.nil | apply zZ.p rfl | apply zZ.ptr rfl) (by repeat' first | exact zW.nil | apply zW.boxP rfl rfl | apply zW.some rfl) ?_; (refine zY.v rfl rfl (zJ rfl rfl rfl (by decide)) ?_); (refine zY.v rfl rfl (w_loadO rfl rfl rfl rfl rfl (by decide)) ?_); (refine zY.v rfl rfl (by exact vE rfl rfl rfl rfl (by exact g7) rfl (by decide)) ?_); (refine zY.w rfl (by exact w_storeV rfl rfl rfl rfl rfl (by exact g6) (by rfl) rfl (by exact g8) rfl) ?_); refine zY.nil ?_) | (refine zX.isR (id := 6) ?_; refine zX.zV [0, 1, 4, 5, 6] [4, 6, 30] (by repeat' first | exact zZ.nil | apply zZ.p rfl | apply zZ.ptr rfl) (by repeat' first | exact zW.nil | apply zW.boxP rfl rfl | apply zW.some rfl) ?_; (refine zY.v rfl rfl (zK rfl rfl rfl (by decide)) ?_); refine zY.nil ?_) | refine zX.yS rfl (by first | assumption | with_reducible rfl) ?_ | refine zX.block ?_))
  refine zX.loop (newS t c) (fun k => k + 1 ≤ c) (fun k => c - k) 0 ?h0 (by omega) ?rd
  case h0 =>
    have e0 : wds (freeW t 0 ((List.replicate (8 + t + 8 * c) 0).set 1 1)) = (List.replicate (8 + t + 8 * c) (PV.val (.int .u64 0))).set (1 : Int).toNat (.val (.int .u64 1)) := by simp [wds, freeW, List.map_set]
    unfold newS
    rw [e0]
    refine zN (is := [0, 1, 4, 5, 6, 7]) (js := [4, 6, 30]) ?_ ?_
    repeat' first | exact zZ.nil | apply zZ.p rfl | apply zZ.ptr rfl | apply zZ.own rfl | apply zZ.clo rfl | apply zZ.pt rfl | apply zZ.tup rfl | apply zZ.skip
    repeat' first | exact zW.nil | apply zW.boxP rfl rfl | apply zW.yG rfl | apply zW.some rfl | apply zW.skip
  case rd =>
    rintro k hk
    have hfl : (freeW t k ((List.replicate (8 + t + 8 * c) 0).set 1 1)).length = 8 + t + 8 * c := by rw [freeW_len]; simp
    unfold newS
    by_cases hkc : k + 1 < c
    case pos =>
      have f3 : decide (((k + 1 : Nat) : Int) < c) = true := decide_eq_true (by omega)
      have c3 : Fn Tryd.prog 12 [.val (.int .i64 (t : Nat)), .val (.int .i64 ((k + 1 : Nat) : Int)), .val (.int .i64 7)] (.p (.val (.int .i64 ((8 + t + 8 * k + 7 : Nat) : Int)))) := by
        have h := fieldRef_fn t ((k + 1 : Nat) : Int) 7 (by unfold Small; omega) (by omega) (by unfold Small; omega)
        have e : y9 t ((k + 1 : Nat) : Int) 7 = ((8 + t + 8 * k + 7 : Nat) : Int) := by unfold y9; omega
        rw [← e]; exact h
      have g10 : IntKind.i64.wrap (((k + 1 : Nat) : Int) + 1) = ((k + 2 : Nat) : Int) := by rw [wrap_i64 _ (by omega)]; omega
      have g11 : IntKind.u64.wrap ((k + 2 : Nat) : Int) = (k : Int) + 2 := by rw [wrap_u64 _ (by omega)]; omega
      have g12 := wds_cells (freeW t k ((List.replicate (8 + t + 8 * c) 0).set 1 1))
      have g13 : (0 : Int) ≤ ((8 + t + 8 * k + 7 : Nat) : Int) ∧ ((8 + t + 8 * k + 7 : Nat) : Int) < (wds (freeW t k ((List.replicate (8 + t + 8 * c) 0).set 1 1))).length := by rw [wds_len, hfl]; omega
      have g14 : ((8 + t + 8 * k + 7 : Nat) : Int).toNat < (wds (freeW t k ((List.replicate (8 + t + 8 * c) 0).set 1 1))).length := by rw [wds_len, hfl]; omega
      repeat' (first | (refine zX.is ?_; first | refine zX.seq ?_ | (refine zX.isR (id := 7) ?_; refine zX.zV [0, 1, 4, 5, 6, 7, 39] [4, 6, 30] (by repeat' first | exact zZ.nil | apply zZ.p rfl | apply zZ.ptr rfl | apply zZ.skip) (by repeat' first | exact zW.nil | apply zW.boxP rfl rfl | apply zW.some rfl) ?_; (refine zY.v rfl rfl (zQ rfl rfl rfl (by decide)) ?_); (refine zY.v rfl rfl (zQ rfl rfl rfl (by decide)) ?_); (refine zY.v rfl rfl (by exact yI rfl rfl rfl (by exact f3) rfl (by decide)) ?_); refine zY.nil ?_) | (refine zX.isR (id := 9) ?_; refine zX.yF [0, 1, 4, 5, 6, 7, 39] [4, 6, 30] (by repeat' first | exact zZ.nil | apply zZ.p rfl | apply zZ.ptr rfl) (by repeat' first | exact zW.nil | apply zW.boxP rfl rfl | apply zW.some rfl) (zX.draws ?_); all_goals (refine Draws.v rfl rfl (zJ rfl rfl rfl (by decide)) ?_); all_goals (refine Draws.v rfl rfl (w_loadO rfl rfl rfl rfl rfl (by decide)) ?_); all_goals (refine Draws.v rfl rfl (zQ rfl rfl rfl (by decide)) ?_); all_goals (refine Draws.v rfl rfl (zQ rfl rfl rfl (by decide)) ?_); all_goals (refine Draws.v rfl rfl (by exact zR (c3) rfl rfl rfl (by decide)) ?_); all_goals (refine Draws.v rfl rfl (zQ rfl rfl rfl (by decide)) ?_); all_goals (refine Draws.v rfl rfl (by exact yE rfl rfl rfl (by exact g10) rfl (by decide)) ?_); all_goals (refine Draws.v rfl rfl (by exact y5 rfl rfl (by exact g11) rfl (by decide)) ?_); all_goals (refine Draws.v rfl rfl (by exact vE rfl rfl rfl rfl (by exact g13) rfl (by decide)) ?_); all_goals ((refine Draws.done (by kernel_rfl) (by kernel_rfl) (by kernel_rfl) ?_; refine zL.w rfl (by exact w_storeV rfl rfl rfl rfl rfl (by exact g12) (by rfl) rfl (by exact g14) rfl) ?_)); all_goals (refine zL.nil ?_)) | (refine zX.isR (id := 8) ?_; refine zX.zV [0, 1, 4, 5, 6, 7, 39] [4, 6, 30] (by repeat' first | exact zZ.nil | apply zZ.p rfl | apply zZ.ptr rfl) (by repeat' first | exact zW.nil | apply zW.boxP rfl rfl | apply zW.some rfl) ?_; (refine zY.v rfl rfl (zQ rfl rfl rfl (by decide)) ?_); (refine zY.v rfl rfl (by exact yE rfl rfl rfl (by exact g10) rfl (by decide)) ?_); (refine zY.v rfl rfl (zK rfl rfl rfl (by decide)) ?_); refine zY.nil ?_) | refine zX.yS rfl (by first | assumption | with_reducible rfl) ?_ | refine zX.skip ?_ | refine zX.block ?_) | refine yH.n ?_)
      refine ⟨k + 1, ?_, by omega, by omega⟩
      have e1 : wds (freeW t (k + 1) ((List.replicate (8 + t + 8 * c) 0).set 1 1)) = (wds (freeW t k ((List.replicate (8 + t + 8 * c) 0).set 1 1))).set ((8 + t + 8 * k + 7 : Nat) : Int).toNat (.val (.int .u64 ((k : Int) + 2))) := by rw [wds_set, Int.toNat_natCast]; rfl
      show Sub _ (newS t c (k + 1))
      unfold newS
      rw [e1]
      refine zN (is := [0, 1, 4, 5, 6, 7]) (js := [4, 6, 30]) ?_ ?_
      repeat' first | exact zZ.nil | apply zZ.p rfl | apply zZ.ptr rfl | apply zZ.own rfl | apply zZ.clo rfl | apply zZ.pt rfl | apply zZ.tup rfl | apply zZ.skip
      repeat' first | exact zW.nil | apply zW.boxP rfl rfl | apply zW.yG rfl | apply zW.some rfl | apply zW.skip
    case neg =>
      obtain rfl : k = c - 1 := by omega
      have f3 : decide (((c - 1 + 1 : Nat) : Int) < c) = false := decide_eq_false (by omega)
      repeat' ((refine zX.is ?_; first | refine zX.seq ?_ | (refine zX.isR (id := 7) ?_; refine zX.zV [0, 1, 4, 5, 6, 7, 39] [4, 6, 30] (by repeat' first | exact zZ.nil | apply zZ.p rfl | apply zZ.ptr rfl | apply zZ.skip) (by repeat' first | exact zW.nil | apply zW.boxP rfl rfl | apply zW.some rfl) ?_; (refine zY.v rfl rfl (zQ rfl rfl rfl (by decide)) ?_); (refine zY.v rfl rfl (zQ rfl rfl rfl (by decide)) ?_); (refine zY.v rfl rfl (by exact yI rfl rfl rfl (by exact f3) rfl (by decide)) ?_); refine zY.nil ?_) | (refine zX.isR (id := 10) ?_; refine zX.sub ((sub_frzE 30 22 1 (wds (newW t c)) rfl)) ?_; refine zX.zV [4, 5, 6] [4, 6, 30] (by repeat' first | exact zZ.nil | apply zZ.p rfl | apply zZ.ptr rfl) (by repeat' first | exact zW.nil | apply zW.boxP rfl rfl | apply zW.skip) ?_; (refine zY.v rfl rfl (zD rfl rfl rfl (by rfl) (by rfl) rfl (by decide)) ?_); (refine zY.w rfl (by exact zB rfl rfl rfl rfl rfl (by rfl) (by exact Nat.le_of_ble_eq_true rfl) rfl rfl) ?_); (refine zY.v rfl rfl (zK rfl rfl rfl (by decide)) ?_); refine zY.nil ?_) | refine zX.yN rfl (by assumption) ?_ | refine zX.exit ?_ | refine zX.ret ?_))
      all_goals exact ⟨by first | exact .inl rfl | exact .inr rfl, _, Sub.refl _, .tup (rs := [.cell 4 27, .tmp 5]) (l := [.agg [.val (.int .i64 t), .val (.int .i64 c), .sl (wds (newW t c))], .val (.int .i64 0)]) rfl (by decide) (.cons (.cellN rfl rfl (by rfl) (by rfl)) (.cons (.tmp rfl) .nil))⟩
theorem new10_fn (t c : Nat) (h1 : 1 ≤ t) (h64 : t ≤ 64) (hc1 : 1 ≤ c) (hc : c ≤ 65536) : Fn Tryd.prog 8 [.val (.int .i64 t), .val (.int .i64 c)] (.p (Wd.pv ⟨t, c, newW t c, 0, List.replicate t ([], 0), List.replicate t ([], 0)⟩)) := by
  have c1 := new9_fn t c h1 h64 hc1 hc
  have c2 := new7_fn t h1 h64
  refine yM Tryd.func8 rfl Tryd.ntmps8 (Nat.le_of_ble_eq_true rfl) ?_
  repeat' ((refine zX.is ?_; first | refine zX.seq ?_ | (refine zX.isR (id := 0) ?_; refine zX.zV [0, 1] [4, 5, 7] (by repeat' first | exact zZ.nil | apply zZ.p rfl) (by repeat' first | exact zW.nil | apply zW.skip) ?_; (refine zY.m rfl rfl (zG rfl (by decide) rfl (by decide)) ?_); refine zY.nil ?_) | (refine zX.isR (id := 1) ?_; refine zX.zV [0, 1, 4] [4, 5, 7] (by repeat' first | exact zZ.nil | apply zZ.p rfl | apply zZ.ptr rfl) (by repeat' first | exact zW.nil | apply zW.boxP rfl rfl | apply zW.skip) ?_; (refine zY.v rfl rfl (zQ rfl rfl rfl (by decide)) ?_); (refine zY.v rfl rfl (zQ rfl rfl rfl (by decide)) ?_); (refine zY.v rfl rfl (by exact yU (c1) rfl rfl rfl (by decide)) ?_); (refine zY.v rfl rfl (yD rfl rfl rfl (by decide)) ?_); (refine zY.v rfl rfl (zF rfl rfl rfl rfl (by decide)) ?_); (refine zY.v rfl rfl (zF rfl rfl rfl rfl (by decide)) ?_); (refine zY.m rfl rfl (zG rfl (by decide) rfl (by decide)) ?_); (refine zY.w rfl (by exact zB rfl rfl rfl rfl rfl (by rfl) (by exact Nat.le_of_ble_eq_true rfl) rfl rfl) ?_); (refine zY.v rfl rfl (zK rfl rfl rfl (by decide)) ?_); refine zY.nil ?_) | (refine zX.isR (id := 2) ?_; refine zX.zV [0, 4, 5] [4, 5, 7] (by repeat' first | exact zZ.nil | apply zZ.p rfl | apply zZ.ptr rfl) (by repeat' first | exact zW.nil | apply zW.boxP rfl rfl | apply zW.skip) ?_; (refine zY.v rfl rfl (zQ rfl rfl rfl (by decide)) ?_); (refine zY.v rfl rfl (by exact yU (c2) rfl rfl rfl (by decide)) ?_); (refine zY.v rfl rfl (yD rfl rfl rfl (by decide)) ?_); (refine zY.v rfl rfl (zF rfl rfl rfl rfl (by decide)) ?_); (refine zY.v rfl rfl (zF rfl rfl rfl rfl (by decide)) ?_); (refine zY.m rfl rfl (zG rfl (by decide) rfl (by decide)) ?_); (refine zY.w rfl (by exact zB rfl rfl rfl rfl rfl (by rfl) (by exact Nat.le_of_ble_eq_true rfl) rfl rfl) ?_); (refine zY.v rfl rfl (zK rfl rfl rfl (by decide)) ?_); refine zY.nil ?_) | (refine zX.isR (id := 3) ?_; refine zX.zV [4, 5, 7] [4, 5, 7] (by repeat' first | exact zZ.nil | apply zZ.ptr rfl) (by repeat' first | exact zW.nil | apply zW.boxP rfl rfl) ?_; (refine zY.v rfl rfl (zD rfl rfl rfl (by rfl) (by rfl) rfl (by decide)) ?_); (refine zY.v rfl rfl (zD rfl rfl rfl (by rfl) (by rfl) rfl (by decide)) ?_); (refine zY.v rfl rfl (zT rfl (by rfl) (by rfl) (by rfl) (by rfl) rfl (by decide)) ?_); (refine zY.w rfl (by exact zB rfl rfl rfl rfl rfl (by rfl) (by exact Nat.le_of_ble_eq_true rfl) rfl rfl) ?_); refine zY.nil ?_) | refine zX.ret ?_))
  all_goals exact ⟨by first | exact .inl rfl | exact .inr rfl, _, Sub.refl _, .p (r := .cell 4 33) rfl (.cellN rfl rfl (by rfl) (by rfl))⟩
end Go.Proofs.YthnmfmdkdngggaaDoor
/- Operations that step alone, by evaluation: the document's example. -/
namespace Go.Proofs.YthnmfmdkdngggaaDoor
set_option maxRecDepth 100000
set_option maxHeartbeats 16000000
open Go Go.RowKit
set_option linter.unusedSimpArgs false
theorem run_keeps {α : Type} {good : α → Prop} {me : Nat} {f : Nat → Bool} : ∀ {p : Pr α} {n b i j : Nat} {W W' : Wd} {x : α}, p.xA good n → vB b W → p.run (wSt me f) (W, i) = .done x (W', j) →
    i ≤ j ∧ vB (b + 1000 * (j - i)) W' ∧ W'.t = W.t ∧ W'.c = W.c ∧ W'.r0.length = W.r0.length ∧ W'.ws.length = W.ws.length ∧ good x
  | .ret _, n, b, i, j, W, W', x, hf, h, hr => by
    rw [yQ] at hr
    injection hr with e1 e2
    injection e2 with e2 e3
    subst e1 e2 e3
    exact ⟨Nat.le_refl _, h.le (by omega), rfl, rfl, rfl, rfl, hf⟩
  | .stuck, _, _, _, _, _, _, _, _, _, hr => by cases hr
  | .ask q k, n, b, i, j, W, W', x, hf, h, hr => by
    rw [wG] at hr
    have hr2 : (k (doX W me q (f i)).2).run (wSt me f) ((doX W me q (f i)).1, i + 1) = .done x (W', j) := hr
    obtain ⟨h1, h2⟩ := doX_ok h hf.1 me (f i)
    obtain ⟨k1, k2, k3, k4, _⟩ := doX_keeps W me q (f i)
    obtain ⟨a1, a2, a3, a4, a5, a6, a7⟩ := run_keeps (hf.2 _ h2) h1 hr2
    exact ⟨by omega, a2.le (by omega), a3.trans k1, a4.trans k2, a5.trans k3, a6.trans k4, a7⟩
def wd0 : Wd := ⟨0, 0, [], 0, [], []⟩
structure Res where
  o : OutI
  W : Wd
  m : Nat
/-- what an operation answers, that steps alone -/
def resW (p : Pr OutI) (me : Nat) (f : Nat → Bool) (W : Wd) : Res := match p.run (wSt me f) (W, 0) with
  | .done o s => ⟨o, s.1, s.2⟩
  | _ => ⟨⟨0, false, 0⟩, wd0, 1000⟩
def newD (t c : Nat) : Wd := ⟨t, c, newW t c, 0, List.replicate t ([], 0), List.replicate t ([], 0)⟩
theorem freeW_U (t : Nat) {l : List Int} (hl : ∀ x ∈ l, U x) : ∀ k, k ≤ 65536 → ∀ x ∈ freeW t k l, U x
  | 0, _, x, hx => hl x hx
  | k + 1, hk, x, hx => by
    rw [freeW] at hx
    rcases List.mem_or_eq_of_mem_set hx with hx | rfl
    · exact freeW_U t hl k (by omega) x hx
    · unfold U; omega
theorem newD_ok {t c : Nat} (h1 : t ≤ 64) (h2 : c ≤ 65536) : vB 0 (newD t c) :=
  ⟨freeW_U t (fun x hx => by
    rcases List.mem_or_eq_of_mem_set hx with hx | rfl
    · rw [List.eq_of_mem_replicate hx]; exact U.zero
    · unfold U; decide) _ (by omega), by show (newW t c).length ≤ _; rw [newW, freeW_len]; simp; omega, rfl, by show (List.replicate t _).length ≤ _; simp; omega, fun p hp => by rw [List.eq_of_mem_replicate hp]; exact Nat.le_refl _⟩
theorem opOK_of {t k u v w : Int} (ht : 1 ≤ t ∧ t ≤ 64) (hu : 1 ≤ u ∧ u ≤ 65536) (hv : k = 7 ∨ k = 23 → v = 1 ∨ v = 2) (hw : U w) : OpOK t k u v w := ⟨fun _ => ⟨by unfold Small; omega, by omega, by omega⟩, hv, hw⟩
/-- an operation that steps alone, in a world: its contract, and what is kept -/
structure Al (B : Nat) (me : Nat) (k u v w : Int) (most : Nat) (fail : List Bool) (W : Wd) (R : Res) : Prop where
  fn : Fn Tryd.prog 9 [W.pv, .val (.int .i64 me), opV k u v w, .val (.int .i64 most), .sl (bools fail)] (.tup [R.W.pv, outV R.o.e R.o.is 0 R.o.w, .val (.bool true)])
  nil : fail = [] → Fn Tryd.prog 9 [W.pv, .val (.int .i64 me), opV k u v w, .val (.int .i64 most), y8] (.tup [R.W.pv, outV R.o.e R.o.is 0 R.o.w, .val (.bool true)])
  ok : vB (B + 20000) R.W
  t : R.W.t = W.t
  r0 : R.W.r0.length = W.r0.length
  ws : R.W.ws.length = W.ws.length
theorem al_of {B me : Nat} {k u v w : Int} {most : Nat} {fail : List Bool} {W : Wd} {R : Res} (hr : (opP W.t k u v w).run (wSt me (xV fail)) (W, 0) = .done R.o (R.W, R.m)) (hop : OpOK W.t k u v w) (hW : vB B W) (hme : me < W.r0.length) (hm : R.m ≤ most) (h20 : most ≤ 20) (hB : B ≤ 500000) : Al B me k u v w most fail W R := by
  have hk := run_keeps (fine_op hop) hW hr
  refine ⟨alone_fn B W R.W me k u v w most fail R.m R.o hW hme hop hr hm (by omega) (by omega), fun e => ?_, hk.2.1.le (by omega), hk.2.2.1, hk.2.2.2.2.1, hk.2.2.2.2.2.1⟩
  subst e
  exact alone_nil B W R.W me k u v w most R.m R.o hW hme hop hr hm (by omega) (by omega)
/-! ### The document's example -/
def shR1 : Res := resW (opP 1 20 1 0 0) 0 (xV []) (newD 1 1)
def shR2 : Res := resW (opP 1 7 1 1 0) 0 (xV []) shR1.W
def shR3 : Res := resW (opP 1 7 1 1 0) 0 (xV []) shR2.W
def shR4 : Res := resW (opP 1 22 1 0 1) 0 (xV []) shR2.W
theorem sh1 : (opP 1 20 1 0 0).run (wSt 0 (xV [])) (newD 1 1, 0) = .done shR1.o (shR1.W, shR1.m) := by kernel_rfl
theorem sh2 : (opP 1 7 1 1 0).run (wSt 0 (xV [])) (shR1.W, 0) = .done shR2.o (shR2.W, shR2.m) := by kernel_rfl
theorem sh3 : (opP 1 7 1 1 0).run (wSt 0 (xV [])) (shR2.W, 0) = .done shR3.o (shR3.W, shR3.m) := by kernel_rfl
theorem sh4 : (opP 1 22 1 0 1).run (wSt 0 (xV [])) (shR2.W, 0) = .done shR4.o (shR4.W, shR4.m) := by kernel_rfl
theorem sh5 : shR1.o.w = 1 ∧ shR2.o.is = true ∧ shR3.o.is = true ∧ shR4.o.is = true := by refine ⟨?_, ?_, ?_, ?_⟩ <;> kernel_rfl
def shB : List Int := encL 1 1 0 0 0 0
theorem sh6 : shR2.W.r0 = [(wV shB, ((wV shB).length : Int))] := by kernel_rfl
theorem sh7 : shR3.W.r0 = [(wV shB, ((wV shB).length : Int))] := by kernel_rfl
theorem sh8 : (shB.all fun x => decide (0 ≤ x) && decide (x < 256)) = true ∧ (decide (1 ≤ shB.length) && decide (shB.length ≤ 65535)) = true := by refine ⟨?_, ?_⟩ <;> kernel_rfl
theorem sh9 : shR1.W.t = 1 ∧ shR2.W.t = 1 ∧ shR1.m ≤ 20 ∧ shR2.m ≤ 20 ∧ shR3.m ≤ 20 ∧ shR4.m ≤ 20 := by refine ⟨?_, ?_, ?_, ?_, ?_, ?_⟩ <;> first | exact Nat.le_of_ble_eq_true (by kernel_rfl) | kernel_rfl
theorem al_sh : Al 0 0 20 1 0 0 20 [] (newD 1 1) shR1 ∧ Al 20000 0 7 1 1 0 20 [] shR1.W shR2 ∧ Al 40000 0 7 1 1 0 20 [] shR2.W shR3 ∧ Al 40000 0 22 1 0 1 20 [] shR2.W shR4 := by
  obtain ⟨t1, t2, m1, m2, m3, m4⟩ := sh9
  have a1 : Al 0 0 20 1 0 0 20 [] (newD 1 1) shR1 := al_of sh1 (opOK_of (by decide) (by decide) (by decide) U.zero) (newD_ok (by decide) (by decide)) (by decide) m1 (by decide) (by decide)
  have a2 : Al 20000 0 7 1 1 0 20 [] shR1.W shR2 := al_of (by rw [t1]; exact sh2) (opOK_of (by rw [t1]; decide) (by decide) (by decide) U.zero) a1.ok (by rw [a1.r0]; decide) m2 (by decide) (by decide)
  have z1 : U 1 := by unfold U; decide
  exact ⟨a1, a2, al_of (by rw [t2]; exact sh3) (opOK_of (by rw [t2]; decide) (by decide) (by decide) U.zero) a2.ok (by rw [a2.r0, a1.r0]; decide) m3 (by decide) (by decide),
    al_of (by rw [t2]; exact sh4) (opOK_of (by rw [t2]; decide) (by decide) (by decide) z1) a2.ok (by rw [a2.r0, a1.r0]; decide) m4 (by decide) (by decide)⟩
end Go.Proofs.YthnmfmdkdngggaaDoor
/- A world, and what makes accesses of it at once: contracts. -/
namespace Go.Proofs.YthnmfmdkdngggaaDoor
set_option maxRecDepth 100000
set_option maxHeartbeats 16000000
open Go Go.RowKit
set_option linter.unusedSimpArgs false
set_option linter.unusedVariables false
attribute [local irreducible] zY zX Step zC Sub zL zI Fn
def ptrB (k : Nat) : Blk := .box 74 [.ptr k 0]
def meB : Blk := .box 3 [.p (.val (.int .i64 0))]
def wldB (W : Wd) : Blk := .box 33 (W.pv.cells.map AV.p)
theorem doX_fnQ {b : Nat} {W : Wd} {q : Ned} (h : vB b W) (hb : b ≤ 900000) (hq : vV q) {me : Nat} (hme : me < W.r0.length) (f : Bool) :
    Fn Tryd.prog 15 [W.pv, .val (.int .i64 me), accQ q, .val (.bool f)] (.tup [(doX W me q f).1.pv, resV (doX W me q f).2]) := by
  refine (doX_fn h hb hq hme f).weakA (.cons (.refl _) (.cons (.refl _) (.cons (.agg (.cons (.refl _) (.cons (.refl _) (.cons (.refl _) (.cons (.refl _) (.cons ?_ (.cons (.refl _) .nil))))))) (.cons (.refl _) .nil))))
  rcases hq.d with ⟨_, e⟩ | ⟨_, bs, _, _, e⟩
  · rw [e]; exact .nil
  · rw [e, bytsOf_byts]; exact .refl _
theorem direct1_fn {b : Nat} {W : Wd} {q : Ned} (h : vB b W) (hb : b ≤ 900000) (hq : vV q) (hme : 0 < W.r0.length) :
    FnE Tryd.prog 43 [.p (accQ q), .ptr 1000 0, .ptr 1001 0] [ptrB 1002, meB, wldB W] (.ret (.p (resV (doX W 0 q false).2))) [ptrB 1002, meB, wldB (doX W 0 q false).1] := by
  have c1 : Fn Tryd.prog 15 [W.pv, .val (.int .i64 0), accQ q, .val (.bool false)] (.tup [(doX W 0 q false).1.pv, resV (doX W 0 q false).2]) := doX_fnQ h hb hq (me := 0) hme false
  generalize doX W 0 q false = dd at *
  obtain ⟨⟨t2, u2, ws2, root2, r02, r12⟩, rr⟩ := dd
  obtain ⟨t1, u1, ws1, root1, r01, r11⟩ := W
  dsimp only at c1 ⊢
  clear h hq hme
  refine vK Tryd.func43 rfl Tryd.ntmps43 (Nat.le_of_ble_eq_true rfl) (by decide) ?_
  repeat' ((refine zX.is ?_; first | refine zX.seq ?_ | (refine zX.isR (id := 0) ?_; refine zX.zV [0, 1, 2] [3, 4, 5, 6, 1000, 1001, 1002] (by repeat' first | exact zZ.nil | apply zZ.p rfl | apply zZ.ptr rfl) (by repeat' first | exact zW.nil | apply zW.boxP rfl rfl | apply zW.some rfl | apply zW.skip) ?_; (refine zY.m rfl rfl (yX rfl rfl rfl (by decide)) ?_); (refine zY.m rfl rfl (zG rfl (by decide) rfl (by decide)) ?_); refine zY.nil ?_) | (refine zX.isR (id := 1) ?_; refine zX.yF [1, 2, 3, 4] [3, 4, 5, 6, 1000, 1001, 1002] (by repeat' first | exact zZ.nil | apply zZ.ptr rfl) (by repeat' first | exact zW.nil | apply zW.boxP rfl rfl | apply zW.some rfl | apply zW.skip) (zX.draws ?_); all_goals (refine Draws.v rfl rfl (w_loadP rfl rfl rfl rfl rfl (by decide)) ?_); all_goals (refine Draws.v rfl rfl (a_nilR rfl rfl rfl (by decide)) ?_); all_goals (refine Draws.v rfl rfl (zD rfl rfl rfl (by rfl) (by rfl) rfl (by decide)) ?_); all_goals (refine Draws.v rfl rfl (zA rfl rfl rfl rfl rfl (by decide)) ?_); all_goals (refine Draws.v rfl rfl (zD rfl rfl rfl (by rfl) (by rfl) rfl (by decide)) ?_); all_goals (refine Draws.v rfl rfl (by exact yU (c1) rfl rfl rfl (by decide)) ?_); all_goals (refine Draws.v rfl rfl (yD rfl rfl rfl (by decide)) ?_); all_goals (refine Draws.v rfl rfl (zF rfl rfl rfl rfl (by decide)) ?_); all_goals (refine Draws.v rfl rfl (zF rfl rfl rfl rfl (by decide)) ?_); all_goals (refine Draws.m rfl rfl (zG rfl (by decide) rfl (by decide)) ?_); all_goals (refine Draws.m rfl rfl (zG rfl (by decide) rfl (by decide)) ?_); all_goals (((refine Draws.late2 [8] 2 [0, 1, 2, 3, 4, 5, 6, 7, 8, 9, 10] (by kernel_rfl) (by kernel_rfl) (by kernel_rfl) (by kernel_rfl) (by kernel_rfl) ?_ (vM.consD 3 [0, 1, 2, 3, 4, 5, 6, 7, 9, 10] (by kernel_rfl) (by kernel_rfl) ?_ vM.nil)) <;> (repeat' (first | refine xW.many (by rfl) ?_ | refine xB.cons ?_ ?_ | exact xB.nil | refine wE.v rfl rfl rfl (zF rfl rfl rfl rfl (by decide)) ?_ | refine wE.w rfl rfl (by exact zB rfl rfl rfl rfl rfl (by rfl) (by exact Nat.le_of_ble_eq_true rfl) rfl rfl) ?_ | refine xW.fin (by rfl) ?_))))) | (refine zX.isR (id := 2) ?_; refine zX.zV [1, 4, 5, 6] [3, 4, 5, 6, 1000, 1001, 1002] (by repeat' first | exact zZ.nil | apply zZ.ptr rfl) (by repeat' first | exact zW.nil | apply zW.boxP rfl rfl | apply zW.some rfl) ?_; (refine zY.v rfl rfl (w_loadP rfl rfl rfl rfl rfl (by decide)) ?_); (refine zY.v rfl rfl (zD rfl rfl rfl (by rfl) (by rfl) rfl (by decide)) ?_); (refine zY.v rfl rfl (a_nilR rfl rfl rfl (by decide)) ?_); (refine zY.w rfl (by exact zB rfl rfl rfl rfl rfl (by rfl) (by exact Nat.le_of_ble_eq_true rfl) rfl rfl) ?_); refine zY.nil ?_) | (refine zX.isR (id := 3) ?_; refine zX.zV [4, 6] [3, 4, 5, 6, 1000, 1001, 1002] (by repeat' first | exact zZ.nil | apply zZ.ptr rfl) (by repeat' first | exact zW.nil | apply zW.boxP rfl rfl | apply zW.some rfl) ?_; (refine zY.v rfl rfl (zD rfl rfl rfl (by rfl) (by rfl) rfl (by decide)) ?_); (refine zY.w rfl (by exact zB rfl rfl rfl rfl rfl (by rfl) (by exact Nat.le_of_ble_eq_true rfl) rfl rfl) ?_); refine zY.nil ?_) | refine zX.ret ?_))
  all_goals exact ⟨.inl rfl, _, Sub.refl _, .p (r := .cell 4 60) rfl (.cellN rfl rfl (by rfl) (by rfl)), xK (by repeat' first | exact trivial | rfl | constructor)⟩
def wldSt (s : Wd × Nat) (q : Ned) : Ans (Wd × Nat) := bif decide (s.2 < 700) then .ret (doX s.1 0 q false).2 ((doX s.1 0 q false).1, s.2 + 1) else .out
theorem wldSt_st : DirSt wldSt := ⟨fun W i q hi => by
  show (bif decide (i < 700) then _ else _) = _
  rw [decide_eq_true hi, cond_true]⟩
def hWld : Hnd where
  σ := Wd × Nat
  fn := 43
  b0 := fun _ => ptrB 1002
  b1 := fun _ => meB
  b2 := fun s => wldB s.1
  ok := fun s => s.2 ≤ 700 ∧ vB (1000 * s.2) s.1 ∧ s.1.r0.length = 1
  st := wldSt
  stOK := ⟨fun s q r s' hok hq hm => by
    unfold wldSt at hm
    cases hd : decide (s.2 < 700) <;> rw [hd] at hm
    · cases hm
    · rw [cond_true] at hm
      injection hm with e1 e2
      subst e1 e2
      obtain ⟨h1, h2, h3⟩ := hok
      have h4 := of_decide_eq_true hd
      obtain ⟨g1, g2⟩ := doX_ok h2 hq 0 false
      obtain ⟨_, _, k3, _, _⟩ := doX_keeps s.1 0 q false
      exact ⟨g2, by show s.2 + 1 ≤ 700; omega, g1.le (by show _ ≤ 1000 * (s.2 + 1); omega), k3.trans h3⟩, fun s q q' s' hok hq hm => by
    unfold wldSt at hm
    cases hd : decide (s.2 < 700) <;> rw [hd] at hm <;> cases hm⟩
  has := inferInstance
  okE := fun _ m hm => ⟨by
    show (decide (1000 ≤ 1002 ∧ 1002 < 1000 + m) && true) = true
    simp; omega, rfl, rfl⟩
  ren := fun _ _ => ⟨rfl, rfl, rfl⟩
  nk := fun _ => ⟨fun i hi => by
    show Blk.box _ [if 1002 = i then AV.any else AV.ptr 1002 0] = _
    rw [if_neg (by omega)]
    rfl, fun _ _ => rfl, fun _ _ => rfl⟩
  doOK := fun s q hok hq => by
    unfold wldSt
    cases hd : decide (s.2 < 700)
    · exact trivial
    · exact direct1_fn hok.2.1 (by have := hok.1; omega) hq (by have := hok.2.2; omega)
theorem hWld_st : DirSt hWld.st := wldSt_st
theorem wSt_st (me : Nat) (hme : me = 0) : DirSt (wSt me (xV [])) := ⟨fun W i q hi => by
  subst hme
  have : xV [] i = false := by simp [xV]
  unfold wSt
  rw [this]⟩
theorem direct_fn (W : Wd) : FnX Tryd.prog 19 [.ptr 1000 0, .p (.val (.int .i64 0))] [wldB W] (.clo 43 [1001, 1002]) [wldB W] [ptrB 1000, meB] := by
  obtain ⟨t1, u1, ws1, root1, r01, r11⟩ := W
  refine fn_ofX [1000, 2, 3] Tryd.func19 rfl Tryd.ntmps19 (Nat.le_of_ble_eq_true rfl) (by decide) rfl rfl ?_
  repeat' ((refine zX.is ?_; first | refine zX.seq ?_ | (refine zX.isR (id := 0) ?_; refine zX.zV [0, 1] [2, 3, 1000] (by repeat' first | exact zZ.nil | apply zZ.p rfl | apply zZ.ptr rfl) (by repeat' first | exact zW.nil | apply zW.boxP rfl rfl | apply zW.skip) ?_; (refine zY.m rfl rfl (w_boxPtr rfl rfl rfl (by decide)) ?_); (refine zY.m rfl rfl (w_boxV rfl rfl rfl rfl (by decide)) ?_); (refine zY.v rfl rfl (zK rfl rfl rfl (by decide)) ?_); refine zY.nil ?_) | (refine zX.isR (id := 1) ?_; refine zX.zV [2, 3, 4] [2, 3, 1000] (by repeat' first | exact zZ.nil | apply zZ.p rfl | apply zZ.ptr rfl) (by repeat' first | exact zW.nil | apply zW.boxP rfl rfl | apply zW.some rfl) ?_; (refine zY.v rfl rfl (wO rfl (by rfl) rfl (by decide)) ?_); (refine zY.v rfl rfl (a_assignC rfl rfl rfl (by decide)) ?_); refine zY.nil ?_) | refine zX.ret ?_))
  all_goals exact ⟨.inl rfl, _, Sub.refl _, .one rfl rfl, zS (by decide) rfl (by repeat' first | exact trivial | rfl | constructor)⟩
/-- what one of them does, made at once, and stepping alone -/
theorem good_op {α : Type} {p : Pr α} {n : Nat} (hp : Good p n) {f : FuncId} {args : List AV} {res : α → AV} {good : α → Prop} {W : Wd} {i : Nat} (hf : FnH hWld f args [] res (fun _ => []) good (W, i) p) (hW : DirI W) (hok : vB (1000 * i) W) (hi : i + n ≤ 700) :
    ∃ x W' k, k ≤ n ∧ DirI W' ∧ vB (1000 * (i + k)) W' ∧ FnE Tryd.prog f args [ptrB 1002, meB, wldB W] (.ret (res x)) [ptrB 1002, meB, wldB W'] ∧ ∀ j, j + k ≤ 700 → p.run (wSt 0 (xV [])) (W, j) = .done x (W', j + k) := by
  obtain ⟨x, W', k, hk, h1, r1⟩ := hp W hW
  obtain ⟨g1, g2, g3⟩ := hf.done ⟨by show i ≤ 700; omega, hok, hW.s⟩ (r1 hWld.st hWld_st i (by omega))
  exact ⟨x, W', k, hk, h1, g2.2.1, g3, fun j hj => r1 _ (wSt_st 0 rfl) j hj⟩
def setW (W : Wd) (c : Int) (x : Int) : Wd := { W with ws := W.ws.set c.toNat x }
theorem load_w {W : Wd} {i : Nat} {c x : Int} (hc : 0 ≤ c) (hx : W.ws[c.toNat]? = some x) (hok : vB (1000 * i) W) (hs : W.r0.length = 1) (hi : i < 700) :
    FnE Tryd.prog 48 [.clo 43 [1000, 1001], .p (.val (.int .i64 c))] [ptrB 1002, meB, wldB W] (.ret (.p (.val (.int .u64 x)))) [ptrB 1002, meB, wldB W] := by
  have hn : ¬ c < 0 := by omega
  have e1 : doX W 0 ⟨0, c, 0, 0, y8, y8⟩ false = (W, ⟨x, y8, false⟩) := by
    have e0 : (decide ((0 : Int) = 5) || decide ((0 : Int) = 6)) = false := rfl
    unfold doX
    dsimp only
    rw [e0, cond_false, decide_eq_false hn, cond_false, hx]
    simp [turnR, wP hx]
  have r1 : (loadP c).run wldSt (W, i) = .done x (W, i + 1) := by
    show (Pr.ask ⟨0, c, 0, 0, y8, y8⟩ fun r => .ret r.n).run wldSt (W, i) = _
    rw [wG, wldSt_st.ret W i _ hi, e1]
    rfl
  exact ((load_h hWld (W, i) c).done ⟨by show i ≤ 700; omega, hok, hs⟩ r1).2.2
theorem store_w {W : Wd} {i : Nat} {c v : Int} (hc : 0 ≤ c) (hv : U v) (hx : c.toNat < W.ws.length) (hok : vB (1000 * i) W) (hs : W.r0.length = 1) (hi : i < 700) :
    FnE Tryd.prog 46 [.clo 43 [1000, 1001], .p (.val (.int .i64 c)), .p (.val (.int .u64 v))] [ptrB 1002, meB, wldB W] (.ret .any) [ptrB 1002, meB, wldB (setW W c v)] ∧ vB (1000 * (i + 1)) (setW W c v) := by
  have hn : ¬ c < 0 := by omega
  obtain ⟨x, hx⟩ : ∃ x, W.ws[c.toNat]? = some x := ⟨_, List.getElem?_eq_getElem hx⟩
  have e1 : doX W 0 ⟨1, c, v, 0, y8, y8⟩ false = (setW W c v, ⟨0, y8, false⟩) := by
    have e0 : (decide ((1 : Int) = 5) || decide ((1 : Int) = 6)) = false := rfl
    unfold doX
    dsimp only
    rw [e0, cond_false, decide_eq_false hn, cond_false, hx]
    simp [turnR, setW]
  have r1 : (storeP c v).run wldSt (W, i) = .done () (setW W c v, i + 1) := by
    show (Pr.ask ⟨1, c, v, 0, y8, y8⟩ fun r => .ret ()).run wldSt (W, i) = _
    rw [wG, wldSt_st.ret W i _ hi, e1]
    rfl
  have h := (store_h hWld (W, i) c v hv).done ⟨by show i ≤ 700; omega, hok, hs⟩ r1
  exact ⟨h.2.2, h.2.1.2.1⟩
end Go.Proofs.YthnmfmdkdngggaaDoor
/- What is done between an entry and a leave: contracts, in a world of accesses made at once. -/
namespace Go.Proofs.YthnmfmdkdngggaaDoor
set_option maxRecDepth 100000
set_option maxHeartbeats 16000000
open Go Go.RowKit
set_option linter.unusedSimpArgs false
set_option linter.unusedVariables false
attribute [local irreducible] zY zX Step zC Sub zL zI Fn
def pinB (x : Int) : Blk := .box 22 [.p (.val (.int .u64 x))]
def okB (ok : Bool) : Blk := .box 4 [.p (.val (.bool ok))]
def dirC : AV := .clo 43 [1000, 1001]
theorem cpin_fn (i : Int) (h : 0 ≤ i ∧ i ≤ 1000) : Fn Tryd.prog 79 [.val (.int .i64 i)] (.p (.val (.int .i64 (8 + i)))) := by
  refine vO Tryd.func79 rfl Tryd.ntmps79 (Nat.le_of_ble_eq_true rfl) ?_
  repeat' ((refine zX.is ?_; first | refine zX.seq ?_ | (refine zX.isR (id := 0) ?_; refine zX.zV [0] [] (by repeat' first | exact zZ.nil | apply zZ.p rfl) (by repeat' exact zW.nil) ?_; (refine zY.v rfl rfl (zK rfl rfl rfl (by decide)) ?_); refine zY.nil ?_) | (refine zX.isR (id := 1) ?_; refine zX.zV [0, 2] [] (by repeat' first | exact zZ.nil | apply zZ.p rfl) (by repeat' exact zW.nil) ?_; (refine zY.v rfl rfl (zQ rfl rfl rfl (by decide)) ?_); (refine zY.v rfl rfl (by exact yE rfl rfl rfl (by exact wrap_i64 _ (by omega)) rfl (by decide)) ?_); (refine zY.v rfl rfl (zK rfl rfl rfl (by decide)) ?_); refine zY.nil ?_) | refine zX.ret ?_))
  all_goals exact ⟨by first | exact .inl rfl | exact .inr rfl, gives1 rfl rfl rfl⟩
theorem body1_fn (W : Wd) (p x : Int) (ok : Bool) (hx : W.ws[8]? = some x) :
    FnE Tryd.prog 28 [.ptr 1000 0, .ptr 1001 0, .ptr 1002 0] [wldB W, pinB p, okB ok] (.ret (.tup [.p (outV 0 false 5 0), .p (.val (.bool ok))])) [wldB W, pinB x, okB ok] := by
  obtain ⟨t1, u1, ws1, root1, r01, r11⟩ := W
  have hx : ws1[8]? = some x := hx
  have g1 := wds_cells ws1
  have g2 := wds_at hx
  refine vK Tryd.func28 rfl Tryd.ntmps28 (Nat.le_of_ble_eq_true rfl) (by decide) ?_
  repeat' ((refine zX.is ?_; first | refine zX.seq ?_ | (refine zX.isR (id := 0) ?_; refine zX.zV [0, 1, 2] [3, 1000, 1001, 1002] (by repeat' first | exact zZ.nil | apply zZ.ptr rfl) (by repeat' first | exact zW.nil | apply zW.boxP rfl rfl | apply zW.skip) ?_; (refine zY.m rfl rfl (zG rfl (by decide) rfl (by decide)) ?_); (refine zY.v rfl rfl (zK rfl rfl rfl (by decide)) ?_); refine zY.nil ?_) | (refine zX.isR (id := 1) ?_; refine zX.zV [0, 1, 2, 3, 4] [3, 1000, 1001, 1002] (by repeat' first | exact zZ.nil | apply zZ.p rfl | apply zZ.ptr rfl) (by repeat' first | exact zW.nil | apply zW.boxP rfl rfl) ?_; (refine zY.v rfl rfl (zJ rfl rfl rfl (by decide)) ?_); (refine zY.v rfl rfl (zJ rfl rfl rfl (by decide)) ?_); (refine zY.v rfl rfl (zA rfl rfl rfl (by rfl) rfl (by decide)) ?_); (refine zY.v rfl rfl (by exact yL rfl rfl rfl (by exact g1) (by exact g2) rfl (by decide)) ?_); (refine zY.v rfl rfl (yK rfl rfl rfl rfl (by decide)) ?_); (refine zY.w rfl (by exact zB rfl rfl rfl rfl rfl (by rfl) (by exact Nat.le_of_ble_eq_true rfl) rfl rfl) ?_); refine zY.nil ?_) | (refine zX.isR (id := 2) ?_; refine zX.yF [2, 3, 4] [3, 1000, 1001, 1002] (by repeat' first | exact zZ.nil | apply zZ.p rfl | apply zZ.ptr rfl) (by repeat' first | exact zW.nil | apply zW.boxP rfl rfl) (zX.vU (by kernel_rfl) ?_); repeat' (first | refine xW.many (by rfl) ?_ | refine xB.cons ?_ ?_ | exact xB.nil | refine wE.v rfl rfl rfl (by first | exact zK rfl rfl rfl (by decide) | exact zT rfl (by rfl) (by rfl) (by rfl) (by rfl) rfl (by decide) | exact zA rfl rfl rfl (by rfl) rfl (by decide)) ?_ | refine wE.w rfl rfl (by exact zB rfl rfl rfl rfl rfl (by rfl) (by exact Nat.le_of_ble_eq_true rfl) rfl rfl) ?_ | refine xW.fin (by rfl) ?_)) | refine zX.ret ?_))
  all_goals exact ⟨.inl rfl, _, Sub.refl _, .tup (rs := [.cell 3 38, .tmp 4]) (l := [outV 0 false 5 0, .val (.bool ok)]) rfl (by decide) (.cons (.cellN rfl rfl (by rfl) (by rfl)) (.cons (.tmp rfl) .nil)), xK (by repeat' first | exact trivial | rfl | constructor)⟩
theorem body2_fn : FnE Tryd.prog 29 [] [] (.ret (.tup [.p (outV 0 false 6 0), .p (.val (.bool true))])) [] := by
  refine vK Tryd.func29 rfl Tryd.ntmps29 (Nat.le_of_ble_eq_true rfl) (by decide) ?_
  repeat' ((refine zX.is ?_; first | refine zX.seq ?_ | (refine zX.isR (id := 0) ?_; refine zX.zV [] [0] (by repeat' exact zZ.nil) (by repeat' first | exact zW.nil | apply zW.skip) ?_; (refine zY.m rfl rfl (zG rfl (by decide) rfl (by decide)) ?_); (refine zY.v rfl rfl (zK rfl rfl rfl (by decide)) ?_); refine zY.nil ?_) | (refine zX.isR (id := 1) ?_; refine zX.zV [0, 1] [0] (by repeat' first | exact zZ.nil | apply zZ.p rfl | apply zZ.ptr rfl) (by repeat' first | exact zW.nil | apply zW.boxP rfl rfl) ?_; (refine zY.v rfl rfl (zT rfl (by rfl) (by rfl) (by rfl) (by rfl) rfl (by decide)) ?_); (refine zY.w rfl (by exact zB rfl rfl rfl rfl rfl (by rfl) (by exact Nat.le_of_ble_eq_true rfl) rfl rfl) ?_); (refine zY.v rfl rfl (zK rfl rfl rfl (by decide)) ?_); refine zY.nil ?_) | refine zX.ret ?_))
  all_goals exact ⟨.inl rfl, _, Sub.refl _, .tup (rs := [.cell 0 38, .tmp 1]) (l := [outV 0 false 6 0, .val (.bool true)]) rfl (by decide) (.cons (.cellN rfl rfl (by rfl) (by rfl)) (.cons (.tmp rfl) .nil)), xK (by repeat' exact trivial)⟩
theorem pin_fn {W : Wd} {i : Nat} {e : Int} (he : W.ws[3]? = some e) (hlen : W.ws.length = 25) (hok : vB (1000 * i) W) (hs : W.r0.length = 1) (hi : i < 600) :
    FnE Tryd.prog 59 [dirC, .p (.val (.int .i64 0))] [ptrB 1002, meB, wldB W] (.ret .any) [ptrB 1002, meB, wldB (setW W 8 (IntKind.u64.wrap (e + 1)))] := by
  have c0 : Fn Tryd.prog 79 [.val (.int .i64 0)] (.p (.val (.int .i64 8))) := cpin_fn 0 (by decide)
  have c1 := load_w (c := 3) (by decide) he hok hs (by omega)
  have c2 := (store_w (W := W) (i := i) (c := 8) (v := IntKind.u64.wrap (e + 1)) (by decide) (wrapU_U _) (by rw [hlen]; decide) hok hs (by omega)).1
  unfold dirC
  refine vK Tryd.func59 rfl Tryd.ntmps59 (Nat.le_of_ble_eq_true rfl) (by decide) ?_
  repeat' ((refine zX.is ?_; (refine zX.isR (id := 0) ?_; refine zX.zV [0, 1] [1000, 1001, 1002] (by repeat' first | exact zZ.nil | apply zZ.p rfl | apply zZ.clo rfl) (by repeat' first | exact zW.nil | apply zW.boxP rfl rfl | apply zW.some rfl) ?_; (refine zY.v rfl rfl (zM rfl rfl rfl (by decide)) ?_); (refine zY.v rfl rfl (zQ rfl rfl rfl (by decide)) ?_); (refine zY.v rfl rfl (by exact zR (c0) rfl rfl rfl (by decide)) ?_); (refine zY.v rfl rfl (zM rfl rfl rfl (by decide)) ?_); (refine zY.ofT rfl (zI.wL [1000, 1001, 1002] (c1) rfl (by decide) (zH rfl) (by rfl) (zS (by decide) rfl (by repeat' first | exact trivial | rfl | constructor)) rfl rfl rfl rfl ?_)); (refine zY.v rfl rfl (yE rfl rfl rfl (by rfl) rfl (by decide)) ?_); (refine zY.ofT rfl (zI.wL [1000, 1001, 1002] (c2) rfl (by decide) (zH rfl) (by rfl) (zS (by decide) rfl (by repeat' first | exact trivial | rfl | constructor)) rfl rfl rfl rfl ?_)); refine zY.nil ?_)))
  all_goals exact ⟨.inr rfl, _, Sub.refl _, .none rfl, xK (by repeat' first | exact trivial | rfl | constructor)⟩
theorem unpin_fn {W : Wd} {i : Nat} (hlen : W.ws.length = 25) (hok : vB (1000 * i) W) (hs : W.r0.length = 1) (hi : i < 600) :
    FnE Tryd.prog 60 [dirC, .p (.val (.int .i64 0))] [ptrB 1002, meB, wldB W] (.ret .any) [ptrB 1002, meB, wldB (setW W 8 0)] := by
  have c0 : Fn Tryd.prog 79 [.val (.int .i64 0)] (.p (.val (.int .i64 8))) := cpin_fn 0 (by decide)
  have c2 := (store_w (W := W) (i := i) (c := 8) (v := 0) (by decide) U.zero (by rw [hlen]; decide) hok hs (by omega)).1
  unfold dirC
  refine vK Tryd.func60 rfl Tryd.ntmps60 (Nat.le_of_ble_eq_true rfl) (by decide) ?_
  repeat' ((refine zX.is ?_; (refine zX.isR (id := 0) ?_; refine zX.zV [0, 1] [1000, 1001, 1002] (by repeat' first | exact zZ.nil | apply zZ.p rfl | apply zZ.clo rfl) (by repeat' first | exact zW.nil | apply zW.boxP rfl rfl | apply zW.some rfl) ?_; (refine zY.v rfl rfl (zM rfl rfl rfl (by decide)) ?_); (refine zY.v rfl rfl (zQ rfl rfl rfl (by decide)) ?_); (refine zY.v rfl rfl (by exact zR (c0) rfl rfl rfl (by decide)) ?_); (refine zY.ofT rfl (zI.wL [1000, 1001, 1002] (c2) rfl (by decide) (zH rfl) (by rfl) (zS (by decide) rfl (by repeat' first | exact trivial | rfl | constructor)) rfl rfl rfl rfl ?_)); refine zY.nil ?_)))
  all_goals exact ⟨.inr rfl, _, Sub.refl _, .none rfl, xK (by repeat' first | exact trivial | rfl | constructor)⟩
def inW (W : Wd) (e : Int) (ok : Bool) : Wd := bif ok then setW (setW W 8 (IntKind.u64.wrap (e + 1))) 8 0 else setW (setW (setW W 8 (IntKind.u64.wrap (e + 1))) 7 1) 8 0
theorem setW_at {W : Wd} {c x : Int} (h : c.toNat < W.ws.length) : (setW W c x).ws[c.toNat]? = some x := by
  show (W.ws.set c.toNat x)[c.toNat]? = _
  rw [List.getElem?_set_self h]
theorem setW_ne {W : Wd} {c x : Int} {j : Nat} (h : c.toNat ≠ j) : (setW W c x).ws[j]? = W.ws[j]? := by
  show (W.ws.set c.toNat x)[j]? = _
  rw [List.getElem?_set_ne h]
theorem setW_len {W : Wd} {c x : Int} : (setW W c x).ws.length = W.ws.length := by
  show (W.ws.set c.toNat x).length = _
  rw [List.length_set]
theorem in1_fn {W : Wd} {i : Nat} {e : Int} (ok : Bool) (hz : W.ws[7]? = some 0) (he : W.ws[3]? = some e) (hlen : W.ws.length = 25) (hok : vB (1000 * i) W) (hs : W.r0.length = 1) (hi : i < 500) :
    FnE Tryd.prog 27 [dirC, .p (.val (.int .i64 0)), .clo 28 [1002, 1003, 1004]] [ptrB 1002, meB, wldB W, pinB 0, okB ok] (.ret (.p (outV (bif ok then 0 else 7) false (bif ok then 5 else 0) 0))) [ptrB 1002, meB, wldB (inW W e ok), pinB (IntKind.u64.wrap (e + 1)), okB ok] := by
  have l1 : W.ws[(7 : Int).toNat]? = some 0 := hz
  have c0 := load_w (c := 7) (by decide) l1 hok hs (by omega)
  have c1 := pin_fn he hlen hok hs (by omega)
  have o1 := (store_w (W := W) (i := i) (c := 8) (v := IntKind.u64.wrap (e + 1)) (by decide) (wrapU_U _) (by rw [hlen]; decide) hok hs (by omega)).2
  have a1 : (setW W 8 (IntKind.u64.wrap (e + 1))).ws[8]? = some (IntKind.u64.wrap (e + 1)) := setW_at (c := 8) (by rw [hlen]; decide)
  have n1 : (setW W 8 (IntKind.u64.wrap (e + 1))).ws.length = 25 := setW_len.trans hlen
  have s1 : (setW W 8 (IntKind.u64.wrap (e + 1))).r0.length = 1 := hs
  unfold inW
  generalize setW W 8 (IntKind.u64.wrap (e + 1)) = W1 at *
  generalize IntKind.u64.wrap (e + 1) = p1 at *
  have c2 := body1_fn W1 0 p1 ok a1
  have gt : decide ((0 : Int) = 0) = true := rfl
  cases ok
  · have c3 := (store_w (W := W1) (i := i + 1) (c := 7) (v := 1) (by decide) (by unfold U; decide) (by rw [n1]; decide) o1 s1 (by omega)).1
    have o2 := (store_w (W := W1) (i := i + 1) (c := 7) (v := 1) (by decide) (by unfold U; decide) (by rw [n1]; decide) o1 s1 (by omega)).2
    have n2 : (setW W1 7 1).ws.length = 25 := setW_len.trans n1
    have s2 : (setW W1 7 1).r0.length = 1 := s1
    generalize setW W1 7 1 = W2 at *
    have c4 := unpin_fn n2 o2 s2 (by omega)
    simp only [cond_false]
    generalize setW W2 8 0 = W3 at *
    unfold dirC at *
    refine vK Tryd.func27 rfl Tryd.ntmps27 (Nat.le_of_ble_eq_true rfl) (by decide) ?_
    repeat' ((refine zX.is ?_; first | refine zX.seq ?_ | (refine zX.isR (id := 0) ?_; refine zX.zV [0, 1, 2] [6, 7, 1000, 1001, 1002, 1003, 1004] (by repeat' first | exact zZ.nil | apply zZ.p rfl | apply zZ.clo rfl) (by repeat' first | exact zW.nil | apply zW.boxP rfl rfl | apply zW.some rfl | apply zW.skip) ?_; (refine zY.m rfl rfl (zG rfl (by decide) rfl (by decide)) ?_); refine zY.nil ?_) | (refine zX.isR (id := 1) ?_; refine zX.zV [0, 1, 2, 6] [6, 7, 1000, 1001, 1002, 1003, 1004] (by repeat' first | exact zZ.nil | apply zZ.p rfl | apply zZ.ptr rfl | apply zZ.clo rfl) (by repeat' first | exact zW.nil | apply zW.boxP rfl rfl | apply zW.some rfl | apply zW.skip) ?_; (refine zY.v rfl rfl (zM rfl rfl rfl (by decide)) ?_); (refine zY.ofT rfl (zI.wL [1000, 1001, 1002] (c0) rfl (by decide) (zH rfl) (by rfl) (zS (by decide) rfl (by repeat' first | exact trivial | rfl | constructor)) rfl rfl rfl rfl ?_)); (refine zY.v rfl rfl (by exact xR rfl rfl rfl (by exact bF (by decide)) rfl (by decide)) ?_); refine zY.nil ?_) | (refine zX.isR (id := 3) ?_; refine zX.zV [0, 1, 2, 6] [6, 7, 1000, 1001, 1002, 1003, 1004] (by repeat' first | exact zZ.nil | apply zZ.p rfl | apply zZ.ptr rfl | apply zZ.clo rfl) (by repeat' first | exact zW.nil | apply zW.boxP rfl rfl | apply zW.some rfl | apply zW.skip) ?_; (refine zY.v rfl rfl (zM rfl rfl rfl (by decide)) ?_); (refine zY.v rfl rfl (zQ rfl rfl rfl (by decide)) ?_); (refine zY.ofT rfl (zI.wL [1000, 1001, 1002] (c1) rfl (by decide) (zH rfl) (by rfl) (zS (by decide) rfl (by repeat' first | exact trivial | rfl | constructor)) rfl rfl rfl rfl ?_)); refine zY.nil ?_) | (refine zX.isR (id := 4) ?_; refine zX.zV [0, 1, 2, 6] [6, 7, 1000, 1001, 1002, 1003, 1004] (by repeat' first | exact zZ.nil | apply zZ.p rfl | apply zZ.ptr rfl | apply zZ.clo rfl) (by repeat' first | exact zW.nil | apply zW.boxP rfl rfl | apply zW.some rfl | apply zW.skip) ?_; (refine zY.v rfl rfl (zM rfl rfl rfl (by decide)) ?_); (refine zY.ofT rfl (zI.wL [1002, 1003, 1004] (c2) rfl (by decide) (xZ rfl rfl) (by rfl) (zS (by decide) rfl (by repeat' first | exact trivial | rfl | constructor)) rfl rfl rfl rfl ?_)); (refine zY.v rfl rfl (yD rfl rfl rfl (by decide)) ?_); (refine zY.v rfl rfl (zF rfl rfl rfl rfl (by decide)) ?_); (refine zY.v rfl rfl (zF rfl rfl rfl rfl (by decide)) ?_); (refine zY.m rfl rfl (zG rfl (by decide) rfl (by decide)) ?_); (refine zY.w rfl (by exact zB rfl rfl rfl rfl rfl (by rfl) (by exact Nat.le_of_ble_eq_true rfl) rfl rfl) ?_); (refine zY.v rfl rfl (zK rfl rfl rfl (by decide)) ?_); refine zY.nil ?_) | (refine zX.isR (id := 5) ?_; refine zX.zV [0, 1, 6, 7, 8] [6, 7, 1000, 1001, 1002, 1003, 1004] (by repeat' first | exact zZ.nil | apply zZ.p rfl | apply zZ.ptr rfl | apply zZ.clo rfl) (by repeat' first | exact zW.nil | apply zW.boxP rfl rfl | apply zW.some rfl) ?_; (refine zY.v rfl rfl (zQ rfl rfl rfl (by decide)) ?_); (refine zY.v rfl rfl (by exact xU rfl rfl (by exact bT (by decide)) rfl (by decide)) ?_); refine zY.nil ?_) | (refine zX.isR (id := 6) ?_; refine zX.zV [0, 1, 6, 7] [6, 7, 1000, 1001, 1002, 1003, 1004] (by repeat' first | exact zZ.nil | apply zZ.p rfl | apply zZ.ptr rfl | apply zZ.clo rfl) (by repeat' first | exact zW.nil | apply zW.boxP rfl rfl | apply zW.some rfl) ?_; (refine zY.v rfl rfl (zM rfl rfl rfl (by decide)) ?_); (refine zY.ofT rfl (zI.wL [1000, 1001, 1002] (c3) rfl (by decide) (zH rfl) (by rfl) (zS (by decide) rfl (by repeat' first | exact trivial | rfl | constructor)) rfl rfl rfl rfl ?_)); refine zY.nil ?_) | (refine zX.isR (id := 7) ?_; refine zX.zV [0, 1, 6, 7] [6, 7, 1000, 1001, 1002, 1003, 1004] (by repeat' first | exact zZ.nil | apply zZ.p rfl | apply zZ.ptr rfl | apply zZ.clo rfl) (by repeat' first | exact zW.nil | apply zW.boxP rfl rfl | apply zW.some rfl) ?_; (refine zY.v rfl rfl (zT rfl (by rfl) (by rfl) (by rfl) (by rfl) rfl (by decide)) ?_); (refine zY.w rfl (by exact zB rfl rfl rfl rfl rfl (by rfl) (by exact Nat.le_of_ble_eq_true rfl) rfl rfl) ?_); refine zY.nil ?_) | (refine zX.isR (id := 8) ?_; refine zX.zV [0, 1, 6, 7] [6, 7, 1000, 1001, 1002, 1003, 1004] (by repeat' first | exact zZ.nil | apply zZ.p rfl | apply zZ.ptr rfl | apply zZ.clo rfl) (by repeat' first | exact zW.nil | apply zW.boxP rfl rfl | apply zW.some rfl) ?_; (refine zY.v rfl rfl (zM rfl rfl rfl (by decide)) ?_); (refine zY.v rfl rfl (zQ rfl rfl rfl (by decide)) ?_); (refine zY.ofT rfl (zI.wL [1000, 1001, 1002] (c4) rfl (by decide) (zH rfl) (by rfl) (zS (by decide) rfl (by repeat' first | exact trivial | rfl | constructor)) rfl rfl rfl rfl ?_)); refine zY.nil ?_) | (refine zX.isR (id := 9) ?_; refine zX.zV [6, 7] [6, 7, 1000, 1001, 1002, 1003, 1004] (by repeat' first | exact zZ.nil | apply zZ.ptr rfl) (by repeat' first | exact zW.nil | apply zW.boxP rfl rfl | apply zW.some rfl) ?_; (refine zY.v rfl rfl (zD rfl rfl rfl (by rfl) (by rfl) rfl (by decide)) ?_); (refine zY.w rfl (by exact zB rfl rfl rfl rfl rfl (by rfl) (by exact Nat.le_of_ble_eq_true rfl) rfl rfl) ?_); refine zY.nil ?_) | refine zX.yS rfl (by assumption) ?_ | refine zX.yN rfl (by with_reducible rfl) ?_ | refine zX.skip ?_ | refine zX.ret ?_))
    all_goals exact ⟨.inl rfl, _, Sub.refl _, .p (r := .cell 6 38) rfl (.cellN rfl rfl (by rfl) (by rfl)), xK (by repeat' first | exact trivial | rfl | constructor)⟩
  · have c4 := unpin_fn n1 o1 s1 (by omega)
    simp only [cond_true]
    generalize setW W1 8 0 = W3 at *
    unfold dirC at *
    refine vK Tryd.func27 rfl Tryd.ntmps27 (Nat.le_of_ble_eq_true rfl) (by decide) ?_
    repeat' ((refine zX.is ?_; first | refine zX.seq ?_ | (refine zX.isR (id := 0) ?_; refine zX.zV [0, 1, 2] [6, 7, 1000, 1001, 1002, 1003, 1004] (by repeat' first | exact zZ.nil | apply zZ.p rfl | apply zZ.clo rfl) (by repeat' first | exact zW.nil | apply zW.boxP rfl rfl | apply zW.some rfl | apply zW.skip) ?_; (refine zY.m rfl rfl (zG rfl (by decide) rfl (by decide)) ?_); refine zY.nil ?_) | (refine zX.isR (id := 1) ?_; refine zX.zV [0, 1, 2, 6] [6, 7, 1000, 1001, 1002, 1003, 1004] (by repeat' first | exact zZ.nil | apply zZ.p rfl | apply zZ.ptr rfl | apply zZ.clo rfl) (by repeat' first | exact zW.nil | apply zW.boxP rfl rfl | apply zW.some rfl | apply zW.skip) ?_; (refine zY.v rfl rfl (zM rfl rfl rfl (by decide)) ?_); (refine zY.ofT rfl (zI.wL [1000, 1001, 1002] (c0) rfl (by decide) (zH rfl) (by rfl) (zS (by decide) rfl (by repeat' first | exact trivial | rfl | constructor)) rfl rfl rfl rfl ?_)); (refine zY.v rfl rfl (by exact xR rfl rfl rfl (by exact bF (by decide)) rfl (by decide)) ?_); refine zY.nil ?_) | (refine zX.isR (id := 3) ?_; refine zX.zV [0, 1, 2, 6] [6, 7, 1000, 1001, 1002, 1003, 1004] (by repeat' first | exact zZ.nil | apply zZ.p rfl | apply zZ.ptr rfl | apply zZ.clo rfl) (by repeat' first | exact zW.nil | apply zW.boxP rfl rfl | apply zW.some rfl | apply zW.skip) ?_; (refine zY.v rfl rfl (zM rfl rfl rfl (by decide)) ?_); (refine zY.v rfl rfl (zQ rfl rfl rfl (by decide)) ?_); (refine zY.ofT rfl (zI.wL [1000, 1001, 1002] (c1) rfl (by decide) (zH rfl) (by rfl) (zS (by decide) rfl (by repeat' first | exact trivial | rfl | constructor)) rfl rfl rfl rfl ?_)); refine zY.nil ?_) | (refine zX.isR (id := 4) ?_; refine zX.zV [0, 1, 2, 6] [6, 7, 1000, 1001, 1002, 1003, 1004] (by repeat' first | exact zZ.nil | apply zZ.p rfl | apply zZ.ptr rfl | apply zZ.clo rfl) (by repeat' first | exact zW.nil | apply zW.boxP rfl rfl | apply zW.some rfl | apply zW.skip) ?_; (refine zY.v rfl rfl (zM rfl rfl rfl (by decide)) ?_); (refine zY.ofT rfl (zI.wL [1002, 1003, 1004] (c2) rfl (by decide) (xZ rfl rfl) (by rfl) (zS (by decide) rfl (by repeat' first | exact trivial | rfl | constructor)) rfl rfl rfl rfl ?_)); (refine zY.v rfl rfl (yD rfl rfl rfl (by decide)) ?_); (refine zY.v rfl rfl (zF rfl rfl rfl rfl (by decide)) ?_); (refine zY.v rfl rfl (zF rfl rfl rfl rfl (by decide)) ?_); (refine zY.m rfl rfl (zG rfl (by decide) rfl (by decide)) ?_); (refine zY.w rfl (by exact zB rfl rfl rfl rfl rfl (by rfl) (by exact Nat.le_of_ble_eq_true rfl) rfl rfl) ?_); (refine zY.v rfl rfl (zK rfl rfl rfl (by decide)) ?_); refine zY.nil ?_) | (refine zX.isR (id := 5) ?_; refine zX.zV [0, 1, 6, 7, 8] [6, 7, 1000, 1001, 1002, 1003, 1004] (by repeat' first | exact zZ.nil | apply zZ.p rfl | apply zZ.ptr rfl | apply zZ.clo rfl) (by repeat' first | exact zW.nil | apply zW.boxP rfl rfl | apply zW.some rfl) ?_; (refine zY.v rfl rfl (zQ rfl rfl rfl (by decide)) ?_); (refine zY.v rfl rfl (by exact xU rfl rfl (by exact bF (by decide)) rfl (by decide)) ?_); refine zY.nil ?_) | (refine zX.isR (id := 8) ?_; refine zX.zV [0, 1, 6, 7] [6, 7, 1000, 1001, 1002, 1003, 1004] (by repeat' first | exact zZ.nil | apply zZ.p rfl | apply zZ.ptr rfl | apply zZ.clo rfl) (by repeat' first | exact zW.nil | apply zW.boxP rfl rfl | apply zW.some rfl) ?_; (refine zY.v rfl rfl (zM rfl rfl rfl (by decide)) ?_); (refine zY.v rfl rfl (zQ rfl rfl rfl (by decide)) ?_); (refine zY.ofT rfl (zI.wL [1000, 1001, 1002] (c4) rfl (by decide) (zH rfl) (by rfl) (zS (by decide) rfl (by repeat' first | exact trivial | rfl | constructor)) rfl rfl rfl rfl ?_)); refine zY.nil ?_) | (refine zX.isR (id := 9) ?_; refine zX.zV [6, 7] [6, 7, 1000, 1001, 1002, 1003, 1004] (by repeat' first | exact zZ.nil | apply zZ.ptr rfl) (by repeat' first | exact zW.nil | apply zW.boxP rfl rfl | apply zW.some rfl) ?_; (refine zY.v rfl rfl (zD rfl rfl rfl (by rfl) (by rfl) rfl (by decide)) ?_); (refine zY.w rfl (by exact zB rfl rfl rfl rfl rfl (by rfl) (by exact Nat.le_of_ble_eq_true rfl) rfl rfl) ?_); refine zY.nil ?_) | refine zX.yN rfl (by with_reducible rfl) ?_ | refine zX.skip ?_ | refine zX.ret ?_))
    all_goals exact ⟨.inl rfl, _, Sub.refl _, .p (r := .cell 6 38) rfl (.cellN rfl rfl (by rfl) (by rfl)), xK (by repeat' first | exact trivial | rfl | constructor)⟩
/-- once more, with a body that does nothing -/
theorem in2_fn {W : Wd} {i : Nat} {e : Int} (hz : W.ws[7]? = some 0) (he : W.ws[3]? = some e) (hlen : W.ws.length = 25) (hok : vB (1000 * i) W) (hs : W.r0.length = 1) (hi : i < 500) :
    FnE Tryd.prog 27 [dirC, .p (.val (.int .i64 0)), .p (.val (.func (.func 29) #[] #[]))] [ptrB 1002, meB, wldB W] (.ret (.p (outV 0 false 6 0))) [ptrB 1002, meB, wldB (inW W e true)] := by
  have l1 : W.ws[(7 : Int).toNat]? = some 0 := hz
  have c0 := load_w (c := 7) (by decide) l1 hok hs (by omega)
  have c1 := pin_fn he hlen hok hs (by omega)
  have o1 := (store_w (W := W) (i := i) (c := 8) (v := IntKind.u64.wrap (e + 1)) (by decide) (wrapU_U _) (by rw [hlen]; decide) hok hs (by omega)).2
  have n1 : (setW W 8 (IntKind.u64.wrap (e + 1))).ws.length = 25 := setW_len.trans hlen
  have s1 : (setW W 8 (IntKind.u64.wrap (e + 1))).r0.length = 1 := hs
  unfold inW
  generalize setW W 8 (IntKind.u64.wrap (e + 1)) = W1 at *
  have c2 := body2_fn
  have c4 := unpin_fn n1 o1 s1 (by omega)
  simp only [cond_true]
  generalize setW W1 8 0 = W3 at *
  unfold dirC at *
  refine vK Tryd.func27 rfl Tryd.ntmps27 (Nat.le_of_ble_eq_true rfl) (by decide) ?_
  repeat' ((refine zX.is ?_; first | refine zX.seq ?_ | (refine zX.isR (id := 0) ?_; refine zX.zV [0, 1, 2] [6, 7, 1000, 1001, 1002] (by repeat' first | exact zZ.nil | apply zZ.p rfl | apply zZ.clo rfl) (by repeat' first | exact zW.nil | apply zW.boxP rfl rfl | apply zW.some rfl | apply zW.skip) ?_; (refine zY.m rfl rfl (zG rfl (by decide) rfl (by decide)) ?_); refine zY.nil ?_) | (refine zX.isR (id := 1) ?_; refine zX.zV [0, 1, 2, 6] [6, 7, 1000, 1001, 1002] (by repeat' first | exact zZ.nil | apply zZ.p rfl | apply zZ.ptr rfl | apply zZ.clo rfl) (by repeat' first | exact zW.nil | apply zW.boxP rfl rfl | apply zW.some rfl | apply zW.skip) ?_; (refine zY.v rfl rfl (zM rfl rfl rfl (by decide)) ?_); (refine zY.ofT rfl (zI.wL [1000, 1001, 1002] (c0) rfl (by decide) (zH rfl) (by rfl) (zS (by decide) rfl (by repeat' first | exact trivial | rfl | constructor)) rfl rfl rfl rfl ?_)); (refine zY.v rfl rfl (by exact xR rfl rfl rfl (by exact bF (by decide)) rfl (by decide)) ?_); refine zY.nil ?_) | (refine zX.isR (id := 3) ?_; refine zX.zV [0, 1, 2, 6] [6, 7, 1000, 1001, 1002] (by repeat' first | exact zZ.nil | apply zZ.p rfl | apply zZ.ptr rfl | apply zZ.clo rfl) (by repeat' first | exact zW.nil | apply zW.boxP rfl rfl | apply zW.some rfl | apply zW.skip) ?_; (refine zY.v rfl rfl (zM rfl rfl rfl (by decide)) ?_); (refine zY.v rfl rfl (zQ rfl rfl rfl (by decide)) ?_); (refine zY.ofT rfl (zI.wL [1000, 1001, 1002] (c1) rfl (by decide) (zH rfl) (by rfl) (zS (by decide) rfl (by repeat' first | exact trivial | rfl | constructor)) rfl rfl rfl rfl ?_)); refine zY.nil ?_) | (refine zX.isR (id := 4) ?_; refine zX.zV [0, 1, 2, 6] [6, 7, 1000, 1001, 1002] (by repeat' first | exact zZ.nil | apply zZ.p rfl | apply zZ.ptr rfl | apply zZ.clo rfl) (by repeat' first | exact zW.nil | apply zW.boxP rfl rfl | apply zW.some rfl | apply zW.skip) ?_; (refine zY.v rfl rfl (zQ rfl rfl rfl (by decide)) ?_); (refine zY.ofT rfl (zI.wL [] (c2) rfl (by decide) (vI rfl rfl) (by rfl) (zS (by decide) rfl (by repeat' exact trivial)) rfl rfl rfl rfl ?_)); (refine zY.v rfl rfl (yD rfl rfl rfl (by decide)) ?_); (refine zY.v rfl rfl (zF rfl rfl rfl rfl (by decide)) ?_); (refine zY.v rfl rfl (zF rfl rfl rfl rfl (by decide)) ?_); (refine zY.m rfl rfl (zG rfl (by decide) rfl (by decide)) ?_); (refine zY.w rfl (by exact zB rfl rfl rfl rfl rfl (by rfl) (by exact Nat.le_of_ble_eq_true rfl) rfl rfl) ?_); (refine zY.v rfl rfl (zK rfl rfl rfl (by decide)) ?_); refine zY.nil ?_) | (refine zX.isR (id := 5) ?_; refine zX.zV [0, 1, 6, 7, 8] [6, 7, 1000, 1001, 1002] (by repeat' first | exact zZ.nil | apply zZ.p rfl | apply zZ.ptr rfl | apply zZ.clo rfl) (by repeat' first | exact zW.nil | apply zW.boxP rfl rfl | apply zW.some rfl) ?_; (refine zY.v rfl rfl (zQ rfl rfl rfl (by decide)) ?_); (refine zY.v rfl rfl (by exact xU rfl rfl (by exact bF (by decide)) rfl (by decide)) ?_); refine zY.nil ?_) | (refine zX.isR (id := 8) ?_; refine zX.zV [0, 1, 6, 7] [6, 7, 1000, 1001, 1002] (by repeat' first | exact zZ.nil | apply zZ.p rfl | apply zZ.ptr rfl | apply zZ.clo rfl) (by repeat' first | exact zW.nil | apply zW.boxP rfl rfl | apply zW.some rfl) ?_; (refine zY.v rfl rfl (zM rfl rfl rfl (by decide)) ?_); (refine zY.v rfl rfl (zQ rfl rfl rfl (by decide)) ?_); (refine zY.ofT rfl (zI.wL [1000, 1001, 1002] (c4) rfl (by decide) (zH rfl) (by rfl) (zS (by decide) rfl (by repeat' first | exact trivial | rfl | constructor)) rfl rfl rfl rfl ?_)); refine zY.nil ?_) | (refine zX.isR (id := 9) ?_; refine zX.zV [6, 7] [6, 7, 1000, 1001, 1002] (by repeat' first | exact zZ.nil | apply zZ.ptr rfl) (by repeat' first | exact zW.nil | apply zW.boxP rfl rfl | apply zW.some rfl) ?_; (refine zY.v rfl rfl (zD rfl rfl rfl (by rfl) (by rfl) rfl (by decide)) ?_); (refine zY.w rfl (by exact zB rfl rfl rfl rfl rfl (by rfl) (by exact Nat.le_of_ble_eq_true rfl) rfl rfl) ?_); refine zY.nil ?_) | refine zX.yN rfl (by with_reducible rfl) ?_ | refine zX.skip ?_ | refine zX.ret ?_))
  all_goals exact ⟨.inl rfl, _, Sub.refl _, .p (r := .cell 6 38) rfl (.cellN rfl rfl (by rfl) (by rfl)), xK (by repeat' first | exact trivial | rfl | constructor)⟩
theorem in3_fn {W : Wd} {i : Nat} (hz : W.ws[7]? = some 1) (hok : vB (1000 * i) W) (hs : W.r0.length = 1) (hi : i < 500) :
    FnE Tryd.prog 27 [dirC, .p (.val (.int .i64 0)), .p (.val (.func (.func 29) #[] #[]))] [ptrB 1002, meB, wldB W] (.ret (.p (outV 6 false 0 0))) [ptrB 1002, meB, wldB W] := by
  have l1 : W.ws[(7 : Int).toNat]? = some 1 := hz
  have c0 := load_w (c := 7) (by decide) l1 hok hs (by omega)
  unfold dirC at *
  refine vK Tryd.func27 rfl Tryd.ntmps27 (Nat.le_of_ble_eq_true rfl) (by decide) ?_
  repeat' (first | (refine zX.is ?_; first | refine zX.seq ?_ | (refine zX.isR (id := 0) ?_; refine zX.zV [0, 1, 2] [6, 7, 1000, 1001, 1002] (by repeat' first | exact zZ.nil | apply zZ.p rfl | apply zZ.clo rfl) (by repeat' first | exact zW.nil | apply zW.boxP rfl rfl | apply zW.some rfl | apply zW.skip) ?_; (refine zY.m rfl rfl (zG rfl (by decide) rfl (by decide)) ?_); refine zY.nil ?_) | (refine zX.isR (id := 1) ?_; refine zX.zV [0, 1, 2, 6] [6, 7, 1000, 1001, 1002] (by repeat' first | exact zZ.nil | apply zZ.p rfl | apply zZ.ptr rfl | apply zZ.clo rfl) (by repeat' first | exact zW.nil | apply zW.boxP rfl rfl | apply zW.some rfl | apply zW.skip) ?_; (refine zY.v rfl rfl (zM rfl rfl rfl (by decide)) ?_); (refine zY.ofT rfl (zI.wL [1000, 1001, 1002] (c0) rfl (by decide) (zH rfl) (by rfl) (zS (by decide) rfl (by repeat' first | exact trivial | rfl | constructor)) rfl rfl rfl rfl ?_)); (refine zY.v rfl rfl (by exact xR rfl rfl rfl (by exact bT (by decide)) rfl (by decide)) ?_); refine zY.nil ?_) | (refine zX.isR (id := 2) ?_; refine zX.zV [0, 1, 2, 6] [6, 7, 1000, 1001, 1002] (by repeat' first | exact zZ.nil | apply zZ.p rfl | apply zZ.ptr rfl | apply zZ.clo rfl) (by repeat' first | exact zW.nil | apply zW.boxP rfl rfl | apply zW.some rfl | apply zW.skip) ?_; (refine zY.v rfl rfl (zT rfl (by rfl) (by rfl) (by rfl) (by rfl) rfl (by decide)) ?_); (refine zY.w rfl (by exact zB rfl rfl rfl rfl rfl (by rfl) (by exact Nat.le_of_ble_eq_true rfl) rfl rfl) ?_); refine zY.nil ?_) | refine zX.yS rfl (by with_reducible rfl) ?_ | refine zX.ret ?_) | refine yH.r ?_)
  all_goals exact ⟨.inl rfl, _, Sub.refl _, .p (r := .cell 6 38) rfl (.cellN rfl rfl (by rfl) (by rfl)), xK (by repeat' first | exact trivial | rfl | constructor)⟩
end Go.Proofs.YthnmfmdkdngggaaDoor
/- Two answers, and two worlds, that are the same: contracts. -/
namespace Go.Proofs.YthnmfmdkdngggaaDoor
set_option maxRecDepth 100000
set_option maxHeartbeats 16000000
open Go Go.RowKit
set_option linter.unusedSimpArgs false
set_option linter.unusedVariables false
attribute [local irreducible] zY zX Step zC Sub zL zI Fn
theorem zX.loopOnce {P : Program} {n : Nat} {c : Code} {S : AS} {K : Exit → AS → Prop} (h : zX P n c S (yH (fun _ => False) K)) : zX P n (.loop c) S K :=
  zX.loop (fun _ : Unit => S) (fun _ => True) (fun _ => 0) () (Sub.refl S) trivial fun _ _ => h.mono fun e S' h1 => by
    cases e with
    | normal => exact (h1 : False).elim
    | _ => exact h1
theorem outs_fn (e : Int) (is : Bool) (n w : Int) : Fn Tryd.prog 25 [outV e is n w, outV e is n w] (.p (.val (.bool true))) := by
  have g1 : ∀ x : Int, (!decide (x = x)) = false := fun x => by simp
  have g2 : ∀ x : Bool, (!(x == x)) = false := fun x => by simp
  have g3 : decide ((0 : Int) < 0) = false := rfl
  refine vO Tryd.func25 rfl Tryd.ntmps25 (Nat.le_of_ble_eq_true rfl) ?_
  repeat' (first | refine zX.loopOnce ?_ | (refine zX.is ?_; first | refine zX.seq ?_ | (refine zX.isR (id := 0) ?_; refine zX.zV [0, 1] [2, 3] (by repeat' first | exact zZ.nil | apply zZ.p rfl) (by repeat' first | exact zW.nil | apply zW.skip) ?_; (refine zY.m rfl rfl (yX rfl rfl rfl (by decide)) ?_); (refine zY.m rfl rfl (yX rfl rfl rfl (by decide)) ?_); (refine zY.v rfl rfl (zK rfl rfl rfl (by decide)) ?_); refine zY.nil ?_) | (refine zX.isR (id := 1) ?_; refine zX.zV [2, 3, 4] [2, 3] (by repeat' first | exact zZ.nil | apply zZ.p rfl | apply zZ.ptr rfl) (by repeat' first | exact zW.nil | apply zW.boxP rfl rfl) ?_; all_goals (refine zY.v rfl rfl (zJ rfl rfl rfl (by decide)) ?_); all_goals (refine zY.v rfl rfl (zA rfl rfl rfl (by rfl) rfl (by decide)) ?_); all_goals (refine zY.v rfl rfl (zJ rfl rfl rfl (by decide)) ?_); all_goals (refine zY.v rfl rfl (zA rfl rfl rfl (by rfl) rfl (by decide)) ?_); all_goals (refine zY.v rfl rfl (by exact xR rfl rfl rfl (by exact g1 _) rfl (by decide)) ?_); all_goals (refine zY.v rfl rfl (zQ rfl rfl rfl (by decide)) ?_); all_goals (refine zY.gY rfl rfl (by decide) rfl (by assumption) rfl (by decide) (zJ rfl rfl rfl (by decide)) ?_); all_goals (refine zY.gY rfl rfl (by decide) rfl (by assumption) rfl (by decide) (zA rfl rfl rfl (by rfl) rfl (by decide)) ?_); all_goals (refine zY.gY rfl rfl (by decide) rfl (by assumption) rfl (by decide) (zJ rfl rfl rfl (by decide)) ?_); all_goals (refine zY.gY rfl rfl (by decide) rfl (by assumption) rfl (by decide) (zA rfl rfl rfl (by rfl) rfl (by decide)) ?_); all_goals (refine zY.gY rfl rfl (by decide) rfl (by assumption) rfl (by decide) (by exact r_neqB rfl rfl rfl (by exact g2 _) rfl (by decide)) ?_); all_goals (refine zY.v rfl rfl (by exact yC rfl rfl (by assumption) rfl rfl (by decide)) ?_); all_goals (refine zY.v rfl rfl (zQ rfl rfl rfl (by decide)) ?_); all_goals (refine zY.gY rfl rfl (by decide) rfl (by assumption) rfl (by decide) (zJ rfl rfl rfl (by decide)) ?_); all_goals (refine zY.gY rfl rfl (by decide) rfl (by assumption) rfl (by decide) (zA rfl rfl rfl (by rfl) rfl (by decide)) ?_); all_goals (refine zY.gY rfl rfl (by decide) rfl (by assumption) rfl (by decide) (zJ rfl rfl rfl (by decide)) ?_); all_goals (refine zY.gY rfl rfl (by decide) rfl (by assumption) rfl (by decide) (zA rfl rfl rfl (by rfl) rfl (by decide)) ?_); all_goals (refine zY.gY rfl rfl (by decide) rfl (by assumption) rfl (by decide) (by exact xR rfl rfl rfl (by exact g1 _) rfl (by decide)) ?_); all_goals (refine zY.v rfl rfl (by exact yC rfl rfl (by assumption) rfl rfl (by decide)) ?_); all_goals (refine zY.v rfl rfl (zQ rfl rfl rfl (by decide)) ?_); all_goals (refine zY.gY rfl rfl (by decide) rfl (by assumption) rfl (by decide) (zJ rfl rfl rfl (by decide)) ?_); all_goals (refine zY.gY rfl rfl (by decide) rfl (by assumption) rfl (by decide) (zA rfl rfl rfl (by rfl) rfl (by decide)) ?_); all_goals (refine zY.gY rfl rfl (by decide) rfl (by assumption) rfl (by decide) (zJ rfl rfl rfl (by decide)) ?_); all_goals (refine zY.gY rfl rfl (by decide) rfl (by assumption) rfl (by decide) (zA rfl rfl rfl (by rfl) rfl (by decide)) ?_); all_goals (refine zY.gY rfl rfl (by decide) rfl (by assumption) rfl (by decide) (by exact xR rfl rfl rfl (by exact g1 _) rfl (by decide)) ?_); all_goals (refine zY.v rfl rfl (by exact yC rfl rfl (by assumption) rfl rfl (by decide)) ?_); all_goals (refine zY.v rfl rfl (zQ rfl rfl rfl (by decide)) ?_); all_goals (refine zY.gY rfl rfl (by decide) rfl (by assumption) rfl (by decide) (zJ rfl rfl rfl (by decide)) ?_); all_goals (refine zY.gY rfl rfl (by decide) rfl (by assumption) rfl (by decide) (zA rfl rfl rfl (by rfl) rfl (by decide)) ?_); all_goals (refine zY.gY rfl rfl (by decide) rfl (by assumption) rfl (by decide) (w_lenN rfl rfl rfl (by decide)) ?_); all_goals (refine zY.gY rfl rfl (by decide) rfl (by assumption) rfl (by decide) (zJ rfl rfl rfl (by decide)) ?_); all_goals (refine zY.gY rfl rfl (by decide) rfl (by assumption) rfl (by decide) (zA rfl rfl rfl (by rfl) rfl (by decide)) ?_); all_goals (refine zY.gY rfl rfl (by decide) rfl (by assumption) rfl (by decide) (w_lenN rfl rfl rfl (by decide)) ?_); all_goals (refine zY.gY rfl rfl (by decide) rfl (by assumption) rfl (by decide) (by exact xR rfl rfl rfl (by exact g1 _) rfl (by decide)) ?_); all_goals (refine zY.v rfl rfl (by exact yC rfl rfl (by assumption) rfl rfl (by decide)) ?_); all_goals (refine zY.nil ?_)) | (refine zX.isR (id := 3) ?_; refine zX.zV [2, 3, 4] [2, 3] (by repeat' first | exact zZ.nil | apply zZ.p rfl | apply zZ.ptr rfl) (by repeat' first | exact zW.nil | apply zW.boxP rfl rfl) ?_; (refine zY.v rfl rfl (zK rfl rfl rfl (by decide)) ?_); refine zY.nil ?_) | (refine zX.isR (id := 4) ?_; refine zX.zV [2, 3, 4, 5, 45, 58] [2, 3] (by repeat' first | exact zZ.nil | apply zZ.p rfl | apply zZ.ptr rfl | apply zZ.skip) (by repeat' first | exact zW.nil | apply zW.boxP rfl rfl) ?_; (refine zY.v rfl rfl (zQ rfl rfl rfl (by decide)) ?_); (refine zY.v rfl rfl (zJ rfl rfl rfl (by decide)) ?_); (refine zY.v rfl rfl (zA rfl rfl rfl (by rfl) rfl (by decide)) ?_); (refine zY.v rfl rfl (w_lenN rfl rfl rfl (by decide)) ?_); (refine zY.v rfl rfl (by exact yI rfl rfl rfl (by exact g3) rfl (by decide)) ?_); refine zY.nil ?_) | (refine zX.isR (id := 8) ?_; refine zX.zV [4] [2, 3] (by repeat' first | exact zZ.nil | apply zZ.p rfl) (by repeat' first | exact zW.nil | apply zW.boxP rfl rfl) ?_; (refine zY.v rfl rfl (zK rfl rfl rfl (by decide)) ?_); refine zY.nil ?_) | refine zX.yN rfl (by assumption) ?_ | refine zX.skip ?_ | refine zX.block ?_ | refine zX.exit ?_ | refine zX.ret ?_))
  all_goals refine ⟨by first | exact .inl rfl | exact .inr rfl, gives1 rfl rfl (eqB' ?_)⟩
  all_goals rfl
theorem same6_fn (d : List Int) (s : Int) : Fn Tryd.prog 94 [strV d s, strV d s] (.p (.val (.bool true))) := by
  have g1 : ∀ x : ByteArray, (x.toList == x.toList) = true := fun x => by simp
  have g2 : decide (s = s) = true := by simp
  refine yM Tryd.func94 rfl Tryd.ntmps94 (Nat.le_of_ble_eq_true rfl) ?_
  repeat' ((refine zX.is ?_; first | refine zX.seq ?_ | (refine zX.isR (id := 0) ?_; refine zX.zV [0, 1] [2, 3] (by repeat' first | exact zZ.nil | apply zZ.p rfl) (by repeat' first | exact zW.nil | apply zW.skip) ?_; (refine zY.m rfl rfl (yX rfl rfl rfl (by decide)) ?_); (refine zY.m rfl rfl (yX rfl rfl rfl (by decide)) ?_); (refine zY.v rfl rfl (zK rfl rfl rfl (by decide)) ?_); refine zY.nil ?_) | (refine zX.isR (id := 1) ?_; refine zX.zV [2, 3, 4] [2, 3] (by repeat' first | exact zZ.nil | apply zZ.p rfl | apply zZ.ptr rfl) (by repeat' first | exact zW.nil | apply zW.boxP rfl rfl) ?_; all_goals (refine zY.v rfl rfl (zJ rfl rfl rfl (by decide)) ?_); all_goals (refine zY.v rfl rfl (zA rfl rfl rfl (by rfl) rfl (by decide)) ?_); all_goals (refine zY.v rfl rfl (w_str rfl rfl rfl (by decide)) ?_); all_goals (refine zY.v rfl rfl (zJ rfl rfl rfl (by decide)) ?_); all_goals (refine zY.v rfl rfl (zA rfl rfl rfl (by rfl) rfl (by decide)) ?_); all_goals (refine zY.v rfl rfl (w_str rfl rfl rfl (by decide)) ?_); all_goals (refine zY.v rfl rfl (by exact r_eqlS rfl rfl rfl (by exact g1 _) rfl (by decide)) ?_); all_goals (refine zY.v rfl rfl (zQ rfl rfl rfl (by decide)) ?_); all_goals (refine zY.gY rfl rfl (by decide) rfl (by with_reducible rfl) rfl (by decide) (zJ rfl rfl rfl (by decide)) ?_); all_goals (refine zY.gY rfl rfl (by decide) rfl (by with_reducible rfl) rfl (by decide) (zA rfl rfl rfl (by rfl) rfl (by decide)) ?_); all_goals (refine zY.gY rfl rfl (by decide) rfl (by with_reducible rfl) rfl (by decide) (zJ rfl rfl rfl (by decide)) ?_); all_goals (refine zY.gY rfl rfl (by decide) rfl (by with_reducible rfl) rfl (by decide) (zA rfl rfl rfl (by rfl) rfl (by decide)) ?_); all_goals (refine zY.gY rfl rfl (by decide) rfl (by with_reducible rfl) rfl (by decide) (by exact yO rfl rfl rfl (by exact g2) rfl (by decide)) ?_); all_goals (refine zY.v rfl rfl (by exact yZ rfl rfl (by with_reducible rfl) rfl rfl (by decide)) ?_); all_goals (refine zY.v rfl rfl (zK rfl rfl rfl (by decide)) ?_); all_goals (refine zY.nil ?_)) | refine zX.ret ?_))
  all_goals exact ⟨by first | exact .inl rfl | exact .inr rfl, _, Sub.refl _, .p rfl (.tmp rfl)⟩
def all6S (l : List (List Int × Int)) (i : Nat) : AS := { t := [(0, .p (.sl (strs l))), (1, .p (.sl (strs l))), (5, .p (.val (.int .i64 (i : Nat))))], s := [] }
theorem all6_fn (l : List (List Int × Int)) (hl : l.length ≤ 1000000) : Fn Tryd.prog 78 [.sl (strs l), .sl (strs l)] (.p (.val (.bool true))) := by
  have g0 : ∀ x : Int, (!decide (x = x)) = false := fun x => by simp
  have hsl := strs_len l
  have h6 := strs_cells l
  refine yM Tryd.func78 rfl Tryd.ntmps78 (Nat.le_of_ble_eq_true rfl) ?_
  repeat' ((refine zX.is ?_; first | refine zX.seq ?_ | (refine zX.isR (id := 0) ?_; refine zX.zV [0, 1] [] (by repeat' first | exact zZ.nil | apply zZ.p rfl) (by repeat' exact zW.nil) ?_; (refine zY.v rfl rfl (zK rfl rfl rfl (by decide)) ?_); refine zY.nil ?_) | (refine zX.isR (id := 1) ?_; refine zX.zV [0, 1, 4] [] (by repeat' first | exact zZ.nil | apply zZ.p rfl) (by repeat' exact zW.nil) ?_; (refine zY.v rfl rfl (zQ rfl rfl rfl (by decide)) ?_); (refine zY.v rfl rfl (wC rfl rfl rfl (by decide)) ?_); (refine zY.v rfl rfl (zQ rfl rfl rfl (by decide)) ?_); (refine zY.v rfl rfl (wC rfl rfl rfl (by decide)) ?_); (refine zY.v rfl rfl (by exact xR rfl rfl rfl (by exact g0 _) rfl (by decide)) ?_); refine zY.nil ?_) | (refine zX.isR (id := 3) ?_; refine zX.zV [0, 1, 4] [] (by repeat' first | exact zZ.nil | apply zZ.p rfl) (by repeat' exact zW.nil) ?_; (refine zY.v rfl rfl (zK rfl rfl rfl (by decide)) ?_); refine zY.nil ?_) | refine zX.yN rfl (by with_reducible rfl) ?_ | refine zX.skip ?_ | refine zX.block ?_))
  refine zX.loop (fun i : Nat => all6S l i) (fun i => i ≤ l.length) (fun i => l.length - i) 0 ?h0 (Nat.zero_le _) ?rd
  case h0 =>
    unfold all6S
    refine zN (is := [0, 1, 5]) (js := []) ?_ ?_
    repeat' first | exact zZ.nil | apply zZ.p rfl | apply zZ.ptr rfl | apply zZ.own rfl | apply zZ.clo rfl | apply zZ.pt rfl | apply zZ.tup rfl | apply zZ.skip
    repeat' first | exact zW.nil | apply zW.boxP rfl rfl | apply zW.yG rfl | apply zW.some rfl | apply zW.skip
  case rd =>
    intro i hi
    rcases Nat.lt_or_ge i l.length with hlt | hge
    case inl =>
      have g1 : decide ((i : Int) < (((strs l).length : Nat) : Int)) = true := decide_eq_true (by omega)
      obtain ⟨⟨d, s⟩, hd⟩ : ∃ p, l[i]? = some p := ⟨_, List.getElem?_eq_getElem hlt⟩
      have g3 := strs_at hd
      have c1 := same6_fn d s
      have g4 : IntKind.i64.wrap ((i : Int) + 1) = ((i + 1 : Nat) : Int) := by rw [wrap_i64 _ (by omega)]; omega
      unfold all6S
      repeat' (first | (refine zX.is ?_; first | refine zX.seq ?_ | (refine zX.isR (id := 4) ?_; refine zX.zV [0, 1, 4, 5, 6, 15, 28] [] (by repeat' first | exact zZ.nil | apply zZ.p rfl | apply zZ.skip) (by repeat' exact zW.nil) ?_; (refine zY.v rfl rfl (zQ rfl rfl rfl (by decide)) ?_); (refine zY.v rfl rfl (zQ rfl rfl rfl (by decide)) ?_); (refine zY.v rfl rfl (wC rfl rfl rfl (by decide)) ?_); (refine zY.v rfl rfl (by exact yI rfl rfl rfl (by exact g1) rfl (by decide)) ?_); refine zY.nil ?_) | (refine zX.isR (id := 6) ?_; refine zX.yF [0, 1, 4, 5, 6, 15, 28] [] (by repeat' first | exact zZ.nil | apply zZ.p rfl | apply zZ.skip) (by repeat' exact zW.nil) (zX.draws ?_); all_goals (refine Draws.v rfl rfl (zQ rfl rfl rfl (by decide)) ?_); all_goals (refine Draws.v rfl rfl (zQ rfl rfl rfl (by decide)) ?_); all_goals (refine Draws.v rfl rfl (by exact yL rfl rfl rfl (by exact h6) (by exact g3) rfl (by decide)) ?_); all_goals (refine Draws.v rfl rfl (by exact wS rfl rfl (by exact Nat.le_of_ble_eq_true rfl) rfl (by decide)) ?_); all_goals (refine Draws.v rfl rfl (zQ rfl rfl rfl (by decide)) ?_); all_goals (refine Draws.v rfl rfl (zQ rfl rfl rfl (by decide)) ?_); all_goals (refine Draws.v rfl rfl (by exact yL rfl rfl rfl (by exact h6) (by exact g3) rfl (by decide)) ?_); all_goals (refine Draws.v rfl rfl (by exact wS rfl rfl (by exact Nat.le_of_ble_eq_true rfl) rfl (by decide)) ?_); all_goals (refine Draws.v rfl rfl (by exact zR (c1) rfl rfl rfl (by decide)) ?_); all_goals (refine Draws.v rfl rfl (zK rfl rfl rfl (by decide)) ?_); all_goals ((refine Draws.done (by kernel_rfl) (by kernel_rfl) (by kernel_rfl) ?_; refine zL.nil ?_))) | (refine zX.isR (id := 7) ?_; refine zX.zV [0, 1, 4, 5, 6, 15, 28] [] (by repeat' first | exact zZ.nil | apply zZ.p rfl | apply zZ.skip) (by repeat' exact zW.nil) ?_; (refine zY.v rfl rfl (zQ rfl rfl rfl (by decide)) ?_); (refine zY.v rfl rfl (by exact xU rfl rfl (by exact bF (by decide)) rfl (by decide)) ?_); refine zY.nil ?_) | (refine zX.isR (id := 5) ?_; refine zX.zV [0, 1, 4, 5, 6, 15, 28] [] (by repeat' first | exact zZ.nil | apply zZ.p rfl | apply zZ.skip) (by repeat' exact zW.nil) ?_; (refine zY.v rfl rfl (zQ rfl rfl rfl (by decide)) ?_); (refine zY.v rfl rfl (by exact yE rfl rfl rfl (by exact g4) rfl (by decide)) ?_); (refine zY.v rfl rfl (zK rfl rfl rfl (by decide)) ?_); refine zY.nil ?_) | refine zX.yS rfl (by first | assumption | with_reducible rfl) ?_ | refine zX.yN rfl (by with_reducible rfl) ?_ | refine zX.skip ?_ | refine zX.block ?_) | refine yH.n ?_)
      all_goals
        refine ⟨i + 1, ?_, by omega, by omega⟩
        try unfold all6S
        refine zN (is := [0, 1, 5]) (js := []) ?_ ?_
        repeat' first | exact zZ.nil | apply zZ.p rfl | apply zZ.ptr rfl | apply zZ.own rfl | apply zZ.clo rfl | apply zZ.pt rfl | apply zZ.tup rfl | apply zZ.skip
        repeat' first | exact zW.nil | apply zW.boxP rfl rfl | apply zW.yG rfl | apply zW.some rfl | apply zW.skip
    case inr =>
      have g1 : decide ((i : Int) < (((strs l).length : Nat) : Int)) = false := decide_eq_false (by omega)
      unfold all6S
      repeat' ((refine zX.is ?_; first | refine zX.seq ?_ | (refine zX.isR (id := 4) ?_; refine zX.zV [0, 1, 4, 5, 6, 15, 28] [] (by repeat' first | exact zZ.nil | apply zZ.p rfl | apply zZ.skip) (by repeat' exact zW.nil) ?_; (refine zY.v rfl rfl (zQ rfl rfl rfl (by decide)) ?_); (refine zY.v rfl rfl (zQ rfl rfl rfl (by decide)) ?_); (refine zY.v rfl rfl (wC rfl rfl rfl (by decide)) ?_); (refine zY.v rfl rfl (by exact yI rfl rfl rfl (by exact g1) rfl (by decide)) ?_); refine zY.nil ?_) | (refine zX.isR (id := 9) ?_; refine zX.zV [4] [] (by repeat' first | exact zZ.nil | apply zZ.skip) (by repeat' exact zW.nil) ?_; (refine zY.v rfl rfl (zK rfl rfl rfl (by decide)) ?_); refine zY.nil ?_) | refine zX.yN rfl (by first | assumption | with_reducible rfl) ?_ | refine zX.exit ?_ | refine zX.ret ?_))
      all_goals exact ⟨by first | exact .inl rfl | exact .inr rfl, _, Sub.refl _, .p rfl (.tmp rfl)⟩
def same9S (t c : Int) (ws : List Int) (i : Nat) : AS := { t := [(2, .ptr 2 0), (3, .ptr 3 0), (5, .p (.val (.int .i64 (i : Nat))))], s := [(2, .box 27 [.p (.val (.int .i64 t)), .p (.val (.int .i64 c)), .p (.sl (wds ws))]), (3, .box 27 [.p (.val (.int .i64 t)), .p (.val (.int .i64 c)), .p (.sl (wds ws))])] }
theorem same9_fn (t c : Int) (ws : List Int) (hl : ws.length ≤ 1000000) : Fn Tryd.prog 57 [.agg [.val (.int .i64 t), .val (.int .i64 c), .sl (wds ws)], .agg [.val (.int .i64 t), .val (.int .i64 c), .sl (wds ws)]] (.p (.val (.bool true))) := by
  have g0 : ∀ x : Int, (!decide (x = x)) = false := fun x => by simp
  have hsl := wds_len ws
  have h6 := wds_cells ws
  refine yM Tryd.func57 rfl Tryd.ntmps57 (Nat.le_of_ble_eq_true rfl) ?_
  repeat' ((refine zX.is ?_; first | refine zX.seq ?_ | (refine zX.isR (id := 0) ?_; refine zX.zV [0, 1] [2, 3] (by repeat' first | exact zZ.nil | apply zZ.p rfl) (by repeat' first | exact zW.nil | apply zW.skip) ?_; (refine zY.m rfl rfl (yX rfl rfl rfl (by decide)) ?_); (refine zY.m rfl rfl (yX rfl rfl rfl (by decide)) ?_); (refine zY.v rfl rfl (zK rfl rfl rfl (by decide)) ?_); refine zY.nil ?_) | (refine zX.isR (id := 1) ?_; refine zX.zV [2, 3, 4] [2, 3] (by repeat' first | exact zZ.nil | apply zZ.p rfl | apply zZ.ptr rfl) (by repeat' first | exact zW.nil | apply zW.boxP rfl rfl) ?_; all_goals (refine zY.v rfl rfl (zJ rfl rfl rfl (by decide)) ?_); all_goals (refine zY.v rfl rfl (zA rfl rfl rfl (by rfl) rfl (by decide)) ?_); all_goals (refine zY.v rfl rfl (zJ rfl rfl rfl (by decide)) ?_); all_goals (refine zY.v rfl rfl (zA rfl rfl rfl (by rfl) rfl (by decide)) ?_); all_goals (refine zY.v rfl rfl (by exact xR rfl rfl rfl (by exact g0 _) rfl (by decide)) ?_); all_goals (refine zY.v rfl rfl (zQ rfl rfl rfl (by decide)) ?_); all_goals (refine zY.gY rfl rfl (by decide) rfl (by with_reducible rfl) rfl (by decide) (zJ rfl rfl rfl (by decide)) ?_); all_goals (refine zY.gY rfl rfl (by decide) rfl (by with_reducible rfl) rfl (by decide) (zA rfl rfl rfl (by rfl) rfl (by decide)) ?_); all_goals (refine zY.gY rfl rfl (by decide) rfl (by with_reducible rfl) rfl (by decide) (zJ rfl rfl rfl (by decide)) ?_); all_goals (refine zY.gY rfl rfl (by decide) rfl (by with_reducible rfl) rfl (by decide) (zA rfl rfl rfl (by rfl) rfl (by decide)) ?_); all_goals (refine zY.gY rfl rfl (by decide) rfl (by with_reducible rfl) rfl (by decide) (by exact xR rfl rfl rfl (by exact g0 _) rfl (by decide)) ?_); all_goals (refine zY.v rfl rfl (by exact yC rfl rfl (by with_reducible rfl) rfl rfl (by decide)) ?_); all_goals (refine zY.v rfl rfl (zQ rfl rfl rfl (by decide)) ?_); all_goals (refine zY.gY rfl rfl (by decide) rfl (by with_reducible rfl) rfl (by decide) (zJ rfl rfl rfl (by decide)) ?_); all_goals (refine zY.gY rfl rfl (by decide) rfl (by with_reducible rfl) rfl (by decide) (zA rfl rfl rfl (by rfl) rfl (by decide)) ?_); all_goals (refine zY.gY rfl rfl (by decide) rfl (by with_reducible rfl) rfl (by decide) (wC rfl rfl rfl (by decide)) ?_); all_goals (refine zY.gY rfl rfl (by decide) rfl (by with_reducible rfl) rfl (by decide) (zJ rfl rfl rfl (by decide)) ?_); all_goals (refine zY.gY rfl rfl (by decide) rfl (by with_reducible rfl) rfl (by decide) (zA rfl rfl rfl (by rfl) rfl (by decide)) ?_); all_goals (refine zY.gY rfl rfl (by decide) rfl (by with_reducible rfl) rfl (by decide) (wC rfl rfl rfl (by decide)) ?_); all_goals (refine zY.gY rfl rfl (by decide) rfl (by with_reducible rfl) rfl (by decide) (by exact xR rfl rfl rfl (by exact g0 _) rfl (by decide)) ?_); all_goals (refine zY.v rfl rfl (by exact yC rfl rfl (by with_reducible rfl) rfl rfl (by decide)) ?_); all_goals (refine zY.nil ?_)) | (refine zX.isR (id := 3) ?_; refine zX.zV [2, 3, 4] [2, 3] (by repeat' first | exact zZ.nil | apply zZ.p rfl | apply zZ.ptr rfl) (by repeat' first | exact zW.nil | apply zW.boxP rfl rfl) ?_; (refine zY.v rfl rfl (zK rfl rfl rfl (by decide)) ?_); refine zY.nil ?_) | refine zX.yN rfl (by with_reducible rfl) ?_ | refine zX.skip ?_ | refine zX.block ?_))
  refine zX.loop (fun i : Nat => same9S t c ws i) (fun i => i ≤ ws.length) (fun i => ws.length - i) 0 ?h0 (Nat.zero_le _) ?rd
  case h0 =>
    unfold same9S
    refine zN (is := [2, 3, 5]) (js := [2, 3]) ?_ ?_
    repeat' first | exact zZ.nil | apply zZ.p rfl | apply zZ.ptr rfl | apply zZ.own rfl | apply zZ.clo rfl | apply zZ.pt rfl | apply zZ.tup rfl | apply zZ.skip
    repeat' first | exact zW.nil | apply zW.boxP rfl rfl | apply zW.yG rfl | apply zW.some rfl | apply zW.skip
  case rd =>
    intro i hi
    rcases Nat.lt_or_ge i ws.length with hlt | hge
    case inl =>
      have g1 : decide ((i : Int) < (((wds ws).length : Nat) : Int)) = true := decide_eq_true (by omega)
      obtain ⟨x, hd⟩ : ∃ p, ws[i]? = some p := ⟨_, List.getElem?_eq_getElem hlt⟩
      have g3 := wds_at hd
      have g4 : IntKind.i64.wrap ((i : Int) + 1) = ((i + 1 : Nat) : Int) := by rw [wrap_i64 _ (by omega)]; omega
      unfold same9S
      repeat' (first | (refine zX.is ?_; first | refine zX.seq ?_ | (refine zX.isR (id := 4) ?_; refine zX.zV [2, 3, 4, 5, 31, 44] [2, 3] (by repeat' first | exact zZ.nil | apply zZ.p rfl | apply zZ.ptr rfl | apply zZ.skip) (by repeat' first | exact zW.nil | apply zW.boxP rfl rfl) ?_; (refine zY.v rfl rfl (zQ rfl rfl rfl (by decide)) ?_); (refine zY.v rfl rfl (zJ rfl rfl rfl (by decide)) ?_); (refine zY.v rfl rfl (zA rfl rfl rfl (by rfl) rfl (by decide)) ?_); (refine zY.v rfl rfl (wC rfl rfl rfl (by decide)) ?_); (refine zY.v rfl rfl (by exact yI rfl rfl rfl (by exact g1) rfl (by decide)) ?_); refine zY.nil ?_) | (refine zX.isR (id := 6) ?_; refine zX.yF [2, 3, 4, 5, 31, 44] [2, 3] (by repeat' first | exact zZ.nil | apply zZ.p rfl | apply zZ.ptr rfl | apply zZ.skip) (by repeat' first | exact zW.nil | apply zW.boxP rfl rfl) (zX.draws ?_); all_goals (refine Draws.v rfl rfl (zJ rfl rfl rfl (by decide)) ?_); all_goals (refine Draws.v rfl rfl (zA rfl rfl rfl (by rfl) rfl (by decide)) ?_); all_goals (refine Draws.v rfl rfl (zQ rfl rfl rfl (by decide)) ?_); all_goals (refine Draws.v rfl rfl (by exact yL rfl rfl rfl (by exact h6) (by exact g3) rfl (by decide)) ?_); all_goals (refine Draws.v rfl rfl (yK rfl rfl rfl rfl (by decide)) ?_); all_goals (refine Draws.v rfl rfl (zJ rfl rfl rfl (by decide)) ?_); all_goals (refine Draws.v rfl rfl (zA rfl rfl rfl (by rfl) rfl (by decide)) ?_); all_goals (refine Draws.v rfl rfl (zQ rfl rfl rfl (by decide)) ?_); all_goals (refine Draws.v rfl rfl (by exact yL rfl rfl rfl (by exact h6) (by exact g3) rfl (by decide)) ?_); all_goals (refine Draws.v rfl rfl (yK rfl rfl rfl rfl (by decide)) ?_); all_goals (refine Draws.v rfl rfl (by exact xR rfl rfl rfl (by exact g0 _) rfl (by decide)) ?_); all_goals ((refine Draws.done (by kernel_rfl) (by kernel_rfl) (by kernel_rfl) ?_; refine zL.nil ?_))) | (refine zX.isR (id := 5) ?_; refine zX.zV [2, 3, 4, 5, 31, 44] [2, 3] (by repeat' first | exact zZ.nil | apply zZ.p rfl | apply zZ.ptr rfl | apply zZ.skip) (by repeat' first | exact zW.nil | apply zW.boxP rfl rfl) ?_; (refine zY.v rfl rfl (zQ rfl rfl rfl (by decide)) ?_); (refine zY.v rfl rfl (by exact yE rfl rfl rfl (by exact g4) rfl (by decide)) ?_); (refine zY.v rfl rfl (zK rfl rfl rfl (by decide)) ?_); refine zY.nil ?_) | refine zX.yS rfl (by first | assumption | with_reducible rfl) ?_ | refine zX.yN rfl (by with_reducible rfl) ?_ | refine zX.skip ?_ | refine zX.block ?_) | refine yH.n ?_)
      all_goals
        refine ⟨i + 1, ?_, by omega, by omega⟩
        try unfold same9S
        refine zN (is := [2, 3, 5]) (js := [2, 3]) ?_ ?_
        repeat' first | exact zZ.nil | apply zZ.p rfl | apply zZ.ptr rfl | apply zZ.own rfl | apply zZ.clo rfl | apply zZ.pt rfl | apply zZ.tup rfl | apply zZ.skip
        repeat' first | exact zW.nil | apply zW.boxP rfl rfl | apply zW.yG rfl | apply zW.some rfl | apply zW.skip
    case inr =>
      have g1 : decide ((i : Int) < (((wds ws).length : Nat) : Int)) = false := decide_eq_false (by omega)
      unfold same9S
      repeat' ((refine zX.is ?_; first | refine zX.seq ?_ | (refine zX.isR (id := 4) ?_; refine zX.zV [2, 3, 4, 5, 31, 44] [2, 3] (by repeat' first | exact zZ.nil | apply zZ.p rfl | apply zZ.ptr rfl | apply zZ.skip) (by repeat' first | exact zW.nil | apply zW.boxP rfl rfl) ?_; (refine zY.v rfl rfl (zQ rfl rfl rfl (by decide)) ?_); (refine zY.v rfl rfl (zJ rfl rfl rfl (by decide)) ?_); (refine zY.v rfl rfl (zA rfl rfl rfl (by rfl) rfl (by decide)) ?_); (refine zY.v rfl rfl (wC rfl rfl rfl (by decide)) ?_); (refine zY.v rfl rfl (by exact yI rfl rfl rfl (by exact g1) rfl (by decide)) ?_); refine zY.nil ?_) | (refine zX.isR (id := 8) ?_; refine zX.zV [4] [2, 3] (by repeat' first | exact zZ.nil | apply zZ.skip) (by repeat' first | exact zW.nil | apply zW.boxP rfl rfl) ?_; (refine zY.v rfl rfl (zK rfl rfl rfl (by decide)) ?_); refine zY.nil ?_) | refine zX.yN rfl (by first | assumption | with_reducible rfl) ?_ | refine zX.exit ?_ | refine zX.ret ?_))
      all_goals exact ⟨by first | exact .inl rfl | exact .inr rfl, _, Sub.refl _, .p rfl (.tmp rfl)⟩
theorem same7_fn (root : Int) (r0 r1 : List (List Int × Int)) (h0 : r0.length ≤ 1000000) (h1 : r1.length ≤ 1000000) : Fn Tryd.prog 58 [wM root r0 r1, wM root r0 r1] (.p (.val (.bool true))) := by
  have c0 := all6_fn r0 h0
  have c1 := all6_fn r1 h1
  have g0 : decide (root = root) = true := by simp
  refine yM Tryd.func58 rfl Tryd.ntmps58 (Nat.le_of_ble_eq_true rfl) ?_
  repeat' ((refine zX.is ?_; first | refine zX.seq ?_ | (refine zX.isR (id := 0) ?_; refine zX.zV [0, 1] [2, 3] (by repeat' first | exact zZ.nil | apply zZ.p rfl) (by repeat' first | exact zW.nil | apply zW.skip) ?_; (refine zY.m rfl rfl (yX rfl rfl rfl (by decide)) ?_); (refine zY.m rfl rfl (yX rfl rfl rfl (by decide)) ?_); (refine zY.v rfl rfl (zK rfl rfl rfl (by decide)) ?_); refine zY.nil ?_) | (refine zX.isR (id := 1) ?_; refine zX.zV [2, 3, 4] [2, 3] (by repeat' first | exact zZ.nil | apply zZ.p rfl | apply zZ.ptr rfl) (by repeat' first | exact zW.nil | apply zW.boxP rfl rfl) ?_; (refine zY.v rfl rfl (zJ rfl rfl rfl (by decide)) ?_); (refine zY.v rfl rfl (by exact xJ rfl rfl rfl (by omega) rfl (by decide)) ?_); (refine zY.v rfl rfl (zA rfl rfl rfl (by rfl) rfl (by decide)) ?_); (refine zY.v rfl rfl (zJ rfl rfl rfl (by decide)) ?_); (refine zY.v rfl rfl (by exact xJ rfl rfl rfl (by omega) rfl (by decide)) ?_); (refine zY.v rfl rfl (zA rfl rfl rfl (by rfl) rfl (by decide)) ?_); (refine zY.v rfl rfl (by exact zR (c0) rfl rfl rfl (by decide)) ?_); (refine zY.v rfl rfl (zK rfl rfl rfl (by decide)) ?_); refine zY.nil ?_) | (refine zX.isR (id := 2) ?_; refine zX.zV [2, 3, 4, 5] [2, 3] (by repeat' first | exact zZ.nil | apply zZ.p rfl | apply zZ.ptr rfl) (by repeat' first | exact zW.nil | apply zW.boxP rfl rfl) ?_; (refine zY.v rfl rfl (zJ rfl rfl rfl (by decide)) ?_); (refine zY.v rfl rfl (by exact xJ rfl rfl rfl (by omega) rfl (by decide)) ?_); (refine zY.v rfl rfl (zA rfl rfl rfl (by rfl) rfl (by decide)) ?_); (refine zY.v rfl rfl (zJ rfl rfl rfl (by decide)) ?_); (refine zY.v rfl rfl (by exact xJ rfl rfl rfl (by omega) rfl (by decide)) ?_); (refine zY.v rfl rfl (zA rfl rfl rfl (by rfl) rfl (by decide)) ?_); (refine zY.v rfl rfl (by exact zR (c1) rfl rfl rfl (by decide)) ?_); (refine zY.v rfl rfl (zK rfl rfl rfl (by decide)) ?_); refine zY.nil ?_) | (refine zX.isR (id := 3) ?_; refine zX.zV [2, 3, 4, 5, 6] [2, 3] (by repeat' first | exact zZ.nil | apply zZ.p rfl | apply zZ.ptr rfl) (by repeat' first | exact zW.nil | apply zW.boxP rfl rfl) ?_; all_goals (refine zY.v rfl rfl (zJ rfl rfl rfl (by decide)) ?_); all_goals (refine zY.v rfl rfl (zA rfl rfl rfl (by rfl) rfl (by decide)) ?_); all_goals (refine zY.v rfl rfl (zJ rfl rfl rfl (by decide)) ?_); all_goals (refine zY.v rfl rfl (zA rfl rfl rfl (by rfl) rfl (by decide)) ?_); all_goals (refine zY.v rfl rfl (by exact yO rfl rfl rfl (by exact g0) rfl (by decide)) ?_); all_goals (refine zY.v rfl rfl (zQ rfl rfl rfl (by decide)) ?_); all_goals (refine zY.gY rfl rfl (by decide) rfl (by with_reducible rfl) rfl (by decide) (zQ rfl rfl rfl (by decide)) ?_); all_goals (refine zY.v rfl rfl (by exact yZ rfl rfl (by with_reducible rfl) rfl rfl (by decide)) ?_); all_goals (refine zY.v rfl rfl (zQ rfl rfl rfl (by decide)) ?_); all_goals (refine zY.gY rfl rfl (by decide) rfl (by with_reducible rfl) rfl (by decide) (zQ rfl rfl rfl (by decide)) ?_); all_goals (refine zY.v rfl rfl (by exact yZ rfl rfl (by with_reducible rfl) rfl rfl (by decide)) ?_); all_goals (refine zY.v rfl rfl (zK rfl rfl rfl (by decide)) ?_); all_goals (refine zY.nil ?_)) | refine zX.ret ?_))
  all_goals exact ⟨by first | exact .inl rfl | exact .inr rfl, _, Sub.refl _, .p rfl (.tmp rfl)⟩
theorem same10_fn (t c : Int) (ws : List Int) (root : Int) (r0 r1 : List (List Int × Int)) (hl : ws.length ≤ 1000000) (h0 : r0.length ≤ 1000000) (h1 : r1.length ≤ 1000000) : Fn Tryd.prog 26 [wD t c ws root r0 r1, wD t c ws root r0 r1] (.p (.val (.bool true))) := by
  have c0 := same9_fn t c ws hl
  have c1 := same7_fn root r0 r1 h0 h1
  refine yM Tryd.func26 rfl Tryd.ntmps26 (Nat.le_of_ble_eq_true rfl) ?_
  repeat' ((refine zX.is ?_; first | refine zX.seq ?_ | (refine zX.isR (id := 0) ?_; refine zX.zV [0, 1] [2, 3] (by repeat' first | exact zZ.nil | apply zZ.p rfl) (by repeat' first | exact zW.nil | apply zW.skip) ?_; (refine zY.m rfl rfl (yX rfl rfl rfl (by decide)) ?_); (refine zY.m rfl rfl (yX rfl rfl rfl (by decide)) ?_); (refine zY.v rfl rfl (zK rfl rfl rfl (by decide)) ?_); refine zY.nil ?_) | (refine zX.isR (id := 1) ?_; refine zX.zV [2, 3, 4] [2, 3] (by repeat' first | exact zZ.nil | apply zZ.p rfl | apply zZ.ptr rfl) (by repeat' first | exact zW.nil | apply zW.boxP rfl rfl) ?_; (refine zY.v rfl rfl (zJ rfl rfl rfl (by decide)) ?_); (refine zY.v rfl rfl (zD rfl rfl rfl (by rfl) (by rfl) rfl (by decide)) ?_); (refine zY.v rfl rfl (zJ rfl rfl rfl (by decide)) ?_); (refine zY.v rfl rfl (zD rfl rfl rfl (by rfl) (by rfl) rfl (by decide)) ?_); (refine zY.v rfl rfl (by exact zR (c0) rfl rfl rfl (by decide)) ?_); (refine zY.v rfl rfl (zK rfl rfl rfl (by decide)) ?_); refine zY.nil ?_) | (refine zX.isR (id := 2) ?_; refine zX.zV [2, 3, 4, 5] [2, 3] (by repeat' first | exact zZ.nil | apply zZ.p rfl | apply zZ.ptr rfl) (by repeat' first | exact zW.nil | apply zW.boxP rfl rfl) ?_; (refine zY.v rfl rfl (zJ rfl rfl rfl (by decide)) ?_); (refine zY.v rfl rfl (zD rfl rfl rfl (by rfl) (by rfl) rfl (by decide)) ?_); (refine zY.v rfl rfl (zJ rfl rfl rfl (by decide)) ?_); (refine zY.v rfl rfl (zD rfl rfl rfl (by rfl) (by rfl) rfl (by decide)) ?_); (refine zY.v rfl rfl (by exact zR (c1) rfl rfl rfl (by decide)) ?_); (refine zY.v rfl rfl (zK rfl rfl rfl (by decide)) ?_); refine zY.nil ?_) | (refine zX.isR (id := 3) ?_; refine zX.zV [4, 5, 6] [2, 3] (by repeat' first | exact zZ.nil | apply zZ.p rfl) (by repeat' first | exact zW.nil | apply zW.boxP rfl rfl) ?_; all_goals (refine zY.v rfl rfl (zQ rfl rfl rfl (by decide)) ?_); all_goals (refine zY.v rfl rfl (zQ rfl rfl rfl (by decide)) ?_); all_goals (refine zY.gY rfl rfl (by decide) rfl (by with_reducible rfl) rfl (by decide) (zQ rfl rfl rfl (by decide)) ?_); all_goals (refine zY.v rfl rfl (by exact yZ rfl rfl (by with_reducible rfl) rfl rfl (by decide)) ?_); all_goals (refine zY.v rfl rfl (zK rfl rfl rfl (by decide)) ?_); all_goals (refine zY.nil ?_)) | refine zX.ret ?_))
  all_goals exact ⟨by first | exact .inl rfl | exact .inr rfl, _, Sub.refl _, .p rfl (.tmp rfl)⟩
end Go.Proofs.YthnmfmdkdngggaaDoor
/- The law SaveDirect: an operation made at once, and stepping alone, do the same. -/
namespace Go.Proofs.YthnmfmdkdngggaaDoor
set_option maxRecDepth 100000
set_option maxHeartbeats 16000000
open Go Go.RowKit
set_option linter.unusedSimpArgs false
set_option linter.unusedVariables false
theorem run_r1 {α : Type} {me : Nat} {f : Nat → Bool} : ∀ {p : Pr α} {i j : Nat} {W W' : Wd} {x : α}, p.run (wSt me f) (W, i) = .done x (W', j) → W'.r1 = W.r1
  | .ret _, i, j, W, W', x, hr => by
    rw [yQ] at hr
    injection hr with e1 e2
    injection e2 with e2 e3
    rw [e2]
  | .stuck, _, _, _, _, _, hr => by cases hr
  | .ask q k, i, j, W, W', x, hr => by
    rw [wG] at hr
    have hr2 : (k (doX W me q (f i)).2).run (wSt me f) ((doX W me q (f i)).1, i + 1) = .done x (W', j) := hr
    exact (run_r1 hr2).trans (doX_keeps W me q (f i)).2.2.2.2
theorem dir_two {α : Type} {p : Pr α} {n : Nat} (hp : Good p n) (hn : n ≤ 10) {f : FuncId} {args : List AV} {res : α → AV} {good : α → Prop} {W : Wd} {j : Nat} (hf : FnH hWld f args [] res (fun _ => []) good (W, 10 * j) p) (hD : DirI W) (hok : vB (1000 * (10 * j)) W) (hj : j ≤ 20)
    {k u v w : Int} (hop : OpOK 1 k u v w) (g : α → OutI) (hq : opP 1 k u v w = p.bind fun x => .ret (g x)) :
    ∃ x W', DirI W' ∧ vB (1000 * (10 * (j + 1))) W' ∧ W'.r1 = W.r1 ∧ FnE Tryd.prog f args [ptrB 1002, meB, wldB W] (.ret (res x)) [ptrB 1002, meB, wldB W'] ∧
      Fn Tryd.prog 9 [W.pv, .val (.int .i64 0), opV k u v w, .val (.int .i64 30), y8] (.tup [W'.pv, outV (g x).e (g x).is 0 (g x).w, .val (.bool true)]) := by
  obtain ⟨x, W', m, hm, h1, h2, h3, h4⟩ := good_op hp hf hD hok (by omega)
  have hr : (opP W.t k u v w).run (wSt 0 (xV [])) (W, 0) = .done (g x) (W', m) := by
    rw [hD.t, hq, run_bind, h4 0 (by omega), Nat.zero_add]
    rfl
  have hop' : OpOK W.t k u v w := by rw [hD.t]; exact hop
  refine ⟨x, W', h1, h2.le (by omega), ?_, h3, alone_nil (1000 * (10 * j)) W W' 0 k u v w 30 m (g x) hok (by rw [hD.s]; decide) hop' hr (by omega) (by decide) (by omega)⟩
  exact run_r1 hr
end Go.Proofs.YthnmfmdkdngggaaDoor
