/- For every input MergeTorn returns true, and leaves its argument as it was. Conditions: none beyond the given statement. (Part 3 of 9.) -/
import Derived.Test.YtomlhekjgagjaaaDoorMn2
import Derived.Laws.IdiomRangeMap
import Derived.RangeFuncRecord
import Derived.Laws.BitsAllLaws
namespace Go.Proofs.YtomlhekjgagjaaaDoor
set_option maxRecDepth 100000
set_option maxHeartbeats 16000000
open Go Go.RowKit
def Blk.okZ (m : Nat) : Blk → Bool
  | .box _ xs => xs.all (AV.okE m)
  | .obj _ _ => true
  | .row _ _ _ xs => xs.all (AV.okE m)
  | .prow _ _ _ _ => true
  | .lent _ _ _ _ => false
def Blk.pinned : Blk → Bool
  | .box _ _ => true
  | .obj _ _ => true
  | _ => false
def Blk.isRowZ : Blk → Bool
  | .row _ _ _ _ => true
  | .prow _ _ _ _ => true
  | _ => false
theorem Blk.okZ_turns {b : Blk} {m : Nat} (h : b.okZ m = true) (c : Nat) : b.turns c := by
  cases b with
  | lent t s n xs => cases h
  | _ => trivial
structure HandedZ (h : Home) (p : Nat) (L : List Blk) (ρ : Nat → Value) : Prop where
  r : ∀ i, i < p → h.r (1000 + i) = some (ρ (1000 + i))
  no : ∀ k, 1000 + p ≤ k → h.r k = none
  t : ∀ k, h.t k → ∃ i, i < L.length ∧ zT (ρ (1000 + i)) = some k
def FnZ (P : Program) (f : FuncId) (args : List AV) (B R : List Blk) (x : AV) (B' New : List Blk) : Prop :=
  ∀ (M : Nat → Nat → Prop) (h : Home) (ρ : Nat → Value) (vs : List Value), HandedZ h B.length (B ++ R) ρ → Sat M 0 h (asB (B ++ R)) ρ qN h.w → vs.length = args.length →
    (∀ (i : Nat) x v, args[i]? = some x → vs[i]? = some v → yV (Mut M (asB (B ++ R)) ρ) ρ h.w x v) →
    Calls P f vs.toArray h.w fun e w' => ∃ ρ' v, e = .returned v ∧ Sat M 0 h (asB (B' ++ New)) ρ' qN w' ∧ yV (Mut M (asB (B' ++ New)) ρ') ρ' w' x v
structure HandsZ (S : AS) (ids : List Nat) (L : List Blk) : Prop where
  len : ids.length = L.length
  nodup : ids.Nodup
  ok : L.all (Blk.okZ L.length) = true
  at_ : ∀ (i : Nat) id b, ids[i]? = some id → L[i]? = some b → S.blk id = some (b.ren (sig ids))
theorem zG {S : AS} {ids : List Nat} {B : List Blk} (hn : ids.Nodup) (hok : B.all (Blk.okZ B.length) = true) (h : AtB S ids ids B) : HandsZ S ids B := by
  have key : ∀ (is : List Nat) (bs : List Blk), AtB S ids is bs → is.length = bs.length ∧ ∀ (i : Nat) id b, is[i]? = some id → bs[i]? = some b → S.blk id = some (b.ren (sig ids)) := by
    intro is
    induction is with
    | nil => intro bs h; cases bs with
      | nil => exact ⟨rfl, fun i id b h => by simp at h⟩
      | cons => exact h.elim
    | cons x r ih => intro bs h; cases bs with
      | nil => exact h.elim
      | cons b q =>
        obtain ⟨h1, h2⟩ := ih q h.2
        refine ⟨by simp [h1], fun i id c hi hc => ?_⟩
        cases i with
        | zero => simp at hi hc; subst hi; subst hc; exact h.1
        | succ i => exact h2 i id c (by simpa using hi) (by simpa using hc)
  obtain ⟨h1, h2⟩ := key ids B h
  exact ⟨h1, hn, hok, h2⟩
def AV.kills (l : List Nat) (x : AV) : AV := l.foldl (fun x id => x.kill id) x
def Blk.kills (l : List Nat) (b : Blk) : Blk := l.foldl (fun b id => b.kill id) b
theorem drops_tmp : ∀ (l : List Nat) (S : AS) (i : Nat), (S.drops l).tmp i = (S.tmp i).kills l
  | [], _, _ => rfl
  | id :: r, S, i => by
    show ((S.drop id).drops r).tmp i = _
    rw [drops_tmp r]
    show ((S.drop id).tmp i).kills r = _
    have e : (S.drop id).tmp i = (S.tmp i).kill id := S.tmp_kill id i
    rw [e]; rfl
theorem drops_some : ∀ (l : List Nat) (S : AS) (j : Nat) (b : Blk), (S.drops l).blk j = some b → j ∉ l ∧ ∃ b0, S.blk j = some b0 ∧ b = b0.kills l
  | [], _, _, b, h => ⟨by simp, b, h, rfl⟩
  | id :: r, S, j, b, h => by
    obtain ⟨h1, b1, h2, h3⟩ := drops_some r (S.drop id) j b h
    rw [AS.xP] at h2
    split at h2
    · cases h2
    · rename_i hne
      obtain ⟨b0, h4, rfl⟩ := Option.map_eq_some_iff.1 h2
      exact ⟨by simp only [List.mem_cons, not_or]; exact ⟨fun e => hne e.symm, h1⟩, b0, h4, h3⟩
theorem kills_turns : ∀ (l : List Nat) (b : Blk) (c : Nat), (b.kills l).turns c ↔ b.turns c
  | [], _, _ => Iff.rfl
  | id :: r, b, c => (kills_turns r (b.kill id) c).trans (Blk.turns_kill b id c)
theorem yV.kills {M : Nat → Nat → Prop} {w : World} : ∀ (l : List Nat) {ρ ρ' : Nat → Value} {x : AV} {v : Value}, yV M ρ w x v → (∀ j, j ∉ l → ρ' j = ρ j) → yV M ρ' w (x.kills l) v
  | [], ρ, ρ', x, v, h, he => by
    have e : ρ' = ρ := funext fun j => he j (by simp)
    rw [e]; exact h
  | id :: r, ρ, ρ', x, v, h, he => yV.kills r (h.killed id (ρ' id)) fun j hj => by
    by_cases e : j = id
    · subst e; simp [upd]
    · rw [he j (by simp [e, hj])]; simp [upd, e]
theorem y7.kills {M : Nat → Nat → Prop} {w : World} {B : Nat} : ∀ (l : List Nat) {ρ ρ' : Nat → Value} {b : Blk} {v : Value}, y7 M B ρ w v b → (∀ j, j ∉ l → ρ' j = ρ j) → y7 M B ρ' w v (b.kills l)
  | [], ρ, ρ', x, v, h, he => by
    have e : ρ' = ρ := funext fun j => he j (by simp)
    rw [e]; exact h
  | id :: r, ρ, ρ', x, v, h, he => y7.kills r (h.killed id (ρ' id)) fun j hj => by
    by_cases e : j = id
    · subst e; simp [upd]
    · rw [he j (by simp [e, hj])]; simp [upd, e]
theorem okE_pures (xs : List PV) (m : Nat) : (xs.map AV.p).all (AV.okE m) = true := by simp [AV.okE]
theorem ren_pures (xs : List PV) (σ : Nat → Nat) : (xs.map AV.p).map (AV.ren σ) = xs.map AV.p := by rw [List.map_map]; rfl
theorem y7.inn {M M' : Nat → Nat → Prop} {ids : List Nat} {m B : Nat} {ρ : Nat → Value} {w : World} {b : Blk} {v : Value} (h : y7 M B ρ w v (b.ren (sig ids))) (hk : b.okZ m = true) (hM : ∀ k c, k < w.heap.size → M' k c → M k c) :
    y7 M' B (fun k => ρ (sig ids k)) w v b := by
  cases b with
  | box t cs => obtain ⟨g, ys, hv, hg, hh, hc⟩ := h; exact ⟨g, ys, hv, hg, hh, yK.inn hc hk hM⟩
  | obj mp Q => exact h
  | row t s n xs => obtain ⟨ys, ho, hc⟩ := h; exact ⟨ys, ho, yK.inn hc hk hM⟩
  | prow t s n xs => obtain ⟨ys, ho, hc⟩ := h; exact ⟨ys, ho, yK.inn (ids := ids) (ρ := ρ) (by rw [ren_pures]; exact hc) (okE_pures xs m) hM⟩
  | lent t s n xs => cases hk
theorem y7.outw {M M' : Nat → Nat → Prop} {ids : List Nat} {m B : Nat} {ρ ρ2 : Nat → Value} {w : World} {b : Blk} {v : Value} (h : y7 M B ρ2 w v b) (hk : b.okZ m = true) (hM : ∀ k c, k < w.heap.size → M' k c → M k c)
    (hρ : ∀ k, 1000 ≤ k → k < 1000 + m → ρ2 k = ρ (sig ids k)) : y7 M' B ρ w v (b.ren (sig ids)) := by
  cases b with
  | box t cs => obtain ⟨g, ys, hv, hg, hh, hc⟩ := h; exact ⟨g, ys, hv, hg, hh, yK.outw hc hk hM hρ⟩
  | obj mp Q => exact h
  | row t s n xs => obtain ⟨ys, ho, hc⟩ := h; exact ⟨ys, ho, yK.outw hc hk hM hρ⟩
  | prow t s n xs => obtain ⟨ys, ho, hc⟩ := h; exact ⟨ys, ho, ren_pures xs (sig ids) ▸ yK.outw (ids := ids) hc (okE_pures xs m) hM hρ⟩
  | lent t s n xs => cases hk
section
variable {P : Program} {n : Nat} {o : Oper} {S : AS} {d : Nat}
theorem call_z {f : FuncId} {xs : List AV} {bids rids nids : List Nat} {B R B' New : List Blk} {rx : AV} (hf : FnZ P f xs B R rx B' New) (hh : HandsZ S (bids ++ rids) (B ++ R)) (hbl : bids.length = B.length) (hpin : B.all Blk.pinned = true) (hB' : B'.length = B.length) (hnl : nids.length = New.length) (hnd : (bids ++ nids).Nodup)
    (hok' : (B' ++ New).all (Blk.okZ (B' ++ New).length) = true) (hxs : xs.all (AV.okE (B ++ R).length) = true) (hrx : rx.okE (B' ++ New).length = true)
    {M : Nat → Nat → Prop} {w0 : Home} {ρ : Nat → Value} {a : Act} {w : World} (hs : Sat M n w0 S ρ a w) (hlo : ∀ j ∈ rids ++ nids, w0.r j = none) {vs : List Value} (hvl : vs.length = xs.length)
    (hvs : ∀ (i : Nat) x v, xs[i]? = some x → vs[i]? = some v → yV (Mut M S ρ) ρ w (x.ren (sig (bids ++ rids))) v) :
    Calls P f vs.toArray w fun e w' => ∃ ρ' v, e = .returned v ∧ Sat M n w0 ((S.drops (rids ++ nids)).after (bids ++ nids) (B' ++ New)) ρ' a w' ∧ yV (Mut M ((S.drops (rids ++ nids)).after (bids ++ nids) (B' ++ New)) ρ') ρ' w' (rx.ren (sig (bids ++ nids))) v := by
  have hlen := hh.len
  have hLL : (bids ++ nids).length = (B' ++ New).length := by simp [hbl, hB', hnl]
  have at_i : ∀ i, i < (B ++ R).length → ∃ id b, (bids ++ rids)[i]? = some id ∧ (B ++ R)[i]? = some b ∧ S.blk id = some (b.ren (sig (bids ++ rids))) ∧ sig (bids ++ rids) (1000 + i) = id := fun i hi => by
    have h1 : (bids ++ rids)[i]? = some ((bids ++ rids)[i]'(by omega)) := List.getElem?_eq_getElem _
    have h2 : (B ++ R)[i]? = some (B ++ R)[i] := List.getElem?_eq_getElem _
    exact ⟨_, _, h1, h2, hh.at_ i _ _ h1 h2, kY h1⟩
  have box_i : ∀ i, i < B.length → ∃ mp g, ρ (sig (bids ++ rids) (1000 + i)) = objV mp g := fun i hi => by
    obtain ⟨id, b, h1, h2, h3, h4⟩ := at_i i (by simp; omega)
    have hb := hs.blks id _ h3
    rw [List.getElem?_append_left hi] at h2
    have hbo := List.all_eq_true.1 hpin b (List.mem_of_getElem? h2)
    rw [h4]
    cases b with
    | box t cs => obtain ⟨g, ys, hv, _⟩ := hb; exact ⟨false, g, hv⟩
    | row t s m cs => cases hbo
    | prow t s m cs => cases hbo
    | lent t s m cs => cases hbo
    | obj mp Q => obtain ⟨g, o, hv, _⟩ := hb; exact ⟨mp, g, hv⟩
  let T : Nat → Prop := fun k => ∃ i, i < (B ++ R).length ∧ zT (ρ (sig (bids ++ rids) (1000 + i))) = some k
  have T_mut : ∀ k c, T k → Mut M S ρ k c := fun k c ⟨i, hi, hk⟩ => by
    obtain ⟨id, b, h1, h2, h3, h4⟩ := at_i i hi
    rw [h4] at hk
    exact .inr ⟨id, _, h3, hk, (Blk.vB c).2 (Blk.okZ_turns (List.all_eq_true.1 hh.ok b (List.mem_of_getElem? h2)) c)⟩
  have T_has : ∀ k, T k → w0.has k := fun k ⟨i, hi, hk⟩ => by
    obtain ⟨id, b, h1, h2, h3, h4⟩ := at_i i hi
    rw [h4] at hk
    exact hs.mine id _ k h3 hk
  let M' : Nat → Nat → Prop := fun k c => Mut M S ρ k c ∧ ¬ T k
  let h : Home := ⟨w, T, hs.lays, (fun g hg ht => hs.tabs g 0 hg (T_mut g 0 ht)), fun k => if 1000 ≤ k ∧ k < 1000 + B.length then some (ρ (sig (bids ++ rids) k)) else none, (fun k v hk => by
      by_cases hc : 1000 ≤ k ∧ k < 1000 + B.length
      · simp only [hc, and_self, if_true, Option.some.injEq] at hk
        obtain ⟨mp, g, hg⟩ := box_i (k - 1000) (by omega)
        have e : 1000 + (k - 1000) = k := by omega
        rw [e] at hg
        exact ⟨mp, g, by rw [← hk, hg]⟩
      · rw [if_neg hc] at hk; cases hk), (fun k hk => if_neg (by omega)), []⟩
  have hr_i : ∀ k, 1000 ≤ k → k < 1000 + B.length → h.r k = some (ρ (sig (bids ++ rids) k)) := fun k h1 h2 => if_pos ⟨h1, h2⟩
  have mutc : ∀ k c, Mut M' (asB (B ++ R)) (fun k => ρ (sig (bids ++ rids) k)) k c → Mut M S ρ k c := by
    rintro k c (hk | ⟨id, b, hb, hk, _⟩)
    · exact hk.1
    · obtain ⟨i, rfl, hbi⟩ := yN hb
      exact T_mut k c ⟨i, (List.getElem?_eq_some_iff.1 hbi).1, hk⟩
  have hsat : Sat M' 0 h (asB (B ++ R)) (fun k => ρ (sig (bids ++ rids) k)) qN h.w := by
    refine ⟨xM.refl h, fun k c hk hh2 => ?_, fun g c hg hk => ?_, rfl, rfl, fun i => .any _, fun id b hb => ?_, fun id b k hb hk => ?_, fun k v hk => ?_, fun k hk => by omega, fun i j bi bj k hi hj h1 h2 => ?_⟩
    · rcases hh2 with hh2 | hh2
      · exact absurd (Mut.lt hs hk.1) (Nat.not_lt.2 hh2)
      · exact hk.2 hh2
    · exact hs.tabs g c hg hk.1
    · obtain ⟨i, rfl, hbi⟩ := yN hb
      have hi : i < (B ++ R).length := (List.getElem?_eq_some_iff.1 hbi).1
      obtain ⟨id, b2, h1, h2, h3, h4⟩ := at_i i hi
      rw [hbi] at h2
      obtain rfl := Option.some.inj h2
      have hbo := List.all_eq_true.1 hh.ok b (List.mem_of_getElem? hbi)
      have hb2 := hs.blks id _ h3
      show y7 _ 0 _ w (ρ (sig (bids ++ rids) (1000 + i))) b
      rw [h4]
      exact y7.inn hb2 hbo fun k c _ hk => mutc k c hk
    · obtain ⟨i, rfl, hbi⟩ := yN hb
      exact .inr ⟨i, (List.getElem?_eq_some_iff.1 hbi).1, hk⟩
    · by_cases hc : 1000 ≤ k ∧ k < 1000 + B.length
      · rw [hr_i k hc.1 hc.2] at hk
        exact Option.some.inj hk
      · have : h.r k = none := if_neg hc
        rw [this] at hk; cases hk
    · obtain ⟨i', rfl, hbi⟩ := yN hi
      obtain ⟨j', rfl, hbj⟩ := yN hj
      obtain ⟨id, b1, p1, p2, p3, p4⟩ := at_i i' (List.getElem?_eq_some_iff.1 hbi).1
      obtain ⟨jd, b2, q1, q2, q3, q4⟩ := at_i j' (List.getElem?_eq_some_iff.1 hbj).1
      rw [p4] at h1
      rw [q4] at h2
      have e := hs.dist id jd _ _ k p3 q3 h1 h2
      subst e
      rw [kW hh.nodup p1 q1]
  have hcall := hf M' h _ vs ⟨fun i hi => hr_i _ (by omega) (by omega), fun k hk => if_neg (by omega), fun k hk => hk⟩ hsat hvl (fun i x v h1 h2 => yV.inn (hvs i x v h1 h2) (List.all_eq_true.1 hxs x (List.mem_of_getElem? h1)) fun k c _ hk => mutc k c hk)
  refine Calls.mono hcall ?_
  rintro e w' ⟨ρ2, v, rfl, hs2, hrep⟩
  have hρ1 : ∀ k, 1000 ≤ k → k < 1000 + B.length → ρ2 k = ρ (sig (bids ++ rids) k) := fun k h1 h2 => hs2.fix k _ (hr_i k h1 h2)
  let ρ3 : Nat → Value := fun j => if j ∈ nids then ρ2 (1000 + (bids ++ nids).idxOf j) else ρ j
  have off3 : ∀ j, j ∉ rids ++ nids → ρ3 j = ρ j := fun j hj => if_neg fun h => hj (List.mem_append_right _ h)
  have hs3 : Sat M n w0 (S.drops (rids ++ nids)) ρ3 a w := Sat.drops _ hs hlo ρ3 off3
  have idx_at : ∀ i j, (bids ++ nids)[i]? = some j → (bids ++ nids).idxOf j = i := fun i j hi => by
    have hm : j ∈ bids ++ nids := List.mem_of_getElem? hi
    have h1 : (bids ++ nids).idxOf j < (bids ++ nids).length := List.idxOf_lt_length_of_mem hm
    have h2 : (bids ++ nids)[(bids ++ nids).idxOf j]? = some j := by rw [List.getElem?_eq_getElem h1, List.getElem_idxOf h1]
    exact kW hnd h2 hi
  have old_not : ∀ j, j ∈ bids → j ∉ nids := fun j h1 h2 => (List.nodup_append.1 hnd).2.2 j h1 j h2 rfl
  have old_notR : ∀ j, j ∈ bids → j ∉ rids := fun j h1 h2 => (List.nodup_append.1 hh.nodup).2.2 j h1 j h2 rfl
  have old3 : ∀ j, j ∈ bids → ρ3 j = ρ j := fun j hj => if_neg (old_not j hj)
  have sigB : ∀ i (hi : i < bids.length), sig (bids ++ rids) (1000 + i) = bids[i] := fun i hi => kY (by rw [List.getElem?_append_left hi]; exact List.getElem?_eq_getElem hi)
  have hρ : ∀ k, 1000 ≤ k → k < 1000 + (B' ++ New).length → ρ2 k = ρ3 (sig (bids ++ nids) k) := fun k h1 h2 => by
    obtain ⟨i, rfl⟩ : ∃ i, k = 1000 + i := ⟨k - 1000, by omega⟩
    have hi : i < (bids ++ nids).length := by omega
    have hat : (bids ++ nids)[i]? = some (bids ++ nids)[i] := List.getElem?_eq_getElem hi
    rw [kY hat]
    by_cases hlt : i < bids.length
    · have e1 : (bids ++ nids)[i] = bids[i] := List.getElem_append_left hlt
      rw [e1, old3 _ (List.getElem_mem _), hρ1 (1000 + i) (by omega) (by omega), sigB i hlt]
    · have e1 : (bids ++ nids)[i] ∈ nids := by
        rw [List.getElem_append_right (by omega)]
        exact List.getElem_mem _
      show _ = if _ then _ else _
      rw [if_pos e1, idx_at i _ hat]
  have hblk : ∀ j, ((S.drops (rids ++ nids)).after (bids ++ nids) (B' ++ New)).blk j = if j ∈ bids ++ nids then ((B' ++ New).map (Blk.ren (sig (bids ++ nids))))[(bids ++ nids).idxOf j]? else (S.drops (rids ++ nids)).blk j := fun j => look_putBs _ _ (S.drops (rids ++ nids)).s j (by rw [List.length_map]; exact hLL) hnd
  have htmp : ∀ i, ((S.drops (rids ++ nids)).after (bids ++ nids) (B' ++ New)).tmp i = (S.tmp i).kills (rids ++ nids) := fun i => drops_tmp _ _ _
  generalize hS1 : (S.drops (rids ++ nids)).after (bids ++ nids) (B' ++ New) = S1 at *
  have mem_at : ∀ j, j ∈ bids ++ nids → ∃ i b, (bids ++ nids).idxOf j = i ∧ i < (B' ++ New).length ∧ (bids ++ nids)[i]? = some j ∧ (B' ++ New)[i]? = some b ∧ sig (bids ++ nids) (1000 + i) = j := fun j hj => by
    have h1 : (bids ++ nids).idxOf j < (bids ++ nids).length := List.idxOf_lt_length_of_mem hj
    have h2 : (bids ++ nids)[(bids ++ nids).idxOf j]? = some j := by rw [List.getElem?_eq_getElem h1, List.getElem_idxOf h1]
    have h3 : (bids ++ nids).idxOf j < (B' ++ New).length := by omega
    exact ⟨_, _, rfl, h3, h2, List.getElem?_eq_getElem h3, kY h2⟩
  have T_old : ∀ j k, j ∈ bids → zT (ρ j) = some k → T k := fun j k hj hk => by
    obtain ⟨i, hi, he⟩ := List.getElem_of_mem hj
    refine ⟨i, by simp; omega, ?_⟩
    rw [sigB i hi, he]; exact hk
  have bid_blk : ∀ j, j ∈ bids → ∃ b0, S.blk j = some b0 ∧ ∀ c, b0.turns c := fun j hj => by
    obtain ⟨i, hi, he⟩ := List.getElem_of_mem hj
    obtain ⟨id, b0, h1, h2, h3, h4⟩ := at_i i (by simp; omega)
    rw [sigB i hi, he] at h4
    subst h4
    exact ⟨_, h3, fun c => (Blk.vB c).2 (Blk.okZ_turns (List.all_eq_true.1 hh.ok b0 (List.mem_of_getElem? h2)) c)⟩
  have new_or : ∀ j k, j ∈ nids → zT (ρ3 j) = some k → w.heap.size ≤ k ∨ ∃ i, B.length ≤ i ∧ i < (B ++ R).length ∧ zT (ρ (sig (bids ++ rids) (1000 + i))) = some k := fun j k hj hk => by
    obtain ⟨i, b, h1, h2, h3, h4, h5⟩ := mem_at j (List.mem_append_right _ hj)
    have e3 : ρ2 (1000 + i) = ρ3 j := by rw [hρ (1000 + i) (by omega) (by omega), h5]
    have hb : (asB (B' ++ New)).blk (1000 + i) = some b := by rw [vH]; exact h4
    rcases hs2.mine (1000 + i) b k hb (by rw [e3]; exact hk) with h6 | ⟨i', h6, h7⟩
    · exact .inl h6
    · by_cases hlt : i' < B.length
      · have h8 : i' < (B' ++ New).length := by simp; omega
        have hb' : (asB (B' ++ New)).blk (1000 + i') = some (B' ++ New)[i'] := by rw [vH]; exact List.getElem?_eq_getElem h8
        have e := hs2.dist _ _ _ _ k hb hb' (by rw [e3]; exact hk) (by rw [hρ1 (1000 + i') (by omega) (by omega)]; exact h7)
        have e' : i = i' := by omega
        subst e'
        rw [List.getElem?_append_left (by omega)] at h3
        exact absurd hj (old_not j (List.mem_of_getElem? h3))
      · exact .inr ⟨i', by omega, h6, h7⟩
  have rid_of : ∀ i, B.length ≤ i → i < (B ++ R).length → sig (bids ++ rids) (1000 + i) ∈ rids := fun i h1 h2 => by
    have hi : i < (bids ++ rids).length := by omega
    rw [kY (List.getElem?_eq_getElem hi), List.getElem_append_right (by omega)]
    exact List.getElem_mem _
  -- other blocks
  have oth : ∀ j b, j ∉ bids ++ nids → S1.blk j = some b → ∃ b0, S.blk j = some b0 ∧ b = b0.kills (rids ++ nids) ∧ ρ3 j = ρ j ∧ ∀ k, zT (ρ j) = some k → ¬ T k := fun j b hj hb => by
    rw [hblk, if_neg hj] at hb
    obtain ⟨h1, b0, h2, h3⟩ := drops_some _ _ _ _ hb
    refine ⟨b0, h2, h3, off3 j h1, fun k hk ⟨i, hi, hk2⟩ => ?_⟩
    obtain ⟨id, b2, p1, p2, p3, p4⟩ := at_i i hi
    rw [p4] at hk2
    have := hs.dist j id _ _ k h2 p3 hk hk2
    subst this
    rcases List.mem_append.1 (List.mem_of_getElem? p1) with hm | hm
    · exact hj (List.mem_append_left _ hm)
    · exact h1 (List.mem_append_left _ hm)
  have mut3 : ∀ k c, Mut M S1 ρ3 k c → Mut M' (asB (B' ++ New)) ρ2 k c := fun k c hk => by
    rcases hk with hk | ⟨j, b, hb, hk, htn⟩
    · exact .inl ⟨.inl hk, fun ht => hs.out k c hk (T_has k ht)⟩
    · by_cases hj : j ∈ bids ++ nids
      · obtain ⟨i, b', h1, h2, h3, h4, h5⟩ := mem_at j hj
        refine .inr ⟨1000 + i, b', by rw [vH]; exact h4, ?_, Blk.okZ_turns (List.all_eq_true.1 hok' b' (List.mem_of_getElem? h4)) c⟩
        rw [hρ (1000 + i) (by omega) (by omega), h5]
        exact hk
      · obtain ⟨b0, h1, rfl, h3, h4⟩ := oth j b hj hb
        rw [h3] at hk
        exact .inl ⟨.inr ⟨j, b0, h1, hk, (kills_turns _ _ _).1 htn⟩, h4 k hk⟩
  have mut1 : ∀ k c, k < w.heap.size → Mut M S1 ρ3 k c → Mut M S ρ k c := by
    rintro k c hlt (hk | ⟨j, b, hb, hk, ht⟩)
    · exact .inl hk
    · by_cases hj : j ∈ bids ++ nids
      · rcases List.mem_append.1 hj with hj | hj
        · rw [old3 j hj] at hk
          exact T_mut k c (T_old j k hj hk)
        · rcases new_or j k hj hk with h1 | ⟨i, h1, h2, h3⟩
          · omega
          · exact T_mut k c ⟨i, h2, h3⟩
      · obtain ⟨b0, h1, rfl, h3, h4⟩ := oth j b hj hb
        rw [h3] at hk
        exact .inr ⟨j, b0, h1, hk, (kills_turns _ _ _).1 ht⟩
  let V : Nat → Nat → Prop := fun k c => Mut M S ρ k c ∨ Mut M S1 ρ3 k c
  have hV : ∀ k c, k < w.heap.size → V k c → Mut M S ρ k c := fun k c hk h1 => h1.elim (fun h => h) (mut1 k c hk)
  have grow : Keeps V w w' := ⟨hs2.below.size, fun k c hk hnm => World.cell?_of_block (w := w) (hs2.below.block k hk (fun ht => hnm (.inl (T_mut k c ht))))⟩
  have blk_same : ∀ k, k < w.heap.size → ¬ T k → w'.heap[k]? = w.heap[k]? := fun k hk ht => hs2.below.block k hk ht
  refine ⟨ρ3, v, rfl, ?_, yV.outw hrep hrx (fun k c _ hk => mut3 k c hk) hρ⟩
  refine ⟨⟨hs2.below.os.trans hs.below.os, hs2.below.tape.trans hs.below.tape, hs2.below.output.trans hs.below.output, Nat.le_trans hs.below.size hs2.below.size, fun k hk ht => ?_⟩, hs.out, hs.tab, hs.size, hs.defers, fun i => ?_, fun j b hb => ?_, fun j b k hb hk => ?_, hs3.fix, hs.free, fun i j bi bj k hi hj h1 h2 => ?_⟩
  · refine (hs2.below.block k (Nat.lt_of_lt_of_le hk hs.below.size) (fun hT => ?_)).trans (hs.below.block k hk ht)
    rcases T_has k hT with h1 | h1
    · omega
    · exact ht h1
  · rw [htmp]
    exact (((yV.kills (rids ++ nids) (hs.tmps i) off3).mono hV).keep grow).mono fun k c _ hk => .inr hk
  · by_cases hj : j ∈ bids ++ nids
    · obtain ⟨i, b', h1, hi, h2, h4, h6⟩ := mem_at j hj
      rw [hblk, if_pos hj, h1, List.getElem?_map, h4] at hb
      obtain rfl := Option.some.inj hb
      have hb2 := hs2.blks (1000 + i) b' (by rw [vH]; exact h4)
      have hbo := List.all_eq_true.1 hok' b' (List.mem_of_getElem? h4)
      have e : ρ2 (1000 + i) = ρ3 j := by rw [hρ (1000 + i) (by omega) (by omega), h6]
      rw [e] at hb2
      exact y7.outw hb2 hbo (fun k c _ hk => mut3 k c hk) hρ
    · obtain ⟨b0, h1, rfl, h3, h4⟩ := oth j b hj hb
      rw [h3]
      refine (y7.keep (M' := V) (y7.kills (rids ++ nids) (hs.blks j b0 h1) off3) (fun k hk => blk_same k (Mut.kJ hs h1 hk) (h4 k hk)) grow hV).mono fun k c hk => .inr hk
  · by_cases hj : j ∈ bids ++ nids
    · rcases List.mem_append.1 hj with hj2 | hj2
      · rw [old3 j hj2] at hk
        exact T_has k (T_old j k hj2 hk)
      · rcases new_or j k hj2 hk with h1 | ⟨i, h1, h2, h3⟩
        · exact .inl (Nat.le_trans hs.below.size h1)
        · exact T_has k ⟨i, h2, h3⟩
    · obtain ⟨b0, h1, rfl, h3, h4⟩ := oth j b hj hb
      rw [h3] at hk
      exact hs.mine j b0 k h1 hk
  · have mixed : ∀ i j bi bj, i ∈ bids ++ nids → j ∉ bids ++ nids → S1.blk i = some bi → S1.blk j = some bj → zT (ρ3 i) = some k → zT (ρ3 j) = some k → False := fun i j bi bj hi2 hj2 hi hj h1 h2 => by
      obtain ⟨b0, r1, rfl, r3, r4⟩ := oth j bj hj2 hj
      rw [r3] at h2
      have hlt := Mut.kJ hs r1 h2
      rcases List.mem_append.1 hi2 with hi3 | hi3
      · rw [old3 i hi3] at h1
        exact r4 k h2 (T_old i k hi3 h1)
      · rcases new_or i k hi3 h1 with h5 | ⟨i', h5, h6, h7⟩
        · omega
        · exact r4 k h2 ⟨i', h6, h7⟩
    by_cases hi2 : i ∈ bids ++ nids
    · by_cases hj2 : j ∈ bids ++ nids
      · obtain ⟨ii, bI, p1, p2, p3, p4, p5⟩ := mem_at i hi2
        have eI : ρ2 (1000 + ii) = ρ3 i := by rw [hρ (1000 + ii) (by omega) (by omega), p5]
        obtain ⟨jj, bJ, q1, q2, q3, q4, q5⟩ := mem_at j hj2
        have eJ : ρ2 (1000 + jj) = ρ3 j := by rw [hρ (1000 + jj) (by omega) (by omega), q5]
        have e := hs2.dist (1000 + ii) (1000 + jj) bI bJ k (by rw [vH]; exact p4) (by rw [vH]; exact q4) (by rw [eI]; exact h1) (by rw [eJ]; exact h2)
        have e' : ii = jj := by omega
        subst e'
        rw [p3] at q3
        exact Option.some.inj q3
      · exact (mixed i j bi bj hi2 hj2 hi hj h1 h2).elim
    · by_cases hj2 : j ∈ bids ++ nids
      · exact (mixed j i bj bi hj2 hi2 hj hi h2 h1).elim
      · obtain ⟨b0, r1, rfl, r3, r4⟩ := oth i bi hi2 hi
        obtain ⟨b1, s1, rfl, s3, s4⟩ := oth j bj hj2 hj
        rw [r3] at h1
        rw [s3] at h2
        exact hs.dist i j b0 b1 k r1 s1 h1 h2
theorem z8.z {f : FuncId} {avs xs : List AV} {B R B' New : List Blk} {rx : AV} {K : Exit → AS → Prop} {N : AS → Prop} (bids rids nids : List Nat) (hf : FnZ P f xs B R rx B' New) (hd : o.dst = some d) (hn : d < n) (he : Enters P o S f avs) (hx : avs = xs.map (AV.ren (sig (bids ++ rids)))) (hh : HandsZ S (bids ++ rids) (B ++ R)) (hbl : bids.length = B.length) (hpin : B.all Blk.pinned = true) (hrow : R.all Blk.isRowZ = true)
    (hlo : nids.all (fun k => decide (k < 1000) || rids.contains k) = true)
    (hB' : B'.length = B.length) (hnl : nids.length = New.length) (hnd : (bids ++ nids).Nodup) (hok' : (B' ++ New).all (Blk.okZ (B' ++ New).length) = true) (hxs : xs.all (AV.okE (B ++ R).length) = true) (hrx : rx.okE (B' ++ New).length = true)
    (hr : N (((S.drops (rids ++ nids)).after (bids ++ nids) (B' ++ New)).put d (rx.ren (sig (bids ++ nids))))) : z8 P n o S K N := by
  intro M w0 ρ a w KK Q hs hK _
  obtain ⟨vs, he1, he2, he3⟩ := he M n w0 ρ a w hs
  unfold Oper.wp
  rw [he1, Oper.upon_enter]
  have hrid : ∀ j ∈ rids, w0.r j = none := fun j hj => by
    obtain ⟨i, hi, e⟩ := List.getElem_of_mem hj
    have h1 : (bids ++ rids)[bids.length + i]? = some j := by rw [List.getElem?_append_right (by omega)]; simp [hi, e]
    have hlt : bids.length + i < (B ++ R).length := by rw [← hh.len]; simp; exact hi
    have h2 : (B ++ R)[bids.length + i]? = some (B ++ R)[bids.length + i] := List.getElem?_eq_getElem hlt
    have h3 := hh.at_ _ _ _ h1 h2
    have h4 : (B ++ R)[bids.length + i] ∈ R := by
      rw [List.getElem_append_right (by omega)]
      exact List.getElem_mem _
    have h5 := List.all_eq_true.1 hrow _ h4
    have h6 := hs.blks j _ h3
    generalize (B ++ R)[bids.length + i] = b at h5 h6
    cases b with
    | row t s m ys => obtain ⟨us, ho, _⟩ := h6; exact row_free hs ho
    | prow t s m ys => obtain ⟨us, ho, _⟩ := h6; exact row_free hs ho
    | box => cases h5
    | lent => cases h5
    | obj => cases h5
  have hall : ∀ j ∈ rids ++ nids, w0.r j = none := fun j hj => by
    rcases List.mem_append.1 hj with hj | hj
    · exact hrid j hj
    · have := List.all_eq_true.1 hlo j hj
      simp only [Bool.or_eq_true, decide_eq_true_eq, List.contains_iff_mem] at this
      rcases this with h1 | h1
      · exact w0.lo j h1
      · exact hrid j h1
  refine Calls.mono (call_z hf hh hbl hpin hB' hnl hnd hok' hxs hrx hs hall (by rw [he2, hx, List.length_map]) (reps_ren hx he3)) ?_
  rintro e w' ⟨ρ', v, rfl, hs', hv⟩
  show KK (a.put o.dst v) w'
  rw [hd]
  exact hK _ ρ' _ w' hr (hs'.put hn hv)
theorem vO {f : FuncId} {fn : Func} {c : Code} {args : List AV} {B R B' New : List Blk} {x : AV} (IDS : List Nat) (hf : P.funcs[f]? = some fn) (hb : fn.body = some c) (hn : fn.ntmps = n) (hle : args.length ≤ n) (h1000 : n ≤ 1000) (hids : IDS.take B.length = (List.range B.length).map (1000 + ·)) (hrx : x.okE (B' ++ New).length = true)
    (h : zY P n c { t := zipA 0 args, s := numB 1000 (B ++ R) } (fun e S => (e = .ret ∨ e = .normal) ∧ ∃ S', Sub S S' ∧ GivesA P fn S' (x.ren (sig IDS)) ∧ HandsZ S' IDS (B' ++ New))) : FnZ P f args B R x B' New := by
  intro M hh ρ vs hand hs0 hvl hvs
  have hnone := hand.no
  refine calls_of_wp hf hb ?_
  have hsat : Sat M n hh { t := zipA 0 args, s := numB 1000 (B ++ R) } ρ { tmps := vs.toArray ++ Array.replicate (fn.ntmps - vs.toArray.size) undef, defers := [] } hh.w := by
    refine ⟨hs0.below, hs0.out, hs0.tab, by simp; omega, hs0.defers, fun i => ?_, hs0.blks, hs0.mine, hs0.fix, fun k hk => hh.lo k (by omega), hs0.dist⟩
    show yV _ _ _ ((look (zipA 0 args) i).getD .any) _
    rw [look_zipA]
    simp only [Nat.zero_le, if_true, Nat.sub_zero]
    cases hx : args[i]? with
    | none => exact .any _
    | some x =>
      have hi : i < vs.length := by rw [hvl]; exact (List.getElem?_eq_some_iff.1 hx).1
      have e : ({ tmps := vs.toArray ++ Array.replicate (fn.ntmps - vs.toArray.size) undef, defers := [] } : Act).tmps.getD i undef = vs[i] := by
        simp [Array.getD_eq_getD_getElem?, Array.getElem?_append, hi]
      rw [e]
      exact hvs i x vs[i] hx (List.getElem?_eq_getElem hi)
  refine h M hh ρ _ hh.w _ hsat ?_
  rintro e S0 ρ0 a' w' ⟨he, S', hsub, hg, hH⟩ hs1 hx
  obtain ⟨ρ', hs'⟩ := hsub M n hh ρ0 a' w' hs1
  have at_i : ∀ i b, (B' ++ New)[i]? = some b → ∃ id, IDS[i]? = some id ∧ S'.blk id = some (b.ren (sig IDS)) ∧ sig IDS (1000 + i) = id := fun i b hb => by
    have hi : i < IDS.length := by rw [hH.len]; exact (List.getElem?_eq_some_iff.1 hb).1
    have h1 : IDS[i]? = some IDS[i] := List.getElem?_eq_getElem hi
    exact ⟨_, h1, hH.at_ i _ b h1 hb, kY h1⟩
  have low : ∀ i, i < B.length → sig IDS (1000 + i) = 1000 + i := fun i hi => by
    have h1 : (IDS.take B.length)[i]? = some (1000 + i) := by rw [hids, List.getElem?_map, List.getElem?_range hi]; rfl
    rw [List.getElem?_take, if_pos hi] at h1
    exact kY h1
  have mutc : ∀ k c, Mut M (asB (B' ++ New)) (fun k => ρ' (sig IDS k)) k c → Mut M S' ρ' k c := by
    rintro k c (hk | ⟨id, b, hb, hk, ht⟩)
    · exact .inl hk
    · obtain ⟨i, rfl, hbi⟩ := yN hb
      obtain ⟨id, h1, h2, h3⟩ := at_i i b hbi
      exact .inr ⟨id, _, h2, by rw [← h3]; exact hk, (Blk.vB c).2 ht⟩
  have hfin : Sat M 0 hh (asB (B' ++ New)) (fun k => ρ' (sig IDS k)) qN w' := by
    refine ⟨hs'.below, hs'.out, hs'.tab, rfl, hs0.defers, fun i => .any _, fun id b hb => ?_, fun id b k hb hk => ?_, fun k v hk => ?_, fun k hk => by omega, fun i j bi bj k hi hj h1 h2 => ?_⟩
    · obtain ⟨i, rfl, hbi⟩ := yN hb
      obtain ⟨id, h1, h2, h3⟩ := at_i i b hbi
      have hbo := List.all_eq_true.1 hH.ok b (List.mem_of_getElem? hbi)
      have hb2 := hs'.blks id _ h2
      show y7 _ 0 _ w' (ρ' (sig IDS (1000 + i))) b
      rw [h3]
      exact y7.inn hb2 hbo fun k c _ hk => mutc k c hk
    · obtain ⟨i, rfl, hbi⟩ := yN hb
      obtain ⟨id, h1, h2, h3⟩ := at_i i b hbi
      exact hs'.mine id _ k h2 (by rw [← h3]; exact hk)
    · rcases Nat.lt_or_ge k 1000 with h1 | h1
      · rw [hh.lo k h1] at hk; cases hk
      · rcases Nat.lt_or_ge k (1000 + B.length) with h2 | h2
        · have e := low (k - 1000) (by omega)
          have e2 : 1000 + (k - 1000) = k := by omega
          rw [e2] at e
          show ρ' (sig IDS k) = v
          rw [e]
          exact hs'.fix k v hk
        · rw [hnone k h2] at hk; cases hk
    · obtain ⟨i', rfl, hbi⟩ := yN hi
      obtain ⟨j', rfl, hbj⟩ := yN hj
      obtain ⟨id, p1, p2, p3⟩ := at_i i' bi hbi
      obtain ⟨jd, q1, q2, q3⟩ := at_i j' bj hbj
      have e := hs'.dist id jd _ _ k p2 q2 (by rw [← p3]; exact h1) (by rw [← q3]; exact h2)
      subst e
      rw [kW hH.nodup p1 q1]
  have fin : a'.defers = [] ∧ ∃ v, (results fn a'.tmps).run P w' = .ok v w' ∧ (∃ ρ' v2, Ending.returned v = .returned v2 ∧ Sat M 0 hh (asB (B' ++ New)) ρ' qN w' ∧ yV (Mut M (asB (B' ++ New)) ρ') ρ' w' x v2) := by
    refine ⟨hs'.defers.trans hs0.defers.symm, ?_⟩
    generalize hy : x.ren (sig IDS) = y at hg
    cases hg with
    | none hr => exact ⟨_, results_none hr _ _ _, _, _, rfl, hfin, yV.inn (ids := IDS) (ρ := ρ') (M := Mut M S' ρ') (by rw [hy]; exact .any _) hrx fun k c _ hk => mutc k c hk⟩
    | one hr ht =>
      refine ⟨_, results_tmp hr _ _ _, _, _, rfl, hfin, yV.inn (ids := IDS) (ρ := ρ') (M := Mut M S' ρ') ?_ hrx fun k c _ hk => mutc k c hk⟩
      rw [hy, ← ht]
      exact hs'.tmps _
    | p hr hx =>
      obtain ⟨v, g1, g2⟩ := res_oneM hs' hx
      have g3 := qV (P := P) (w := w') fn a'.tmps (rs := [_]) (vs := [v]) hr (by simp only [List.mapM_cons, List.mapM_nil, Sem.run_bind, Sem.run_pure, g1, Result.andThen_ok])
      exact ⟨v, g3, _, _, rfl, hfin, yV.inn (ids := IDS) (ρ := ρ') (M := Mut M S' ρ') (by rw [hy]; exact .p g2) hrx fun k c _ hk => mutc k c hk⟩
    | tup hr hl hx =>
      obtain ⟨us, g1, g2, g4, g3⟩ := res_allM hs' hx
      have g5 := qV (P := P) (w := w') fn a'.tmps hr g1
      rw [dif_neg (by simp only [List.size_toArray]; omega)] at g5
      refine ⟨_, g5, _, _, rfl, hfin, yV.inn (ids := IDS) (ρ := ρ') (M := Mut M S' ρ') ?_ hrx fun k c _ hk => mutc k c hk⟩
      rw [hy]
      refine .tup _ us (by simpa using g2) fun i c v hc hv => ?_
      rw [List.getElem?_map, Option.map_eq_some_iff] at hc
      obtain ⟨y, hy, rfl⟩ := hc
      exact .p (g3 i y v hy hv)
  cases e with
  | ret => exact fin
  | normal => exact fin
  | exit id => rcases he with h | h <;> cases h
  | goto l => rcases he with h | h <;> cases h
  | panic c => rcases he with h | h <;> cases h
  | outgrown => rcases he with h | h <;> cases h
end
end Go.Proofs.YtomlhekjgagjaaaDoor
namespace Go.Proofs.YtomlhekjgagjaaaDoor
set_option maxRecDepth 100000
set_option maxHeartbeats 16000000
open Go Go.RowKit
def PV.one : PV → Bool
  | .val v => v.oneCell'
  | _ => false
def PV.plain : PV → Bool
  | .val v => v.oneCell'
  | .agg cs => cs.all PV.one
  | _ => false
def PV.v1 : PV → Value
  | .val v => v
  | _ => undef
def PV.vv : PV → Value
  | .val v => v
  | .agg cs => .agg (cs.map PV.v1).toArray
  | _ => undef
def PV.ofV : Value → PV
  | .agg cs => .agg (cs.toList.map PV.val)
  | v => .val v
theorem rep_one {M : Nat → Nat → Prop} {w : World} {x : PV} (h : x.one = true) : Rep M w x x.v1 ∧ x.v1.oneCell' = true := by
  cases x with
  | val v => exact ⟨.val v, h⟩
  | _ => cases h
theorem rep_plain {M : Nat → Nat → Prop} {w : World} {x : PV} (h : x.plain = true) : Rep M w x x.vv := by
  cases x with
  | val v => exact .val v
  | agg cs =>
    have h1 := List.all_eq_true.1 (show cs.all PV.one = true from h)
    refine .agg cs _ (by simp) (fun i c v hc hv => ?_) fun v hv => ?_
    · rw [List.getElem?_map, hc] at hv
      cases hv
      exact (rep_one (h1 c (List.mem_of_getElem? hc))).1
    · obtain ⟨c, hc, rfl⟩ := List.mem_map.1 hv
      exact (rep_one (M := M) (w := w) (h1 c hc)).2
  | _ => cases h
theorem rep_is {M : Nat → Nat → Prop} {w : World} {x : PV} {v : Value} (h : x.plain = true) (hr : Rep M w x v) : v = x.vv := by
  cases x with
  | val u => exact rep_val hr
  | agg cs =>
    obtain ⟨vs, rfl, hl, he⟩ := rep_agg hr
    have h1 := List.all_eq_true.1 (show cs.all PV.one = true from h)
    show _ = Value.agg (cs.map PV.v1).toArray
    congr 2
    apply List.ext_getElem?
    intro i
    rw [List.getElem?_map]
    cases hc : cs[i]? with
    | none =>
      rw [List.getElem?_eq_none_iff] at hc
      rw [List.getElem?_eq_none (by omega)]
      rfl
    | some c =>
      have hi : i < vs.length := by have := (List.getElem?_eq_some_iff.1 hc).1; omega
      rw [List.getElem?_eq_getElem hi]
      have h2 := he i c vs[i] hc (List.getElem?_eq_getElem hi)
      have h3 := h1 c (List.mem_of_getElem? hc)
      cases c with
      | val u => rw [rep_val h2]; rfl
      | _ => cases h3
  | _ => cases h
abbrev ML := List (Int × PV)
def mget : ML → Int → Option PV
  | [], _ => none
  | (k, x) :: r, j => if k = j then some x else mget r j
def mput : ML → Int → PV → ML
  | [], j, y => [(j, y)]
  | (k, x) :: r, j, y => if k = j then (j, y) :: r else (k, x) :: mput r j y
structure MapQ (L : ML) (es : Array MapEntry) (clock : Nat) : Prop where
  is : es.toList.map (fun e => (e.key, e.val)) = L.map fun p => (Value.int .u64 p.1, p.2.vv)
  old : ∀ e ∈ es.toList, e.born < clock
  nodup : (es.toList.map (·.born)).Nodup
  keys : (L.map (·.1)).Nodup
  plain : ∀ p ∈ L, p.2.plain = true
def IsMap (L : ML) (_ : Nat) (o : Obj) : Prop := ∃ es clock, o = .map es clock ∧ MapQ L es clock
def mapB (L : ML) : Blk := .obj true (IsMap L)
theorem MapQ.nil : MapQ [] #[] 0 := ⟨rfl, fun e he => by simp at he, by simp, by simp, fun p hp => by cases hp⟩
theorem entries_cons {L : ML} {l : List MapEntry} (h : l.map (fun e => (e.key, e.val)) = L.map fun p => (Value.int .u64 p.1, p.2.vv)) : (l = [] ∧ L = []) ∨ ∃ e l' k x L', l = e :: l' ∧ L = (k, x) :: L' ∧ e.key = .int .u64 k ∧ e.val = x.vv ∧ l'.map (fun e => (e.key, e.val)) = L'.map fun p => (Value.int .u64 p.1, p.2.vv) := by
  cases l with
  | nil => cases L with
    | nil => exact .inl ⟨rfl, rfl⟩
    | cons => simp at h
  | cons e l' => cases L with
    | nil => simp at h
    | cons p L' =>
      simp only [List.map_cons, List.cons.injEq, Prod.mk.injEq] at h
      exact .inr ⟨e, l', p.1, p.2, L', rfl, rfl, h.1.1, h.1.2, h.2⟩
theorem findNow_map (j : Int) : ∀ (l : List MapEntry) (L : ML) (i : Nat), l.map (fun e => (e.key, e.val)) = L.map (fun p => (Value.int .u64 p.1, p.2.vv)) →
    (mget L j = none ∧ Instr.findNow (.int .u64) (.int .u64 j) l i = some none) ∨ ∃ q x, q < l.length ∧ (l[q]?).map (·.key) = some (.int .u64 j) ∧ mget L j = some x ∧ Instr.findNow (.int .u64) (.int .u64 j) l i = some (some (i + q, x.vv)) ∧ mput L j = fun y => L.set q (j, y) := by
  intro l
  induction l with
  | nil =>
    intro L i h
    rcases entries_cons h with ⟨_, rfl⟩ | ⟨_, _, _, _, _, h, _⟩
    · exact .inl ⟨rfl, rfl⟩
    · cases h
  | cons e l ih =>
    intro L i h
    rcases entries_cons h with ⟨h, _⟩ | ⟨e', l', k, x, L', h1, rfl, h3, h4, h5⟩
    · cases h
    · injection h1 with h1 h2
      subst h1 h2
      by_cases hk : k = j
      · subst hk
        refine .inr ⟨0, x, by simp, by simp [h3], by simp [mget], ?_, ?_⟩
        · simp [Instr.findNow, h3, Instr.sameNow, h4]
        · funext y; simp [mput]
      · have hk' : (j == k) = false := by simpa using fun h => hk h.symm
        rcases ih L' (i + 1) h5 with ⟨h6, h7⟩ | ⟨q, y, h6, h7, h8, h9, h10⟩
        · refine .inl ⟨by simp [mget, hk, h6], ?_⟩
          simp [Instr.findNow, h3, Instr.sameNow, hk', h7]
        · refine .inr ⟨q + 1, y, by simp; omega, by simpa using h7, by simp [mget, hk, h8], ?_, ?_⟩
          · have e1 : i + 1 + q = i + (q + 1) := by omega
            simp [Instr.findNow, h3, Instr.sameNow, hk', h9, e1]
          · funext z; simp [mput, hk, h10]
theorem mput_new : ∀ (L : ML) (j : Int) (y : PV), mget L j = none → mput L j y = L ++ [(j, y)]
  | [], _, _, _ => rfl
  | (k, x) :: r, j, y, h => by
    by_cases hk : k = j
    · simp [mget, hk] at h
    · simp only [mget, hk, if_false] at h
      simp [mput, hk, mput_new r j y h]
theorem mget_mem : ∀ {L : ML} {j : Int} {x : PV}, mget L j = some x → (j, x) ∈ L
  | (k, y) :: r, j, x, h => by
    by_cases hk : k = j
    · subst hk; simp [mget] at h; simp [h]
    · simp only [mget, hk, if_false] at h
      exact List.mem_cons_of_mem _ (mget_mem h)
theorem mget_none : ∀ {L : ML} {j : Int}, mget L j = none ↔ j ∉ L.map (·.1)
  | [], j => by simp [mget]
  | (k, y) :: r, j => by
    by_cases hk : k = j
    · simp [mget, hk]
    · simp only [mget, hk, if_false, List.map_cons, List.mem_cons, not_or]
      rw [mget_none]
      exact ⟨fun h => ⟨fun e => hk e.symm, h⟩, fun h => h.2⟩
section
variable {P : Program} {w : World} {t e key : Nat}
theorem checkKey_int {key : Nat} (b : Bool) (j : Int) (hk : P.underlying key = some (.int .u64)) : (Instr.checkKey b 10000 key (.int .u64 j)).run P w = .ok () w := by
  unfold Instr.checkKey
  simp [run_underlying hk]
theorem findKey_run {j : Int} {L : ML} {es : Array MapEntry} {clock : Nat} (hk : P.underlying key = some (.int .u64)) (hQ : MapQ L es clock) :
    (mget L j = none ∧ (Instr.findKey key (.int .u64 j) es.toList).run P w = .ok none w) ∨ ∃ q x, q < es.toList.length ∧ (es.toList[q]?).map (·.key) = some (.int .u64 j) ∧ mget L j = some x ∧ (Instr.findKey key (.int .u64 j) es.toList).run P w = .ok (some (q, x.vv)) w ∧ mput L j = fun y => L.set q (j, y) := by
  rcases findNow_map j es.toList L 0 hQ.is with ⟨h1, h2⟩ | ⟨q, x, h1, h2, h3, h4, h5⟩
  · refine .inl ⟨h1, ?_⟩
    simp [Instr.findKey, run_underlying hk, h2]
  · refine .inr ⟨q, x, h1, h2, h3, ?_, h5⟩
    simp [Instr.findKey, run_underlying hk, h4]
theorem lookup_run {m : Nat} {j : Int} {L : ML} {es : Array MapEntry} {clock : Nat} {z : Value} (c : Bool) (ht : P.underlying t = some (.map key e)) (hk : P.underlying key = some (.int .u64)) (hz : (zeroValue e).run P w = .ok z w) (hb : w.heap[m]? = some (.map es clock)) (hQ : MapQ L es clock) :
    (Instr.lookup t (.map (some m)) (.int .u64 j) c).run P w = .ok (match mget L j with | some x => if c then .tuple #[x.vv, .bool true] else x.vv | none => if c then .tuple #[z, .bool false] else z) w := by
  rcases findKey_run (P := P) (w := w) (j := j) hk hQ with ⟨h1, h2⟩ | ⟨q, x, _, _, h1, h2, _⟩
  · rw [h1]
    cases c <;> simp [Instr.lookup, run_underlying ht, MapKept.run_getObj_map hb, checkKey_int _ _ hk, h2, hz]
  · rw [h1]
    cases c <;> simp [Instr.lookup, run_underlying ht, MapKept.run_getObj_map hb, checkKey_int _ _ hk, h2]
end
section
variable {P : Program} {w : World} {t e key : Nat}
theorem set_keys {L : ML} {q : Nat} {j : Int} {y : PV} (h : ((L[q]?).map (·.1)) = some j) : (L.set q (j, y)).map (·.1) = L.map (·.1) := by
  apply List.ext_getElem?
  intro i
  rw [List.getElem?_map, List.getElem?_map, List.getElem?_set]
  by_cases hi : q = i
  · subst hi
    cases hq : L[q]? with
    | none => rw [hq] at h; cases h
    | some p =>
      rw [hq] at h
      rw [if_pos rfl, if_pos (List.getElem?_eq_some_iff.1 hq).1]
      simpa using h.symm
  · rw [if_neg hi]
theorem update_run {m : Nat} {j : Int} {L : ML} {es : Array MapEntry} {clock : Nat} {y : PV} (ht : P.underlying t = some (.map key e)) (hk : P.underlying key = some (.int .u64)) (hb : w.heap[m]? = some (.map es clock)) (hQ : MapQ L es clock) (hy : y.plain = true) :
    ∃ es' clock', (Instr.mapUpdate t (.map (some m)) (.int .u64 j) y.vv).run P w = .ok () (w.putObj m (.map es' clock')) ∧ MapQ (mput L j y) es' clock' := by
  have hset : ∀ o, (setObj m o).run P w = .ok () (w.putObj m o) := fun o => by
    simp [setObj, Sem.run, hb, World.putObj]
  rcases findKey_run (P := P) (w := w) (j := j) hk hQ with ⟨h1, h2⟩ | ⟨q, x, hq, hqk, h1, h2, h3⟩
  · refine ⟨es.push { key := .int .u64 j, val := y.vv, born := clock }, clock + 1, ?_, ?_⟩
    · simp [Instr.mapUpdate, run_underlying ht, MapKept.run_getObj_map hb, checkKey_int _ _ hk, h2, hset]
    · rw [mput_new L j y h1]
      refine ⟨by simp [hQ.is], fun e he => ?_, ?_, ?_, fun p hp => ?_⟩
      · simp only [Array.toList_push, List.mem_append, List.mem_singleton] at he
        rcases he with he | rfl
        · have := hQ.old e he; omega
        · show clock < clock + 1; omega
      · simp only [Array.toList_push, List.map_append, List.map_cons, List.map_nil]
        refine List.nodup_append.2 ⟨hQ.nodup, by simp, fun a ha b hb e => ?_⟩
        simp at hb
        obtain ⟨z, hz, rfl⟩ := List.mem_map.1 ha
        have := hQ.old z hz
        omega
      · rw [List.map_append]
        refine List.nodup_append.2 ⟨hQ.keys, by simp, fun a ha b hb e => ?_⟩
        simp at hb
        subst hb e
        exact mget_none.1 h1 ha
      · rcases List.mem_append.1 hp with hp | hp
        · exact hQ.plain p hp
        · simp at hp; subst hp; exact hy
  · have hlen : es.toList.length = L.length := by simpa using congrArg List.length hQ.is
    have hLq : ((L[q]?).map (·.1)) = some j := by
      have h4 := congrArg (fun l => l[q]?) hQ.is
      simp only [List.getElem?_map] at h4
      have h5 : ∃ a, es.toList[q]? = some a := ⟨_, List.getElem?_eq_getElem hq⟩
      obtain ⟨a, ha⟩ := h5
      obtain ⟨b, hb2⟩ : ∃ b, L[q]? = some b := ⟨_, List.getElem?_eq_getElem (by omega)⟩
      rw [ha, hb2] at h4
      rw [ha] at hqk
      simp only [Option.map_some, Option.some.injEq, Prod.mk.injEq] at h4 hqk ⊢
      rw [hqk] at h4
      have h6 := h4.1
      injection h6 with _ h7
      rw [hb2, h7]; rfl
    have hkq : ((es[q]?).map (·.key)).getD (.int .u64 j) = .int .u64 j := by
      have : es[q]? = es.toList[q]? := by simp
      rw [this, hqk]; rfl
    refine ⟨es.modify q fun e => { e with key := .int .u64 j, val := y.vv }, clock, ?_, ?_⟩
    · simp [Instr.mapUpdate, run_underlying ht, MapKept.run_getObj_map hb, checkKey_int _ _ hk, h2, hset, hkq, Instr.keyThatStays, Instr.sameBits]
    · rw [h3]
      have hm : (es.modify q fun e => { e with key := .int .u64 j, val := y.vv }).toList = es.toList.modify q (fun e => { e with key := .int .u64 j, val := y.vv }) := by simp
      have hbn : (es.toList.modify q (fun e => ({ e with key := .int .u64 j, val := y.vv } : MapEntry))).map (·.born) = es.toList.map (·.born) := by
        apply List.ext_getElem?
        intro i
        rw [List.getElem?_map, List.getElem?_map, List.getElem?_modify]
        cases es.toList[i]? with
        | none => rfl
        | some a => by_cases hi : q = i <;> simp [hi]
      refine ⟨?_, fun e he => ?_, ?_, ?_, fun p hp => ?_⟩
      · rw [hm]
        apply List.ext_getElem?
        intro i
        have h4 := congrArg (fun l => l[i]?) hQ.is
        simp only [List.getElem?_map] at h4 ⊢
        rw [List.getElem?_modify, List.getElem?_set]
        by_cases hi : q = i
        · subst hi
          obtain ⟨a, ha⟩ : ∃ a, es.toList[q]? = some a := ⟨_, List.getElem?_eq_getElem hq⟩
          rw [if_pos rfl, if_pos (by omega), ha]
          simp
        · rw [if_neg hi]
          simp only [if_neg hi]
          simpa using h4
      · have h5 : e.born ∈ es.toList.map (·.born) := by rw [← hbn, ← hm]; exact List.mem_map.2 ⟨e, he, rfl⟩
        obtain ⟨z, hz, h6⟩ := List.mem_map.1 h5
        rw [← h6]; exact hQ.old z hz
      · rw [hm, hbn]; exact hQ.nodup
      · rw [set_keys hLq]; exact hQ.keys
      · rcases List.mem_or_eq_of_mem_set hp with hp | rfl
        · exact hQ.plain p hp
        · exact hy
end
section
variable {P : Program} {n : Nat} {o : Oper} {S : AS} {d : Nat} {t : TypeId} {x y : Operand}
theorem w_makeMap (ho : o.op = .makeMap t none) (hd : o.dst = some d) (hn : d < n) : zA P n o S [] (.own d) (some (mapB [])) :=
  zA.made hd hn fun S2 hg _ M w0 ρ a w hs => by
    refine ⟨.map (some w.heap.size), w.alloc (.map #[] 0), ?_, World.grownBy_alloc w _ none, fun k hk => ?_, ?_, .inl rfl⟩
    · unfold execOp
      rw [ho]
      simp [Instr.makeMap, newObj, Sem.run]
    · simp only [zT, Option.some.injEq] at hk; omega
    · exact ⟨w.heap.size, .map #[] 0, rfl, Nat.zero_le _, by rw [heap_alloc_new], _, _, rfl, MapQ.nil⟩
theorem Sat.mapAt {M : Nat → Nat → Prop} {w0 : Home} {w : World} {ρ : Nat → Value} {a : Act} (hs : Sat M n w0 S ρ a w) {x : Operand} {id : Nat} {Q : Nat → Obj → Prop} {L : ML} (hx : S.get x = .own id) (hb : S.blk id = some (.obj true Q)) (hQ : ∀ g o, Q g o → IsMap L g o) :
    ∃ m es clock, a.eval x = .map (some m) ∧ ρ id = .map (some m) ∧ w.heap[m]? = some (.map es clock) ∧ MapQ L es clock ∧ Q m (.map es clock) := by
  have h1 := hs.rep x
  rw [hx] at h1
  have h2 := vN h1
  obtain ⟨g, o, h3, _, h4, h5⟩ := hs.blks id _ hb
  obtain ⟨es, clock, rfl, h6⟩ := hQ g o h5
  exact ⟨g, es, clock, by rw [h2, h3]; rfl, by rw [h3]; rfl, h4, h6, h5⟩
theorem w_lookupOk {k : Operand} {id key e : Nat} {j : Int} {Q : Nat → Obj → Prop} {L : ML} {zv : Value} {r : Option PV} [ht : Und P t (.map key e)] [hk : Und P key (.int .u64)] [hz : ZeroA P e zv] (ho : o.op = .lookup t x k true) (hx : S.get x = .own id) (hb : S.blk id = some (.obj true Q)) (hQ : ∀ g o, Q g o → IsMap L g o) (hj : S.get k = .p (.val (.int .u64 j)))
    (hm : mget L j = r) (hzp : (PV.ofV zv).plain = true) (hzv : (PV.ofV zv).vv = zv) (hd : o.dst = some d) (hn : d < n) : zA P n o S [id] (.tup [.p (r.getD (PV.ofV zv)), .p (.val (.bool r.isSome))]) none :=
  zA.pure hd hn fun S2 hg hbl M w0 ρ a w hs => by
    have hb2 : S2.blk id = some (.obj true Q) := (hbl id (by simp)).trans hb
    obtain ⟨m, es, clock, h1, _, h3, h4, _⟩ := hs.mapAt (x := x) ((hg x (by rw [ho]; simp [Op.operands])).trans hx) hb2 hQ
    have h5 := hs.val ((hg k (by rw [ho]; simp [Op.operands])).trans hj)
    have h6 := lookup_run (P := P) (w := w) (j := j) (z := zv) true ht.h hk.h (hz.h w) h3 h4
    subst hm
    have hz0 : Rep (Mut M S2 ρ) w (PV.ofV zv) zv := by have := rep_plain (M := Mut M S2 ρ) (w := w) hzp; rwa [hzv] at this
    have hr : ∀ u, (Instr.lookup t (.map (some m)) (.int .u64 j) true).run P w = .ok u w → (execOp a.eval o).run P w = .ok (.value u) w := fun u h => by
      unfold execOp
      rw [ho]
      simp only [h1, h5]
      simp [h]
    cases hmm : mget L j with
    | none =>
      rw [hmm] at h6
      refine ⟨_, w, hr _ h6, Below.refl _ _, .tup _ [zv, .bool false] rfl fun i c u hc hu => ?_⟩
      match i with
      | 0 => cases hc; cases hu; exact .p hz0
      | 1 => cases hc; cases hu; exact .p (.val _)
      | i + 2 => cases hc
    | some v =>
      rw [hmm] at h6
      refine ⟨_, w, hr _ h6, Below.refl _ _, .tup _ [v.vv, .bool true] rfl fun i c u hc hu => ?_⟩
      match i with
      | 0 => cases hc; cases hu; exact .p (rep_plain (h4.plain _ (mget_mem hmm)))
      | 1 => cases hc; cases hu; exact .p (.val _)
      | i + 2 => cases hc
theorem w_lookup {k : Operand} {id key e : Nat} {j : Int} {Q : Nat → Obj → Prop} {L : ML} {zv : Value} {r : Option PV} [ht : Und P t (.map key e)] [hk : Und P key (.int .u64)] [hz : ZeroA P e zv] (ho : o.op = .lookup t x k false) (hx : S.get x = .own id) (hb : S.blk id = some (.obj true Q)) (hQ : ∀ g o, Q g o → IsMap L g o) (hj : S.get k = .p (.val (.int .u64 j)))
    (hm : mget L j = r) (hzp : (PV.ofV zv).plain = true) (hzv : (PV.ofV zv).vv = zv) (hd : o.dst = some d) (hn : d < n) : zA P n o S [id] (.p (r.getD (PV.ofV zv))) none :=
  zA.pure hd hn fun S2 hg hbl M w0 ρ a w hs => by
    have hb2 : S2.blk id = some (.obj true Q) := (hbl id (by simp)).trans hb
    obtain ⟨m, es, clock, h1, _, h3, h4, _⟩ := hs.mapAt (x := x) ((hg x (by rw [ho]; simp [Op.operands])).trans hx) hb2 hQ
    have h5 := hs.val ((hg k (by rw [ho]; simp [Op.operands])).trans hj)
    have h6 := lookup_run (P := P) (w := w) (j := j) (z := zv) false ht.h hk.h (hz.h w) h3 h4
    subst hm
    have hz0 : Rep (Mut M S2 ρ) w (PV.ofV zv) zv := by have := rep_plain (M := Mut M S2 ρ) (w := w) hzp; rwa [hzv] at this
    have hr : ∀ u, (Instr.lookup t (.map (some m)) (.int .u64 j) false).run P w = .ok u w → (execOp a.eval o).run P w = .ok (.value u) w := fun u h => by
      unfold execOp
      rw [ho]
      simp only [h1, h5]
      simp [h]
    cases hmm : mget L j with
    | none =>
      rw [hmm] at h6
      exact ⟨_, w, hr _ h6, Below.refl _ _, .p hz0⟩
    | some v =>
      rw [hmm] at h6
      exact ⟨_, w, hr _ h6, Below.refl _ _, .p (rep_plain (h4.plain _ (mget_mem hmm)))⟩
theorem w_lookOkY {k : Operand} {id key e : Nat} {j : Int} {Q : Nat → Obj → Prop} {L : ML} {zv : Value} {v : PV} [ht : Und P t (.map key e)] [hk : Und P key (.int .u64)] [hz : ZeroA P e zv] (ho : o.op = .lookup t x k true) (hx : S.get x = .own id) (hb : S.blk id = some (.obj true Q)) (hQ : ∀ g o, Q g o → IsMap L g o) (hj : S.get k = .p (.val (.int .u64 j)))
    (hm : mget L j = some v) (hzp : (PV.ofV zv).plain = true) (hzv : (PV.ofV zv).vv = zv) (hd : o.dst = some d) (hn : d < n) : zA P n o S [id] (.tup [.p v, .p (.val (.bool true))]) none := w_lookupOk ho hx hb hQ hj hm hzp hzv hd hn
theorem w_lookOkN {k : Operand} {id key e : Nat} {j : Int} {Q : Nat → Obj → Prop} {L : ML} {zv : Value} [ht : Und P t (.map key e)] [hk : Und P key (.int .u64)] [hz : ZeroA P e zv] (ho : o.op = .lookup t x k true) (hx : S.get x = .own id) (hb : S.blk id = some (.obj true Q)) (hQ : ∀ g o, Q g o → IsMap L g o) (hj : S.get k = .p (.val (.int .u64 j)))
    (hm : mget L j = none) (hzp : (PV.ofV zv).plain = true) (hzv : (PV.ofV zv).vv = zv) (hd : o.dst = some d) (hn : d < n) : zA P n o S [id] (.tup [.p (PV.ofV zv), .p (.val (.bool false))]) none := w_lookupOk ho hx hb hQ hj hm hzp hzv hd hn
theorem w_lookY {k : Operand} {id key e : Nat} {j : Int} {Q : Nat → Obj → Prop} {L : ML} {zv : Value} {v : PV} [ht : Und P t (.map key e)] [hk : Und P key (.int .u64)] [hz : ZeroA P e zv] (ho : o.op = .lookup t x k false) (hx : S.get x = .own id) (hb : S.blk id = some (.obj true Q)) (hQ : ∀ g o, Q g o → IsMap L g o) (hj : S.get k = .p (.val (.int .u64 j)))
    (hm : mget L j = some v) (hzp : (PV.ofV zv).plain = true) (hzv : (PV.ofV zv).vv = zv) (hd : o.dst = some d) (hn : d < n) : zA P n o S [id] (.p v) none := w_lookup ho hx hb hQ hj hm hzp hzv hd hn
theorem w_lookN {k : Operand} {id key e : Nat} {j : Int} {Q : Nat → Obj → Prop} {L : ML} {zv : Value} [ht : Und P t (.map key e)] [hk : Und P key (.int .u64)] [hz : ZeroA P e zv] (ho : o.op = .lookup t x k false) (hx : S.get x = .own id) (hb : S.blk id = some (.obj true Q)) (hQ : ∀ g o, Q g o → IsMap L g o) (hj : S.get k = .p (.val (.int .u64 j)))
    (hm : mget L j = none) (hzp : (PV.ofV zv).plain = true) (hzv : (PV.ofV zv).vv = zv) (hd : o.dst = some d) (hn : d < n) : zA P n o S [id] (.p (PV.ofV zv)) none := w_lookup ho hx hb hQ hj hm hzp hzv hd hn
theorem qK {k : Operand} {id key e : Nat} {j : Int} {L : ML} {v : PV} [ht : Und P t (.map key e)] [hk : Und P key (.int .u64)] (ho : o.op = .mapUpdate t x k y) (hx : S.get x = .own id) (hb : S.blk id = some (mapB L)) (hj : S.get k = .p (.val (.int .u64 j))) (hy : S.get y = .p v) (hv : v.plain = true) (hd : o.dst = none) :
    Step P n o S { S with s := putL S.s id (mapB (mput L j v)) } := by
  intro M w0 ρ a w K Q hs hK
  obtain ⟨m, es, clock, h1, h2, h3, h4, _⟩ := hs.mapAt (x := x) hx hb fun _ _ h => h
  have h5 := hs.val hj
  have h6 := hs.rep y
  rw [hy] at h6
  have h7 : a.eval y = v.vv := by
    generalize a.eval y = u at h6
    cases h6 with
    | p h => exact rep_is hv h
  obtain ⟨es', clock', h8, h9⟩ := update_run (P := P) (w := w) (j := j) (y := v) ht.h hk.h h3 h4 hv
  unfold Oper.wp
  have he : (execOp a.eval o).run P w = .ok .skip (w.putObj m (.map es' clock')) := by
    unfold execOp
    rw [ho]
    simp only [h1, h5, h7]
    simp [h8]
  rw [he]
  show K (a.put o.dst undef) _
  rw [hd]
  have hg : w.grownBy (w.putObj m (.map es' clock')) (some m) := by
    refine ⟨rfl, rfl, rfl, by simp [World.putObj], fun q hq hne => ?_⟩
    exact World.putObj_heap_other fun e => hne (by rw [e])
  exact hK ρ a _ (hs.turn hb (by rw [h2]; rfl) hg (fun _ => trivial) ⟨m, .map es' clock', by rw [h2]; rfl, Nat.zero_le _, World.putObj_heap_same (Array.getElem?_eq_some_iff.1 h3).1, _, _, rfl, h9⟩)
end
theorem zY.num {P : Program} {n : Nat} {S : AS} {c : Code} {K : Exit → AS → Prop} {id : Nat} {mp : Bool} {Q : Nat → Obj → Prop} (hb : S.blk id = some (.obj mp Q)) (h : ∀ g o, Q g o → zY P n c { S with s := putL S.s id (.obj mp fun g' o' => g' = g ∧ o' = o) } K) : zY P n c S K := fun M w0 ρ a w QQ hs hK => by
  obtain ⟨g, o, h1, h2, h3, h4⟩ := hs.blks id _ hb
  have hbk : ∀ i, ({ S with s := putL S.s id (.obj mp fun g' o' => g' = g ∧ o' = o) } : AS).blk i = if id = i then some (.obj mp fun g' o' => g' = g ∧ o' = o) else S.blk i := fun i => by simp only [AS.blk, qA]
  have some_of : ∀ i bi, ({ S with s := putL S.s id (.obj mp fun g' o' => g' = g ∧ o' = o) } : AS).blk i = some bi → ∃ b1, S.blk i = some b1 ∧ ∀ c, bi.turns c → b1.turns c := by
    intro i bi hbi
    rw [hbk] at hbi
    by_cases hii : id = i
    · subst hii; exact ⟨_, hb, fun _ _ => trivial⟩
    · rw [if_neg hii] at hbi; exact ⟨bi, hbi, fun _ h => h⟩
  have hm : ∀ k c, Mut M ({ S with s := putL S.s id (.obj mp fun g' o' => g' = g ∧ o' = o) } : AS) ρ k c → Mut M S ρ k c := by
    rintro k c (hk | ⟨i, b, hi, hk, ht⟩)
    · exact .inl hk
    · obtain ⟨b1, h5, h6⟩ := some_of i b hi
      exact .inr ⟨i, b1, h5, hk, h6 c ht⟩
  refine h g o h4 M w0 ρ a w QQ ⟨hs.below, hs.out, hs.tab, hs.size, hs.defers, fun i => (hs.tmps i).mono fun k c _ hk => hm k c hk, fun i b hi => ?_, fun i b k hi hk => ?_, hs.fix, hs.free, fun i j bi bj k hi hj => ?_⟩ hK
  · rw [hbk] at hi
    by_cases hii : id = i
    · subst hii
      rw [if_pos rfl] at hi
      obtain rfl := Option.some.inj hi
      exact ⟨g, o, h1, h2, h3, rfl, rfl⟩
    · rw [if_neg hii] at hi
      exact (hs.blks i b hi).mono hm
  · obtain ⟨b1, h5, _⟩ := some_of i b hi
    exact hs.mine i b1 k h5 hk
  · obtain ⟨b1, h5, _⟩ := some_of i bi hi
    obtain ⟨b2, h6, _⟩ := some_of j bj hj
    exact hs.dist i j b1 b2 k h5 h6
def iterB (m clock : Nat) (sn : List Nat) : Blk := .obj false fun _ o => o = .mapIter (some m) clock sn.toArray clock
def mapAt (m : Nat) (es : Array MapEntry) (clock : Nat) : Blk := .obj true fun g o => g = m ∧ o = .map es clock
section
variable {P : Program} {n : Nat} {o : Oper} {S : AS} {d : Nat} {t : TypeId} {x y : Operand}
theorem w_range {id key e m : Nat} {es : Array MapEntry} {clock : Nat} [ht : Und P t (.map key e)] (ho : o.op = .range t x) (hx : S.get x = .own id) (hb : S.blk id = some (mapAt m es clock)) (hd : o.dst = some d) (hn : d < n) : zA P n o S [id] (.own d) (some (iterB m clock [])) :=
  zA.made hd hn fun S2 hg hbl M w0 ρ a w hs => by
    have hr := hs.rep x
    rw [hg x (by rw [ho]; simp [Op.operands]), hx] at hr
    obtain ⟨g, o', h3, _, h4, rfl, rfl⟩ := hs.blks id _ ((hbl id (by simp)).trans hb)
    have h1 : a.eval x = .map (some g) := (vN hr).trans h3
    refine ⟨.pointer (some ⟨w.heap.size, 0, none⟩), w.alloc (.mapIter (some g) clock #[] clock), ?_, World.grownBy_alloc w _ none, fun k hk => ?_, ?_, .inl rfl⟩
    · unfold execOp
      rw [ho]
      simp only [h1]
      have := run_range_map (P := P) w t key e g es clock ht.h h4
      simp [this]
    · simp only [zT, Option.some.injEq] at hk; omega
    · exact ⟨w.heap.size, _, rfl, Nat.zero_le _, by rw [heap_alloc_new], rfl⟩
theorem next_run {w : World} {ty r m since : Nat} {seen : Array Nat} {es : Array MapEntry} (hr : w.heap[r]? = some (.mapIter (some m) since seen since)) (hm : w.heap[m]? = some (.map es since)) (hold : ∀ e ∈ es.toList, e.born < since) :
    ((∀ e ∈ es.toList, e.born ∈ seen.toList) ∧ (Instr.next (.pointer (some ⟨r, 0, none⟩)) false ty).run P w = .ok (.tuple #[.bool false]) w) ∨
    ∃ e w1, e ∈ es.toList ∧ e.born ∉ seen.toList ∧ (w1 = w ∨ w1 = w.drew) ∧ (Instr.next (.pointer (some ⟨r, 0, none⟩)) false ty).run P w = .ok (.tuple #[.bool true, e.key, e.val]) (w1.putObj r (.mapIter (some m) since (seen.push e.born) since)) := by
  simp only [Instr.next, getObj, Sem.run_bind, Sem.run, hr, hm, Result.andThen, next_test_false seen es since since hold (Nat.le_refl _), Bool.false_eq_true, if_false]
  have hmem : ∀ x ∈ (Array.filter (fun e => !seen.contains e.born) es).toList, x.born < since := fun x hx => hold x (by simp at hx ⊢; exact hx.1)
  have hin : ∀ x, x ∈ (Array.filter (fun e => !seen.contains e.born) es).toList ↔ x ∈ es.toList ∧ x.born ∉ seen.toList := fun x => by simp
  generalize Array.filter (fun e => !seen.contains e.born) es = L at hmem hin ⊢
  have e1 : L.filter (fun x => decide (x.born < since)) = L := Array.filter_eq_self.2 (fun x hx => by simpa using hmem x (by simpa using hx))
  have e2 : L.filter (fun x => decide (x.born ≥ since)) = #[] := by
    rw [Array.filter_eq_empty_iff]
    intro x hx
    have := hmem x (by simpa using hx)
    simp
    omega
  simp only [e1, e2, Array.append_empty]
  by_cases h0 : L.size = 0
  · left
    have hL : L = #[] := Array.eq_empty_of_size_eq_zero h0
    subst hL
    refine ⟨fun e he => ?_, ?_⟩
    · by_cases hs : e.born ∈ seen.toList
      · exact hs
      · have := (hin e).2 ⟨he, hs⟩
        simp at this
    · simp [choose, Sem.run, Question.forced]
  · right
    have hne : L.isEmpty = false := by simp [Array.isEmpty, h0]
    simp only [hne, Bool.false_eq_true, if_false, Array.empty_append, Array.size_map]
    have hch : ∃ (j : Nat) (w1 : World), j < L.size ∧ (w1 = w ∨ w1 = w.drew) ∧ (choose (Question.mapNext L.size)).run P w = .ok j w1 := by
      by_cases hf : L.size ≤ 1
      · exact ⟨0, w, by omega, .inl rfl, by simp [choose, Sem.run, Question.forced, hf]⟩
      · exact ⟨_, w.drew, Nat.mod_lt _ (by omega), .inr rfl, by
          simp only [choose, Sem.run, Question.forced, decide_eq_true_eq, hf, if_false, Question.cut]
          rfl⟩
    obtain ⟨j, w1, hj, hal, hrun⟩ := hch
    have hw1 : w1.heap = w.heap := by rcases hal with rfl | rfl <;> rfl
    obtain ⟨h5, h6⟩ := (hin L[j]).1 (by simp)
    refine ⟨L[j], w1, h5, h6, hal, ?_⟩
    have hset : ∀ o', (setObj r o').run P w1 = .ok () (w1.putObj r o') := fun o' => by
      simp [setObj, Sem.run, hw1, hr, World.putObj]
    simp only [hrun, Array.getElem?_map, Array.getElem?_eq_getElem hj, Option.map_some, Sem.run_bind, hset, Result.andThen]
    rfl
theorem z8.next {it id m clock : Nat} {es : Array MapEntry} {sn : List Nat} {K : Exit → AS → Prop} {N : AS → Prop} (ho : o.op = .next x false) (hx : S.get x = .own it) (hi : S.blk it = some (iterB m clock sn)) (hb : S.blk id = some (mapAt m es clock)) (hold : ∀ e ∈ es.toList, e.born < clock) (hd : o.dst = some d) (hn : d < n)
    (h0 : (∀ e ∈ es.toList, e.born ∈ sn) → N (S.put d (.tup [.p (.val (.bool false))])))
    (h1 : ∀ e, e ∈ es.toList → e.born ∉ sn → N (({ S with s := putL S.s it (iterB m clock (sn ++ [e.born])) } : AS).put d (.tup [.p (.val (.bool true)), .any, .any]))) : z8 P n o S K N := by
  intro M w0 ρ a w KK Q hs hK _
  have hr := hs.rep x
  rw [hx] at hr
  obtain ⟨r, o', h3, _, h4, rfl⟩ := hs.blks it _ hi
  obtain ⟨g, o'', h5, _, h6, rfl, rfl⟩ := hs.blks id _ hb
  have h7 : a.eval x = .pointer (some ⟨r, 0, none⟩) := (vN hr).trans h3
  have hex : ∀ u w', (Instr.next (.pointer (some ⟨r, 0, none⟩)) false o.type).run P w = .ok u w' → (execOp a.eval o).run P w = .ok (.value u) w' := fun u w' h => by
    unfold execOp
    rw [ho]
    simp only [h7]
    simp [h]
  unfold Oper.wp
  rcases next_run (P := P) (ty := o.type) h4 h6 hold with ⟨h8, h9⟩ | ⟨e, w1, h8, h9, h10, h11⟩
  · rw [hex _ _ h9]
    show KK (a.put o.dst _) w
    rw [hd]
    refine hK _ ρ _ w (h0 (by simpa using h8)) (hs.put hn (.tup _ [.bool false] rfl fun i c u hc hu => ?_))
    match i with
    | 0 => cases hc; cases hu; exact .p (.val _)
    | i + 1 => cases hc
  · rw [hex _ _ h11]
    show KK (a.put o.dst _) _
    rw [hd]
    have hlt : r < w.heap.size := (Array.getElem?_eq_some_iff.1 h4).1
    have hg : w.grownBy (w1.putObj r (.mapIter (some g) clock (sn.toArray.push e.born) clock)) (some r) := by
      rcases h10 with rfl | rfl
      · exact ⟨rfl, rfl, rfl, by simp [World.putObj], fun k hk hne => World.putObj_heap_other fun e => hne (by rw [e])⟩
      · exact ⟨rfl, rfl, rfl, by show w.heap.size ≤ (w.heap.setIfInBounds _ _).size; simp, fun k hk hne => (World.putObj_heap_other fun e => hne (by rw [e]))⟩
    have hnew : (w1.putObj r (.mapIter (some g) clock (sn.toArray.push e.born) clock)).heap[r]? = some (.mapIter (some g) clock (sn.toArray.push e.born) clock) := by
      rcases h10 with rfl | rfl
      · exact World.putObj_heap_same hlt
      · exact World.putObj_heap_same (w := w.drew) hlt
    have hs2 := hs.turn (b' := iterB g clock (sn ++ [e.born])) hi (by rw [h3]; rfl) hg (fun _ => trivial) ⟨r, _, h3, Nat.zero_le _, hnew, by simp⟩
    refine hK _ ρ _ _ (h1 e h8 (by simpa using h9)) (hs2.put hn (.tup _ [.bool true, e.key, e.val] rfl fun i c u hc hu => ?_))
    match i with
    | 0 => cases hc; cases hu; exact .p (.val _)
    | 1 => cases hc; exact .any _
    | 2 => cases hc; exact .any _
    | i + 3 => cases hc
theorem entry_run {w : World} {r m clock : Nat} {sn : List Nat} {es : Array MapEntry} {e : MapEntry} (hr : w.heap[r]? = some (.mapIter (some m) clock (sn ++ [e.born]).toArray clock)) (hm : w.heap[m]? = some (.map es clock)) (he : e ∈ es.toList) (hnd : (es.toList.map (·.born)).Nodup) :
    (Instr.entry (.pointer (some ⟨r, 0, none⟩))).run P w = .ok (.tuple #[e.key, e.val]) w := by
  have hf : es.find? (·.born == e.born) = some e := by rw [← Array.find?_toList]; exact find_born e es.toList hnd he
  have hb : ((sn ++ [e.born]).toArray).back? = some e.born := by simp
  simp only [Instr.entry, getObj, Sem.run_bind, Sem.run, hr, hm, Result.andThen, hb, bne_self_eq_false, Bool.false_eq_true, if_false, hf]
  rfl
theorem w_entry {it id m clock : Nat} {es : Array MapEntry} {sn : List Nat} {e : MapEntry} {k v : PV} (ho : o.op = .entry x) (hx : S.get x = .own it) (hi : S.blk it = some (iterB m clock (sn ++ [e.born]))) (hb : S.blk id = some (mapAt m es clock)) (he : e ∈ es.toList) (hnd : (es.toList.map (·.born)).Nodup) (hk : k.plain = true) (hv : v.plain = true) (ek : e.key = k.vv) (ev : e.val = v.vv) (hd : o.dst = some d) (hn : d < n) :
    zA P n o S [it, id] (.tup [.p k, .p v]) none :=
  zA.pure hd hn fun S2 hg hbl M w0 ρ a w hs => by
    have hr := hs.rep x
    rw [hg x (by rw [ho]; simp [Op.operands]), hx] at hr
    obtain ⟨r, o', h3, _, h4, rfl⟩ := hs.blks it _ ((hbl it (by simp)).trans hi)
    obtain ⟨g, o'', h5, _, h6, rfl, rfl⟩ := hs.blks id _ ((hbl id (by simp)).trans hb)
    have h7 : a.eval x = .pointer (some ⟨r, 0, none⟩) := (vN hr).trans h3
    refine ⟨.tuple #[e.key, e.val], w, ?_, Below.refl _ _, .tup _ [e.key, e.val] rfl fun i c u hc hu => ?_⟩
    · unfold execOp
      rw [ho]
      simp only [h7]
      simp [entry_run (P := P) h4 h6 he hnd]
    · match i with
      | 0 => cases hc; cases hu; rw [ek]; exact .p (rep_plain hk)
      | 1 => cases hc; cases hu; rw [ev]; exact .p (rep_plain hv)
      | i + 2 => cases hc
end
end Go.Proofs.YtomlhekjgagjaaaDoor
namespace Go.Proofs.YtomlhekjgagjaaaDoor
set_option maxRecDepth 100000
set_option maxHeartbeats 16000000
open Go Go.RowKit
class MethA (P : Program) (t : Nat) (name : String) (f : outParam Nat) (ptr : outParam Bool) (el : outParam Nat) : Prop where
  m : (P.info? t).map (fun i => (i.methods.find? (·.name == name)).map fun m => (m.path, m.func)) = some (some (#[], some (f, ptr)))
  u : P.underlying t = some (.pointer el)
section
variable {P : Program} {n : Nat} {o : Oper} {S : AS} {d : Nat} {x y : Operand}
theorem method_run {w : World} {t f el : Nat} {name : String} {ptr : Bool} [hm : MethA P t name f ptr el] {v r : Value} (fuel : Nat) (hf : 0 < fuel) (hr : ∀ s, (receiverAt t (.val v) ptr s).run P w = .ok r w) : (method fuel t v name).run P w = .ok (f, r) w := by
  cases fuel with
  | zero => omega
  | succ k =>
    obtain ⟨i, hi, h2⟩ := Option.map_eq_some_iff.1 hm.m
    obtain ⟨mm, h3, h4⟩ := Option.map_eq_some_iff.1 h2
    injection h4 with h5 h6
    have hti : (typeInfo t).run P w = .ok i w := by simp [typeInfo, Sem.run, hi]
    unfold method
    simp only [Sem.run_bind, hti, Result.andThen, h3, h5, h6, follow, Sem.run_pure, hr]
theorem recv_ptr {w : World} {t el : Nat} {v : Value} {s : Option String} (hu : P.underlying t = some (.pointer el)) : (receiverAt t (.val v) true s).run P w = .ok v w := by
  unfold receiverAt
  simp only [Sem.run_bind, run_underlying hu, Result.andThen, Place.get, Sem.run_pure]
theorem recv_val {w : World} {t el : Nat} {a : Addr} {v : Value} {s : Option String} (hu : P.underlying t = some (.pointer el)) (hag : (isAgg el).run P w = .ok false w) (hc : w.cell? a = some v) : (receiverAt t (.val (.pointer (some a))) false s).run P w = .ok v w := by
  have hl : (loadVar el a).run P w = .ok v w := by
    have := loadAt_one (P := P) (w := w) (t := el) hag hc
    unfold Instr.loadAt at this
    simpa [Instr.sureAddr, Sem.run_bind, Sem.run_pure, Result.andThen] using this
  unfold receiverAt
  cases s with
  | none => simp only [Sem.run_bind, run_underlying hu, Result.andThen, Place.get, Sem.run_pure, asAddr, hl]
  | some nm =>
    have h1 : (Builtin.ssaWrapNilChk_ #[t] t #[.pointer (some a), strVal "", strVal nm]).run P w = .ok (.pointer (some a)) w := rfl
    simp only [Sem.run_bind, run_underlying hu, Result.andThen, Place.get, Sem.run_pure, h1, asAddr, hl]
theorem rep_ifp {M : Nat → Nat → Prop} {ρ : Nat → Value} {w : World} {t id : Nat} {v : Value} (h : yV M ρ w (.ifp t id) v) : ∃ g, zT (ρ id) = some g ∧ v = .iface t (.pointer (some ⟨g, 0, none⟩)) := by
  cases h with
  | ifp _ _ g h => exact ⟨g, h, rfl⟩
theorem call_inv {w : World} {t f el : Nat} {name : String} {ptr : Bool} [hm : MethA P t name f ptr el] [hc : HasFn P f] {v r : Value} {args : Array Value} (hr : ∀ s, (receiverAt t (.val v) ptr s).run P w = .ok r w) :
    (callMethod (.iface t v) name args).run P w = .ok (.enter f (#[r] ++ args)) w := by
  have h1 := method_run (P := P) (w := w) (t := t) (name := name) (ptr := ptr) (v := v) (r := r) (P.types.size + Made.depth) (by unfold Made.depth; omega) hr
  unfold callMethod
  have h2 : (program).run P w = .ok P w := rfl
  simp only [Sem.run_bind, h2, Result.andThen, h1, hc.h]
theorem inv_head (v : Value) (A : Array Value) : (#[v] ++ A)[0]? = some v := by simp [Array.getElem?_append]
theorem inv_tail (v : Value) (A : Array Value) : (#[v] ++ A).extract 1 (#[v] ++ A).size = A := by
  apply Array.ext'
  simp
theorem enters_mp {t f el id : Nat} {name : String} {args : Array Operand} {ts : Array TypeId} [hm : MethA P t name f true el] [hc : HasFn P f] (ho : o.op = .call { callee := .invoke x name, args := args, argTypes := ts }) (hx : S.get x = .ifp t id) : Enters P o S f (.ptr id 0 :: args.toList.map S.get) := fun M n w0 ρ a w hs => by
  have h1 := hs.rep x
  rw [hx] at h1
  obtain ⟨g, hg, hv⟩ := rep_ifp h1
  refine ⟨.pointer (some ⟨g, 0, none⟩) :: args.toList.map a.eval, ?_, by simp, ?_⟩
  · have e : (#[Value.pointer (some ⟨g, 0, none⟩)] ++ args.map a.eval) = (Value.pointer (some ⟨g, 0, none⟩) :: args.toList.map a.eval).toArray := by apply Array.ext'; simp
    have h2 := call_inv (P := P) (w := w) (t := t) (f := f) (name := name) (ptr := true) (v := .pointer (some ⟨g, 0, none⟩)) (args := args.map a.eval) fun s => recv_ptr hm.u
    unfold execOp
    rw [ho, ← e, ← h2]
    simp only [resolve, hv, Sem.run_bind, Sem.run_pure, Result.andThen_ok, invoke]
    rw [inv_head]
    simp only [inv_tail]
  · intro i c v hc hv
    cases i with
    | zero => cases hc; cases hv; exact .ptr id 0 g hg
    | succ i => exact reps_get hs args.toList i c v hc hv
theorem xA {t f el id : Nat} {r : AV} {name : String} {args : Array Operand} {ts : Array TypeId} {b : Blk} {m : Nat} [hm : MethA P t name f false el] [hc : HasFn P f] [hty : TyA P el false m] (ho : o.op = .call { callee := .invoke x name, args := args, argTypes := ts }) (hx : S.get x = .ifp t id) (hb : S.blk id = some b) (hc0 : b.xs[0]? = some r) : Enters P o S f (r :: args.toList.map S.get) := fun M n w0 ρ a w hs => by
  have h1 := hs.rep x
  rw [hx] at h1
  obtain ⟨g, hg, hv⟩ := rep_ifp h1
  obtain ⟨ys, hcs, hcell⟩ := (hs.blks id b hb).cells hg
  have h0 : 0 < b.xs.length := (List.getElem?_eq_some_iff.1 hc0).1
  have hy : ys[0]? = some (ys[0]'(by rw [hcs.len]; exact h0)) := List.getElem?_eq_getElem _
  have hrep := hcs.each 0 _ _ hc0 hy
  refine ⟨(ys[0]'(by rw [hcs.len]; exact h0)) :: args.toList.map a.eval, ?_, by simp, ?_⟩
  · have e : (#[ys[0]'(by rw [hcs.len]; exact h0)] ++ args.map a.eval) = ((ys[0]'(by rw [hcs.len]; exact h0)) :: args.toList.map a.eval).toArray := by apply Array.ext'; simp
    have h2 := call_inv (P := P) (w := w) (t := t) (f := f) (name := name) (ptr := false) (v := .pointer (some ⟨g, 0, none⟩)) (args := args.map a.eval) fun s => recv_val (s := s) hm.u (hty.ag w) (hcell 0 _ hy).1
    unfold execOp
    rw [ho, ← e, ← h2]
    simp only [resolve, hv, Sem.run_bind, Sem.run_pure, Result.andThen_ok, invoke]
    rw [inv_head]
    simp only [inv_tail]
  · intro i c v hc hv
    cases i with
    | zero => cases hc; cases hv; exact hrep
    | succ i => exact reps_get hs args.toList i c v hc hv
theorem xI {t id : Nat} (ho : o.op = .move x) (hx : S.get x = .ifp t id) (hd : o.dst = some d) (hn : d < n) : zA P n o S [] (.ifp t id) none := by
  have := a_move (P := P) (S := S) (x := x) (.inl ho) hd hn
  rwa [hx] at this
theorem w_ifp {t id : Nat} (hc : P.concrete t = true) (ho : o.op = .makeInterface t x) (hx : S.get x = .ptr id 0) (hd : o.dst = some d) (hn : d < n) : zA P n o S [] (.ifp t id) none :=
  zA.pure hd hn fun S2 hg _ M w0 ρ a w hs => by
    have h1 := hs.rep x
    rw [hg x (by rw [ho]; simp [Op.operands]), hx] at h1
    obtain ⟨g, hgv, hv⟩ := kC h1
    refine ⟨.iface t (a.eval x), w, ?_, Below.refl _ _, by rw [hv]; exact .ifp t id g hgv⟩
    unfold execOp
    rw [ho]
    simp only [Sem.run_bind, run_makeInterface w t _ hc]
    rfl
theorem w_assert1 {s t : Nat} {y : PV} {pl : List (Nat × Nat)} [hb : BuildA P t pl] (ho : o.op = .typeAssert x s t false) (hx : S.get x = .p (.ifc t y)) (hd : o.dst = some d) (hn : d < n) : zA P n o S [] (.p y) none :=
  zA.pure hd hn fun S2 hg _ M w0 ρ a w hs => by
    have h1 := xJ hs ((hg x (by rw [ho]; simp [Op.operands])).trans hx)
    generalize hv : a.eval x = v at h1
    cases h1 with
    | ifc _ _ v h2 =>
      refine ⟨v, w, ?_, Below.refl _ _, .p h2⟩
      unfold execOp
      rw [ho]
      obtain ⟨fs, hfs⟩ : ∃ fs, P.underlying t = some (.struct fs) := ⟨_, hb.st⟩
      simp [Instr.typeAssert, run_underlying hfs, hv]
end
section
variable {P : Program} {n : Nat} {ops : Array Oper} {S : AS} {K : Exit → AS → Prop}
theorem zZ.buildBox {o1 o2 : Oper} {rest : List Oper} {d1 d2 t : Nat} {ps : Array (Nat × Operand)} {pl : List (Nat × Nat)} {z : Value} {zs : List AV} [hb : BuildA P t pl] [hz : ZeroA P t z]
    (h1 : o1.op = .build t ps) (g1 : o1.guard = none) (e1 : o1.dst = some d1)
    (h2 : o2.op = .box t (.tmp d1)) (g2 : o2.guard = none) (e2 : o2.dst = some d2)
    (hn1 : d1 < n) (hn2 : d2 < n) (hz1 : z.cells.toList.all (fun u => u.oneCell') = true)
    (hk : ps.toList.all (fun p => partB S (S.get p.2)) = true)
    (hf : fillA (fun i => pl[i]?) (z.cells.toList.map fun u => .p (.val u)) (ps.toList.map fun p => (p.1, S.get p.2)) = some zs) (hl : zs.length = z.cells.toList.length)
    (hr : zZ P n ops rest (((S.put d1 .any).create d2 (.box t zs)).put d2 (.ptr d2 0)) K) : zZ P n ops (o1 :: o2 :: rest) S K := by
  intro M w0 ρ a w Q hs hK
  have parts : ∀ p ∈ ps.toList, yK (Mut M S ρ) ρ w (S.get p.2).xU (a.eval p.2).cells.toList := fun p hp => by
    have h := List.all_eq_true.1 hk p hp
    have hrep := hs.rep p.2
    generalize hav : S.get p.2 = av at h hrep ⊢
    cases hpo : av.kD with
    | true => exact repA_cells hrep hpo
    | false =>
      unfold partB at h
      rw [hpo, Bool.false_or] at h
      cases av with
      | own id =>
        cases hbk : S.blk id with
        | none => simp only [hbk] at h; cases h
        | some b =>
          simp only [hbk] at h
          exact cells_own hs hbk h hrep
      | _ => cases h
  obtain ⟨us, hu1, hu2⟩ := fill_rep (fun i => pl[i]?) S.get a.eval ps.toList _ zs z.cells.toList parts hf (zerosA fun u hu => List.all_eq_true.1 hz1 u hu)
  have hr1 : (execOp a.eval o1).run P w = .ok (.value (.agg us.toArray)) w := by
    unfold execOp
    rw [h1]
    have e : (ps.map fun (i, x) => (i, a.eval x)) = (ps.toList.map fun p => (p.1, a.eval p.2)).toArray := by apply Array.ext'; simp
    simp only [e, Sem.run_bind, run_build (P := P) (t := t) (pl := pl) (z := z) _ w _ hu1]
    rfl
  unfold wpList
  rw [if_pos (by simp [Region.wanted, g1])]
  refine .inl ?_
  unfold Oper.wp
  rw [hr1]
  show wpList P ops Q (o2 :: rest) (a.put o1.dst (.agg us.toArray)) w
  rw [e1]
  have hs1 : Sat M n w0 (S.put d1 .any) ρ (a.put (some d1) (.agg us.toArray)) w := hs.put hn1 (.any _)
  generalize hsS1 : S.put d1 .any = S1 at hs1 hr
  have t1 : (a.put (some d1) (.agg us.toArray)).eval (.tmp d1) = .agg us.toArray := by
    have : d1 < a.tmps.size := by rw [hs.size]; exact hn1
    simp [Act.eval, Act.put, Array.getD_eq_getD_getElem?, Array.getElem?_setIfInBounds, this]
  generalize ha1 : a.put (some d1) (.agg us.toArray) = a1 at hs1 t1
  have hMut : Mut M S1 ρ = Mut M S ρ := by subst hsS1; rfl
  have hr2 : (execOp a1.eval o2).run P w = .ok (.value (.pointer (some ⟨w.heap.size, 0, none⟩))) (w.alloc (.cells us.toArray t)) := by
    unfold execOp
    rw [h2]
    simp [Instr.box, newVar, newRow, t1, Value.cells]
  unfold wpList
  rw [if_pos (by simp [Region.wanted, g2])]
  refine .inl ?_
  unfold Oper.wp
  rw [hr2]
  show wpList P ops Q rest (a1.put o2.dst (.pointer (some ⟨w.heap.size, 0, none⟩))) (w.alloc (.cells us.toArray t))
  rw [e2]
  generalize hw1 : w.alloc (.cells us.toArray t) = w1
  have hh1 : w1.heap[w.heap.size]? = some (.cells us.toArray t (0, 0)) := by rw [← hw1]; exact heap_alloc_new w _
  have hg1 : w.grownBy w1 none := by rw [← hw1]; exact World.grownBy_alloc w _ none
  have hs2 := hs1.change d2 (.box t zs) (.pointer (some ⟨w.heap.size, 0, none⟩)) none (hs1.free d2 hn2) hg1 (fun k hk => by cases hk) (fun k hk => .inl (by simp only [zT, Option.some.injEq] at hk; omega)) (by
    rw [hMut]
    refine ⟨w.heap.size, us, rfl, Nat.zero_le _, hh1, (hu2.mono fun k c hk h => ?_).keep ⟨hg1.size, fun k c hk _ => World.cell?_of_block (w := w) (hg1.block k hk (fun h => by cases h))⟩⟩
    rcases h with h | ⟨h, _⟩
    · exact h
    · simp only [zT, Option.some.injEq] at h
      omega)
  have hs3 := hs2.put (d := d2) (x := .ptr d2 0) (v := .pointer (some ⟨w.heap.size, 0, none⟩)) hn2 (.ptr d2 0 w.heap.size (by simp [upd, zT]))
  exact hr M w0 _ _ w1 Q hs3 hK
theorem w_boxOwn {o : Oper} {d : Nat} {t : TypeId} {x : Operand} {id : Nat} {b : Blk} (ho : o.op = .box t x) (hx : S.get x = .own id) (hb : S.blk id = some b) (hk : partB S (.own id) = true) (hd : o.dst = some d) (hn : d < n) : zA P n o S [id] (.ptr d 0) (some (.box t [.own id])) :=
  zA.made hd hn fun S2 hg hbl M w0 ρ a w hs => by
    have hr := hs.rep x
    have hb2 : S2.blk id = some b := (hbl id (by simp)).trans hb
    rw [hg x (by rw [ho]; simp [Op.operands]), hx] at hr
    have hc : yK (Mut M S2 ρ) ρ w (AV.own id).xU (a.eval x).cells.toList := by
      unfold partB at hk
      simp only [hb] at hk
      exact cells_own hs hb2 hk hr
    refine ⟨.pointer (some ⟨w.heap.size, 0, none⟩), w.alloc (.cells (a.eval x).cells t), ?_, World.grownBy_alloc w _ none, fun k hk => ?_, ?_, .inr ⟨rfl, _, rfl⟩⟩
    · unfold execOp
      rw [ho]
      simp [Instr.box, newVar, newRow]
    · simp only [zT, Option.some.injEq] at hk; omega
    · refine ⟨w.heap.size, (a.eval x).cells.toList, rfl, Nat.zero_le _, by rw [heap_alloc_new], ⟨hc.len, fun i c u h2 h3 => ?_, hc.one⟩⟩
      refine ((hc.each i c u h2 h3).mono fun k c hk h => ?_).keep (.of_below _ ((Below.refl _ _).alloc (Nat.le_refl _) _))
      rcases h with h | h
      · exact h
      · simp only [zT, Option.some.injEq] at h; omega
end
theorem zY.cutK {P : Program} {n : Nat} {S M : AS} {c rest : Code} {K : Exit → AS → Prop} (h1 : zY P n c S (zH (fun S' => Sub S' M) K)) (h2 : zY P n rest M K) : zY P n c S (zH (fun S' => zY P n rest S' K) K) := h1.mono fun e S' h => by
  cases e with
  | normal => exact h2.sub h
  | exit id => exact h
  | goto l => exact h
  | ret => exact h
  | panic c => exact h
  | outgrown => exact h
theorem flat_take {sz : Nat} : ∀ (es : List PV) (m : Nat), (∀ e ∈ es, e.cells.length = sz) → m ≤ es.length → flat (es.take m) = (flat es).take (m * sz)
  | [], m, _, _ => by simp [flat]
  | c :: r, 0, _, _ => by simp [flat]
  | c :: r, m + 1, h, hm => by
    have ih := flat_take r m (fun e he => h e (by simp [he])) (by simpa using hm)
    have h1 := h c (by simp)
    show c.cells ++ flat (r.take m) = (c.cells ++ flat r).take ((m + 1) * sz)
    rw [ih, Nat.succ_mul, List.take_append, h1, Nat.add_sub_cancel]
    congr 1
    exact (List.take_of_length_le (by omega)).symm
section
variable {P : Program} {n : Nat} {o : Oper} {S : AS} {d : Nat} {t : TypeId} {x : Operand}
theorem s_headV {id e sz m : Nat} {k : IntKind} {h : Int} {es : List PV} {agg : Bool} {xh : Operand} [ht : Und P t (.slice e)] [he : TyA P e agg sz] (ho : o.op = .slice t x none (some xh) none) (hx : S.get x = .own id) (hb : S.blk id = some (x9 e sz es)) (hes : ∀ e ∈ es, e.cells.length = sz) (hh : S.get xh = .p (.val (.int k h))) (hm : h = (m : Int)) (hle : m ≤ es.length) (hd : o.dst = some d) (hn : d < n) :
    Step P n o S ((S.create id (x9 e sz (es.take m))).put d (.own id)) := by
  intro M w0 ρ a w K Q hs hK
  subst hm
  have r1 := hs.rep x
  rw [hx] at r1
  have e1 := vN r1
  have r3 := hs.val hh
  obtain ⟨ys, ho2, hc⟩ := hs.blks id _ hb
  have hrn := row_free hs ho2
  have hel : P.elem t = e := by simp [Program.elem, ht.h]
  have ht2 : P.underlying t = some (.slice (P.elem t)) := by rw [hel]; exact ht.h
  have hfl := flat_take es m hes hle
  have hml : (es.take m).length = m := by rw [List.length_take]; omega
  have main : ∀ v' row, (execOp a.eval o).run P w = .ok (.value v') w → zT v' = row → (∀ k, row = some k → zT (ρ id) = some k) → (∃ us, w.ownsRow 0 e sz v' m us ∧ us = ys.take (m * sz)) → o.wp P a w K Q := fun v' row hrun hblk hrow ⟨us, hown, hus⟩ => by
    unfold Oper.wp
    rw [hrun]
    show K (a.put o.dst v') w
    rw [hd]
    have h1 := hs.change id (x9 e sz (es.take m)) v' row hrn (w' := w) ⟨rfl, rfl, rfl, Nat.le_refl _, fun _ _ _ => rfl⟩ (fun k hk => ⟨_, hb, hrow k hk, fun _ _ => trivial, fun _ _ => rfl⟩) (fun k hk => .inr (hblk ▸ hk)) (by
      refine ⟨us, by rw [hml]; exact hown, ?_⟩
      rw [hfl, hus]
      refine ⟨by rw [List.length_take, List.length_map, List.length_take, hc.len, List.length_map], fun i c v h2 h3 => ?_, fun v hv => hc.one v (List.mem_of_mem_take hv)⟩
      rw [List.map_take, List.getElem?_take] at h2
      rw [List.getElem?_take] at h3
      split at h2
      · rename_i hlt
        rw [if_pos hlt] at h3
        refine (hc.each i c v h2 h3).mono fun k c _ hk => ?_
        rcases hk with hk | ⟨hk, _⟩
        · exact hk
        · exact .inr ⟨id, _, hb, hrow k (by rw [← hblk]; exact hk), trivial⟩
      · cases h2)
    refine hK _ _ w (h1.put hn ?_)
    have := yV.own (M := Mut M (S.create id (x9 e sz (es.take m))) (upd ρ id v')) (ρ := upd ρ id v') (w := w) id
    simpa [upd] using this
  rcases ho2.2 with ⟨hv, h0⟩ | ⟨g, cap, cur, hv, hg, hh2, hn2, hcm, hcs, htk⟩
  · have hn0 : es.length = 0 := by
      have := h0
      first
        | exact this
        | exact this.1
        | (obtain ⟨h1, _⟩ := this; exact h1)
    have hm0 : m = 0 := by omega
    subst hm0
    refine main (.slice none 0 0) none ?_ rfl (fun k hk => by cases hk) ⟨[], World.ownsRow_nil w _ e sz, by simp⟩
    unfold execOp
    rw [ho]
    simp only [Option.map_some, Option.map_none, e1, hv, r3, Sem.run_bind, run_sliceAt_slice w t _ _ _ _ ht2, run_slice_h w t none 0 0 ht2 k ((0 : Nat) : Int) (by omega) (by omega)]
    rw [hel, he.sz w]
    rfl
  · have hmul : m * sz ≤ es.length * sz := Nat.mul_le_mul_right _ hle
    refine main (.slice (some ⟨g, 0, none⟩) m cap) (some g) ?_ rfl (fun k hk => by cases hk; rw [hv]; rfl) ⟨ys.take (m * sz), ⟨by rw [List.length_take, ho2.1]; omega, .inr ⟨g, cap, cur, rfl, hg, hh2, by omega, hcm, hcs, ?_⟩⟩, rfl⟩
    · unfold execOp
      rw [ho]
      simp only [Option.map_some, Option.map_none, e1, hv, r3, Sem.run_bind, run_sliceAt_slice w t _ _ _ _ ht2, run_slice_h w t (some ⟨g, 0, none⟩) es.length cap ht2 k (m : Int) (by omega) (by omega)]
      rw [hel, he.sz w]
      simp only [Result.andThen, sliced, Int.toNat_natCast, Nat.sub_zero, Nat.zero_mul, Option.map_some]
      by_cases h0 : cap = 0
      · rw [if_pos h0]; rfl
      · rw [if_neg h0]; rfl
    · rw [← htk, List.take_take, Nat.min_eq_left hmul]
end
end Go.Proofs.YtomlhekjgagjaaaDoor
namespace Go.Proofs.YtomlhekjgagjaaaDoor
set_option maxRecDepth 100000
set_option maxHeartbeats 16000000
open Go Go.RowKit
def tblN (j : Nat) : Nat := (tbl0.getD j (.u32, 0)).2.toNat
def nibN (s : Nat) : Nat := s / 16 ^^^ tblN (s % 16)
def byteN (s c : Nat) : Nat := nibN (nibN (s ^^^ c))
def crcN (s : Nat) (bs : List Int) : Nat := bs.foldl (fun s c => byteN s c.toNat) s
def bitN (s : Nat) : Nat := if s % 2 = 1 then s / 2 ^^^ 3988292384 else s / 2
def bitsN : Nat → Nat → Nat
  | 0, s => s
  | k + 1, s => bitN (bitsN k s)
def xC (sum : Nat) (bs : List Int) : Nat := 4294967295 - crcN (4294967295 - sum) bs
theorem xor_half (a b : Nat) : (a ^^^ b) / 2 = a / 2 ^^^ b / 2 := by
  apply Nat.eq_of_testBit_eq
  intro i
  rw [Nat.testBit_xor, Nat.testBit_div_two, Nat.testBit_div_two, Nat.testBit_div_two, Nat.testBit_xor]
theorem xor_par (a b : Nat) : (a ^^^ b) % 2 = (a % 2 + b % 2) % 2 := by
  have h := Nat.testBit_xor a b 0
  simp only [Nat.testBit_zero] at h
  have ha : a % 2 = 0 ∨ a % 2 = 1 := by omega
  have hb : b % 2 = 0 ∨ b % 2 = 1 := by omega
  have hc : (a ^^^ b) % 2 = 0 ∨ (a ^^^ b) % 2 = 1 := by omega
  rcases ha with ha | ha <;> rcases hb with hb | hb <;> rcases hc with hc | hc <;> rw [ha, hb, hc] at h <;> rw [ha, hb, hc] <;> first | rfl | exact absurd h (by decide)
theorem bit_xor (a b : Nat) : bitN (a ^^^ b) = bitN a ^^^ bitN b := by
  unfold bitN
  rw [xor_half, xor_par]
  have ha : a % 2 = 0 ∨ a % 2 = 1 := by omega
  have hb : b % 2 = 0 ∨ b % 2 = 1 := by omega
  rcases ha with ha | ha <;> rcases hb with hb | hb <;> simp only [ha, hb]
  · simp
  · simp [Nat.xor_assoc]
  · rw [if_pos (by decide), if_pos trivial, if_neg (by decide)]
    rw [Nat.xor_assoc, Nat.xor_assoc, Nat.xor_comm (b / 2)]
  · rw [if_neg (by decide), if_pos trivial, if_pos trivial]
    rw [Nat.xor_assoc, ← Nat.xor_assoc 3988292384, Nat.xor_comm 3988292384 (b / 2), Nat.xor_assoc, Nat.xor_self, Nat.xor_zero]
theorem bit_even (h : Nat) : bitN (2 * h) = h := by
  unfold bitN
  rw [if_neg (by omega)]
  omega
theorem split16 (s : Nat) : s = (16 * (s / 16)) ^^^ (s % 16) := by
  apply Nat.eq_of_testBit_eq
  intro i
  have e1 : 16 * (s / 16) = 2 ^ 4 * (s / 2 ^ 4) := rfl
  have e2 : s % 16 = s % 2 ^ 4 := rfl
  rw [Nat.testBit_xor, e1, e2, Nat.testBit_two_pow_mul, Nat.testBit_mod_two_pow, Nat.testBit_div_two_pow]
  by_cases hi : i < 4
  · simp [hi, Nat.not_le.2 hi]
  · have h4 : 4 ≤ i := by omega
    have e3 : i - 4 + 4 = i := by omega
    simp [hi, h4, e3]
theorem nib_low : ∀ l, l < 16 → bitN (bitN (bitN (bitN l))) = tblN l := by decide +kernel
theorem nib_bits (s : Nat) : nibN s = bitN (bitN (bitN (bitN s))) := by
  have h16 : bitN (bitN (bitN (bitN (16 * (s / 16))))) = s / 16 := by
    have e : 16 * (s / 16) = 2 * (2 * (2 * (2 * (s / 16)))) := by omega
    rw [e, bit_even, bit_even, bit_even, bit_even]
  conv => rhs; rw [split16 s]
  rw [bit_xor, bit_xor, bit_xor, bit_xor, h16, nib_low _ (by omega)]
  rfl
theorem byte_bits (s c : Nat) : byteN s c = bitsN 8 (s ^^^ c) := by
  unfold byteN
  rw [nib_bits, nib_bits]
  rfl
theorem tblN_lt : ∀ j, j < 16 → tblN j < 4294967296 := by decide +kernel
theorem nib_lt {s : Nat} (h : s < 4294967296) : nibN s < 4294967296 := by
  have h1 := tblN_lt (s % 16) (by omega)
  exact Nat.xor_lt_two_pow (n := 32) (by omega) h1
theorem byte_lt {s c : Nat} (h : s < 4294967296) (hc : c < 256) : byteN s c < 4294967296 := nib_lt (nib_lt (Nat.xor_lt_two_pow (n := 32) h (by omega)))
theorem bit_lt {s : Nat} (h : s < 4294967296) : bitN s < 4294967296 := by
  unfold bitN
  split
  · exact Nat.xor_lt_two_pow (n := 32) (by omega) (by decide)
  · omega
theorem bits_lt (k : Nat) {s : Nat} (h : s < 4294967296) : bitsN k s < 4294967296 := by
  induction k with
  | zero => exact h
  | succ k ih => exact bit_lt ih
theorem crc_lt (bs : List Int) (hb : ∀ x ∈ bs, 0 ≤ x ∧ x < 256) : ∀ s, s < 4294967296 → crcN s bs < 4294967296 := by
  induction bs with
  | nil => intro s h; exact h
  | cons c r ih =>
    intro s h
    have := hb c (by simp)
    exact ih (fun x hx => hb x (by simp [hx])) _ (byte_lt h (by omega))
theorem crc_take (s : Nat) (b : List Int) (i : Nat) (h : i < b.length) : crcN s (b.take (i + 1)) = byteN (crcN s (b.take i)) (b.getD i 0).toNat := by
  have e : b.take (i + 1) = b.take i ++ [b.getD i 0] := by
    rw [List.take_add_one, List.getElem?_eq_getElem h]
    simp [List.getD, h]
  unfold crcN
  rw [e, List.foldl_append]
  rfl
theorem compl32 (n : Nat) (h : n < 4294967296) : 4294967295 ^^^ n = 4294967295 - n := by
  have h1 : (BitVec.allOnes 32 ^^^ BitVec.ofNat 32 n).toNat = (~~~ (BitVec.ofNat 32 n)).toNat := by rw [BitVec.allOnes_xor]
  rw [BitVec.toNat_xor, BitVec.toNat_not, BitVec.toNat_allOnes, BitVec.toNat_ofNat, Nat.mod_eq_of_lt (by omega)] at h1
  simpa using h1
theorem xor_max (n : Nat) (h : n < 4294967296) : bits .xor .u32 (IntKind.max .u32) (n : Int) = ((4294967295 - n : Nat) : Int) := by
  have : (IntKind.max .u32) = ((4294967295 : Nat) : Int) := by decide
  rw [this, u32_xor_nat 4294967295 n (by decide) h, compl32 n h]
end Go.Proofs.YtomlhekjgagjaaaDoor
namespace Go.Proofs.YtomlhekjgagjaaaDoor
set_option maxRecDepth 100000
set_option maxHeartbeats 16000000
open Go Go.RowKit
set_option maxRecDepth 100000
instance ty2 : TyA Tryd.prog 2 false 1 := ⟨fun _ => by kernel_rfl, fun _ => by kernel_rfl⟩
instance un2 : Und Tryd.prog 2 (.int .i64) := ⟨Tryd.underlying2⟩
instance ze2 : ZeroA Tryd.prog 2 (Value.int .i64 0) := ⟨fun _ => by kernel_rfl⟩
instance in2 : InfoA Tryd.prog 2 (Value.int .i64 0) 1 8 := ⟨by kernel_rfl⟩
instance ty3 : TyA Tryd.prog 3 false 1 := ⟨fun _ => by kernel_rfl, fun _ => by kernel_rfl⟩
instance un3 : Und Tryd.prog 3 (.int .i64) := ⟨Tryd.underlying3⟩
instance ze3 : ZeroA Tryd.prog 3 (Value.int .i64 0) := ⟨fun _ => by kernel_rfl⟩
instance in3 : InfoA Tryd.prog 3 (Value.int .i64 0) 1 8 := ⟨by kernel_rfl⟩
instance ty4 : TyA Tryd.prog 4 false 1 := ⟨fun _ => by kernel_rfl, fun _ => by kernel_rfl⟩
instance un4 : Und Tryd.prog 4 (.bool) := ⟨Tryd.underlying4⟩
instance ze4 : ZeroA Tryd.prog 4 (Value.bool false) := ⟨fun _ => by kernel_rfl⟩
instance in4 : InfoA Tryd.prog 4 (Value.bool false) 1 1 := ⟨by kernel_rfl⟩
instance ty5 : TyA Tryd.prog 5 false 1 := ⟨fun _ => by kernel_rfl, fun _ => by kernel_rfl⟩
instance un5 : Und Tryd.prog 5 (.int .u8) := ⟨Tryd.underlying5⟩
instance ze5 : ZeroA Tryd.prog 5 (Value.int .u8 0) := ⟨fun _ => by kernel_rfl⟩
instance in5 : InfoA Tryd.prog 5 (Value.int .u8 0) 1 1 := ⟨by kernel_rfl⟩
instance ty6 : TyA Tryd.prog 6 false 1 := ⟨fun _ => by kernel_rfl, fun _ => by kernel_rfl⟩
instance un6 : Und Tryd.prog 6 (.int .u8) := ⟨Tryd.underlying6⟩
instance ze6 : ZeroA Tryd.prog 6 (Value.int .u8 0) := ⟨fun _ => by kernel_rfl⟩
instance in6 : InfoA Tryd.prog 6 (Value.int .u8 0) 1 1 := ⟨by kernel_rfl⟩
instance ty7 : TyA Tryd.prog 7 true 4 := ⟨fun _ => by kernel_rfl, fun _ => by kernel_rfl⟩
instance bu7 : BuildA Tryd.prog 7 [(0, 1), (1, 1), (2, 1), (3, 1)] := ⟨by kernel_rfl, by kernel_rfl⟩
instance fv7_0 : FieldT Tryd.prog 7 0 2 0 := ⟨by kernel_rfl, by kernel_rfl⟩
instance fv7_1 : FieldT Tryd.prog 7 1 3 1 := ⟨by kernel_rfl, by kernel_rfl⟩
instance fv7_2 : FieldT Tryd.prog 7 2 4 2 := ⟨by kernel_rfl, by kernel_rfl⟩
instance fv7_3 : FieldT Tryd.prog 7 3 6 3 := ⟨by kernel_rfl, by kernel_rfl⟩
instance fi7_0 : FieldA Tryd.prog 7 0 0 := ⟨fun _ _ _ => by kernel_rfl⟩
instance fi7_1 : FieldA Tryd.prog 7 1 1 := ⟨fun _ _ _ => by kernel_rfl⟩
instance fi7_2 : FieldA Tryd.prog 7 2 2 := ⟨fun _ _ _ => by kernel_rfl⟩
instance fi7_3 : FieldA Tryd.prog 7 3 3 := ⟨fun _ _ _ => by kernel_rfl⟩
instance ze7 : ZeroA Tryd.prog 7 (Value.agg #[Value.int .i64 0, Value.int .i64 0, Value.bool false, Value.int .u8 0]) := ⟨fun _ => by kernel_rfl⟩
instance in7 : InfoA Tryd.prog 7 (Value.agg #[Value.int .i64 0, Value.int .i64 0, Value.bool false, Value.int .u8 0]) 4 24 := ⟨by kernel_rfl⟩
instance ty8 : TyA Tryd.prog 8 true 4 := ⟨fun _ => by kernel_rfl, fun _ => by kernel_rfl⟩
instance bu8 : BuildA Tryd.prog 8 [(0, 1), (1, 1), (2, 1), (3, 1)] := ⟨by kernel_rfl, by kernel_rfl⟩
instance fv8_0 : FieldT Tryd.prog 8 0 2 0 := ⟨by kernel_rfl, by kernel_rfl⟩
instance fv8_1 : FieldT Tryd.prog 8 1 3 1 := ⟨by kernel_rfl, by kernel_rfl⟩
instance fv8_2 : FieldT Tryd.prog 8 2 4 2 := ⟨by kernel_rfl, by kernel_rfl⟩
instance fv8_3 : FieldT Tryd.prog 8 3 6 3 := ⟨by kernel_rfl, by kernel_rfl⟩
instance fi8_0 : FieldA Tryd.prog 8 0 0 := ⟨fun _ _ _ => by kernel_rfl⟩
instance fi8_1 : FieldA Tryd.prog 8 1 1 := ⟨fun _ _ _ => by kernel_rfl⟩
instance fi8_2 : FieldA Tryd.prog 8 2 2 := ⟨fun _ _ _ => by kernel_rfl⟩
instance fi8_3 : FieldA Tryd.prog 8 3 3 := ⟨fun _ _ _ => by kernel_rfl⟩
instance ze8 : ZeroA Tryd.prog 8 (Value.agg #[Value.int .i64 0, Value.int .i64 0, Value.bool false, Value.int .u8 0]) := ⟨fun _ => by kernel_rfl⟩
instance in8 : InfoA Tryd.prog 8 (Value.agg #[Value.int .i64 0, Value.int .i64 0, Value.bool false, Value.int .u8 0]) 4 24 := ⟨by kernel_rfl⟩
instance ty9 : TyA Tryd.prog 9 false 1 := ⟨fun _ => by kernel_rfl, fun _ => by kernel_rfl⟩
instance un9 : Und Tryd.prog 9 (.string) := ⟨Tryd.underlying9⟩
instance ze9 : ZeroA Tryd.prog 9 (Value.string ⟨#[]⟩) := ⟨fun _ => by kernel_rfl⟩
instance in9 : InfoA Tryd.prog 9 (Value.string ⟨#[]⟩) 1 16 := ⟨by kernel_rfl⟩
instance ty10 : TyA Tryd.prog 10 false 1 := ⟨fun _ => by kernel_rfl, fun _ => by kernel_rfl⟩
instance un10 : Und Tryd.prog 10 (.string) := ⟨Tryd.underlying10⟩
instance ze10 : ZeroA Tryd.prog 10 (Value.string ⟨#[]⟩) := ⟨fun _ => by kernel_rfl⟩
instance in10 : InfoA Tryd.prog 10 (Value.string ⟨#[]⟩) 1 16 := ⟨by kernel_rfl⟩
instance ty11 : TyA Tryd.prog 11 false 1 := ⟨fun _ => by kernel_rfl, fun _ => by kernel_rfl⟩
instance un11 : Und Tryd.prog 11 (.string) := ⟨Tryd.underlying11⟩
instance ze11 : ZeroA Tryd.prog 11 (Value.string ⟨#[]⟩) := ⟨fun _ => by kernel_rfl⟩
instance in11 : InfoA Tryd.prog 11 (Value.string ⟨#[]⟩) 1 16 := ⟨by kernel_rfl⟩
instance ty12 : TyA Tryd.prog 12 false 1 := ⟨fun _ => by kernel_rfl, fun _ => by kernel_rfl⟩
instance un12 : Und Tryd.prog 12 (.int .u64) := ⟨Tryd.underlying12⟩
instance ze12 : ZeroA Tryd.prog 12 (Value.int .u64 0) := ⟨fun _ => by kernel_rfl⟩
instance in12 : InfoA Tryd.prog 12 (Value.int .u64 0) 1 8 := ⟨by kernel_rfl⟩
instance ty13 : TyA Tryd.prog 13 true 2 := ⟨fun _ => by kernel_rfl, fun _ => by kernel_rfl⟩
instance bu13 : BuildA Tryd.prog 13 [(0, 1), (1, 1)] := ⟨by kernel_rfl, by kernel_rfl⟩
instance fv13_0 : FieldT Tryd.prog 13 0 9 0 := ⟨by kernel_rfl, by kernel_rfl⟩
instance fv13_1 : FieldT Tryd.prog 13 1 12 1 := ⟨by kernel_rfl, by kernel_rfl⟩
instance fi13_0 : FieldA Tryd.prog 13 0 0 := ⟨fun _ _ _ => by kernel_rfl⟩
instance fi13_1 : FieldA Tryd.prog 13 1 1 := ⟨fun _ _ _ => by kernel_rfl⟩
instance ze13 : ZeroA Tryd.prog 13 (Value.agg #[Value.string ⟨#[]⟩, Value.int .u64 0]) := ⟨fun _ => by kernel_rfl⟩
instance in13 : InfoA Tryd.prog 13 (Value.agg #[Value.string ⟨#[]⟩, Value.int .u64 0]) 2 24 := ⟨by kernel_rfl⟩
instance ty14 : TyA Tryd.prog 14 true 2 := ⟨fun _ => by kernel_rfl, fun _ => by kernel_rfl⟩
instance bu14 : BuildA Tryd.prog 14 [(0, 1), (1, 1)] := ⟨by kernel_rfl, by kernel_rfl⟩
instance fv14_0 : FieldT Tryd.prog 14 0 9 0 := ⟨by kernel_rfl, by kernel_rfl⟩
instance fv14_1 : FieldT Tryd.prog 14 1 12 1 := ⟨by kernel_rfl, by kernel_rfl⟩
instance fi14_0 : FieldA Tryd.prog 14 0 0 := ⟨fun _ _ _ => by kernel_rfl⟩
instance fi14_1 : FieldA Tryd.prog 14 1 1 := ⟨fun _ _ _ => by kernel_rfl⟩
instance ze14 : ZeroA Tryd.prog 14 (Value.agg #[Value.string ⟨#[]⟩, Value.int .u64 0]) := ⟨fun _ => by kernel_rfl⟩
instance in14 : InfoA Tryd.prog 14 (Value.agg #[Value.string ⟨#[]⟩, Value.int .u64 0]) 2 24 := ⟨by kernel_rfl⟩
instance ty15 : TyA Tryd.prog 15 false 1 := ⟨fun _ => by kernel_rfl, fun _ => by kernel_rfl⟩
instance un15 : Und Tryd.prog 15 (.pointer 139) := ⟨Tryd.underlying15⟩
instance ze15 : ZeroA Tryd.prog 15 (Value.pointer none) := ⟨fun _ => by kernel_rfl⟩
instance in15 : InfoA Tryd.prog 15 (Value.pointer none) 1 8 := ⟨by kernel_rfl⟩
instance ty16 : TyA Tryd.prog 16 false 1 := ⟨fun _ => by kernel_rfl, fun _ => by kernel_rfl⟩
instance un16 : Und Tryd.prog 16 (.pointer 142) := ⟨Tryd.underlying16⟩
instance ze16 : ZeroA Tryd.prog 16 (Value.pointer none) := ⟨fun _ => by kernel_rfl⟩
instance in16 : InfoA Tryd.prog 16 (Value.pointer none) 1 8 := ⟨by kernel_rfl⟩
instance ty17 : TyA Tryd.prog 17 false 1 := ⟨fun _ => by kernel_rfl, fun _ => by kernel_rfl⟩
instance un17 : Und Tryd.prog 17 (.pointer 150) := ⟨Tryd.underlying17⟩
instance ze17 : ZeroA Tryd.prog 17 (Value.pointer none) := ⟨fun _ => by kernel_rfl⟩
instance in17 : InfoA Tryd.prog 17 (Value.pointer none) 1 8 := ⟨by kernel_rfl⟩
instance ty18 : TyA Tryd.prog 18 true 1 := ⟨fun _ => by kernel_rfl, fun _ => by kernel_rfl⟩
instance bu18 : BuildA Tryd.prog 18 [(0, 1)] := ⟨by kernel_rfl, by kernel_rfl⟩
instance fv18_0 : FieldT Tryd.prog 18 0 17 0 := ⟨by kernel_rfl, by kernel_rfl⟩
instance fi18_0 : FieldA Tryd.prog 18 0 0 := ⟨fun _ _ _ => by kernel_rfl⟩
instance ze18 : ZeroA Tryd.prog 18 (Value.agg #[Value.pointer none]) := ⟨fun _ => by kernel_rfl⟩
instance in18 : InfoA Tryd.prog 18 (Value.agg #[Value.pointer none]) 1 8 := ⟨by kernel_rfl⟩
instance ty19 : TyA Tryd.prog 19 true 1 := ⟨fun _ => by kernel_rfl, fun _ => by kernel_rfl⟩
instance bu19 : BuildA Tryd.prog 19 [(0, 1)] := ⟨by kernel_rfl, by kernel_rfl⟩
instance fv19_0 : FieldT Tryd.prog 19 0 17 0 := ⟨by kernel_rfl, by kernel_rfl⟩
instance fi19_0 : FieldA Tryd.prog 19 0 0 := ⟨fun _ _ _ => by kernel_rfl⟩
instance ze19 : ZeroA Tryd.prog 19 (Value.agg #[Value.pointer none]) := ⟨fun _ => by kernel_rfl⟩
instance in19 : InfoA Tryd.prog 19 (Value.agg #[Value.pointer none]) 1 8 := ⟨by kernel_rfl⟩
instance ty21 : TyA Tryd.prog 21 false 1 := ⟨fun _ => by kernel_rfl, fun _ => by kernel_rfl⟩
instance un21 : Und Tryd.prog 21 (.int .i32) := ⟨Tryd.underlying21⟩
instance ze21 : ZeroA Tryd.prog 21 (Value.int .i32 0) := ⟨fun _ => by kernel_rfl⟩
instance in21 : InfoA Tryd.prog 21 (Value.int .i32 0) 1 4 := ⟨by kernel_rfl⟩
instance ty22 : TyA Tryd.prog 22 false 1 := ⟨fun _ => by kernel_rfl, fun _ => by kernel_rfl⟩
instance un22 : Und Tryd.prog 22 (.slice 35) := ⟨Tryd.underlying22⟩
instance ze22 : ZeroA Tryd.prog 22 (Value.slice none 0 0) := ⟨fun _ => by kernel_rfl⟩
instance in22 : InfoA Tryd.prog 22 (Value.slice none 0 0) 1 24 := ⟨by kernel_rfl⟩
instance ty25 : TyA Tryd.prog 25 false 1 := ⟨fun _ => by kernel_rfl, fun _ => by kernel_rfl⟩
instance un25 : Und Tryd.prog 25 (.slice 46) := ⟨Tryd.underlying25⟩
instance ze25 : ZeroA Tryd.prog 25 (Value.slice none 0 0) := ⟨fun _ => by kernel_rfl⟩
instance in25 : InfoA Tryd.prog 25 (Value.slice none 0 0) 1 24 := ⟨by kernel_rfl⟩
instance ty26 : TyA Tryd.prog 26 false 1 := ⟨fun _ => by kernel_rfl, fun _ => by kernel_rfl⟩
instance un26 : Und Tryd.prog 26 (.int .i64) := ⟨Tryd.underlying26⟩
instance ze26 : ZeroA Tryd.prog 26 (Value.int .i64 0) := ⟨fun _ => by kernel_rfl⟩
instance in26 : InfoA Tryd.prog 26 (Value.int .i64 0) 1 8 := ⟨by kernel_rfl⟩
instance ty35 : TyA Tryd.prog 35 false 1 := ⟨fun _ => by kernel_rfl, fun _ => by kernel_rfl⟩
instance un35 : Und Tryd.prog 35 (.slice 5) := ⟨Tryd.underlying35⟩
instance ze35 : ZeroA Tryd.prog 35 (Value.slice none 0 0) := ⟨fun _ => by kernel_rfl⟩
instance in35 : InfoA Tryd.prog 35 (Value.slice none 0 0) 1 24 := ⟨by kernel_rfl⟩
instance ty37 : TyA Tryd.prog 37 false 1 := ⟨fun _ => by kernel_rfl, fun _ => by kernel_rfl⟩
instance un37 : Und Tryd.prog 37 (.slice 59) := ⟨Tryd.underlying37⟩
instance ze37 : ZeroA Tryd.prog 37 (Value.slice none 0 0) := ⟨fun _ => by kernel_rfl⟩
instance in37 : InfoA Tryd.prog 37 (Value.slice none 0 0) 1 24 := ⟨by kernel_rfl⟩
instance ty41 : TyA Tryd.prog 41 true 4 := ⟨fun _ => by kernel_rfl, fun _ => by kernel_rfl⟩
instance bu41 : BuildA Tryd.prog 41 [(0, 1), (1, 1), (2, 1), (3, 1)] := ⟨by kernel_rfl, by kernel_rfl⟩
instance fv41_0 : FieldT Tryd.prog 41 0 25 0 := ⟨by kernel_rfl, by kernel_rfl⟩
instance fv41_1 : FieldT Tryd.prog 41 1 35 1 := ⟨by kernel_rfl, by kernel_rfl⟩
instance fv41_2 : FieldT Tryd.prog 41 2 35 2 := ⟨by kernel_rfl, by kernel_rfl⟩
instance fv41_3 : FieldT Tryd.prog 41 3 4 3 := ⟨by kernel_rfl, by kernel_rfl⟩
instance fi41_0 : FieldA Tryd.prog 41 0 0 := ⟨fun _ _ _ => by kernel_rfl⟩
instance fi41_1 : FieldA Tryd.prog 41 1 1 := ⟨fun _ _ _ => by kernel_rfl⟩
instance fi41_2 : FieldA Tryd.prog 41 2 2 := ⟨fun _ _ _ => by kernel_rfl⟩
instance fi41_3 : FieldA Tryd.prog 41 3 3 := ⟨fun _ _ _ => by kernel_rfl⟩
instance ze41 : ZeroA Tryd.prog 41 (Value.agg #[Value.slice none 0 0, Value.slice none 0 0, Value.slice none 0 0, Value.bool false]) := ⟨fun _ => by kernel_rfl⟩
instance in41 : InfoA Tryd.prog 41 (Value.agg #[Value.slice none 0 0, Value.slice none 0 0, Value.slice none 0 0, Value.bool false]) 4 80 := ⟨by kernel_rfl⟩
instance ty42 : TyA Tryd.prog 42 true 4 := ⟨fun _ => by kernel_rfl, fun _ => by kernel_rfl⟩
instance bu42 : BuildA Tryd.prog 42 [(0, 1), (1, 1), (2, 1), (3, 1)] := ⟨by kernel_rfl, by kernel_rfl⟩
instance fv42_0 : FieldT Tryd.prog 42 0 25 0 := ⟨by kernel_rfl, by kernel_rfl⟩
instance fv42_1 : FieldT Tryd.prog 42 1 35 1 := ⟨by kernel_rfl, by kernel_rfl⟩
instance fv42_2 : FieldT Tryd.prog 42 2 35 2 := ⟨by kernel_rfl, by kernel_rfl⟩
instance fv42_3 : FieldT Tryd.prog 42 3 4 3 := ⟨by kernel_rfl, by kernel_rfl⟩
instance fi42_0 : FieldA Tryd.prog 42 0 0 := ⟨fun _ _ _ => by kernel_rfl⟩
instance fi42_1 : FieldA Tryd.prog 42 1 1 := ⟨fun _ _ _ => by kernel_rfl⟩
instance fi42_2 : FieldA Tryd.prog 42 2 2 := ⟨fun _ _ _ => by kernel_rfl⟩
instance fi42_3 : FieldA Tryd.prog 42 3 3 := ⟨fun _ _ _ => by kernel_rfl⟩
instance ze42 : ZeroA Tryd.prog 42 (Value.agg #[Value.slice none 0 0, Value.slice none 0 0, Value.slice none 0 0, Value.bool false]) := ⟨fun _ => by kernel_rfl⟩
instance in42 : InfoA Tryd.prog 42 (Value.agg #[Value.slice none 0 0, Value.slice none 0 0, Value.slice none 0 0, Value.bool false]) 4 80 := ⟨by kernel_rfl⟩
instance ty44 : TyA Tryd.prog 44 false 1 := ⟨fun _ => by kernel_rfl, fun _ => by kernel_rfl⟩
instance un44 : Und Tryd.prog 44 (.int .u64) := ⟨Tryd.underlying44⟩
instance ze44 : ZeroA Tryd.prog 44 (Value.int .u64 0) := ⟨fun _ => by kernel_rfl⟩
instance in44 : InfoA Tryd.prog 44 (Value.int .u64 0) 1 8 := ⟨by kernel_rfl⟩
instance ty45 : TyA Tryd.prog 45 true 6 := ⟨fun _ => by kernel_rfl, fun _ => by kernel_rfl⟩
instance bu45 : BuildA Tryd.prog 45 [(0, 1), (1, 1), (2, 1), (3, 1), (4, 1), (5, 1)] := ⟨by kernel_rfl, by kernel_rfl⟩
instance eq45 : EqA Tryd.prog 45 6 := ⟨by kernel_rfl, by kernel_rfl, by kernel_rfl, by kernel_rfl, by kernel_rfl⟩
instance fv45_0 : FieldT Tryd.prog 45 0 3 0 := ⟨by kernel_rfl, by kernel_rfl⟩
instance fv45_1 : FieldT Tryd.prog 45 1 44 1 := ⟨by kernel_rfl, by kernel_rfl⟩
instance fv45_2 : FieldT Tryd.prog 45 2 44 2 := ⟨by kernel_rfl, by kernel_rfl⟩
instance fv45_3 : FieldT Tryd.prog 45 3 44 3 := ⟨by kernel_rfl, by kernel_rfl⟩
instance fv45_4 : FieldT Tryd.prog 45 4 44 4 := ⟨by kernel_rfl, by kernel_rfl⟩
instance fv45_5 : FieldT Tryd.prog 45 5 44 5 := ⟨by kernel_rfl, by kernel_rfl⟩
instance fi45_0 : FieldA Tryd.prog 45 0 0 := ⟨fun _ _ _ => by kernel_rfl⟩
instance fi45_1 : FieldA Tryd.prog 45 1 1 := ⟨fun _ _ _ => by kernel_rfl⟩
instance fi45_2 : FieldA Tryd.prog 45 2 2 := ⟨fun _ _ _ => by kernel_rfl⟩
instance fi45_3 : FieldA Tryd.prog 45 3 3 := ⟨fun _ _ _ => by kernel_rfl⟩
instance fi45_4 : FieldA Tryd.prog 45 4 4 := ⟨fun _ _ _ => by kernel_rfl⟩
instance fi45_5 : FieldA Tryd.prog 45 5 5 := ⟨fun _ _ _ => by kernel_rfl⟩
instance ze45 : ZeroA Tryd.prog 45 (Value.agg #[Value.int .i64 0, Value.int .u64 0, Value.int .u64 0, Value.int .u64 0, Value.int .u64 0, Value.int .u64 0]) := ⟨fun _ => by kernel_rfl⟩
instance in45 : InfoA Tryd.prog 45 (Value.agg #[Value.int .i64 0, Value.int .u64 0, Value.int .u64 0, Value.int .u64 0, Value.int .u64 0, Value.int .u64 0]) 6 48 := ⟨by kernel_rfl⟩
instance ty46 : TyA Tryd.prog 46 true 6 := ⟨fun _ => by kernel_rfl, fun _ => by kernel_rfl⟩
instance bu46 : BuildA Tryd.prog 46 [(0, 1), (1, 1), (2, 1), (3, 1), (4, 1), (5, 1)] := ⟨by kernel_rfl, by kernel_rfl⟩
instance eq46 : EqA Tryd.prog 46 6 := ⟨by kernel_rfl, by kernel_rfl, by kernel_rfl, by kernel_rfl, by kernel_rfl⟩
instance fv46_0 : FieldT Tryd.prog 46 0 3 0 := ⟨by kernel_rfl, by kernel_rfl⟩
instance fv46_1 : FieldT Tryd.prog 46 1 44 1 := ⟨by kernel_rfl, by kernel_rfl⟩
instance fv46_2 : FieldT Tryd.prog 46 2 44 2 := ⟨by kernel_rfl, by kernel_rfl⟩
instance fv46_3 : FieldT Tryd.prog 46 3 44 3 := ⟨by kernel_rfl, by kernel_rfl⟩
instance fv46_4 : FieldT Tryd.prog 46 4 44 4 := ⟨by kernel_rfl, by kernel_rfl⟩
instance fv46_5 : FieldT Tryd.prog 46 5 44 5 := ⟨by kernel_rfl, by kernel_rfl⟩
instance fi46_0 : FieldA Tryd.prog 46 0 0 := ⟨fun _ _ _ => by kernel_rfl⟩
instance fi46_1 : FieldA Tryd.prog 46 1 1 := ⟨fun _ _ _ => by kernel_rfl⟩
instance fi46_2 : FieldA Tryd.prog 46 2 2 := ⟨fun _ _ _ => by kernel_rfl⟩
instance fi46_3 : FieldA Tryd.prog 46 3 3 := ⟨fun _ _ _ => by kernel_rfl⟩
instance fi46_4 : FieldA Tryd.prog 46 4 4 := ⟨fun _ _ _ => by kernel_rfl⟩
instance fi46_5 : FieldA Tryd.prog 46 5 5 := ⟨fun _ _ _ => by kernel_rfl⟩
instance ze46 : ZeroA Tryd.prog 46 (Value.agg #[Value.int .i64 0, Value.int .u64 0, Value.int .u64 0, Value.int .u64 0, Value.int .u64 0, Value.int .u64 0]) := ⟨fun _ => by kernel_rfl⟩
instance in46 : InfoA Tryd.prog 46 (Value.agg #[Value.int .i64 0, Value.int .u64 0, Value.int .u64 0, Value.int .u64 0, Value.int .u64 0, Value.int .u64 0]) 6 48 := ⟨by kernel_rfl⟩
instance ty49 : TyA Tryd.prog 49 true 4 := ⟨fun _ => by kernel_rfl, fun _ => by kernel_rfl⟩
instance bu49 : BuildA Tryd.prog 49 [(0, 1), (1, 1), (2, 1), (3, 1)] := ⟨by kernel_rfl, by kernel_rfl⟩
instance fv49_0 : FieldT Tryd.prog 49 0 22 0 := ⟨by kernel_rfl, by kernel_rfl⟩
instance fv49_1 : FieldT Tryd.prog 49 1 5 1 := ⟨by kernel_rfl, by kernel_rfl⟩
instance fv49_2 : FieldT Tryd.prog 49 2 44 2 := ⟨by kernel_rfl, by kernel_rfl⟩
instance fv49_3 : FieldT Tryd.prog 49 3 5 3 := ⟨by kernel_rfl, by kernel_rfl⟩
instance fi49_0 : FieldA Tryd.prog 49 0 0 := ⟨fun _ _ _ => by kernel_rfl⟩
instance fi49_1 : FieldA Tryd.prog 49 1 1 := ⟨fun _ _ _ => by kernel_rfl⟩
instance fi49_2 : FieldA Tryd.prog 49 2 2 := ⟨fun _ _ _ => by kernel_rfl⟩
instance fi49_3 : FieldA Tryd.prog 49 3 3 := ⟨fun _ _ _ => by kernel_rfl⟩
instance ze49 : ZeroA Tryd.prog 49 (Value.agg #[Value.slice none 0 0, Value.int .u8 0, Value.int .u64 0, Value.int .u8 0]) := ⟨fun _ => by kernel_rfl⟩
instance in49 : InfoA Tryd.prog 49 (Value.agg #[Value.slice none 0 0, Value.int .u8 0, Value.int .u64 0, Value.int .u8 0]) 4 48 := ⟨by kernel_rfl⟩
instance ty50 : TyA Tryd.prog 50 true 4 := ⟨fun _ => by kernel_rfl, fun _ => by kernel_rfl⟩
instance bu50 : BuildA Tryd.prog 50 [(0, 1), (1, 1), (2, 1), (3, 1)] := ⟨by kernel_rfl, by kernel_rfl⟩
instance fv50_0 : FieldT Tryd.prog 50 0 22 0 := ⟨by kernel_rfl, by kernel_rfl⟩
instance fv50_1 : FieldT Tryd.prog 50 1 5 1 := ⟨by kernel_rfl, by kernel_rfl⟩
instance fv50_2 : FieldT Tryd.prog 50 2 44 2 := ⟨by kernel_rfl, by kernel_rfl⟩
instance fv50_3 : FieldT Tryd.prog 50 3 5 3 := ⟨by kernel_rfl, by kernel_rfl⟩
instance fi50_0 : FieldA Tryd.prog 50 0 0 := ⟨fun _ _ _ => by kernel_rfl⟩
instance fi50_1 : FieldA Tryd.prog 50 1 1 := ⟨fun _ _ _ => by kernel_rfl⟩
instance fi50_2 : FieldA Tryd.prog 50 2 2 := ⟨fun _ _ _ => by kernel_rfl⟩
instance fi50_3 : FieldA Tryd.prog 50 3 3 := ⟨fun _ _ _ => by kernel_rfl⟩
instance ze50 : ZeroA Tryd.prog 50 (Value.agg #[Value.slice none 0 0, Value.int .u8 0, Value.int .u64 0, Value.int .u8 0]) := ⟨fun _ => by kernel_rfl⟩
instance in50 : InfoA Tryd.prog 50 (Value.agg #[Value.slice none 0 0, Value.int .u8 0, Value.int .u64 0, Value.int .u8 0]) 4 48 := ⟨by kernel_rfl⟩
instance ty51 : TyA Tryd.prog 51 false 1 := ⟨fun _ => by kernel_rfl, fun _ => by kernel_rfl⟩
instance un51 : Und Tryd.prog 51 (.int .u64) := ⟨Tryd.underlying51⟩
instance ze51 : ZeroA Tryd.prog 51 (Value.int .u64 0) := ⟨fun _ => by kernel_rfl⟩
instance in51 : InfoA Tryd.prog 51 (Value.int .u64 0) 1 8 := ⟨by kernel_rfl⟩
instance ty58 : TyA Tryd.prog 58 true 3 := ⟨fun _ => by kernel_rfl, fun _ => by kernel_rfl⟩
instance bu58 : BuildA Tryd.prog 58 [(0, 1), (1, 1), (2, 1)] := ⟨by kernel_rfl, by kernel_rfl⟩
instance eq58 : EqA Tryd.prog 58 3 := ⟨by kernel_rfl, by kernel_rfl, by kernel_rfl, by kernel_rfl, by kernel_rfl⟩
instance fv58_0 : FieldT Tryd.prog 58 0 3 0 := ⟨by kernel_rfl, by kernel_rfl⟩
instance fv58_1 : FieldT Tryd.prog 58 1 3 1 := ⟨by kernel_rfl, by kernel_rfl⟩
instance fv58_2 : FieldT Tryd.prog 58 2 44 2 := ⟨by kernel_rfl, by kernel_rfl⟩
instance fi58_0 : FieldA Tryd.prog 58 0 0 := ⟨fun _ _ _ => by kernel_rfl⟩
instance fi58_1 : FieldA Tryd.prog 58 1 1 := ⟨fun _ _ _ => by kernel_rfl⟩
instance fi58_2 : FieldA Tryd.prog 58 2 2 := ⟨fun _ _ _ => by kernel_rfl⟩
instance ze58 : ZeroA Tryd.prog 58 (Value.agg #[Value.int .i64 0, Value.int .i64 0, Value.int .u64 0]) := ⟨fun _ => by kernel_rfl⟩
instance in58 : InfoA Tryd.prog 58 (Value.agg #[Value.int .i64 0, Value.int .i64 0, Value.int .u64 0]) 3 24 := ⟨by kernel_rfl⟩
instance ty59 : TyA Tryd.prog 59 true 3 := ⟨fun _ => by kernel_rfl, fun _ => by kernel_rfl⟩
instance bu59 : BuildA Tryd.prog 59 [(0, 1), (1, 1), (2, 1)] := ⟨by kernel_rfl, by kernel_rfl⟩
instance eq59 : EqA Tryd.prog 59 3 := ⟨by kernel_rfl, by kernel_rfl, by kernel_rfl, by kernel_rfl, by kernel_rfl⟩
instance fv59_0 : FieldT Tryd.prog 59 0 3 0 := ⟨by kernel_rfl, by kernel_rfl⟩
instance fv59_1 : FieldT Tryd.prog 59 1 3 1 := ⟨by kernel_rfl, by kernel_rfl⟩
instance fv59_2 : FieldT Tryd.prog 59 2 44 2 := ⟨by kernel_rfl, by kernel_rfl⟩
instance fi59_0 : FieldA Tryd.prog 59 0 0 := ⟨fun _ _ _ => by kernel_rfl⟩
instance fi59_1 : FieldA Tryd.prog 59 1 1 := ⟨fun _ _ _ => by kernel_rfl⟩
instance fi59_2 : FieldA Tryd.prog 59 2 2 := ⟨fun _ _ _ => by kernel_rfl⟩
instance ze59 : ZeroA Tryd.prog 59 (Value.agg #[Value.int .i64 0, Value.int .i64 0, Value.int .u64 0]) := ⟨fun _ => by kernel_rfl⟩
instance in59 : InfoA Tryd.prog 59 (Value.agg #[Value.int .i64 0, Value.int .i64 0, Value.int .u64 0]) 3 24 := ⟨by kernel_rfl⟩
instance ty60 : TyA Tryd.prog 60 false 1 := ⟨fun _ => by kernel_rfl, fun _ => by kernel_rfl⟩
instance un60 : Und Tryd.prog 60 (.pointer 65) := ⟨Tryd.underlying60⟩
instance ze60 : ZeroA Tryd.prog 60 (Value.pointer none) := ⟨fun _ => by kernel_rfl⟩
instance in60 : InfoA Tryd.prog 60 (Value.pointer none) 1 8 := ⟨by kernel_rfl⟩
instance ty62 : TyA Tryd.prog 62 false 1 := ⟨fun _ => by kernel_rfl, fun _ => by kernel_rfl⟩
instance un62 : Und Tryd.prog 62 (.map 44 46) := ⟨Tryd.underlying62⟩
instance ze62 : ZeroA Tryd.prog 62 (Value.map none) := ⟨fun _ => by kernel_rfl⟩
instance in62 : InfoA Tryd.prog 62 (Value.map none) 1 8 := ⟨by kernel_rfl⟩
instance ty63 : TyA Tryd.prog 63 false 1 := ⟨fun _ => by kernel_rfl, fun _ => by kernel_rfl⟩
instance un63 : Und Tryd.prog 63 (.map 44 3) := ⟨Tryd.underlying63⟩
instance ze63 : ZeroA Tryd.prog 63 (Value.map none) := ⟨fun _ => by kernel_rfl⟩
instance in63 : InfoA Tryd.prog 63 (Value.map none) 1 8 := ⟨by kernel_rfl⟩
instance ty64 : TyA Tryd.prog 64 true 3 := ⟨fun _ => by kernel_rfl, fun _ => by kernel_rfl⟩
instance bu64 : BuildA Tryd.prog 64 [(0, 1), (1, 1), (2, 1)] := ⟨by kernel_rfl, by kernel_rfl⟩
instance fv64_0 : FieldT Tryd.prog 64 0 62 0 := ⟨by kernel_rfl, by kernel_rfl⟩
instance fv64_1 : FieldT Tryd.prog 64 1 63 1 := ⟨by kernel_rfl, by kernel_rfl⟩
instance fv64_2 : FieldT Tryd.prog 64 2 4 2 := ⟨by kernel_rfl, by kernel_rfl⟩
instance fi64_0 : FieldA Tryd.prog 64 0 0 := ⟨fun _ _ _ => by kernel_rfl⟩
instance fi64_1 : FieldA Tryd.prog 64 1 1 := ⟨fun _ _ _ => by kernel_rfl⟩
instance fi64_2 : FieldA Tryd.prog 64 2 2 := ⟨fun _ _ _ => by kernel_rfl⟩
instance ze64 : ZeroA Tryd.prog 64 (Value.agg #[Value.map none, Value.map none, Value.bool false]) := ⟨fun _ => by kernel_rfl⟩
instance in64 : InfoA Tryd.prog 64 (Value.agg #[Value.map none, Value.map none, Value.bool false]) 3 24 := ⟨by kernel_rfl⟩
instance ty65 : TyA Tryd.prog 65 true 3 := ⟨fun _ => by kernel_rfl, fun _ => by kernel_rfl⟩
instance bu65 : BuildA Tryd.prog 65 [(0, 1), (1, 1), (2, 1)] := ⟨by kernel_rfl, by kernel_rfl⟩
instance fv65_0 : FieldT Tryd.prog 65 0 62 0 := ⟨by kernel_rfl, by kernel_rfl⟩
instance fv65_1 : FieldT Tryd.prog 65 1 63 1 := ⟨by kernel_rfl, by kernel_rfl⟩
instance fv65_2 : FieldT Tryd.prog 65 2 4 2 := ⟨by kernel_rfl, by kernel_rfl⟩
instance fi65_0 : FieldA Tryd.prog 65 0 0 := ⟨fun _ _ _ => by kernel_rfl⟩
instance fi65_1 : FieldA Tryd.prog 65 1 1 := ⟨fun _ _ _ => by kernel_rfl⟩
instance fi65_2 : FieldA Tryd.prog 65 2 2 := ⟨fun _ _ _ => by kernel_rfl⟩
instance ze65 : ZeroA Tryd.prog 65 (Value.agg #[Value.map none, Value.map none, Value.bool false]) := ⟨fun _ => by kernel_rfl⟩
instance in65 : InfoA Tryd.prog 65 (Value.agg #[Value.map none, Value.map none, Value.bool false]) 3 24 := ⟨by kernel_rfl⟩
instance ty66 : TyA Tryd.prog 66 false 1 := ⟨fun _ => by kernel_rfl, fun _ => by kernel_rfl⟩
instance un66 : Und Tryd.prog 66 (.pointer 67) := ⟨Tryd.underlying66⟩
instance ze66 : ZeroA Tryd.prog 66 (Value.pointer none) := ⟨fun _ => by kernel_rfl⟩
instance in66 : InfoA Tryd.prog 66 (Value.pointer none) 1 8 := ⟨by kernel_rfl⟩
instance ty67 : TyA Tryd.prog 67 false 1 := ⟨fun _ => by kernel_rfl, fun _ => by kernel_rfl⟩
instance un67 : Und Tryd.prog 67 (.slice 46) := ⟨Tryd.underlying67⟩
instance ze67 : ZeroA Tryd.prog 67 (Value.slice none 0 0) := ⟨fun _ => by kernel_rfl⟩
instance in67 : InfoA Tryd.prog 67 (Value.slice none 0 0) 1 24 := ⟨by kernel_rfl⟩
instance ty75 : TyA Tryd.prog 75 false 1 := ⟨fun _ => by kernel_rfl, fun _ => by kernel_rfl⟩
instance un75 : Und Tryd.prog 75 (.map 44 44) := ⟨Tryd.underlying75⟩
instance ze75 : ZeroA Tryd.prog 75 (Value.map none) := ⟨fun _ => by kernel_rfl⟩
instance in75 : InfoA Tryd.prog 75 (Value.map none) 1 8 := ⟨by kernel_rfl⟩
instance ty92 : TyA Tryd.prog 92 false 1 := ⟨fun _ => by kernel_rfl, fun _ => by kernel_rfl⟩
instance ze92 : ZeroA Tryd.prog 92 (Value.nilIface) := ⟨fun _ => by kernel_rfl⟩
instance in92 : InfoA Tryd.prog 92 (Value.nilIface) 1 16 := ⟨by kernel_rfl⟩
instance ty102 : TyA Tryd.prog 102 false 1 := ⟨fun _ => by kernel_rfl, fun _ => by kernel_rfl⟩
instance un102 : Und Tryd.prog 102 (.slice 25) := ⟨Tryd.underlying102⟩
instance ze102 : ZeroA Tryd.prog 102 (Value.slice none 0 0) := ⟨fun _ => by kernel_rfl⟩
instance in102 : InfoA Tryd.prog 102 (Value.slice none 0 0) 1 24 := ⟨by kernel_rfl⟩
instance ty104 : TyA Tryd.prog 104 false 1 := ⟨fun _ => by kernel_rfl, fun _ => by kernel_rfl⟩
instance un104 : Und Tryd.prog 104 (.slice 107) := ⟨Tryd.underlying104⟩
instance ze104 : ZeroA Tryd.prog 104 (Value.slice none 0 0) := ⟨fun _ => by kernel_rfl⟩
instance in104 : InfoA Tryd.prog 104 (Value.slice none 0 0) 1 24 := ⟨by kernel_rfl⟩
instance ty106 : TyA Tryd.prog 106 false 1 := ⟨fun _ => by kernel_rfl, fun _ => by kernel_rfl⟩
instance un106 : Und Tryd.prog 106 (.pointer 46) := ⟨Tryd.underlying106⟩
instance ze106 : ZeroA Tryd.prog 106 (Value.pointer none) := ⟨fun _ => by kernel_rfl⟩
instance in106 : InfoA Tryd.prog 106 (Value.pointer none) 1 8 := ⟨by kernel_rfl⟩
instance ty107 : TyA Tryd.prog 107 false 1 := ⟨fun _ => by kernel_rfl, fun _ => by kernel_rfl⟩
instance un107 : Und Tryd.prog 107 (.pointer 44) := ⟨Tryd.underlying107⟩
instance ze107 : ZeroA Tryd.prog 107 (Value.pointer none) := ⟨fun _ => by kernel_rfl⟩
instance in107 : InfoA Tryd.prog 107 (Value.pointer none) 1 8 := ⟨by kernel_rfl⟩
instance ty109 : TyA Tryd.prog 109 false 1 := ⟨fun _ => by kernel_rfl, fun _ => by kernel_rfl⟩
instance un109 : Und Tryd.prog 109 (.int .u32) := ⟨Tryd.underlying109⟩
instance ze109 : ZeroA Tryd.prog 109 (Value.int .u32 0) := ⟨fun _ => by kernel_rfl⟩
instance in109 : InfoA Tryd.prog 109 (Value.int .u32 0) 1 4 := ⟨by kernel_rfl⟩
instance ty127 : TyA Tryd.prog 127 false 1 := ⟨fun _ => by kernel_rfl, fun _ => by kernel_rfl⟩
instance ze127 : ZeroA Tryd.prog 127 (Value.nilFunc) := ⟨fun _ => by kernel_rfl⟩
instance in127 : InfoA Tryd.prog 127 (Value.nilFunc) 1 8 := ⟨by kernel_rfl⟩
instance ty132 : TyA Tryd.prog 132 true 16 := ⟨fun _ => by kernel_rfl, fun _ => by kernel_rfl⟩
instance un132 : Und Tryd.prog 132 (.array 16 109) := ⟨Tryd.underlying132⟩
instance ze132 : ZeroA Tryd.prog 132 (Value.agg #[Value.int .u32 0, Value.int .u32 0, Value.int .u32 0, Value.int .u32 0, Value.int .u32 0, Value.int .u32 0, Value.int .u32 0, Value.int .u32 0, Value.int .u32 0, Value.int .u32 0, Value.int .u32 0, Value.int .u32 0, Value.int .u32 0, Value.int .u32 0, Value.int .u32 0, Value.int .u32 0]) := ⟨fun _ => by kernel_rfl⟩
instance in132 : InfoA Tryd.prog 132 (Value.agg #[Value.int .u32 0, Value.int .u32 0, Value.int .u32 0, Value.int .u32 0, Value.int .u32 0, Value.int .u32 0, Value.int .u32 0, Value.int .u32 0, Value.int .u32 0, Value.int .u32 0, Value.int .u32 0, Value.int .u32 0, Value.int .u32 0, Value.int .u32 0, Value.int .u32 0, Value.int .u32 0]) 16 64 := ⟨by kernel_rfl⟩
instance ty138 : TyA Tryd.prog 138 true 4 := ⟨fun _ => by kernel_rfl, fun _ => by kernel_rfl⟩
instance bu138 : BuildA Tryd.prog 138 [(0, 1), (1, 1), (2, 1), (3, 1)] := ⟨by kernel_rfl, by kernel_rfl⟩
instance fv138_0 : FieldT Tryd.prog 138 0 17 0 := ⟨by kernel_rfl, by kernel_rfl⟩
instance fv138_1 : FieldT Tryd.prog 138 1 17 1 := ⟨by kernel_rfl, by kernel_rfl⟩
instance fv138_2 : FieldT Tryd.prog 138 2 17 2 := ⟨by kernel_rfl, by kernel_rfl⟩
instance fv138_3 : FieldT Tryd.prog 138 3 9 3 := ⟨by kernel_rfl, by kernel_rfl⟩
instance fi138_0 : FieldA Tryd.prog 138 0 0 := ⟨fun _ _ _ => by kernel_rfl⟩
instance fi138_1 : FieldA Tryd.prog 138 1 1 := ⟨fun _ _ _ => by kernel_rfl⟩
instance fi138_2 : FieldA Tryd.prog 138 2 2 := ⟨fun _ _ _ => by kernel_rfl⟩
instance fi138_3 : FieldA Tryd.prog 138 3 3 := ⟨fun _ _ _ => by kernel_rfl⟩
instance ze138 : ZeroA Tryd.prog 138 (Value.agg #[Value.pointer none, Value.pointer none, Value.pointer none, Value.string ⟨#[]⟩]) := ⟨fun _ => by kernel_rfl⟩
instance in138 : InfoA Tryd.prog 138 (Value.agg #[Value.pointer none, Value.pointer none, Value.pointer none, Value.string ⟨#[]⟩]) 4 40 := ⟨by kernel_rfl⟩
instance ty139 : TyA Tryd.prog 139 true 4 := ⟨fun _ => by kernel_rfl, fun _ => by kernel_rfl⟩
instance bu139 : BuildA Tryd.prog 139 [(0, 1), (1, 1), (2, 1), (3, 1)] := ⟨by kernel_rfl, by kernel_rfl⟩
instance fv139_0 : FieldT Tryd.prog 139 0 17 0 := ⟨by kernel_rfl, by kernel_rfl⟩
instance fv139_1 : FieldT Tryd.prog 139 1 17 1 := ⟨by kernel_rfl, by kernel_rfl⟩
instance fv139_2 : FieldT Tryd.prog 139 2 17 2 := ⟨by kernel_rfl, by kernel_rfl⟩
instance fv139_3 : FieldT Tryd.prog 139 3 9 3 := ⟨by kernel_rfl, by kernel_rfl⟩
instance fi139_0 : FieldA Tryd.prog 139 0 0 := ⟨fun _ _ _ => by kernel_rfl⟩
instance fi139_1 : FieldA Tryd.prog 139 1 1 := ⟨fun _ _ _ => by kernel_rfl⟩
instance fi139_2 : FieldA Tryd.prog 139 2 2 := ⟨fun _ _ _ => by kernel_rfl⟩
instance fi139_3 : FieldA Tryd.prog 139 3 3 := ⟨fun _ _ _ => by kernel_rfl⟩
instance ze139 : ZeroA Tryd.prog 139 (Value.agg #[Value.pointer none, Value.pointer none, Value.pointer none, Value.string ⟨#[]⟩]) := ⟨fun _ => by kernel_rfl⟩
instance in139 : InfoA Tryd.prog 139 (Value.agg #[Value.pointer none, Value.pointer none, Value.pointer none, Value.string ⟨#[]⟩]) 4 40 := ⟨by kernel_rfl⟩
instance ty143 : TyA Tryd.prog 143 false 1 := ⟨fun _ => by kernel_rfl, fun _ => by kernel_rfl⟩
instance un143 : Und Tryd.prog 143 (.int .u8) := ⟨Tryd.underlying143⟩
instance ze143 : ZeroA Tryd.prog 143 (Value.int .u8 0) := ⟨fun _ => by kernel_rfl⟩
instance in143 : InfoA Tryd.prog 143 (Value.int .u8 0) 1 1 := ⟨by kernel_rfl⟩
instance ty144 : TyA Tryd.prog 144 false 1 := ⟨fun _ => by kernel_rfl, fun _ => by kernel_rfl⟩
instance un144 : Und Tryd.prog 144 (.int .u8) := ⟨Tryd.underlying144⟩
instance ze144 : ZeroA Tryd.prog 144 (Value.int .u8 0) := ⟨fun _ => by kernel_rfl⟩
instance in144 : InfoA Tryd.prog 144 (Value.int .u8 0) 1 1 := ⟨by kernel_rfl⟩
instance ty146 : TyA Tryd.prog 146 false 1 := ⟨fun _ => by kernel_rfl, fun _ => by kernel_rfl⟩
instance un146 : Und Tryd.prog 146 (.pointer 5) := ⟨Tryd.underlying146⟩
instance ze146 : ZeroA Tryd.prog 146 (Value.pointer none) := ⟨fun _ => by kernel_rfl⟩
instance in146 : InfoA Tryd.prog 146 (Value.pointer none) 1 8 := ⟨by kernel_rfl⟩
instance ty147 : TyA Tryd.prog 147 false 1 := ⟨fun _ => by kernel_rfl, fun _ => by kernel_rfl⟩
instance un147 : Und Tryd.prog 147 (.int .i32) := ⟨Tryd.underlying147⟩
instance ze147 : ZeroA Tryd.prog 147 (Value.int .i32 0) := ⟨fun _ => by kernel_rfl⟩
instance in147 : InfoA Tryd.prog 147 (Value.int .i32 0) 1 4 := ⟨by kernel_rfl⟩
instance ty148 : TyA Tryd.prog 148 false 1 := ⟨fun _ => by kernel_rfl, fun _ => by kernel_rfl⟩
instance un148 : Und Tryd.prog 148 (.int .i32) := ⟨Tryd.underlying148⟩
instance ze148 : ZeroA Tryd.prog 148 (Value.int .i32 0) := ⟨fun _ => by kernel_rfl⟩
instance in148 : InfoA Tryd.prog 148 (Value.int .i32 0) 1 4 := ⟨by kernel_rfl⟩
instance ty149 : TyA Tryd.prog 149 true 11 := ⟨fun _ => by kernel_rfl, fun _ => by kernel_rfl⟩
instance fv149_0 : FieldT Tryd.prog 149 0 12 0 := ⟨by kernel_rfl, by kernel_rfl⟩
instance fv149_1 : FieldT Tryd.prog 149 1 12 1 := ⟨by kernel_rfl, by kernel_rfl⟩
instance fv149_2 : FieldT Tryd.prog 149 2 109 2 := ⟨by kernel_rfl, by kernel_rfl⟩
instance fv149_3 : FieldT Tryd.prog 149 3 143 3 := ⟨by kernel_rfl, by kernel_rfl⟩
instance fv149_4 : FieldT Tryd.prog 149 4 5 4 := ⟨by kernel_rfl, by kernel_rfl⟩
instance fv149_5 : FieldT Tryd.prog 149 5 5 5 := ⟨by kernel_rfl, by kernel_rfl⟩
instance fv149_6 : FieldT Tryd.prog 149 6 144 6 := ⟨by kernel_rfl, by kernel_rfl⟩
instance fv149_7 : FieldT Tryd.prog 149 7 145 7 := ⟨by kernel_rfl, by kernel_rfl⟩
instance fv149_8 : FieldT Tryd.prog 149 8 146 8 := ⟨by kernel_rfl, by kernel_rfl⟩
instance fv149_9 : FieldT Tryd.prog 149 9 147 9 := ⟨by kernel_rfl, by kernel_rfl⟩
instance fv149_10 : FieldT Tryd.prog 149 10 148 10 := ⟨by kernel_rfl, by kernel_rfl⟩
instance fi149_0 : FieldA Tryd.prog 149 0 0 := ⟨fun _ _ _ => by kernel_rfl⟩
instance fi149_1 : FieldA Tryd.prog 149 1 1 := ⟨fun _ _ _ => by kernel_rfl⟩
instance fi149_2 : FieldA Tryd.prog 149 2 2 := ⟨fun _ _ _ => by kernel_rfl⟩
instance fi149_3 : FieldA Tryd.prog 149 3 3 := ⟨fun _ _ _ => by kernel_rfl⟩
instance fi149_4 : FieldA Tryd.prog 149 4 4 := ⟨fun _ _ _ => by kernel_rfl⟩
instance fi149_5 : FieldA Tryd.prog 149 5 5 := ⟨fun _ _ _ => by kernel_rfl⟩
instance fi149_6 : FieldA Tryd.prog 149 6 6 := ⟨fun _ _ _ => by kernel_rfl⟩
instance fi149_7 : FieldA Tryd.prog 149 7 7 := ⟨fun _ _ _ => by kernel_rfl⟩
instance fi149_8 : FieldA Tryd.prog 149 8 8 := ⟨fun _ _ _ => by kernel_rfl⟩
instance fi149_9 : FieldA Tryd.prog 149 9 9 := ⟨fun _ _ _ => by kernel_rfl⟩
instance fi149_10 : FieldA Tryd.prog 149 10 10 := ⟨fun _ _ _ => by kernel_rfl⟩
instance ze149 : ZeroA Tryd.prog 149 (Value.agg #[Value.int .u64 0, Value.int .u64 0, Value.int .u32 0, Value.int .u8 0, Value.int .u8 0, Value.int .u8 0, Value.int .u8 0, Value.nilFunc, Value.pointer none, Value.int .i32 0, Value.int .i32 0]) := ⟨fun _ => by kernel_rfl⟩
instance in149 : InfoA Tryd.prog 149 (Value.agg #[Value.int .u64 0, Value.int .u64 0, Value.int .u32 0, Value.int .u8 0, Value.int .u8 0, Value.int .u8 0, Value.int .u8 0, Value.nilFunc, Value.pointer none, Value.int .i32 0, Value.int .i32 0]) 11 48 := ⟨by kernel_rfl⟩
instance ty150 : TyA Tryd.prog 150 true 11 := ⟨fun _ => by kernel_rfl, fun _ => by kernel_rfl⟩
instance fv150_0 : FieldT Tryd.prog 150 0 12 0 := ⟨by kernel_rfl, by kernel_rfl⟩
instance fv150_1 : FieldT Tryd.prog 150 1 12 1 := ⟨by kernel_rfl, by kernel_rfl⟩
instance fv150_2 : FieldT Tryd.prog 150 2 109 2 := ⟨by kernel_rfl, by kernel_rfl⟩
instance fv150_3 : FieldT Tryd.prog 150 3 143 3 := ⟨by kernel_rfl, by kernel_rfl⟩
instance fv150_4 : FieldT Tryd.prog 150 4 5 4 := ⟨by kernel_rfl, by kernel_rfl⟩
instance fv150_5 : FieldT Tryd.prog 150 5 5 5 := ⟨by kernel_rfl, by kernel_rfl⟩
instance fv150_6 : FieldT Tryd.prog 150 6 144 6 := ⟨by kernel_rfl, by kernel_rfl⟩
instance fv150_7 : FieldT Tryd.prog 150 7 145 7 := ⟨by kernel_rfl, by kernel_rfl⟩
instance fv150_8 : FieldT Tryd.prog 150 8 146 8 := ⟨by kernel_rfl, by kernel_rfl⟩
instance fv150_9 : FieldT Tryd.prog 150 9 147 9 := ⟨by kernel_rfl, by kernel_rfl⟩
instance fv150_10 : FieldT Tryd.prog 150 10 148 10 := ⟨by kernel_rfl, by kernel_rfl⟩
instance fi150_0 : FieldA Tryd.prog 150 0 0 := ⟨fun _ _ _ => by kernel_rfl⟩
instance fi150_1 : FieldA Tryd.prog 150 1 1 := ⟨fun _ _ _ => by kernel_rfl⟩
instance fi150_2 : FieldA Tryd.prog 150 2 2 := ⟨fun _ _ _ => by kernel_rfl⟩
instance fi150_3 : FieldA Tryd.prog 150 3 3 := ⟨fun _ _ _ => by kernel_rfl⟩
instance fi150_4 : FieldA Tryd.prog 150 4 4 := ⟨fun _ _ _ => by kernel_rfl⟩
instance fi150_5 : FieldA Tryd.prog 150 5 5 := ⟨fun _ _ _ => by kernel_rfl⟩
instance fi150_6 : FieldA Tryd.prog 150 6 6 := ⟨fun _ _ _ => by kernel_rfl⟩
instance fi150_7 : FieldA Tryd.prog 150 7 7 := ⟨fun _ _ _ => by kernel_rfl⟩
instance fi150_8 : FieldA Tryd.prog 150 8 8 := ⟨fun _ _ _ => by kernel_rfl⟩
instance fi150_9 : FieldA Tryd.prog 150 9 9 := ⟨fun _ _ _ => by kernel_rfl⟩
instance fi150_10 : FieldA Tryd.prog 150 10 10 := ⟨fun _ _ _ => by kernel_rfl⟩
instance ze150 : ZeroA Tryd.prog 150 (Value.agg #[Value.int .u64 0, Value.int .u64 0, Value.int .u32 0, Value.int .u8 0, Value.int .u8 0, Value.int .u8 0, Value.int .u8 0, Value.nilFunc, Value.pointer none, Value.int .i32 0, Value.int .i32 0]) := ⟨fun _ => by kernel_rfl⟩
instance in150 : InfoA Tryd.prog 150 (Value.agg #[Value.int .u64 0, Value.int .u64 0, Value.int .u32 0, Value.int .u8 0, Value.int .u8 0, Value.int .u8 0, Value.int .u8 0, Value.nilFunc, Value.pointer none, Value.int .i32 0, Value.int .i32 0]) 11 48 := ⟨by kernel_rfl⟩
instance hf3 : HasFn Tryd.prog 3 := ⟨fun _ _ => by kernel_rfl⟩
instance hf4 : HasFn Tryd.prog 4 := ⟨fun _ _ => by kernel_rfl⟩
instance hf5 : HasFn Tryd.prog 5 := ⟨fun _ _ => by kernel_rfl⟩
instance hf6 : HasFn Tryd.prog 6 := ⟨fun _ _ => by kernel_rfl⟩
instance hf7 : HasFn Tryd.prog 7 := ⟨fun _ _ => by kernel_rfl⟩
instance hf8 : HasFn Tryd.prog 8 := ⟨fun _ _ => by kernel_rfl⟩
instance hf9 : HasFn Tryd.prog 9 := ⟨fun _ _ => by kernel_rfl⟩
instance hf10 : HasFn Tryd.prog 10 := ⟨fun _ _ => by kernel_rfl⟩
instance hf11 : HasFn Tryd.prog 11 := ⟨fun _ _ => by kernel_rfl⟩
instance hf12 : HasFn Tryd.prog 12 := ⟨fun _ _ => by kernel_rfl⟩
instance hf13 : HasFn Tryd.prog 13 := ⟨fun _ _ => by kernel_rfl⟩
instance hf14 : HasFn Tryd.prog 14 := ⟨fun _ _ => by kernel_rfl⟩
instance hf15 : HasFn Tryd.prog 15 := ⟨fun _ _ => by kernel_rfl⟩
instance hf16 : HasFn Tryd.prog 16 := ⟨fun _ _ => by kernel_rfl⟩
instance hf17 : HasFn Tryd.prog 17 := ⟨fun _ _ => by kernel_rfl⟩
instance hf18 : HasFn Tryd.prog 18 := ⟨fun _ _ => by kernel_rfl⟩
instance hf19 : HasFn Tryd.prog 19 := ⟨fun _ _ => by kernel_rfl⟩
instance hf20 : HasFn Tryd.prog 20 := ⟨fun _ _ => by kernel_rfl⟩
instance hf21 : HasFn Tryd.prog 21 := ⟨fun _ _ => by kernel_rfl⟩
instance hf22 : HasFn Tryd.prog 22 := ⟨fun _ _ => by kernel_rfl⟩
instance hf23 : HasFn Tryd.prog 23 := ⟨fun _ _ => by kernel_rfl⟩
instance hf24 : HasFn Tryd.prog 24 := ⟨fun _ _ => by kernel_rfl⟩
instance hf25 : HasFn Tryd.prog 25 := ⟨fun _ _ => by kernel_rfl⟩
instance hf26 : HasFn Tryd.prog 26 := ⟨fun _ _ => by kernel_rfl⟩
instance hf27 : HasFn Tryd.prog 27 := ⟨fun _ _ => by kernel_rfl⟩
instance hf28 : HasFn Tryd.prog 28 := ⟨fun _ _ => by kernel_rfl⟩
instance hf29 : HasFn Tryd.prog 29 := ⟨fun _ _ => by kernel_rfl⟩
instance hf30 : HasFn Tryd.prog 30 := ⟨fun _ _ => by kernel_rfl⟩
instance hf31 : HasFn Tryd.prog 31 := ⟨fun _ _ => by kernel_rfl⟩
instance hf32 : HasFn Tryd.prog 32 := ⟨fun _ _ => by kernel_rfl⟩
instance hf33 : HasFn Tryd.prog 33 := ⟨fun _ _ => by kernel_rfl⟩
instance hf34 : HasFn Tryd.prog 34 := ⟨fun _ _ => by kernel_rfl⟩
instance hf35 : HasFn Tryd.prog 35 := ⟨fun _ _ => by kernel_rfl⟩
instance hf36 : HasFn Tryd.prog 36 := ⟨fun _ _ => by kernel_rfl⟩
instance hf37 : HasFn Tryd.prog 37 := ⟨fun _ _ => by kernel_rfl⟩
instance hf38 : HasFn Tryd.prog 38 := ⟨fun _ _ => by kernel_rfl⟩
instance hf39 : HasFn Tryd.prog 39 := ⟨fun _ _ => by kernel_rfl⟩
instance hf40 : HasFn Tryd.prog 40 := ⟨fun _ _ => by kernel_rfl⟩
instance hf41 : HasFn Tryd.prog 41 := ⟨fun _ _ => by kernel_rfl⟩
instance hf42 : HasFn Tryd.prog 42 := ⟨fun _ _ => by kernel_rfl⟩
instance hf43 : HasFn Tryd.prog 43 := ⟨fun _ _ => by kernel_rfl⟩
instance hf44 : HasFn Tryd.prog 44 := ⟨fun _ _ => by kernel_rfl⟩
instance hf45 : HasFn Tryd.prog 45 := ⟨fun _ _ => by kernel_rfl⟩
instance hf46 : HasFn Tryd.prog 46 := ⟨fun _ _ => by kernel_rfl⟩
instance hf47 : HasFn Tryd.prog 47 := ⟨fun _ _ => by kernel_rfl⟩
instance hf48 : HasFn Tryd.prog 48 := ⟨fun _ _ => by kernel_rfl⟩
instance hf49 : HasFn Tryd.prog 49 := ⟨fun _ _ => by kernel_rfl⟩
instance hf50 : HasFn Tryd.prog 50 := ⟨fun _ _ => by kernel_rfl⟩
instance hf51 : HasFn Tryd.prog 51 := ⟨fun _ _ => by kernel_rfl⟩
instance hf52 : HasFn Tryd.prog 52 := ⟨fun _ _ => by kernel_rfl⟩
instance hf53 : HasFn Tryd.prog 53 := ⟨fun _ _ => by kernel_rfl⟩
instance hf54 : HasFn Tryd.prog 54 := ⟨fun _ _ => by kernel_rfl⟩
instance hf55 : HasFn Tryd.prog 55 := ⟨fun _ _ => by kernel_rfl⟩
instance hf56 : HasFn Tryd.prog 56 := ⟨fun _ _ => by kernel_rfl⟩
instance hf57 : HasFn Tryd.prog 57 := ⟨fun _ _ => by kernel_rfl⟩
instance hf58 : HasFn Tryd.prog 58 := ⟨fun _ _ => by kernel_rfl⟩
instance hf59 : HasFn Tryd.prog 59 := ⟨fun _ _ => by kernel_rfl⟩
instance hf60 : HasFn Tryd.prog 60 := ⟨fun _ _ => by kernel_rfl⟩
instance hf61 : HasFn Tryd.prog 61 := ⟨fun _ _ => by kernel_rfl⟩
instance hf62 : HasFn Tryd.prog 62 := ⟨fun _ _ => by kernel_rfl⟩
instance hf63 : HasFn Tryd.prog 63 := ⟨fun _ _ => by kernel_rfl⟩
instance hf64 : HasFn Tryd.prog 64 := ⟨fun _ _ => by kernel_rfl⟩
instance hf65 : HasFn Tryd.prog 65 := ⟨fun _ _ => by kernel_rfl⟩
instance hf66 : HasFn Tryd.prog 66 := ⟨fun _ _ => by kernel_rfl⟩
instance hf67 : HasFn Tryd.prog 67 := ⟨fun _ _ => by kernel_rfl⟩
instance hf68 : HasFn Tryd.prog 68 := ⟨fun _ _ => by kernel_rfl⟩
instance hf69 : HasFn Tryd.prog 69 := ⟨fun _ _ => by kernel_rfl⟩
instance hf70 : HasFn Tryd.prog 70 := ⟨fun _ _ => by kernel_rfl⟩
instance hf71 : HasFn Tryd.prog 71 := ⟨fun _ _ => by kernel_rfl⟩
instance hf72 : HasFn Tryd.prog 72 := ⟨fun _ _ => by kernel_rfl⟩
instance hf73 : HasFn Tryd.prog 73 := ⟨fun _ _ => by kernel_rfl⟩
instance hf74 : HasFn Tryd.prog 74 := ⟨fun _ _ => by kernel_rfl⟩
instance hf75 : HasFn Tryd.prog 75 := ⟨fun _ _ => by kernel_rfl⟩
instance hf76 : HasFn Tryd.prog 76 := ⟨fun _ _ => by kernel_rfl⟩
instance hf77 : HasFn Tryd.prog 77 := ⟨fun _ _ => by kernel_rfl⟩
instance hf78 : HasFn Tryd.prog 78 := ⟨fun _ _ => by kernel_rfl⟩
instance hf79 : HasFn Tryd.prog 79 := ⟨fun _ _ => by kernel_rfl⟩
instance hf81 : HasFn Tryd.prog 81 := ⟨fun _ _ => by kernel_rfl⟩
instance hf82 : HasFn Tryd.prog 82 := ⟨fun _ _ => by kernel_rfl⟩
instance hf83 : HasFn Tryd.prog 83 := ⟨fun _ _ => by kernel_rfl⟩
instance hf84 : HasFn Tryd.prog 84 := ⟨fun _ _ => by kernel_rfl⟩
instance hf85 : HasFn Tryd.prog 85 := ⟨fun _ _ => by kernel_rfl⟩
instance hf86 : HasFn Tryd.prog 86 := ⟨fun _ _ => by kernel_rfl⟩
instance hf103 : HasFn Tryd.prog 103 := ⟨fun _ _ => by kernel_rfl⟩
instance hf104 : HasFn Tryd.prog 104 := ⟨fun _ _ => by kernel_rfl⟩
instance hf105 : HasFn Tryd.prog 105 := ⟨fun _ _ => by kernel_rfl⟩
instance hf106 : HasFn Tryd.prog 106 := ⟨fun _ _ => by kernel_rfl⟩
instance hf111 : HasFn Tryd.prog 111 := ⟨fun _ _ => by kernel_rfl⟩
end Go.Proofs.YtomlhekjgagjaaaDoor
namespace Go.Proofs.YtomlhekjgagjaaaDoor
set_option maxRecDepth 100000
set_option maxHeartbeats 16000000
open Go Go.RowKit
attribute [local irreducible] zZ zY Step zA Sub zL Fn
theorem wrapU32 (x : Int) (h0 : 0 ≤ x) (h1 : x < 4294967296) : IntKind.u32.wrap x = x := wrap_u32 _ (by omega)
theorem getB {b : List Int} (hb : ∀ x ∈ b, 0 ≤ x ∧ x < 256) (i : Nat) : 0 ≤ b.getD i 0 ∧ b.getD i 0 < 256 := by
  by_cases h : i < b.length
  · simpa [List.getD, h] using hb b[i] (List.getElem_mem h)
  · simp [List.getD, h]
def moreS (b : List Int) (s : Nat) (i : Nat) : AS :=
  { t := [(4, .p (.val (.int .u32 0))), (5, .p (.val (.int .u32 (s : Int)))), (10, .p (.sl (byts b))), (11, .p (.val (.int .i64 b.length))), (12, .p (.val (.int .i64 i)))], s := [] }
theorem more_fn (sum : Nat) (b : List Int) (hs : sum < 4294967296) (h64 : b.length ≤ 9223372036854775807) (hb : ∀ x ∈ b, 0 ≤ x ∧ x < 256) :
  Fn Tryd.prog 75 [.val (.int .u32 sum), .sl (byts b)] (.p (.val (.int .u32 (xC sum b)))) := by
 have g0 := xor_max sum hs
 refine qI Tryd.func75 rfl Tryd.ntmps75 (Nat.le_of_ble_eq_true rfl) ?_
 repeat' ((refine zY.is ?_; first | refine zY.seq ?_ | (refine zY.isR (id := 0) ?_; refine zY.zK [0, 1] [] (by repeat' first | exact zX.nil | apply zX.p rfl) (by repeat' exact zW.nil) ?_; refine zZ.va rfl rfl rfl rfl (by decide) ?_; refine zZ.nil ?_) | (refine zY.isR (id := 1) ?_; refine zY.zK [0, 1, 4] [] (by repeat' first | exact zX.nil | apply zX.p rfl) (by repeat' exact zW.nil) ?_; refine zZ.vm rfl rfl rfl rfl (by decide) ?_; refine zZ.v rfl rfl (a_cmpl rfl rfl rfl g0 rfl (by decide)) ?_; refine zZ.va rfl rfl rfl rfl (by decide) ?_; refine zZ.nil ?_) | (refine zY.isR (id := 2) ?_; refine zY.zK [1, 4, 5] [] (by repeat' first | exact zX.nil | apply zX.p rfl) (by repeat' exact zW.nil) ?_; refine zZ.vm rfl rfl rfl rfl (by decide) ?_; refine zZ.v rfl rfl (xH rfl rfl rfl (by decide)) ?_; refine zZ.vm rfl rfl rfl rfl (by decide) ?_; refine zZ.nil ?_) | refine zY.block ?_))
 refine zY.loop (fun i => moreS b (crcN (4294967295 - sum) (b.take i)) i) (fun i => i ≤ b.length) (fun i => b.length - i) 0 ?h0 (Nat.zero_le _) ?rd
 case h0 =>
  exact zD K_2o []
 case rd =>
  intro i hi
  have hlt := crc_lt (b.take i) (fun x hx => hb x (List.mem_of_mem_take hx)) (4294967295 - sum) (by omega)
  generalize hst : crcN (4294967295 - sum) (b.take i) = st at *
  by_cases hc : i < b.length
  ·have hdec : decide ((i : Int) < (b.length : Int)) = true := by simpa using hc
   have hB := getB hb i
   have hst2 := crc_take (4294967295 - sum) b i hc
   rw [hst] at hst2
   generalize hcc : b.getD i 0 = c at *
   have hcN : c = ((c.toNat : Nat) : Int) := by omega
   have s1 : st ^^^ c.toNat < 4294967296 := Nat.xor_lt_two_pow (n := 32) hlt (by omega)
   have g1 : IntKind.u32.wrap (b.getD (i : Int).toNat 0) = ((c.toNat : Nat) : Int) := by
    rw [Int.toNat_natCast, hcc, wrapU32 c (by omega) (by omega)]
    exact hcN
   have g2 : bits .xor .u32 (st : Int) ((c.toNat : Nat) : Int) = ((st ^^^ c.toNat : Nat) : Int) := u32_xor_nat st c.toNat hlt (by omega)
   have sh : ∀ s : Nat, (s : Int) / 2 ^ (4 : Int).toNat = ((s / 16 : Nat) : Int) := fun s => by show (s : Int) / 16 = _; omega
   have an : ∀ s : Nat, s < 4294967296 → bits .and .u32 (s : Int) 15 = ((s % 16 : Nat) : Int) := fun s h => by
    rw [show (15 : Int) = ((15 : Nat) : Int) from rfl, u32_and_nat s 15 h (by decide)]
    have : s &&& 15 = s % 16 := Nat.and_two_pow_sub_one_eq_mod s 4
    rw [this]
   have tb : ∀ s : Nat, tbl0[((s % 16 : Nat) : Int).toNat]? = some (.u32, ((tblN (s % 16) : Nat) : Int)) := fun s => by
    rw [Int.toNat_natCast]
    have : ∀ j, j < 16 → tbl0[j]? = some (.u32, ((tblN j : Nat) : Int)) := by decide +kernel
    exact this _ (by omega)
   have xr : ∀ s : Nat, s < 4294967296 → bits .xor .u32 ((s / 16 : Nat) : Int) ((tblN (s % 16) : Nat) : Int) = ((nibN s : Nat) : Int) := fun s h => u32_xor_nat _ _ (by omega) (tblN_lt _ (by omega))
   have g3 := sh (st ^^^ c.toNat)
   have g4 := an _ s1
   have g5 := tb (st ^^^ c.toNat)
   have g6 := xr _ s1
   have s2 := nib_lt s1
   have g7 := sh (nibN (st ^^^ c.toNat))
   have g8 := an _ s2
   have g9 := tb (nibN (st ^^^ c.toNat))
   have g10 := xr _ s2
   clear sh an tb xr
   repeat' (first | (refine zY.is ?_; first | refine zY.seq ?_ | (refine zY.isR (id := 3) ?_; refine zY.zK [4, 5, 7, 10, 11, 12, 13] [] (by repeat' first | exact zX.nil | apply zX.p rfl | apply zX.skip) (by repeat' exact zW.nil) ?_; refine zZ.v rfl rfl (yZ rfl rfl rfl (by rfl) rfl (by decide)) ?_; refine zZ.nil ?_) | (refine zY.isR (id := 4) ?_; refine zY.zK [4, 5, 7, 10, 11, 12, 13] [] (by repeat' first | exact zX.nil | apply zX.p rfl | apply zX.skip) (by repeat' exact zW.nil) ?_; refine zZ.v rfl rfl (by exact wE rfl rfl rfl (by omega) rfl (by decide)) ?_; refine zZ.v rfl rfl (zP rfl rfl rfl rfl (by decide)) ?_; refine zZ.va rfl rfl rfl rfl (by decide) ?_; refine zZ.nil ?_) | (refine zY.isR (id := 5) ?_; refine zY.zK [4, 5, 7, 10, 11, 12, 13] [] (by repeat' first | exact zX.nil | apply zX.p rfl) (by repeat' exact zW.nil) ?_; refine zZ.vm rfl rfl rfl rfl (by decide) ?_; refine zZ.vm rfl rfl rfl rfl (by decide) ?_; refine zZ.v rfl rfl (xZ rfl rfl g1 rfl (by decide)) ?_; refine zZ.v rfl rfl (a_xor rfl rfl rfl g2 rfl (by decide)) ?_; refine zZ.va rfl rfl rfl rfl (by decide) ?_; refine zZ.nil ?_) | (refine zY.isR (id := 6) ?_; refine zY.zK [4, 5, 7, 10, 11, 12, 13] [] (by repeat' first | exact zX.nil | apply zX.p rfl) (by repeat' exact zW.nil) ?_; refine zZ.vm rfl rfl rfl rfl (by decide) ?_; refine zZ.v rfl rfl (a_shr rfl rfl rfl (by decide) (by decide) g3 rfl (by decide)) ?_; refine zZ.vm rfl rfl rfl rfl (by decide) ?_; refine zZ.v rfl rfl (a_and rfl rfl rfl g4 rfl (by decide)) ?_; refine zZ.v rfl rfl (by exact w_indexG rfl rfl rfl rfl rfl (by omega) g5 rfl (by decide)) ?_; refine zZ.v rfl rfl (zP rfl rfl rfl rfl (by decide)) ?_; refine zZ.v rfl rfl (a_xor rfl rfl rfl g6 rfl (by decide)) ?_; refine zZ.va rfl rfl rfl rfl (by decide) ?_; refine zZ.nil ?_) | (refine zY.isR (id := 7) ?_; refine zY.zK [4, 5, 7, 10, 11, 12, 13] [] (by repeat' first | exact zX.nil | apply zX.p rfl) (by repeat' exact zW.nil) ?_; refine zZ.vm rfl rfl rfl rfl (by decide) ?_; refine zZ.v rfl rfl (a_shr rfl rfl rfl (by decide) (by decide) g7 rfl (by decide)) ?_; refine zZ.vm rfl rfl rfl rfl (by decide) ?_; refine zZ.v rfl rfl (a_and rfl rfl rfl g8 rfl (by decide)) ?_; refine zZ.v rfl rfl (by exact w_indexG rfl rfl rfl rfl rfl (by omega) g9 rfl (by decide)) ?_; refine zZ.v rfl rfl (zP rfl rfl rfl rfl (by decide)) ?_; refine zZ.v rfl rfl (a_xor rfl rfl rfl g10 rfl (by decide)) ?_; refine zZ.va rfl rfl rfl rfl (by decide) ?_; refine zZ.nil ?_) | (refine zY.isR (id := 8) ?_; refine zY.zK [4, 5, 7, 10, 11, 12, 13] [] (by repeat' first | exact zX.nil | apply zX.p rfl) (by repeat' exact zW.nil) ?_; refine zZ.v rfl rfl (by exact yX rfl rfl rfl (by exact wrap_i64 _ (by omega)) rfl (by decide)) ?_; refine zZ.vm rfl rfl rfl rfl (by decide) ?_; refine zZ.nil ?_) | refine zY.yC rfl (by assumption) ?_ | refine zY.skip ?_ | refine zY.block ?_) | refine zH.n ?_)
   refine ⟨i + 1, ?_, by omega, by omega⟩
   show Sub _ (moreS b (crcN (4294967295 - sum) (b.take (i + 1))) (i + 1))
   rw [hst2]
   exact zD K_2o []
  ·have hdec : decide ((i : Int) < (b.length : Int)) = false := by simpa using hc
   have hl : b.take i = b := List.take_of_length_le (by omega)
   have g1 : bits .xor .u32 (IntKind.max .u32) (st : Int) = ((xC sum b : Nat) : Int) := by
    rw [xor_max st hlt]
    unfold xC
    rw [← hst, hl]
   repeat' ((refine zY.is ?_; first | refine zY.seq ?_ | (refine zY.isR (id := 3) ?_; refine zY.zK [4, 5, 7, 10, 11, 12, 13] [] (by repeat' first | exact zX.nil | apply zX.p rfl | apply zX.skip) (by repeat' exact zW.nil) ?_; refine zZ.v rfl rfl (yZ rfl rfl rfl (by rfl) rfl (by decide)) ?_; refine zZ.nil ?_) | (refine zY.isR (id := 9) ?_; refine zY.zK [4, 5] [] (by repeat' first | exact zX.nil | apply zX.p rfl) (by repeat' exact zW.nil) ?_; refine zZ.vm rfl rfl rfl rfl (by decide) ?_; refine zZ.v rfl rfl (a_cmpl rfl rfl rfl g1 rfl (by decide)) ?_; refine zZ.va rfl rfl rfl rfl (by decide) ?_; refine zZ.nil ?_) | refine zY.yF rfl (by assumption) ?_ | refine zY.exit ?_ | refine zY.ret ?_))
   all_goals exact ⟨.inl rfl, gives1 rfl rfl rfl⟩
theorem sum_fn (b : List Int) (h64 : b.length ≤ 9223372036854775807) (hb : ∀ x ∈ b, 0 ≤ x ∧ x < 256) : Fn Tryd.prog 61 [.sl (byts b)] (.p (.val (.int .u32 (xC 0 b)))) := by
 have c1 := more_fn 0 b (by decide) h64 hb
 refine qI Tryd.func61 rfl Tryd.ntmps61 (Nat.le_of_ble_eq_true rfl) ?_
 repeat' ((refine zY.is ?_; first | refine zY.seq ?_ | (refine zY.isR (id := 0) ?_; refine zY.zK [0] [] (by repeat' first | exact zX.nil | apply zX.p rfl) (by repeat' exact zW.nil) ?_; refine zZ.va rfl rfl rfl rfl (by decide) ?_; refine zZ.nil ?_) | (refine zY.isR (id := 1) ?_; refine zY.zK [0, 2] [] (by repeat' first | exact zX.nil | apply zX.p rfl) (by repeat' exact zW.nil) ?_; refine zZ.vm rfl rfl rfl rfl (by decide) ?_; refine zZ.v rfl rfl (by exact yE (c1) rfl rfl rfl (by decide)) ?_; refine zZ.va rfl rfl rfl rfl (by decide) ?_; refine zZ.nil ?_) | refine zY.ret ?_))
 all_goals exact ⟨.inl rfl, gives1 rfl rfl rfl⟩
def moreR (b : List Int) (s : Nat) (i : Nat) : AS :=
  { t := [(1, .p (.sl (byts b))), (4, .p (.val (.int .u32 0))), (5, .p (.val (.int .u32 (s : Int)))), (6, .p (.val (.int .i64 i)))], s := [] }
def moreRI (b : List Int) (s : Nat) (i k : Nat) : AS :=
  { t := [(1, .p (.sl (byts b))), (4, .p (.val (.int .u32 0))), (5, .p (.val (.int .u32 (bitsN k s : Int)))), (6, .p (.val (.int .i64 i))), (7, .p (.val (.int .i64 k)))], s := [] }
theorem moreRef_fn (sum : Nat) (b : List Int) (hs : sum < 4294967296) (h64 : b.length ≤ 9223372036854775807) (hb : ∀ x ∈ b, 0 ≤ x ∧ x < 256) :
  Fn Tryd.prog 76 [.val (.int .u32 sum), .sl (byts b)] (.p (.val (.int .u32 (xC sum b)))) := by
 have g0 : IntKind.u32.wrap (4294967295 - (sum : Int)) = ((4294967295 - sum : Nat) : Int) := by rw [wrapU32 _ (by omega) (by omega)]; omega
 refine qI Tryd.func76 rfl Tryd.ntmps76 (Nat.le_of_ble_eq_true rfl) ?_
 repeat' ((refine zY.is ?_; first | refine zY.seq ?_ | (refine zY.isR (id := 0) ?_; refine zY.zK [0, 1] [] (by repeat' first | exact zX.nil | apply zX.p rfl) (by repeat' exact zW.nil) ?_; refine zZ.va rfl rfl rfl rfl (by decide) ?_; refine zZ.nil ?_) | (refine zY.isR (id := 1) ?_; refine zY.zK [0, 1, 4] [] (by repeat' first | exact zX.nil | apply zX.p rfl) (by repeat' exact zW.nil) ?_; refine zZ.vm rfl rfl rfl rfl (by decide) ?_; refine zZ.v rfl rfl (w9 rfl rfl rfl g0 rfl (by decide)) ?_; refine zZ.va rfl rfl rfl rfl (by decide) ?_; refine zZ.nil ?_) | (refine zY.isR (id := 2) ?_; refine zY.zK [1, 4, 5] [] (by repeat' first | exact zX.nil | apply zX.p rfl) (by repeat' exact zW.nil) ?_; refine zZ.va rfl rfl rfl rfl (by decide) ?_; refine zZ.nil ?_) | refine zY.block ?_))
 refine zY.loop (fun i => moreR b (crcN (4294967295 - sum) (b.take i)) i) (fun i => i ≤ b.length) (fun i => b.length - i) 0 ?h0 (Nat.zero_le _) ?rd
 case h0 =>
  exact zD K_1j []
 case rd =>
  intro i hi
  have hlt := crc_lt (b.take i) (fun x hx => hb x (List.mem_of_mem_take hx)) (4294967295 - sum) (by omega)
  generalize hst : crcN (4294967295 - sum) (b.take i) = st at *
  by_cases hc : i < b.length
  ·have hdec : decide ((i : Int) < (b.length : Int)) = true := by simpa using hc
   have hB := getB hb i
   have hst2 := crc_take (4294967295 - sum) b i hc
   rw [hst, byte_bits] at hst2
   generalize hcc : b.getD i 0 = c at *
   have hcN : c = ((c.toNat : Nat) : Int) := by omega
   have s1 : st ^^^ c.toNat < 4294967296 := Nat.xor_lt_two_pow (n := 32) hlt (by omega)
   have g1 : IntKind.u32.wrap (b.getD (i : Int).toNat 0) = ((c.toNat : Nat) : Int) := by
    rw [Int.toNat_natCast, hcc, wrapU32 c (by omega) (by omega)]
    exact hcN
   have g2 : bits .xor .u32 (st : Int) ((c.toNat : Nat) : Int) = ((st ^^^ c.toNat : Nat) : Int) := u32_xor_nat st c.toNat hlt (by omega)
   repeat' ((refine zY.is ?_; first | refine zY.seq ?_ | (refine zY.isR (id := 3) ?_; refine zY.zK [1, 4, 5, 6, 7, 8, 14, 25, 33] [] (by repeat' first | exact zX.nil | apply zX.p rfl | apply zX.skip) (by repeat' exact zW.nil) ?_; refine zZ.vm rfl rfl rfl rfl (by decide) ?_; refine zZ.vm rfl rfl rfl rfl (by decide) ?_; refine zZ.v rfl rfl (xH rfl rfl rfl (by decide)) ?_; refine zZ.v rfl rfl (yZ rfl rfl rfl (by rfl) rfl (by decide)) ?_; refine zZ.nil ?_) | (refine zY.isR (id := 5) ?_; refine zY.zK [1, 4, 5, 6, 7, 8, 14, 25, 33] [] (by repeat' first | exact zX.nil | apply zX.p rfl | apply zX.skip) (by repeat' exact zW.nil) ?_; refine zZ.vm rfl rfl rfl rfl (by decide) ?_; refine zZ.vm rfl rfl rfl rfl (by decide) ?_; refine zZ.vm rfl rfl rfl rfl (by decide) ?_; refine zZ.v rfl rfl (by exact wE rfl rfl rfl (by omega) rfl (by decide)) ?_; refine zZ.v rfl rfl (zP rfl rfl rfl rfl (by decide)) ?_; refine zZ.v rfl rfl (xZ rfl rfl g1 rfl (by decide)) ?_; refine zZ.v rfl rfl (a_xor rfl rfl rfl g2 rfl (by decide)) ?_; refine zZ.va rfl rfl rfl rfl (by decide) ?_; refine zZ.nil ?_) | (refine zY.isR (id := 6) ?_; refine zY.zK [1, 4, 5, 6, 7, 8, 14, 25, 33] [] (by repeat' first | exact zX.nil | apply zX.p rfl | apply zX.skip) (by repeat' exact zW.nil) ?_; refine zZ.va rfl rfl rfl rfl (by decide) ?_; refine zZ.nil ?_) | refine zY.yC rfl (by assumption) ?_ | refine zY.skip ?_ | refine zY.block ?_))
   refine zY.loop (fun k => moreRI b (st ^^^ c.toNat) i k) (fun k => k ≤ 8) (fun k => 8 - k) 0 ?h0 (Nat.zero_le _) ?rd
   case h0 =>
    exact zD K_1y []
   case rd =>
    intro k hk
    have hlk := bits_lt k s1
    have hsucc : bitsN (k + 1) (st ^^^ c.toNat) = bitN (bitsN k (st ^^^ c.toNat)) := rfl
    by_cases hk8 : k < 8
    ·have hd8 : decide ((k : Int) < 8) = true := by simp; omega
     have hk8' : (k : Int) < 8 := by omega
     generalize hsk : bitsN k (st ^^^ c.toNat) = sk at *
     have q1 : ((sk : Nat) : Int).tmod 2 = ((sk % 2 : Nat) : Int) := by rw [Int.tmod_eq_emod_of_nonneg (by omega)]; omega
     have q2 : IntKind.u32.wrap (((sk : Nat) : Int).tdiv 2) = ((sk / 2 : Nat) : Int) := by rw [Int.tdiv_eq_ediv_of_nonneg (by omega), wrapU32 _ (by omega) (by omega)]; omega
     unfold moreRI
     rw [hsk]
     by_cases hp : sk % 2 = 1
     ·have q3 : decide (((sk % 2 : Nat) : Int) = 1) = true := decide_eq_true (by omega)
      have q4 : bits .xor .u32 ((sk / 2 : Nat) : Int) 3988292384 = ((bitN sk : Nat) : Int) := by
       have := u32_xor_nat (sk / 2) 3988292384 (by omega) (by decide)
       unfold bitN
       rw [if_pos hp]
       exact this
      repeat' (first | (refine zY.is ?_; first | refine zY.seq ?_ | (refine zY.isR (id := 7) ?_; refine zY.zK [1, 4, 5, 6, 7, 8, 14, 25, 33] [] (by repeat' first | exact zX.nil | apply zX.p rfl | apply zX.skip) (by repeat' exact zW.nil) ?_; refine zZ.vm rfl rfl rfl rfl (by decide) ?_; refine zZ.v rfl rfl (yZ rfl rfl rfl (by rfl) rfl (by decide)) ?_; refine zZ.nil ?_) | (refine zY.isR (id := 9) ?_; refine zY.zK [1, 4, 5, 6, 7, 8, 14, 25, 33] [] (by repeat' first | exact zX.nil | apply zX.p rfl | apply zX.skip) (by repeat' exact zW.nil) ?_; refine zZ.vm rfl rfl rfl rfl (by decide) ?_; refine zZ.v rfl rfl (a_rem rfl rfl rfl (by decide) q1 rfl (by decide)) ?_; refine zZ.va rfl rfl rfl rfl (by decide) ?_; refine zZ.nil ?_) | (refine zY.isR (id := 10) ?_; refine zY.zK [1, 4, 5, 6, 7, 8, 14, 25, 33] [] (by repeat' first | exact zX.nil | apply zX.p rfl | apply zX.skip) (by repeat' exact zW.nil) ?_; refine zZ.vm rfl rfl rfl rfl (by decide) ?_; refine zZ.v rfl rfl (a_quo rfl rfl rfl (by decide) q2 rfl (by decide)) ?_; refine zZ.va rfl rfl rfl rfl (by decide) ?_; refine zZ.nil ?_) | (refine zY.isR (id := 11) ?_; refine zY.zK [1, 4, 5, 6, 7, 8, 14, 25, 33] [] (by repeat' first | exact zX.nil | apply zX.p rfl | apply zX.skip) (by repeat' exact zW.nil) ?_; refine zZ.vm rfl rfl rfl rfl (by decide) ?_; refine zZ.v rfl rfl (yM rfl rfl rfl q3 rfl (by decide)) ?_; refine zZ.nil ?_) | (refine zY.isR (id := 12) ?_; refine zY.zK [1, 4, 5, 6, 7, 8, 14, 25, 33] [] (by repeat' first | exact zX.nil | apply zX.p rfl | apply zX.skip) (by repeat' exact zW.nil) ?_; refine zZ.vm rfl rfl rfl rfl (by decide) ?_; refine zZ.v rfl rfl (a_xor rfl rfl rfl q4 rfl (by decide)) ?_; refine zZ.va rfl rfl rfl rfl (by decide) ?_; refine zZ.nil ?_) | (refine zY.isR (id := 8) ?_; refine zY.zK [1, 4, 5, 6, 7, 8, 14, 25, 33] [] (by repeat' first | exact zX.nil | apply zX.p rfl | apply zX.skip) (by repeat' exact zW.nil) ?_; refine zZ.vm rfl rfl rfl rfl (by decide) ?_; refine zZ.v rfl rfl (by exact yX rfl rfl rfl (by exact wrap_i64 _ (by omega)) rfl (by decide)) ?_; refine zZ.va rfl rfl rfl rfl (by decide) ?_; refine zZ.nil ?_) | refine zY.yC rfl (by first | assumption | with_reducible rfl) ?_ | refine zY.skip ?_ | refine zY.block ?_) | refine zH.n ?_)
      refine ⟨k + 1, ?_, by omega, by omega⟩
      rw [hsucc]
      exact zD K_1y []
     ·have q3 : decide (((sk % 2 : Nat) : Int) = 1) = false := decide_eq_false (by omega)
      have q4 : bitN sk = sk / 2 := if_neg hp
      repeat' (first | (refine zY.is ?_; first | refine zY.seq ?_ | (refine zY.isR (id := 7) ?_; refine zY.zK [1, 4, 5, 6, 7, 8, 14, 25, 33] [] (by repeat' first | exact zX.nil | apply zX.p rfl | apply zX.skip) (by repeat' exact zW.nil) ?_; refine zZ.vm rfl rfl rfl rfl (by decide) ?_; refine zZ.v rfl rfl (yZ rfl rfl rfl (by rfl) rfl (by decide)) ?_; refine zZ.nil ?_) | (refine zY.isR (id := 9) ?_; refine zY.zK [1, 4, 5, 6, 7, 8, 14, 25, 33] [] (by repeat' first | exact zX.nil | apply zX.p rfl | apply zX.skip) (by repeat' exact zW.nil) ?_; refine zZ.vm rfl rfl rfl rfl (by decide) ?_; refine zZ.v rfl rfl (a_rem rfl rfl rfl (by decide) q1 rfl (by decide)) ?_; refine zZ.va rfl rfl rfl rfl (by decide) ?_; refine zZ.nil ?_) | (refine zY.isR (id := 10) ?_; refine zY.zK [1, 4, 5, 6, 7, 8, 14, 25, 33] [] (by repeat' first | exact zX.nil | apply zX.p rfl | apply zX.skip) (by repeat' exact zW.nil) ?_; refine zZ.vm rfl rfl rfl rfl (by decide) ?_; refine zZ.v rfl rfl (a_quo rfl rfl rfl (by decide) q2 rfl (by decide)) ?_; refine zZ.va rfl rfl rfl rfl (by decide) ?_; refine zZ.nil ?_) | (refine zY.isR (id := 11) ?_; refine zY.zK [1, 4, 5, 6, 7, 8, 14, 25, 33] [] (by repeat' first | exact zX.nil | apply zX.p rfl | apply zX.skip) (by repeat' exact zW.nil) ?_; refine zZ.vm rfl rfl rfl rfl (by decide) ?_; refine zZ.v rfl rfl (yM rfl rfl rfl q3 rfl (by decide)) ?_; refine zZ.nil ?_) | (refine zY.isR (id := 8) ?_; refine zY.zK [1, 4, 5, 6, 7, 8, 14, 25, 33] [] (by repeat' first | exact zX.nil | apply zX.p rfl | apply zX.skip) (by repeat' exact zW.nil) ?_; refine zZ.vm rfl rfl rfl rfl (by decide) ?_; refine zZ.v rfl rfl (by exact yX rfl rfl rfl (by exact wrap_i64 _ (by omega)) rfl (by decide)) ?_; refine zZ.va rfl rfl rfl rfl (by decide) ?_; refine zZ.nil ?_) | refine zY.yC rfl (by assumption) ?_ | refine zY.yF rfl (by first | assumption | with_reducible rfl) ?_ | refine zY.skip ?_ | refine zY.block ?_) | refine zH.n ?_)
      refine ⟨k + 1, ?_, by omega, by omega⟩
      rw [hsucc, q4]
      exact zD K_1y []
    ·have hd8 : decide ((k : Int) < 8) = false := by simp; omega
     obtain rfl : k = 8 := by omega
     repeat' (first | (refine zY.is ?_; first | refine zY.seq ?_ | (refine zY.isR (id := 7) ?_; refine zY.zK [1, 4, 5, 6, 7, 8, 14, 25, 33] [] (by repeat' first | exact zX.nil | apply zX.p rfl | apply zX.skip) (by repeat' exact zW.nil) ?_; refine zZ.vm rfl rfl rfl rfl (by decide) ?_; refine zZ.v rfl rfl (by exact yZ rfl rfl rfl (by exact bF (by decide)) rfl (by decide)) ?_; refine zZ.nil ?_) | (refine zY.isR (id := 4) ?_; refine zY.zK [1, 4, 5, 6, 7, 8, 14, 25, 33] [] (by repeat' first | exact zX.nil | apply zX.p rfl | apply zX.skip) (by repeat' exact zW.nil) ?_; refine zZ.vm rfl rfl rfl rfl (by decide) ?_; refine zZ.v rfl rfl (by exact yX rfl rfl rfl (by exact wrap_i64 _ (by omega)) rfl (by decide)) ?_; refine zZ.va rfl rfl rfl rfl (by decide) ?_; refine zZ.nil ?_) | refine zY.yF rfl (by assumption) ?_ | refine zY.exit ?_) | refine zH.n ?_)
     refine ⟨i + 1, ?_, by omega, by omega⟩
     show Sub _ (moreR b (crcN (4294967295 - sum) (b.take (i + 1))) (i + 1))
     rw [hst2]
     exact zD K_1j []
  ·have hdec : decide ((i : Int) < (b.length : Int)) = false := by simpa using hc
   have hl : b.take i = b := List.take_of_length_le (by omega)
   have g1 : IntKind.u32.wrap (4294967295 - (st : Int)) = ((xC sum b : Nat) : Int) := by
    rw [wrapU32 _ (by omega) (by omega)]
    unfold xC
    rw [← hl, hst]
    omega
   repeat' ((refine zY.is ?_; first | refine zY.seq ?_ | (refine zY.isR (id := 3) ?_; refine zY.zK [1, 4, 5, 6, 7, 8, 14, 25, 33] [] (by repeat' first | exact zX.nil | apply zX.p rfl | apply zX.skip) (by repeat' exact zW.nil) ?_; refine zZ.vm rfl rfl rfl rfl (by decide) ?_; refine zZ.vm rfl rfl rfl rfl (by decide) ?_; refine zZ.v rfl rfl (xH rfl rfl rfl (by decide)) ?_; refine zZ.v rfl rfl (yZ rfl rfl rfl (by rfl) rfl (by decide)) ?_; refine zZ.nil ?_) | (refine zY.isR (id := 13) ?_; refine zY.zK [4, 5] [] (by repeat' first | exact zX.nil | apply zX.p rfl) (by repeat' exact zW.nil) ?_; refine zZ.vm rfl rfl rfl rfl (by decide) ?_; refine zZ.v rfl rfl (w9 rfl rfl rfl g1 rfl (by decide)) ?_; refine zZ.va rfl rfl rfl rfl (by decide) ?_; refine zZ.nil ?_) | refine zY.yF rfl (by assumption) ?_ | refine zY.exit ?_ | refine zY.ret ?_))
   all_goals exact ⟨.inl rfl, gives1 rfl rfl rfl⟩
theorem sumRef_fn (b : List Int) (h64 : b.length ≤ 9223372036854775807) (hb : ∀ x ∈ b, 0 ≤ x ∧ x < 256) : Fn Tryd.prog 64 [.sl (byts b)] (.p (.val (.int .u32 (xC 0 b)))) := by
 have c1 := moreRef_fn 0 b (by decide) h64 hb
 refine qI Tryd.func64 rfl Tryd.ntmps64 (Nat.le_of_ble_eq_true rfl) ?_
 repeat' ((refine zY.is ?_; first | refine zY.seq ?_ | (refine zY.isR (id := 0) ?_; refine zY.zK [0] [] (by repeat' first | exact zX.nil | apply zX.p rfl) (by repeat' exact zW.nil) ?_; refine zZ.va rfl rfl rfl rfl (by decide) ?_; refine zZ.nil ?_) | (refine zY.isR (id := 1) ?_; refine zY.zK [0, 2] [] (by repeat' first | exact zX.nil | apply zX.p rfl) (by repeat' exact zW.nil) ?_; refine zZ.vm rfl rfl rfl rfl (by decide) ?_; refine zZ.v rfl rfl (by exact yE (c1) rfl rfl rfl (by decide)) ?_; refine zZ.va rfl rfl rfl rfl (by decide) ?_; refine zZ.nil ?_) | refine zY.ret ?_))
 all_goals exact ⟨.inl rfl, gives1 rfl rfl rfl⟩
end Go.Proofs.YtomlhekjgagjaaaDoor
namespace Go.Proofs.YtomlhekjgagjaaaDoor
set_option maxRecDepth 100000
set_option maxHeartbeats 16000000
open Go Go.RowKit
def asR (b : Blk) : AS := { t := [], s := [(1000, b)] }
def FnR (P : Program) (f : FuncId) (rest : List PV) (b b' : Blk) : Prop :=
  ∀ (M : Nat → Nat → Prop) (h : Home) (ρ : Nat → Value) (vs : List Value), (∀ k, h.t k → zT (ρ 1000) = some k) → (∀ k, h.r k = none) → Sat M 0 h (asR b) ρ qN h.w → vs.length = rest.length →
    (∀ (i : Nat) x v, rest[i]? = some x → vs[i]? = some v → Rep (Mut M (asR b) ρ) h.w x v) →
    Calls P f (ρ 1000 :: vs).toArray h.w fun e w' => ∃ ρ', e = .returned (ρ' 1000) ∧ Sat M 0 h (asR b') ρ' qN w'
theorem asR_blk {b c : Blk} {id : Nat} (h : (asR b).blk id = some c) : id = 1000 ∧ c = b := by
  have h1 : (if 1000 = id then some b else none) = some c := h
  split at h1
  · rename_i h2; exact ⟨h2.symm, (Option.some.inj h1).symm⟩
  · cases h1
section
variable {P : Program} {n : Nat} {o : Oper} {S : AS} {d : Nat}
theorem fn_ofR {f : FuncId} {fn : Func} {c : Code} {rest : List PV} {b b' : Blk} {t : Nat} (hf : P.funcs[f]? = some fn) (hb : fn.body = some c) (hn : fn.ntmps = n) (hle : rest.length + 1 ≤ n) (hr : fn.results = #[.tmp t])
    (h : zY P n c { t := zipA 0 (.own 1000 :: rest.map AV.p), s := [(1000, b)] } (fun e S => (e = .ret ∨ e = .normal) ∧ ∃ S', Sub S S' ∧ S'.tmp t = .own 1000 ∧ S'.blk 1000 = some b')) : FnR P f rest b b' := by
  intro M hh ρ vs hT hR hs0 hvl hvs
  refine calls_of_wp hf hb ?_
  have hsat : Sat M n hh { t := zipA 0 (.own 1000 :: rest.map AV.p), s := [(1000, b)] } ρ { tmps := (ρ 1000 :: vs).toArray ++ Array.replicate (fn.ntmps - (ρ 1000 :: vs).toArray.size) undef, defers := [] } hh.w := by
    refine ⟨hs0.below, hs0.out, hs0.tab, by simp; omega, hs0.defers, fun i => ?_, hs0.blks, hs0.mine, hs0.fix, fun k _ => hR k, hs0.dist⟩
    show yV _ _ _ ((look (zipA 0 (.own 1000 :: rest.map AV.p)) i).getD .any) _
    rw [look_zipA]
    simp only [Nat.zero_le, if_true, Nat.sub_zero]
    cases i with
    | zero =>
      have e : ({ tmps := (ρ 1000 :: vs).toArray ++ Array.replicate (fn.ntmps - (ρ 1000 :: vs).toArray.size) undef, defers := [] } : Act).tmps.getD 0 undef = ρ 1000 := by
        simp [Array.getD_eq_getD_getElem?, Array.getElem?_append]
      rw [e]
      exact .own 1000
    | succ i =>
      rw [List.getElem?_cons_succ, List.getElem?_map]
      cases hx : rest[i]? with
      | none => exact .any _
      | some x =>
        have hi : i < vs.length := by rw [hvl]; exact (List.getElem?_eq_some_iff.1 hx).1
        have e : ({ tmps := (ρ 1000 :: vs).toArray ++ Array.replicate (fn.ntmps - (ρ 1000 :: vs).toArray.size) undef, defers := [] } : Act).tmps.getD (i + 1) undef = vs[i] := by
          simp [Array.getD_eq_getD_getElem?, Array.getElem?_append, hi]
        rw [e]
        exact .p (hvs i x vs[i] hx (List.getElem?_eq_getElem hi))
  refine h M hh ρ _ hh.w _ hsat ?_
  rintro e S0 ρ0 a' w' ⟨he, S', hsub, ht, hblk⟩ hs1 _
  obtain ⟨ρ', hs'⟩ := hsub M n hh ρ0 a' w' hs1
  have hv : a'.tmps.getD t undef = ρ' 1000 := by
    have := hs'.tmps t
    rw [ht] at this
    exact vN this
  have hm : ∀ k c, Mut M (asR b') ρ' k c → Mut M S' ρ' k c := by
    rintro k c (hk | ⟨id, b1, hb1, hk⟩)
    · exact .inl hk
    · obtain ⟨rfl, rfl⟩ := asR_blk hb1
      exact .inr ⟨1000, _, hblk, hk⟩
  have fin : a'.defers = [] ∧ ∃ v, (results fn a'.tmps).run P w' = .ok v w' ∧ (∃ ρ', Ending.returned v = .returned (ρ' 1000) ∧ Sat M 0 hh (asR b') ρ' qN w') := by
    refine ⟨hs'.defers.trans hs0.defers.symm, _, results_tmp hr _ _ _, ρ', by rw [hv], ⟨hs'.below, hs'.out, hs'.tab, rfl, hs0.defers, fun i => .any _, fun id b1 hb1 => ?_, fun id b1 k hb1 hk => ?_, hs'.fix, fun k _ => hR k, fun i j bi bj k hi hj h1 h2 => ?_⟩⟩
    · obtain ⟨rfl, rfl⟩ := asR_blk hb1
      exact (hs'.blks 1000 _ hblk).mono hm
    · obtain ⟨rfl, rfl⟩ := asR_blk hb1
      exact hs'.mine 1000 _ k hblk hk
    · rw [(asR_blk hi).1, (asR_blk hj).1]
  cases e with
  | ret => exact fin
  | normal => exact fin
  | exit id => rcases he with h | h <;> cases h
  | goto l => rcases he with h | h <;> cases h
  | panic c => rcases he with h | h <;> cases h
  | outgrown => rcases he with h | h <;> cases h
theorem row_blk {M : Nat → Nat → Prop} {B : Nat} {ρ : Nat → Value} {w : World} {v : Value} {t sz m : Nat} {cs : List PV} (h : y7 M B ρ w v (.prow t sz m cs)) : zT v = v.ownBlock := by
  obtain ⟨ys, ho, _⟩ := h
  exact own_slice ho
theorem call_row {f : FuncId} {rest : List PV} {t sz m t' sz' m' : Nat} {cs cs' : List PV} (hf : FnR P f rest (.prow t sz m cs) (.prow t' sz' m' cs')) (hval : ∀ c ∈ cs', ∃ v, c = .val v) {M : Nat → Nat → Prop} {w0 : Home} {ρ : Nat → Value} {a : Act} {w : World} (hs : Sat M n w0 S ρ a w) {v0 : Value} {vs : List Value}
    (hrow : ∀ k c, v0.ownBlock = some k → Mut M S ρ k c) (hown : y7 (Mut M S ρ) 0 ρ w v0 (.prow t sz m cs)) (hvl : vs.length = rest.length) (hvs : ∀ (i : Nat) x v, rest[i]? = some x → vs[i]? = some v → Rep (Mut M S ρ) w x v) :
    Calls P f (v0 :: vs).toArray w fun e w' => ∃ v', e = .returned v' ∧ w.grownBy w' v0.ownBlock ∧ (∀ k, zT v' = some k → w.heap.size ≤ k ∨ v0.ownBlock = some k) ∧ y7 (fun k c => Mut M S ρ k c ∨ (zT v' = some k ∧ (Blk.prow t' sz' m' cs').turns c)) 0 ρ w' v' (.prow t' sz' m' cs') := by
  have hb0 := row_blk hown
  let T : Nat → Prop := fun k => zT v0 = some k
  have T_mut : ∀ k c, T k → Mut M S ρ k c := fun k c hk => hrow k c (hb0 ▸ hk)
  let M' : Nat → Nat → Prop := fun k c => Mut M S ρ k c ∧ ¬ T k
  let h : Home := ⟨w, T, hs.lays, (fun g hg ht => hs.tabs g 0 hg (T_mut g 0 ht)), (fun _ => none), (fun _ _ h => by cases h), (fun _ _ => rfl), []⟩
  have mutc : ∀ k c, Mut M' (asR (.prow t sz m cs)) (fun _ => v0) k c → Mut M S ρ k c := by
    rintro k c (hk | ⟨id, b, hb, hk, _⟩)
    · exact hk.1
    · exact T_mut k c hk
  have cells : ∀ {ρ1 ρ2 : Nat → Value} {M1 M2 : Nat → Nat → Prop} {w1 : World} {xs : List PV} {ys : List Value}, yK M1 ρ1 w1 (xs.map AV.p) ys → (∀ k c, k < w1.heap.size → M2 k c → M1 k c) → yK M2 ρ2 w1 (xs.map AV.p) ys := by
    intro ρ1 ρ2 M1 M2 w1 xs ys hc hM
    refine ⟨hc.len, fun i c v h1 h2 => ?_, hc.one⟩
    have h3 := hc.each i c v h1 h2
    rw [List.getElem?_map, Option.map_eq_some_iff] at h1
    obtain ⟨y, _, rfl⟩ := h1
    cases h3 with
    | p h4 => exact .p (h4.mono hM)
  have hsat : Sat M' 0 h (asR (.prow t sz m cs)) (fun _ => v0) qN h.w := by
    refine ⟨xM.refl h, fun k c hk hh2 => ?_, fun g c hg hk => hs.tabs g c hg hk.1, rfl, rfl, fun i => .any _, fun id b hb => ?_, fun id b k hb hk => .inr hk, (fun k v hk => by cases hk), (fun k hk => by omega), (fun i j bi bj k hi hj h1 h2 => by rw [(asR_blk hi).1, (asR_blk hj).1])⟩
    · rcases hh2 with hh2 | hh2
      · exact absurd (Mut.lt hs hk.1) (Nat.not_lt.2 hh2)
      · exact hk.2 hh2
    · obtain ⟨rfl, rfl⟩ := asR_blk hb
      obtain ⟨ys, ho, hc⟩ := hown
      exact ⟨ys, ho, cells hc fun k c _ hk => mutc k c hk⟩
  refine (hf M' h (fun _ => v0) vs (fun k hk => hk) (fun _ => rfl) hsat hvl fun i x v h1 h2 => (hvs i x v h1 h2).mono fun k c _ hk => mutc k c hk).mono ?_
  rintro e w' ⟨ρ2, rfl, hs2⟩
  have hg : w.grownBy w' v0.ownBlock := ⟨hs2.below.os, hs2.below.tape, hs2.below.output, hs2.below.size, fun k hk hne => hs2.below.block k hk (fun ht => hne (by rw [← hb0]; exact ht.symm))⟩
  have hblk : (asR (.prow t' sz' m' cs')).blk 1000 = some (.prow t' sz' m' cs') := rfl
  refine ⟨ρ2 1000, rfl, hg, fun k hk => ?_, ?_⟩
  · rcases hs2.mine 1000 _ k hblk hk with h1 | h1
    · exact .inl h1
    · exact .inr (by rw [← hb0]; exact h1)
  · obtain ⟨ys, ho, hc⟩ := hs2.blks 1000 _ hblk
    refine ⟨ys, ho, hc.len, fun i c v h1 h2 => ?_, hc.one⟩
    have h3 := hc.each i c v h1 h2
    rw [List.getElem?_map, Option.map_eq_some_iff] at h1
    obtain ⟨y, hy, rfl⟩ := h1
    obtain ⟨u, rfl⟩ := hval y (List.mem_of_getElem? hy)
    cases h3 with
    | p h4 => cases h4; exact .p (.val _)
def rowArgs (S : AS) (args : Array Operand) (x : Operand) (rest : List PV) : Prop := ∃ r, args.toList = x :: r ∧ r.map S.get = rest.map AV.p
theorem reps_rest {M : Nat → Nat → Prop} {w0 : Home} {ρ : Nat → Value} {a : Act} {w : World} (hs : Sat M n w0 S ρ a w) {r : List Operand} {rest : List PV} (h : r.map S.get = rest.map AV.p) : ∀ (i : Nat) x v, rest[i]? = some x → (r.map a.eval)[i]? = some v → Rep (Mut M S ρ) w x v := by
  intro i x v hx hv
  rw [List.getElem?_map, Option.map_eq_some_iff] at hv
  obtain ⟨y, hy, rfl⟩ := hv
  have h3 : S.get y = .p x := by
    have h4 : (r.map S.get)[i]? = (rest.map AV.p)[i]? := by rw [h]
    rw [List.getElem?_map, List.getElem?_map, hy, hx] at h4
    simpa using h4
  exact xJ hs h3
theorem s_callR {f : FuncId} {args : Array Operand} {ts : Array TypeId} {x : Operand} {id : Nat} {rest : List PV} {t sz m t' sz' m' : Nat} {cs cs' : List PV} [hc : HasFn P f] (hf : FnR P f rest (.prow t sz m cs) (.prow t' sz' m' cs')) (hval : ∀ c ∈ cs', ∃ v, c = .val v)
    (ho : o.op = .call { callee := .value (.func f), args := args, argTypes := ts }) (ha : rowArgs S args x rest) (hx : S.get x = .own id) (hb : S.blk id = some (.prow t sz m cs)) (hd : o.dst = some d) (hn : d < n) :
    Step P n o S ((S.create id (.prow t' sz' m' cs')).put d (.own id)) := by
  intro M w0 ρ a w K Q hs hK
  obtain ⟨r, har, hr⟩ := ha
  have h1 := hs.rep x
  rw [hx] at h1
  have hv0 := vN h1
  have hown := hs.blks id _ hb
  have hb0 := row_blk hown
  have hrun : (execOp a.eval o).run P w = .ok (.enter f (ρ id :: r.map a.eval).toArray) w := by
    have e : (args.map a.eval) = (ρ id :: r.map a.eval).toArray := by
      apply Array.ext'
      rw [Array.toList_map, har, List.map_cons, hv0]
    unfold execOp
    rw [ho, ← e]
    simp [resolve, Deferred.ofValue, Act.eval, invoke, hc.h]
  unfold Oper.wp
  rw [hrun, Oper.upon_enter]
  refine (call_row hf hval hs (fun k c hk => .inr ⟨id, _, hb, by rw [hb0]; exact hk, trivial⟩) hown (by simpa using congrArg List.length hr) (reps_rest hs hr)).mono ?_
  rintro e w' ⟨v', rfl, hg, hnew, hok⟩
  show K (a.put o.dst v') w'
  rw [hd]
  have hfree : w0.r id = none := by
    obtain ⟨ys, ho2, _⟩ := hown
    exact row_free hs ho2
  have hs' := hs.change id (.prow t' sz' m' cs') v' (ρ id).ownBlock hfree hg (fun k hk => ⟨_, hb, by rw [hb0]; exact hk, fun _ _ => trivial, fun _ h => (h trivial).elim⟩) hnew hok
  refine hK _ _ w' (hs'.put hn ?_)
  have := yV.own (M := Mut M (S.create id (.prow t' sz' m' cs')) (upd ρ id v')) (ρ := upd ρ id v') (w := w') id
  simpa [upd] using this
theorem s_callRnil {f : FuncId} {args : Array Operand} {ts : Array TypeId} {x : Operand} {rest : List PV} {t sz t' sz' m' : Nat} {cs' : List PV} [hc : HasFn P f] (hf : FnR P f rest (.prow t sz 0 []) (.prow t' sz' m' cs')) (hval : ∀ c ∈ cs', ∃ v, c = .val v)
    (ho : o.op = .call { callee := .value (.func f), args := args, argTypes := ts }) (ha : rowArgs S args x rest) (hx : S.get x = .p (.val (.slice none 0 0))) (hd : o.dst = some d) (hn : d < n) :
    Step P n o S ((S.create d (.prow t' sz' m' cs')).put d (.own d)) := by
  intro M w0 ρ a w K Q hs hK
  obtain ⟨r, har, hr⟩ := ha
  have hv0 := hs.val hx
  have hown : y7 (Mut M S ρ) 0 ρ w (.slice none 0 0) (.prow t sz 0 []) := ⟨[], World.ownsRow_nil w _ t sz, rfl, (fun i c v h => by simp at h), (fun v h => by simp at h)⟩
  have hrun : (execOp a.eval o).run P w = .ok (.enter f (.slice none 0 0 :: r.map a.eval).toArray) w := by
    have e : (args.map a.eval) = (Value.slice none 0 0 :: r.map a.eval).toArray := by
      apply Array.ext'
      rw [Array.toList_map, har, List.map_cons, hv0]
    unfold execOp
    rw [ho, ← e]
    simp [resolve, Deferred.ofValue, Act.eval, invoke, hc.h]
  unfold Oper.wp
  rw [hrun, Oper.upon_enter]
  refine (call_row hf hval hs (fun k c hk => by cases hk) hown (by simpa using congrArg List.length hr) (reps_rest hs hr)).mono ?_
  rintro e w' ⟨v', rfl, hg, hnew, hok⟩
  show K (a.put o.dst v') w'
  rw [hd]
  have hs' := hs.change d (.prow t' sz' m' cs') v' none (hs.free d hn) ⟨hg.os, hg.tape, hg.output, hg.size, fun k hk _ => hg.block k hk (fun e => by cases e)⟩ (fun k hk => by cases hk) (fun k hk => (hnew k hk).elim .inl (fun e => by cases e)) hok
  refine hK _ _ w' (hs'.put hn ?_)
  have := yV.own (M := Mut M (S.create d (.prow t' sz' m' cs')) (upd ρ d v')) (ρ := upd ρ d v') (w := w') d
  simpa [upd] using this
end
end Go.Proofs.YtomlhekjgagjaaaDoor
namespace Go.Proofs.YtomlhekjgagjaaaDoor
set_option maxRecDepth 100000
set_option maxHeartbeats 16000000
open Go.RowKit
def stampB (n : Int) : Bool := decide (0 < n ∧ n < 4611686018427387904)
def rightB (k : Int) : Bool := decide (k / 2147483648 < 1073741824 ∧ k % 2147483648 ≤ 1073741824)
theorem and_mask31 (n : Int) (h0 : 0 ≤ n) (h1 : n < 18446744073709551616) : bits .and .u64 n 2147483647 = n % 2147483648 := by
  obtain ⟨k, rfl⟩ := Int.eq_ofNat_of_zero_le h0
  have h := bits_and_u64_nat k 2147483647 (by omega) (by omega)
  have e : k &&& 2147483647 = k % 2147483648 := Nat.and_two_pow_sub_one_eq_mod k 31
  rw [e] at h
  exact h
theorem stampB_yes {n : Int} (h : 0 < n) : stampB n = decide (n < 4611686018427387904) := by simp [stampB, h]
theorem stampB_yes' {n : Int} (h : 1 ≤ n) : stampB n = decide (n ≤ 4611686018427387903) := by
  unfold stampB
  rw [decide_eq_decide]
  omega
theorem stampB_no {n : Int} (h : n ≤ 0) : stampB n = false := by
  unfold stampB
  rw [decide_eq_false_iff_not]
  omega
theorem rightB_yes {n : Int} (h : n / 2147483648 < 1073741824) : rightB n = decide (n % 2147483648 ≤ 1073741824) := by simp [rightB, h]
theorem rightB_no {n : Int} (h : 1073741824 ≤ n / 2147483648) : rightB n = false := by
  unfold rightB
  rw [decide_eq_false_iff_not]
  omega
end Go.Proofs.YtomlhekjgagjaaaDoor
namespace Go.Proofs.YtomlhekjgagjaaaDoor
set_option maxRecDepth 100000
set_option maxHeartbeats 16000000
open Go Go.RowKit
attribute [local irreducible] zZ zY Step zA Sub zL Fn
theorem eqB {a b : Bool} (h : a = b) : PV.val (.bool a) = PV.val (.bool b) := by rw [h]
theorem eqI {k : IntKind} {a b : Int} (h : a = b) : PV.val (.int k a) = PV.val (.int k b) := by rw [h]
theorem stamp_fn (n : Int) : Fn Tryd.prog 72 [.val (.int .u64 n)] (.p (.val (.bool (stampB n)))) := by
 refine qI Tryd.func72 rfl Tryd.ntmps72 (Nat.le_of_ble_eq_true rfl) ?_
 repeat' ((refine zY.is ?_; first | refine zY.seq ?_ | (refine zY.isR (id := 0) ?_; refine zY.zK [0] [] (by repeat' first | exact zX.nil | apply zX.p rfl) (by repeat' exact zW.nil) ?_; refine zZ.va rfl rfl rfl rfl (by decide) ?_; refine zZ.nil ?_) | (refine zY.isR (id := 1) ?_; refine zY.zK [0, 2] [] (by repeat' first | exact zX.nil | apply zX.p rfl) (by repeat' exact zW.nil) ?_; all_goals (refine zZ.vm rfl rfl rfl rfl (by decide) ?_); all_goals (refine zZ.v rfl rfl (qL rfl rfl rfl (by rfl) rfl (by decide)) ?_); all_goals (refine zZ.vm rfl rfl rfl rfl (by decide) ?_); all_goals (((fail_if_success refine zZ.known rfl rfl rfl (by fail) ?_); refine zZ.split rfl rfl rfl (fun h => ?_) (fun h => ?_) <;> first | refine zZ.gY rfl rfl (by decide) rfl (by assumption) rfl (by decide) (zQ rfl rfl rfl (by decide)) ?_ | refine zZ.gnT rfl rfl (by decide) rfl (by assumption) rfl (by decide) ?_)); all_goals (first | refine zZ.gY rfl rfl (by decide) rfl (by assumption) rfl (by decide) (yZ rfl rfl rfl (by rfl) rfl (by decide)) ?_ | refine zZ.gnT rfl rfl (by decide) rfl (by assumption) rfl (by decide) ?_); all_goals (refine zZ.v rfl rfl (by first | exact zR rfl rfl (by assumption) rfl rfl (by decide) | exact zM rfl rfl (by assumption) rfl rfl (by decide)) ?_); all_goals (refine zZ.va rfl rfl rfl rfl (by decide) ?_); all_goals (refine zZ.nil ?_)) | refine zY.ret ?_))
 all_goals refine ⟨.inl rfl, gives1 rfl rfl (eqB ?_)⟩
 all_goals simp only [decide_eq_true_eq, decide_eq_false_iff_not] at *
 ·exact (stampB_yes (by omega)).symm
 ·exact (stampB_no (by omega)).symm
theorem stampRef_fn (n : Int) : Fn Tryd.prog 47 [.val (.int .u64 n)] (.p (.val (.bool (stampB n)))) := by
 refine qI Tryd.func47 rfl Tryd.ntmps47 (Nat.le_of_ble_eq_true rfl) ?_
 repeat' ((refine zY.is ?_; first | refine zY.seq ?_ | (refine zY.isR (id := 0) ?_; refine zY.zK [0] [] (by repeat' first | exact zX.nil | apply zX.p rfl) (by repeat' exact zW.nil) ?_; refine zZ.va rfl rfl rfl rfl (by decide) ?_; refine zZ.nil ?_) | (refine zY.isR (id := 1) ?_; refine zY.zK [0, 2] [] (by repeat' first | exact zX.nil | apply zX.p rfl) (by repeat' exact zW.nil) ?_; all_goals (refine zZ.vm rfl rfl rfl rfl (by decide) ?_); all_goals (refine zZ.v rfl rfl (qM rfl rfl rfl (by rfl) rfl (by decide)) ?_); all_goals (refine zZ.vm rfl rfl rfl rfl (by decide) ?_); all_goals (((fail_if_success refine zZ.known rfl rfl rfl (by fail) ?_); refine zZ.split rfl rfl rfl (fun h => ?_) (fun h => ?_) <;> first | refine zZ.gY rfl rfl (by decide) rfl (by assumption) rfl (by decide) (zQ rfl rfl rfl (by decide)) ?_ | refine zZ.gnT rfl rfl (by decide) rfl (by assumption) rfl (by decide) ?_)); all_goals (first | refine zZ.gY rfl rfl (by decide) rfl (by assumption) rfl (by decide) (r_leq rfl rfl rfl (by rfl) rfl (by decide)) ?_ | refine zZ.gnT rfl rfl (by decide) rfl (by assumption) rfl (by decide) ?_); all_goals (refine zZ.v rfl rfl (by first | exact zR rfl rfl (by assumption) rfl rfl (by decide) | exact zM rfl rfl (by assumption) rfl rfl (by decide)) ?_); all_goals (refine zZ.va rfl rfl rfl rfl (by decide) ?_); all_goals (refine zZ.nil ?_)) | refine zY.ret ?_))
 all_goals refine ⟨.inl rfl, gives1 rfl rfl (eqB ?_)⟩
 all_goals simp only [decide_eq_true_eq, decide_eq_false_iff_not] at *
 ·exact (stampB_yes' (by omega)).symm
 ·exact (stampB_no (by omega)).symm
theorem right_fn (n : Int) (h0 : 0 ≤ n) (h1 : n < 18446744073709551616) : Fn Tryd.prog 73 [.val (.int .u64 n)] (.p (.val (.bool (rightB n)))) := by
 have hm := and_mask31 n h0 h1
 refine qI Tryd.func73 rfl Tryd.ntmps73 (Nat.le_of_ble_eq_true rfl) ?_
 repeat' ((refine zY.is ?_; first | refine zY.seq ?_ | (refine zY.isR (id := 0) ?_; refine zY.zK [0] [] (by repeat' first | exact zX.nil | apply zX.p rfl) (by repeat' exact zW.nil) ?_; refine zZ.va rfl rfl rfl rfl (by decide) ?_; refine zZ.nil ?_) | (refine zY.isR (id := 1) ?_; refine zY.zK [0, 2] [] (by repeat' first | exact zX.nil | apply zX.p rfl) (by repeat' exact zW.nil) ?_; all_goals (refine zZ.vm rfl rfl rfl rfl (by decide) ?_); all_goals (refine zZ.v rfl rfl (by exact a_shr rfl rfl rfl (by decide) (by decide) (by (simp only [Int.reduceToNat, Int.reducePow]; rfl)) rfl (by decide)) ?_); all_goals (refine zZ.v rfl rfl (yZ rfl rfl rfl (by rfl) rfl (by decide)) ?_); all_goals (refine zZ.vm rfl rfl rfl rfl (by decide) ?_); all_goals (((fail_if_success refine zZ.known rfl rfl rfl (by fail) ?_); refine zZ.split rfl rfl rfl (fun h => ?_) (fun h => ?_) <;> first | refine zZ.gY rfl rfl (by decide) rfl (by assumption) rfl (by decide) (zQ rfl rfl rfl (by decide)) ?_ | refine zZ.gnT rfl rfl (by decide) rfl (by assumption) rfl (by decide) ?_)); all_goals (first | refine zZ.gY rfl rfl (by decide) rfl (by assumption) rfl (by decide) (a_and rfl rfl rfl hm rfl (by decide)) ?_ | refine zZ.gnT rfl rfl (by decide) rfl (by assumption) rfl (by decide) ?_); all_goals (first | refine zZ.gY rfl rfl (by decide) rfl (by assumption) rfl (by decide) (r_leq rfl rfl rfl (by rfl) rfl (by decide)) ?_ | refine zZ.gnT rfl rfl (by decide) rfl (by assumption) rfl (by decide) ?_); all_goals (refine zZ.v rfl rfl (by first | exact zR rfl rfl (by assumption) rfl rfl (by decide) | exact zM rfl rfl (by assumption) rfl rfl (by decide)) ?_); all_goals (refine zZ.va rfl rfl rfl rfl (by decide) ?_); all_goals (refine zZ.nil ?_)) | refine zY.ret ?_))
 all_goals refine ⟨.inl rfl, gives1 rfl rfl (eqB ?_)⟩
 all_goals simp only [decide_eq_true_eq, decide_eq_false_iff_not] at *
 ·exact (rightB_yes (by omega)).symm
 ·exact (rightB_no (by omega)).symm
theorem split_fn (n : Int) (h0 : 0 ≤ n) (h1 : n < 18446744073709551616) : Fn Tryd.prog 40 [.val (.int .u64 n)] (.tup [.val (.int .i64 (n / 2147483648)), .val (.int .i64 (n % 2147483648 - 1))]) := by
 have hm := and_mask31 n h0 h1
 refine qI Tryd.func40 rfl Tryd.ntmps40 (Nat.le_of_ble_eq_true rfl) ?_
 repeat' ((refine zY.is ?_; first | refine zY.seq ?_ | (refine zY.isR (id := 0) ?_; refine zY.zK [0] [] (by repeat' first | exact zX.nil | apply zX.p rfl) (by repeat' exact zW.nil) ?_; refine zZ.va rfl rfl rfl rfl (by decide) ?_; refine zZ.va rfl rfl rfl rfl (by decide) ?_; refine zZ.nil ?_) | (refine zY.isR (id := 1) ?_; refine zY.zK [0, 2, 3] [] (by repeat' first | exact zX.nil | apply zX.p rfl) (by repeat' exact zW.nil) ?_; refine zZ.vm rfl rfl rfl rfl (by decide) ?_; (refine zZ.v rfl rfl (by exact a_shr rfl rfl rfl (by decide) (by decide) (by (simp only [Int.reduceToNat, Int.reducePow]; rfl)) rfl (by decide)) ?_); refine zZ.v rfl rfl (by exact xZ rfl rfl (by exact wrap_i64 _ (by omega)) rfl (by decide)) ?_; refine zZ.vm rfl rfl rfl rfl (by decide) ?_; refine zZ.v rfl rfl (a_and rfl rfl rfl hm rfl (by decide)) ?_; refine zZ.v rfl rfl (by exact xZ rfl rfl (by exact wrap_i64 _ (by omega)) rfl (by decide)) ?_; refine zZ.v rfl rfl (by exact w9 rfl rfl rfl (by exact wrap_i64 _ (by omega)) rfl (by decide)) ?_; refine zZ.va rfl rfl rfl rfl (by decide) ?_; refine zZ.va rfl rfl rfl rfl (by decide) ?_; refine zZ.nil ?_) | refine zY.ret ?_))
 all_goals refine ⟨.inl rfl, givesT (ts := [2, 3]) rfl (by decide) rfl⟩
theorem rightRef_fn (n : Int) (h0 : 0 ≤ n) (h1 : n < 18446744073709551616) : Fn Tryd.prog 46 [.val (.int .u64 n)] (.p (.val (.bool (rightB n)))) := by
 have hq : n.tdiv 2147483648 = n / 2147483648 := Int.tdiv_eq_ediv_of_nonneg h0
 have hr : n.tmod 2147483648 = n % 2147483648 := Int.tmod_eq_emod_of_nonneg h0
 have hw : IntKind.u64.wrap (n.tdiv 2147483648) = n / 2147483648 := by rw [hq]; exact wrap_u64 _ (by omega)
 refine qI Tryd.func46 rfl Tryd.ntmps46 (Nat.le_of_ble_eq_true rfl) ?_
 repeat' ((refine zY.is ?_; first | refine zY.seq ?_ | (refine zY.isR (id := 0) ?_; refine zY.zK [0] [] (by repeat' first | exact zX.nil | apply zX.p rfl) (by repeat' exact zW.nil) ?_; refine zZ.va rfl rfl rfl rfl (by decide) ?_; refine zZ.nil ?_) | (refine zY.isR (id := 1) ?_; refine zY.zK [0, 2] [] (by repeat' first | exact zX.nil | apply zX.p rfl) (by repeat' exact zW.nil) ?_; all_goals (refine zZ.vm rfl rfl rfl rfl (by decide) ?_); all_goals (refine zZ.v rfl rfl (a_quo rfl rfl rfl (by decide) hw rfl (by decide)) ?_); all_goals (refine zZ.v rfl rfl (r_leq rfl rfl rfl (by rfl) rfl (by decide)) ?_); all_goals (refine zZ.vm rfl rfl rfl rfl (by decide) ?_); all_goals (((fail_if_success refine zZ.known rfl rfl rfl (by fail) ?_); refine zZ.split rfl rfl rfl (fun h => ?_) (fun h => ?_) <;> first | refine zZ.gY rfl rfl (by decide) rfl (by assumption) rfl (by decide) (zQ rfl rfl rfl (by decide)) ?_ | refine zZ.gnT rfl rfl (by decide) rfl (by assumption) rfl (by decide) ?_)); all_goals (first | refine zZ.gY rfl rfl (by decide) rfl (by assumption) rfl (by decide) (a_rem rfl rfl rfl (by decide) hr rfl (by decide)) ?_ | refine zZ.gnT rfl rfl (by decide) rfl (by assumption) rfl (by decide) ?_); all_goals (first | refine zZ.gY rfl rfl (by decide) rfl (by assumption) rfl (by decide) (r_leq rfl rfl rfl (by rfl) rfl (by decide)) ?_ | refine zZ.gnT rfl rfl (by decide) rfl (by assumption) rfl (by decide) ?_); all_goals (refine zZ.v rfl rfl (by first | exact zR rfl rfl (by assumption) rfl rfl (by decide) | exact zM rfl rfl (by assumption) rfl rfl (by decide)) ?_); all_goals (refine zZ.va rfl rfl rfl rfl (by decide) ?_); all_goals (refine zZ.nil ?_)) | refine zY.ret ?_))
 all_goals refine ⟨.inl rfl, gives1 rfl rfl (eqB ?_)⟩
 all_goals simp only [decide_eq_true_eq, decide_eq_false_iff_not] at *
 ·exact (rightB_yes (by omega)).symm
 ·exact (rightB_no (by omega)).symm
end Go.Proofs.YtomlhekjgagjaaaDoor
namespace Go.Proofs.YtomlhekjgagjaaaDoor
set_option maxRecDepth 100000
set_option maxHeartbeats 16000000
open Go.RowKit
def qP (k s y u v x : Int) : Bool :=
  if k = 1 then stampB s && rightB y && (if y % 2147483648 = 0 then decide (u = 0 ∧ v = 0) else stampB u && stampB v)
  else if k = 2 then stampB s && decide (y = 0 ∧ u = 0 ∧ v = 0 ∧ x = 0)
  else if k = 3 then decide (s ≤ 65536) && decide (y = 0 ∧ u = 0 ∧ v = 0 ∧ x = 0)
  else false
end Go.Proofs.YtomlhekjgagjaaaDoor
namespace Go.Proofs.YtomlhekjgagjaaaDoor
set_option maxRecDepth 100000
set_option maxHeartbeats 16000000
open Go Go.RowKit
attribute [local irreducible] zZ zY Step zA Sub zL Fn
def entV (k s y u v x : Int) : PV := .agg [.val (.int .i64 k), .val (.int .u64 s), .val (.int .u64 y), .val (.int .u64 u), .val (.int .u64 v), .val (.int .u64 x)]
theorem may_fn (k s y u v x : Int) (h0 : 0 ≤ y) (h1 : y < 18446744073709551616) : Fn Tryd.prog 58 [entV k s y u v x] (.p (.val (.bool (qP k s y u v x)))) := by
 refine qI Tryd.func58 rfl Tryd.ntmps58 (Nat.le_of_ble_eq_true rfl) ?_
 repeat' (first | (refine zY.is ?_; first | refine zY.seq ?_ | (refine zY.iq 0 ?_; refine zY.rqa _ K_5 K_8 ?_; refine zZ.m rfl rfl (vQ rfl rfl rfl (by decide)) ?_; refine zZ.va rfl rfl rfl rfl (by decide) ?_; refine zZ.nil ?_) | (refine zY.iq 1 ?_; refine zY.rqd _ K_9 K_8 ?_; refine zZ.v rfl rfl (zJ rfl rfl rfl (by decide)) ?_; refine zZ.v rfl rfl (zB rfl rfl rfl rfl rfl (by decide)) ?_; refine zZ.nil ?_) | (refine zY.iq 2 ?_; refine zY.rqd _ K_12 K_8 ?_; refine zZ.v rfl rfl (yM rfl rfl rfl (by rfl) rfl (by decide)) ?_; refine zZ.va rfl rfl rfl rfl (by decide) ?_; refine zZ.nil ?_) | (refine zY.iq 3 ?_; refine zY.rqd _ K_12 K_8 ?_; all_goals (refine zZ.v rfl rfl (zJ rfl rfl rfl (by decide)) ?_); all_goals (refine zZ.v rfl rfl (zB rfl rfl rfl rfl rfl (by decide)) ?_); all_goals (refine zZ.v rfl rfl (by exact yE (stamp_fn _) rfl rfl rfl (by decide)) ?_); all_goals (refine zZ.v rfl rfl (xR rfl rfl (by rfl) rfl (by decide)) ?_); all_goals (refine zZ.vm rfl rfl rfl rfl (by decide) ?_); all_goals (((fail_if_success refine zZ.known rfl rfl rfl (by fail) ?_); refine zZ.split rfl rfl rfl (fun h => ?_) (fun h => ?_) <;> first | refine zZ.gY rfl rfl (by decide) rfl (by assumption) rfl (by decide) (zJ rfl rfl rfl (by decide)) ?_ | refine zZ.gnF rfl rfl (by decide) rfl (by assumption) rfl (by decide) ?_)); all_goals (first | refine zZ.gY rfl rfl (by decide) rfl (by assumption) rfl (by decide) (zB rfl rfl rfl rfl rfl (by decide)) ?_ | refine zZ.gnF rfl rfl (by decide) rfl (by assumption) rfl (by decide) ?_); all_goals (first | refine zZ.gY rfl rfl (by decide) rfl (by assumption) rfl (by decide) (by exact yE (right_fn _ h0 h1) rfl rfl rfl (by decide)) ?_ | refine zZ.gnF rfl rfl (by decide) rfl (by assumption) rfl (by decide) ?_); all_goals (first | refine zZ.gY rfl rfl (by decide) rfl (by assumption) rfl (by decide) (xR rfl rfl (by rfl) rfl (by decide)) ?_ | refine zZ.gnF rfl rfl (by decide) rfl (by assumption) rfl (by decide) ?_); all_goals (refine zZ.v rfl rfl (by first | exact zR rfl rfl (by assumption) rfl rfl (by decide) | exact zM rfl rfl (by assumption) rfl rfl (by decide)) ?_); all_goals (refine zZ.nil ?_)) | (refine zY.iq 4 ?_; refine zY.rqd _ K_12 K_8 ?_; refine zZ.va rfl rfl rfl rfl (by decide) ?_; refine zZ.nil ?_) | (refine zY.iq 5 ?_; refine zY.rqd _ K_12 K_8 ?_; refine zZ.v rfl rfl (zJ rfl rfl rfl (by decide)) ?_; refine zZ.v rfl rfl (zB rfl rfl rfl rfl rfl (by decide)) ?_; refine zZ.v rfl rfl (by exact y9 (split_fn _ h0 h1) rfl rfl rfl (by decide)) ?_; refine zZ.v rfl rfl (yG rfl rfl rfl (by decide)) ?_; refine zZ.v rfl rfl (zC rfl rfl rfl rfl (by decide)) ?_; refine zZ.v rfl rfl (zC rfl rfl rfl rfl (by decide)) ?_; refine zZ.va rfl rfl rfl rfl (by decide) ?_; refine zZ.va rfl rfl rfl rfl (by decide) ?_; refine zZ.nil ?_) | (refine zY.iq 6 ?_; refine zY.rqd _ K_3h K_8 ?_; refine zZ.vm rfl rfl rfl rfl (by decide) ?_; refine zZ.v rfl rfl (yZ rfl rfl rfl (by rfl) rfl (by decide)) ?_; refine zZ.nil ?_) | (refine zY.iq 7 ?_; refine zY.rqd _ K_12 K_8 ?_; all_goals (refine zZ.v rfl rfl (zJ rfl rfl rfl (by decide)) ?_); all_goals (refine zZ.v rfl rfl (zB rfl rfl rfl rfl rfl (by decide)) ?_); all_goals (refine zZ.v rfl rfl (yM rfl rfl rfl (by rfl) rfl (by decide)) ?_); all_goals (refine zZ.vm rfl rfl rfl rfl (by decide) ?_); all_goals (((fail_if_success refine zZ.known rfl rfl rfl (by fail) ?_); refine zZ.split rfl rfl rfl (fun h => ?_) (fun h => ?_) <;> first | refine zZ.gY rfl rfl (by decide) rfl (by assumption) rfl (by decide) (zJ rfl rfl rfl (by decide)) ?_ | refine zZ.gnT rfl rfl (by decide) rfl (by assumption) rfl (by decide) ?_)); all_goals (first | refine zZ.gY rfl rfl (by decide) rfl (by assumption) rfl (by decide) (zB rfl rfl rfl rfl rfl (by decide)) ?_ | refine zZ.gnT rfl rfl (by decide) rfl (by assumption) rfl (by decide) ?_); all_goals (first | refine zZ.gY rfl rfl (by decide) rfl (by assumption) rfl (by decide) (yM rfl rfl rfl (by rfl) rfl (by decide)) ?_ | refine zZ.gnT rfl rfl (by decide) rfl (by assumption) rfl (by decide) ?_); all_goals (refine zZ.v rfl rfl (by first | exact zR rfl rfl (by assumption) rfl rfl (by decide) | exact zM rfl rfl (by assumption) rfl rfl (by decide)) ?_); all_goals (refine zZ.va rfl rfl rfl rfl (by decide) ?_); all_goals (refine zZ.nil ?_)) | (refine zY.iq 8 ?_; refine zY.rqd _ K_12 K_8 ?_; all_goals (refine zZ.v rfl rfl (zJ rfl rfl rfl (by decide)) ?_); all_goals (refine zZ.v rfl rfl (zB rfl rfl rfl rfl rfl (by decide)) ?_); all_goals (refine zZ.v rfl rfl (by exact yE (stamp_fn _) rfl rfl rfl (by decide)) ?_); all_goals (refine zZ.vm rfl rfl rfl rfl (by decide) ?_); all_goals (((fail_if_success refine zZ.known rfl rfl rfl (by fail) ?_); refine zZ.split rfl rfl rfl (fun h => ?_) (fun h => ?_) <;> first | refine zZ.gY rfl rfl (by decide) rfl (by assumption) rfl (by decide) (zJ rfl rfl rfl (by decide)) ?_ | refine zZ.gnT rfl rfl (by decide) rfl (by assumption) rfl (by decide) ?_)); all_goals (first | refine zZ.gY rfl rfl (by decide) rfl (by assumption) rfl (by decide) (zB rfl rfl rfl rfl rfl (by decide)) ?_ | refine zZ.gnT rfl rfl (by decide) rfl (by assumption) rfl (by decide) ?_); all_goals (first | refine zZ.gY rfl rfl (by decide) rfl (by assumption) rfl (by decide) (by exact yE (stamp_fn _) rfl rfl rfl (by decide)) ?_ | refine zZ.gnT rfl rfl (by decide) rfl (by assumption) rfl (by decide) ?_); all_goals (refine zZ.v rfl rfl (by first | exact zR rfl rfl (by assumption) rfl rfl (by decide) | exact zM rfl rfl (by assumption) rfl rfl (by decide)) ?_); all_goals (refine zZ.va rfl rfl rfl rfl (by decide) ?_); all_goals (refine zZ.nil ?_)) | (refine zY.iq 9 ?_; refine zY.rqd _ K_12 K_8 ?_; refine zZ.v rfl rfl (yM rfl rfl rfl (by rfl) rfl (by decide)) ?_; refine zZ.va rfl rfl rfl rfl (by decide) ?_; refine zZ.nil ?_) | (refine zY.iq 10 ?_; refine zY.rqd _ K_12 K_8 ?_; all_goals (refine zZ.v rfl rfl (zJ rfl rfl rfl (by decide)) ?_); all_goals (refine zZ.v rfl rfl (zB rfl rfl rfl rfl rfl (by decide)) ?_); all_goals (refine zZ.v rfl rfl (by exact yE (stamp_fn _) rfl rfl rfl (by decide)) ?_); all_goals (refine zZ.vm rfl rfl rfl rfl (by decide) ?_); all_goals (((fail_if_success refine zZ.known rfl rfl rfl (by fail) ?_); refine zZ.split rfl rfl rfl (fun h => ?_) (fun h => ?_) <;> first | refine zZ.gY rfl rfl (by decide) rfl (by assumption) rfl (by decide) (xY rfl rfl rfl (by rfl) (by rfl) rfl (by decide)) ?_ | refine zZ.gnT rfl rfl (by decide) rfl (by assumption) rfl (by decide) ?_)); all_goals (first | refine zZ.gY rfl rfl (by decide) rfl (by assumption) rfl (by decide) (zJ rfl rfl rfl (by decide)) ?_ | refine zZ.gnT rfl rfl (by decide) rfl (by assumption) rfl (by decide) ?_); all_goals (first | refine zZ.gY rfl rfl (by decide) rfl (by assumption) rfl (by decide) (zB rfl rfl rfl rfl rfl (by decide)) ?_ | refine zZ.gnT rfl rfl (by decide) rfl (by assumption) rfl (by decide) ?_); all_goals (first | refine zZ.gY rfl rfl (by decide) rfl (by assumption) rfl (by decide) (zJ rfl rfl rfl (by decide)) ?_ | refine zZ.gnT rfl rfl (by decide) rfl (by assumption) rfl (by decide) ?_); all_goals (first | refine zZ.gY rfl rfl (by decide) rfl (by assumption) rfl (by decide) (zB rfl rfl rfl rfl rfl (by decide)) ?_ | refine zZ.gnT rfl rfl (by decide) rfl (by assumption) rfl (by decide) ?_); all_goals (first | refine zZ.gY rfl rfl (by decide) rfl (by assumption) rfl (by decide) (vV rfl (by rfl) (by rfl) (by rfl) (by rfl) rfl (by decide)) ?_ | refine zZ.gnT rfl rfl (by decide) rfl (by assumption) rfl (by decide) ?_); all_goals (first | refine zZ.gY rfl rfl (by decide) rfl (by assumption) rfl (by decide) (r_eqlT rfl rfl rfl rfl rfl rfl (by rfl) (by rfl) rfl (by decide)) ?_ | refine zZ.gnT rfl rfl (by decide) rfl (by assumption) rfl (by decide) ?_); all_goals (refine zZ.v rfl rfl (by first | exact zR rfl rfl (by assumption) rfl rfl (by decide) | exact zM rfl rfl (by assumption) rfl rfl (by decide)) ?_); all_goals (refine zZ.va rfl rfl rfl rfl (by decide) ?_); all_goals (refine zZ.nil ?_)) | (refine zY.iq 11 ?_; refine zY.rqd _ K_12 K_8 ?_; refine zZ.v rfl rfl (yM rfl rfl rfl (by rfl) rfl (by decide)) ?_; refine zZ.va rfl rfl rfl rfl (by decide) ?_; refine zZ.nil ?_) | (refine zY.iq 12 ?_; refine zY.rqd _ K_9 K_8 ?_; all_goals (refine zZ.v rfl rfl (zJ rfl rfl rfl (by decide)) ?_); all_goals (refine zZ.v rfl rfl (zB rfl rfl rfl rfl rfl (by decide)) ?_); all_goals (refine zZ.v rfl rfl (r_leq rfl rfl rfl (by rfl) rfl (by decide)) ?_); all_goals (refine zZ.vm rfl rfl rfl rfl (by decide) ?_); all_goals (((fail_if_success refine zZ.known rfl rfl rfl (by fail) ?_); refine zZ.split rfl rfl rfl (fun h => ?_) (fun h => ?_) <;> first | refine zZ.gY rfl rfl (by decide) rfl (by assumption) rfl (by decide) (xY rfl rfl rfl (by rfl) (by rfl) rfl (by decide)) ?_ | refine zZ.gnT rfl rfl (by decide) rfl (by assumption) rfl (by decide) ?_)); all_goals (first | refine zZ.gY rfl rfl (by decide) rfl (by assumption) rfl (by decide) (zJ rfl rfl rfl (by decide)) ?_ | refine zZ.gnT rfl rfl (by decide) rfl (by assumption) rfl (by decide) ?_); all_goals (first | refine zZ.gY rfl rfl (by decide) rfl (by assumption) rfl (by decide) (zB rfl rfl rfl rfl rfl (by decide)) ?_ | refine zZ.gnT rfl rfl (by decide) rfl (by assumption) rfl (by decide) ?_); all_goals (first | refine zZ.gY rfl rfl (by decide) rfl (by assumption) rfl (by decide) (zJ rfl rfl rfl (by decide)) ?_ | refine zZ.gnT rfl rfl (by decide) rfl (by assumption) rfl (by decide) ?_); all_goals (first | refine zZ.gY rfl rfl (by decide) rfl (by assumption) rfl (by decide) (zB rfl rfl rfl rfl rfl (by decide)) ?_ | refine zZ.gnT rfl rfl (by decide) rfl (by assumption) rfl (by decide) ?_); all_goals (first | refine zZ.gY rfl rfl (by decide) rfl (by assumption) rfl (by decide) (vV rfl (by rfl) (by rfl) (by rfl) (by rfl) rfl (by decide)) ?_ | refine zZ.gnT rfl rfl (by decide) rfl (by assumption) rfl (by decide) ?_); all_goals (first | refine zZ.gY rfl rfl (by decide) rfl (by assumption) rfl (by decide) (r_eqlT rfl rfl rfl rfl rfl rfl (by rfl) (by rfl) rfl (by decide)) ?_ | refine zZ.gnT rfl rfl (by decide) rfl (by assumption) rfl (by decide) ?_); all_goals (refine zZ.v rfl rfl (by first | exact zR rfl rfl (by assumption) rfl rfl (by decide) | exact zM rfl rfl (by assumption) rfl rfl (by decide)) ?_); all_goals (refine zZ.va rfl rfl rfl rfl (by decide) ?_); all_goals (refine zZ.nil ?_)) | (refine zY.isR (id := 13) ?_; refine zY.zK [2] [1] (by repeat' first | exact zX.nil | apply zX.p rfl) (by repeat' first | exact zW.nil | apply zW.boxP rfl rfl) ?_; refine zZ.va rfl rfl rfl rfl (by decide) ?_; refine zZ.nil ?_) | refine zY.yC rfl (by first | assumption | with_reducible rfl) ?_ | refine zY.cond rfl (fun h => ?_) (fun h => ?_) | refine zY.skip ?_ | refine zY.block ?_ | refine zY.ret ?_) | refine zH.r ?_ | refine zS.r ?_)
 all_goals refine ⟨.inl rfl, gives1 rfl rfl (eqB ?_)⟩
 all_goals simp only [decide_eq_true_eq, decide_eq_false_iff_not, Bool.not_eq_true', Bool.not_eq_false'] at *
 all_goals try subst k
 all_goals try (have hq : y % 2147483648 = 0 := by omega)
 all_goals try (have hq : ¬ y % 2147483648 = 0 := by omega)
 all_goals (unfold qP; (simp [*]; done))
theorem mayRef_fn (k s y u v x : Int) (h0 : 0 ≤ y) (h1 : y < 18446744073709551616) : Fn Tryd.prog 25 [entV k s y u v x] (.p (.val (.bool (qP k s y u v x)))) := by
  refine qI Tryd.func25 rfl Tryd.ntmps25 (Nat.le_of_ble_eq_true rfl) ?_
  have hr : y.tmod 2147483648 = y % 2147483648 := Int.tmod_eq_emod_of_nonneg h0
  repeat' (first | (refine zY.is ?_; first | refine zY.seq ?_ | (refine zY.iq 0 ?_; refine zY.rqa _ K_5 K_8 ?_; refine zZ.m rfl rfl (vQ rfl rfl rfl (by decide)) ?_; refine zZ.va rfl rfl rfl rfl (by decide) ?_; refine zZ.nil ?_) | (refine zY.iq 1 ?_; refine zY.rqd _ K_9 K_8 ?_; refine zZ.v rfl rfl (zJ rfl rfl rfl (by decide)) ?_; refine zZ.v rfl rfl (zB rfl rfl rfl (by rfl) rfl (by decide)) ?_; refine zZ.v rfl rfl (yM rfl rfl rfl (by rfl) rfl (by decide)) ?_; refine zZ.nil ?_) | (refine zY.iq 2 ?_; refine zY.rqd _ K_9 K_8 ?_; refine zZ.v rfl rfl (zJ rfl rfl rfl (by decide)) ?_; refine zZ.v rfl rfl (zB rfl rfl rfl (by rfl) rfl (by decide)) ?_; refine zZ.v rfl rfl (by exact yE (rightRef_fn _ h0 h1) rfl rfl rfl (by decide)) ?_; refine zZ.va rfl rfl rfl rfl (by decide) ?_; refine zZ.nil ?_) | (refine zY.iq 3 ?_; refine zY.rqd _ K_11 K_8 ?_; all_goals (refine zZ.vm rfl rfl rfl rfl (by decide) ?_); all_goals (refine zZ.v rfl rfl (xR rfl rfl (by rfl) rfl (by decide)) ?_); all_goals (refine zZ.vm rfl rfl rfl rfl (by decide) ?_); all_goals (((fail_if_success refine zZ.known rfl rfl rfl (by fail) ?_); refine zZ.split rfl rfl rfl (fun h => ?_) (fun h => ?_) <;> first | refine zZ.gY rfl rfl (by decide) rfl (by assumption) rfl (by decide) (zJ rfl rfl rfl (by decide)) ?_ | refine zZ.gnF rfl rfl (by decide) rfl (by assumption) rfl (by decide) ?_)); all_goals (first | refine zZ.gY rfl rfl (by decide) rfl (by assumption) rfl (by decide) (zB rfl rfl rfl (by rfl) rfl (by decide)) ?_ | refine zZ.gnF rfl rfl (by decide) rfl (by assumption) rfl (by decide) ?_); all_goals (first | refine zZ.gY rfl rfl (by decide) rfl (by assumption) rfl (by decide) (by exact yE (stampRef_fn _) rfl rfl rfl (by decide)) ?_ | refine zZ.gnF rfl rfl (by decide) rfl (by assumption) rfl (by decide) ?_); all_goals (first | refine zZ.gY rfl rfl (by decide) rfl (by assumption) rfl (by decide) (xR rfl rfl (by rfl) rfl (by decide)) ?_ | refine zZ.gnF rfl rfl (by decide) rfl (by assumption) rfl (by decide) ?_); all_goals (refine zZ.v rfl rfl (by first | exact zR rfl rfl (by assumption) rfl rfl (by decide) | exact zM rfl rfl (by assumption) rfl rfl (by decide)) ?_); all_goals (refine zZ.nil ?_)) | (refine zY.iq 4 ?_; refine zY.rqd _ K_9 K_8 ?_; refine zZ.va rfl rfl rfl rfl (by decide) ?_; refine zZ.nil ?_) | (refine zY.iq 5 ?_; refine zY.rqd _ K_9 K_8 ?_; refine zZ.v rfl rfl (zJ rfl rfl rfl (by decide)) ?_; refine zZ.v rfl rfl (zB rfl rfl rfl (by rfl) rfl (by decide)) ?_; refine zZ.v rfl rfl (a_rem rfl rfl rfl (by decide) hr rfl (by decide)) ?_; refine zZ.v rfl rfl (yM rfl rfl rfl (by rfl) rfl (by decide)) ?_; refine zZ.nil ?_) | (refine zY.iq 6 ?_; refine zY.rqd _ K_9 K_8 ?_; all_goals (refine zZ.v rfl rfl (zJ rfl rfl rfl (by decide)) ?_); all_goals (refine zZ.v rfl rfl (zB rfl rfl rfl (by rfl) rfl (by decide)) ?_); all_goals (refine zZ.v rfl rfl (yM rfl rfl rfl (by rfl) rfl (by decide)) ?_); all_goals (refine zZ.vm rfl rfl rfl rfl (by decide) ?_); all_goals (((fail_if_success refine zZ.known rfl rfl rfl (by fail) ?_); refine zZ.split rfl rfl rfl (fun h => ?_) (fun h => ?_) <;> first | refine zZ.gY rfl rfl (by decide) rfl (by assumption) rfl (by decide) (zJ rfl rfl rfl (by decide)) ?_ | refine zZ.gnT rfl rfl (by decide) rfl (by assumption) rfl (by decide) ?_)); all_goals (first | refine zZ.gY rfl rfl (by decide) rfl (by assumption) rfl (by decide) (zB rfl rfl rfl (by rfl) rfl (by decide)) ?_ | refine zZ.gnT rfl rfl (by decide) rfl (by assumption) rfl (by decide) ?_); all_goals (first | refine zZ.gY rfl rfl (by decide) rfl (by assumption) rfl (by decide) (yM rfl rfl rfl (by rfl) rfl (by decide)) ?_ | refine zZ.gnT rfl rfl (by decide) rfl (by assumption) rfl (by decide) ?_); all_goals (refine zZ.v rfl rfl (by first | exact zR rfl rfl (by assumption) rfl rfl (by decide) | exact zM rfl rfl (by assumption) rfl rfl (by decide)) ?_); all_goals (refine zZ.va rfl rfl rfl rfl (by decide) ?_); all_goals (refine zZ.nil ?_)) | (refine zY.iq 7 ?_; refine zY.rqd _ K_9 K_8 ?_; all_goals (refine zZ.v rfl rfl (zJ rfl rfl rfl (by decide)) ?_); all_goals (refine zZ.v rfl rfl (zB rfl rfl rfl (by rfl) rfl (by decide)) ?_); all_goals (refine zZ.v rfl rfl (by exact yE (stampRef_fn _) rfl rfl rfl (by decide)) ?_); all_goals (refine zZ.vm rfl rfl rfl rfl (by decide) ?_); all_goals (((fail_if_success refine zZ.known rfl rfl rfl (by fail) ?_); refine zZ.split rfl rfl rfl (fun h => ?_) (fun h => ?_) <;> first | refine zZ.gY rfl rfl (by decide) rfl (by assumption) rfl (by decide) (zJ rfl rfl rfl (by decide)) ?_ | refine zZ.gnT rfl rfl (by decide) rfl (by assumption) rfl (by decide) ?_)); all_goals (first | refine zZ.gY rfl rfl (by decide) rfl (by assumption) rfl (by decide) (zB rfl rfl rfl (by rfl) rfl (by decide)) ?_ | refine zZ.gnT rfl rfl (by decide) rfl (by assumption) rfl (by decide) ?_); all_goals (first | refine zZ.gY rfl rfl (by decide) rfl (by assumption) rfl (by decide) (by exact yE (stampRef_fn _) rfl rfl rfl (by decide)) ?_ | refine zZ.gnT rfl rfl (by decide) rfl (by assumption) rfl (by decide) ?_); all_goals (refine zZ.v rfl rfl (by first | exact zR rfl rfl (by assumption) rfl rfl (by decide) | exact zM rfl rfl (by assumption) rfl rfl (by decide)) ?_); all_goals (refine zZ.va rfl rfl rfl rfl (by decide) ?_); all_goals (refine zZ.nil ?_)) | (refine zY.iq 8 ?_; refine zY.rqd _ K_9 K_8 ?_; all_goals (refine zZ.v rfl rfl (zJ rfl rfl rfl (by decide)) ?_); all_goals (refine zZ.v rfl rfl (zB rfl rfl rfl (by rfl) rfl (by decide)) ?_); all_goals (refine zZ.v rfl rfl (vJ rfl rfl rfl (by rfl) rfl (by decide)) ?_); all_goals (refine zZ.vm rfl rfl rfl rfl (by decide) ?_); all_goals (((fail_if_success refine zZ.known rfl rfl rfl (by fail) ?_); refine zZ.split rfl rfl rfl (fun h => ?_) (fun h => ?_) <;> first | refine zZ.gY rfl rfl (by decide) rfl (by assumption) rfl (by decide) (zJ rfl rfl rfl (by decide)) ?_ | refine zZ.gnF rfl rfl (by decide) rfl (by assumption) rfl (by decide) ?_)); all_goals (first | refine zZ.gY rfl rfl (by decide) rfl (by assumption) rfl (by decide) (zB rfl rfl rfl (by rfl) rfl (by decide)) ?_ | refine zZ.gnF rfl rfl (by decide) rfl (by assumption) rfl (by decide) ?_); all_goals (first | refine zZ.gY rfl rfl (by decide) rfl (by assumption) rfl (by decide) (vJ rfl rfl rfl (by rfl) rfl (by decide)) ?_ | refine zZ.gnF rfl rfl (by decide) rfl (by assumption) rfl (by decide) ?_); all_goals (refine zZ.v rfl rfl (by first | exact zR rfl rfl (by assumption) rfl rfl (by decide) | exact zM rfl rfl (by assumption) rfl rfl (by decide)) ?_); all_goals (refine zZ.vm rfl rfl rfl rfl (by decide) ?_); all_goals (first | refine zZ.gnF rfl rfl (by decide) rfl (by rfl) rfl (by decide) ?_ | ((fail_if_success refine zZ.known rfl rfl rfl (by fail) ?_); refine zZ.split rfl rfl rfl (fun h => ?_) (fun h => ?_) <;> first | refine zZ.gY rfl rfl (by decide) rfl (by assumption) rfl (by decide) (zJ rfl rfl rfl (by decide)) ?_ | refine zZ.gnF rfl rfl (by decide) rfl (by assumption) rfl (by decide) ?_)); all_goals (first | refine zZ.gY rfl rfl (by decide) rfl (by assumption) rfl (by decide) (zB rfl rfl rfl (by rfl) rfl (by decide)) ?_ | refine zZ.gnF rfl rfl (by decide) rfl (by first | assumption | with_reducible rfl) rfl (by decide) ?_); all_goals (first | refine zZ.gY rfl rfl (by decide) rfl (by assumption) rfl (by decide) (vJ rfl rfl rfl (by rfl) rfl (by decide)) ?_ | refine zZ.gnF rfl rfl (by decide) rfl (by first | assumption | with_reducible rfl) rfl (by decide) ?_); all_goals (refine zZ.v rfl rfl (by first | exact zR rfl rfl (by first | assumption | with_reducible rfl) rfl rfl (by decide) | exact zM rfl rfl (by assumption) rfl rfl (by decide)) ?_); all_goals (refine zZ.vm rfl rfl rfl rfl (by decide) ?_); all_goals (first | refine zZ.gnF rfl rfl (by decide) rfl (by rfl) rfl (by decide) ?_ | ((fail_if_success refine zZ.known rfl rfl rfl (by fail) ?_); refine zZ.split rfl rfl rfl (fun h => ?_) (fun h => ?_) <;> first | refine zZ.gY rfl rfl (by decide) rfl (by assumption) rfl (by decide) (zJ rfl rfl rfl (by decide)) ?_ | refine zZ.gnF rfl rfl (by decide) rfl (by assumption) rfl (by decide) ?_)); all_goals (first | refine zZ.gY rfl rfl (by decide) rfl (by assumption) rfl (by decide) (zB rfl rfl rfl (by rfl) rfl (by decide)) ?_ | refine zZ.gnF rfl rfl (by decide) rfl (by first | assumption | with_reducible rfl) rfl (by decide) ?_); all_goals (first | refine zZ.gY rfl rfl (by decide) rfl (by assumption) rfl (by decide) (vJ rfl rfl rfl (by rfl) rfl (by decide)) ?_ | refine zZ.gnF rfl rfl (by decide) rfl (by first | assumption | with_reducible rfl) rfl (by decide) ?_); all_goals (refine zZ.v rfl rfl (by first | exact zR rfl rfl (by first | assumption | with_reducible rfl) rfl rfl (by decide) | exact zM rfl rfl (by assumption) rfl rfl (by decide)) ?_); all_goals (refine zZ.nil ?_)) | (refine zY.iq 9 ?_; refine zY.rqd _ K_9 K_8 ?_; refine zZ.va rfl rfl rfl rfl (by decide) ?_; refine zZ.nil ?_) | (refine zY.iq 10 ?_; refine zY.rqd _ K_9 K_8 ?_; all_goals (refine zZ.v rfl rfl (zJ rfl rfl rfl (by decide)) ?_); all_goals (refine zZ.v rfl rfl (zB rfl rfl rfl (by rfl) rfl (by decide)) ?_); all_goals (refine zZ.v rfl rfl (yM rfl rfl rfl (by rfl) rfl (by decide)) ?_); all_goals (refine zZ.vm rfl rfl rfl rfl (by decide) ?_); all_goals (((fail_if_success refine zZ.known rfl rfl rfl (by fail) ?_); refine zZ.split rfl rfl rfl (fun h => ?_) (fun h => ?_) <;> first | refine zZ.gY rfl rfl (by decide) rfl (by assumption) rfl (by decide) (zJ rfl rfl rfl (by decide)) ?_ | refine zZ.gnT rfl rfl (by decide) rfl (by assumption) rfl (by decide) ?_)); all_goals (first | refine zZ.gY rfl rfl (by decide) rfl (by assumption) rfl (by decide) (zB rfl rfl rfl (by rfl) rfl (by decide)) ?_ | refine zZ.gnT rfl rfl (by decide) rfl (by assumption) rfl (by decide) ?_); all_goals (first | refine zZ.gY rfl rfl (by decide) rfl (by assumption) rfl (by decide) (by exact yE (stampRef_fn _) rfl rfl rfl (by decide)) ?_ | refine zZ.gnT rfl rfl (by decide) rfl (by assumption) rfl (by decide) ?_); all_goals (refine zZ.v rfl rfl (by first | exact zR rfl rfl (by assumption) rfl rfl (by decide) | exact zM rfl rfl (by assumption) rfl rfl (by decide)) ?_); all_goals (refine zZ.vm rfl rfl rfl rfl (by decide) ?_); all_goals (first | refine zZ.gY rfl rfl (by decide) rfl (by rfl) rfl (by decide) (zJ rfl rfl rfl (by decide)) ?_ | ((fail_if_success refine zZ.known rfl rfl rfl (by fail) ?_); refine zZ.split rfl rfl rfl (fun h => ?_) (fun h => ?_) <;> first | refine zZ.gY rfl rfl (by decide) rfl (by assumption) rfl (by decide) (zJ rfl rfl rfl (by decide)) ?_ | refine zZ.gnF rfl rfl (by decide) rfl (by assumption) rfl (by decide) ?_)); all_goals (first | refine zZ.gY rfl rfl (by decide) rfl (by first | assumption | with_reducible rfl) rfl (by decide) (zB rfl rfl rfl (by rfl) rfl (by decide)) ?_ | refine zZ.gnF rfl rfl (by decide) rfl (by assumption) rfl (by decide) ?_); all_goals (first | refine zZ.gY rfl rfl (by decide) rfl (by first | assumption | with_reducible rfl) rfl (by decide) (yM rfl rfl rfl (by rfl) rfl (by decide)) ?_ | refine zZ.gnF rfl rfl (by decide) rfl (by assumption) rfl (by decide) ?_); all_goals (first | refine zZ.gY rfl rfl (by decide) rfl (by first | assumption | with_reducible rfl) rfl (by decide) (zQ rfl rfl rfl (by decide)) ?_ | refine zZ.gnF rfl rfl (by decide) rfl (by assumption) rfl (by decide) ?_); all_goals (first | refine zZ.gU rfl rfl (by decide) (by rfl) rfl (by decide) ?_ | ((fail_if_success refine zZ.known rfl rfl rfl (by fail) ?_); refine zZ.split rfl rfl rfl (fun h => ?_) (fun h => ?_) <;> first | refine zZ.gY rfl rfl (by decide) rfl (by assumption) rfl (by decide) (zJ rfl rfl rfl (by decide)) ?_ | refine zZ.gnT rfl rfl (by decide) rfl (by assumption) rfl (by decide) ?_)); all_goals (first | refine zZ.gU rfl rfl (by decide) (by rfl) rfl (by decide) ?_ | refine zZ.gY rfl rfl (by decide) rfl (by assumption) rfl (by decide) (zB rfl rfl rfl (by rfl) rfl (by decide)) ?_ | refine zZ.gnT rfl rfl (by decide) rfl (by assumption) rfl (by decide) ?_); all_goals (first | refine zZ.gU rfl rfl (by decide) (by rfl) rfl (by decide) ?_ | refine zZ.gY rfl rfl (by decide) rfl (by assumption) rfl (by decide) (r_leq rfl rfl rfl (by rfl) rfl (by decide)) ?_ | refine zZ.gnT rfl rfl (by decide) rfl (by assumption) rfl (by decide) ?_); all_goals (first | refine zZ.gY rfl rfl (by decide) rfl (by first | assumption | with_reducible rfl) rfl (by decide) (by first | exact zR rfl rfl (by assumption) rfl rfl (by decide) | exact zM rfl rfl (by assumption) rfl rfl (by decide)) ?_ | refine zZ.gnF rfl rfl (by decide) rfl (by assumption) rfl (by decide) ?_); all_goals (refine zZ.v rfl rfl (by first | exact zR rfl rfl (by assumption) rfl rfl (by decide) | exact zM rfl rfl (by first | assumption | with_reducible rfl) rfl rfl (by decide)) ?_); all_goals (refine zZ.va rfl rfl rfl rfl (by decide) ?_); all_goals (refine zZ.nil ?_)) | refine zY.yC rfl (by first | assumption | with_reducible rfl) ?_ | refine zY.cond rfl (fun h => ?_) (fun h => ?_) | refine zY.skip ?_ | refine zY.ret ?_) | refine zH.r ?_)
  all_goals refine ⟨.inl rfl, gives1 rfl rfl (eqB ?_)⟩
  all_goals simp only [decide_eq_true_eq, decide_eq_false_iff_not, Bool.not_eq_true', Bool.not_eq_false'] at *
  all_goals try subst k
  all_goals (unfold qP; first | (simp [*]; done) | (simp [*]; omega))
end Go.Proofs.YtomlhekjgagjaaaDoor
namespace Go.Proofs.YtomlhekjgagjaaaDoor
set_option maxRecDepth 100000
set_option maxHeartbeats 16000000
open Go.RowKit
theorem Tryd.infoByte : (Tryd.prog.info? 5).map (fun i => (i.zero, i.size, i.bytes)) = some (some (.int .u8 0), 1, 1) := by kernel_rfl
def bytesOf : Nat → Int → List Int
  | 0, _ => []
  | k + 1, n => n % 256 :: bytesOf k (n / 256)
theorem pow256_pos (k : Nat) : (0 : Int) < 256 ^ k := by
  induction k with
  | zero => decide
  | succ k ih => rw [Int.pow_succ]; omega
theorem bytesOf_length (k : Nat) (n : Int) : (bytesOf k n).length = k := by
  induction k generalizing n with
  | zero => rfl
  | succ k ih => simp [bytesOf, ih]
theorem bytesOf_snoc (k : Nat) (n : Int) : bytesOf (k + 1) n = bytesOf k n ++ [n / 256 ^ k % 256] := by
  induction k generalizing n with
  | zero => simp [bytesOf]
  | succ k ih =>
    rw [bytesOf, ih (n / 256)]
    simp only [bytesOf, List.cons_append]
    rw [Int.ediv_ediv_of_nonneg (by omega), Int.pow_succ, Int.mul_comm]
theorem eight_any (n : Int) (w : World) (h0 : 0 ≤ n) (h1 : n < 18446744073709551616) :
    Calls Tryd.prog 63 #[.int .u64 n] w fun e w' =>
      ∃ v, e = .returned v ∧ w'.ownsRow w.heap.size 5 1 v 8 ((bytesOf 8 n).map (Value.int .u8)) ∧ Below w.heap.size w w' := by
  obtain ⟨i0, hi, hz0, hz1, hz2⟩ := info_parts Tryd.infoByte
  go_enter Tryd.func63, Tryd.ntmps63
  go_wp2_with fail
  go_loopw [0, 3, 4] (fun m v i wr => ∃ k : Nat, k ≤ 8 ∧ i = .int .i64 k ∧ (∃ q : Int, m = .int .u64 q ∧ 0 ≤ q ∧ q < 18446744073709551616 ∧ Hid (q = n / 256 ^ k)) ∧ wr.ownsRow w.heap.size 5 1 v k ((bytesOf k n).map (Value.int .u8)) ∧ Below w.heap.size w wr)
     (fun _ _ i _ => 8 - (intOf i).toNat)
  case atStart => exact ⟨0, by omega, rfl, ⟨n, rfl, h0, h1, by show n = _; simp⟩, World.ownsRow_nil _ _ _ _, Below.refl _ _⟩
  case round =>
    obtain ⟨k, hk, rfl, ⟨q, rfl, hq0, hq1, HQ⟩, hown, hb⟩ := hrel
    by_cases hlt : k < 8
    · have hsz := hb.size
      go_wp2_with (at_builtin; refine wpList_append_own _ rfl _ _ 35 rfl w.heap.size 5 i0 (.int .u8 0) 1 1 Tryd.underlying35 hi hz0 hz1 hz2 rfl (by decide) _ _ _ rfl (hown.alloc _) ⟨wr.heap.size, 0, none⟩ 1 1 [.int .u8 (q % 256)] rfl rfl cells_new (one_cell rfl) (by unfold maxLen; omega) (by omega) (by simp; omega) ?_)
      intro v' w1 hown' hgrow _
      have hown2 : w1.ownsRow w.heap.size 5 1 v' (k + 1) ((bytesOf (k + 1) n).map (Value.int .u8)) := by
        rw [bytesOf_snoc, List.map_append, ← HQ.out]; exact hown'
      have HQ' : Hid (q / 256 = n / 256 ^ (k + 1)) := by
        show _ = _
        rw [HQ.out, Int.ediv_ediv_of_nonneg (Int.le_of_lt (pow256_pos k)), Int.pow_succ]
      have hb' : Below w.heap.size w w1 := (hb.alloc hsz _).grown hgrow (by simp; omega) (fun j hj => (hown.lt j hj).1)
      clear hown hown' hgrow
      go_wp2
      go_roundw
      case rel => exact ⟨k + 1, by omega, by go_num, ⟨_, rfl, by omega, by omega, HQ'⟩, hown2, hb'⟩
      case measure => simp [intOf]; omega
    · obtain rfl : k = 8 := by omega
      go_wp2
      go_ret
      exact ⟨_, rfl, hown, hb⟩
end Go.Proofs.YtomlhekjgagjaaaDoor
namespace Go.Proofs.YtomlhekjgagjaaaDoor
set_option maxRecDepth 100000
set_option maxHeartbeats 16000000
open Go Go.RowKit
theorem rep_owned {M : Nat → Nat → Prop} {w w' : World} {e : Nat} {v : Value} {k : Nat} {bs : List Int} (hM : ∀ k c, M k c → k < w.heap.size) (h : w'.ownsRow w.heap.size e 1 v k (bs.map (Value.int .u8))) : Rep M w' (.sl (byts bs)) v := by
  obtain ⟨hl, h⟩ := h
  have hk : bs.length = k := by simpa using hl
  rcases h with ⟨rfl, rfl⟩ | ⟨g, cap, cur, rfl, hg, hh, hn, hcm, hs, ht⟩
  · have : bs = [] := List.eq_nil_of_length_eq_zero hk
    subst this
    exact .nil
  · refine .sl (byts bs) g 0 k cap (bs.map (Value.int .u8)) (by rw [qW, hk]) (by rw [byts_flat, qW, List.length_map]) (fun j y hy => ?_) (fun j c y hc hy => ?_) (fun v hv => ?_) (fun _ _ hm => ?_) (Array.getElem?_eq_some_iff.1 hh).1 hn hcm
    · rw [Nat.zero_add, cell_of_row w' g j cur e (0, 0) hh]
      rw [← ht, List.getElem?_take] at hy
      split at hy
      · simpa using hy
      · cases hy
    · rw [byts_flat, byts, List.getElem?_map, Option.map_eq_some_iff] at hc
      obtain ⟨b, hb, rfl⟩ := hc
      rw [List.getElem?_map, hb] at hy
      obtain rfl := Option.some.inj hy
      exact .val _
    · obtain ⟨b, _, rfl⟩ := List.mem_map.1 hv
      rfl
    · have := hM g _ hm; omega
theorem eight_fn (n : Int) (h0 : 0 ≤ n) (h1 : n < 18446744073709551616) : Fn Tryd.prog 63 [.val (.int .u64 n)] (.p (.sl (byts (bytesOf 8 n)))) := by
  intro M w vs _ hM hl hr
  match vs, hl with
  | [v], _ =>
    have hv := rep_val (hr 0 _ v rfl rfl)
    subst hv
    refine (eight_any n w h0 h1).mono ?_
    rintro e w' ⟨v, rfl, hown, hb⟩
    exact ⟨v, rfl, rep_owned hM hown, hb⟩
end Go.Proofs.YtomlhekjgagjaaaDoor
