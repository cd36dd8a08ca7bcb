/- ALONE: records of keys that are told are searched for, linked where the search says, marked, and searched for again: the list is the keys that are in, rising (Part 7 of 8.) -/
import Derived.Test.YteadaggehndacaaDoorLo6
/- Functions that turn own rows, too: contracts. Generic over the program. -/
namespace Go.Proofs.YteadaggehndacaaDoor
set_option maxRecDepth 100000
set_option maxHeartbeats 16000000
open Go Go.RowKit
set_option linter.unusedSimpArgs false
set_option linter.unusedVariables false
def Blk.okZ (m : Nat) : Blk → Bool
  | .box _ xs => xs.all (AV.okE m)
  | .obj _ _ => true
  | .row _ _ _ xs => xs.all (AV.okE m)
  | .prow _ _ _ _ => true
  | .lent _ _ _ _ => false
/-- what keeps its place -/
def Blk.pinned : Blk → Bool
  | .box _ _ => true
  | .obj _ _ => true
  | _ => false
def Blk.isRowZ : Blk → Bool
  | .row _ _ _ _ => true
  | .prow _ _ _ _ => true
  | _ => false
theorem Blk.okZ_turns {b : Blk} {m : Nat} (h : b.okZ m = true) (c : Nat) : b.turns c := by
  cases b with
  | lent t s n xs => cases h
  | _ => trivial
structure HandedZ (h : Home) (p : Nat) (L : List Blk) (ρ : Nat → Value) : Prop where
  r : ∀ i, i < p → h.r (1000 + i) = some (ρ (1000 + i))
  no : ∀ k, 1000 + p ≤ k → h.r k = none
  t : ∀ k, h.t k → ∃ i, i < L.length ∧ yJ (ρ (1000 + i)) = some k
/-- What function f does: of such arguments, variables B, and own rows R, of its callers'; it hands back rows (or variables) New, numbered behind the variables. -/
def FnZ (P : Program) (f : FuncId) (args : List AV) (B R : List Blk) (x : AV) (B' New : List Blk) : Prop :=
  ∀ (M : Nat → Nat → Prop) (h : Home) (ρ : Nat → Value) (vs : List Value), HandedZ h B.length (B ++ R) ρ → Sat M 0 h (asB (B ++ R)) ρ wT h.w → vs.length = args.length →
    (∀ (i : Nat) x v, args[i]? = some x → vs[i]? = some v → yE (Mut M (asB (B ++ R)) ρ) ρ h.w x v) →
    Calls P f vs.toArray h.w fun e w' => ∃ ρ' v, e = .returned v ∧ Sat M 0 h (asB (B' ++ New)) ρ' wT w' ∧ yE (Mut M (asB (B' ++ New)) ρ') ρ' w' x v
structure HandsZ (S : AS) (ids : List Nat) (L : List Blk) : Prop where
  len : ids.length = L.length
  nodup : ids.Nodup
  ok : L.all (Blk.okZ L.length) = true
  at_ : ∀ (i : Nat) id b, ids[i]? = some id → L[i]? = some b → S.blk id = some (b.ren (sig ids))
theorem yD {S : AS} {ids : List Nat} {B : List Blk} (hn : ids.Nodup) (hok : B.all (Blk.okZ B.length) = true) (h : AtB S ids ids B) : HandsZ S ids B := by
  have key : ∀ (is : List Nat) (bs : List Blk), AtB S ids is bs → is.length = bs.length ∧ ∀ (i : Nat) id b, is[i]? = some id → bs[i]? = some b → S.blk id = some (b.ren (sig ids)) := by
    intro is
    induction is with
    | nil => intro bs h; cases bs with
      | nil => exact ⟨rfl, fun i id b h => by simp at h⟩
      | cons => exact h.elim
    | cons x r ih => intro bs h; cases bs with
      | nil => exact h.elim
      | cons b q =>
        obtain ⟨h1, h2⟩ := ih q h.2
        refine ⟨by simp [h1], fun i id c hi hc => ?_⟩
        cases i with
        | zero => simp at hi hc; subst hi; subst hc; exact h.1
        | succ i => exact h2 i id c (by simpa using hi) (by simpa using hc)
  obtain ⟨h1, h2⟩ := key ids B h
  exact ⟨h1, hn, hok, h2⟩
/-! ### names that are dropped -/
def AV.kills (l : List Nat) (x : AV) : AV := l.foldl (fun x id => x.kill id) x
def Blk.kills (l : List Nat) (b : Blk) : Blk := l.foldl (fun b id => b.kill id) b
theorem drops_tmp : ∀ (l : List Nat) (S : AS) (i : Nat), (S.drops l).tmp i = (S.tmp i).kills l
  | [], _, _ => rfl
  | id :: r, S, i => by
    show ((S.drop id).drops r).tmp i = _
    rw [drops_tmp r]
    show ((S.drop id).tmp i).kills r = _
    have e : (S.drop id).tmp i = (S.tmp i).kill id := S.tmp_kill id i
    rw [e]; rfl
theorem drops_some : ∀ (l : List Nat) (S : AS) (j : Nat) (b : Blk), (S.drops l).blk j = some b → j ∉ l ∧ ∃ b0, S.blk j = some b0 ∧ b = b0.kills l
  | [], _, _, b, h => ⟨by simp, b, h, rfl⟩
  | id :: r, S, j, b, h => by
    obtain ⟨h1, b1, h2, h3⟩ := drops_some r (S.drop id) j b h
    rw [AS.wU] at h2
    split at h2
    · cases h2
    · rename_i hne
      obtain ⟨b0, h4, rfl⟩ := Option.map_eq_some_iff.1 h2
      exact ⟨by simp only [List.mem_cons, not_or]; exact ⟨fun e => hne e.symm, h1⟩, b0, h4, h3⟩
theorem kills_turns : ∀ (l : List Nat) (b : Blk) (c : Nat), (b.kills l).turns c ↔ b.turns c
  | [], _, _ => Iff.rfl
  | id :: r, b, c => (kills_turns r (b.kill id) c).trans (Blk.kV b id c)
theorem yE.kills {M : Nat → Nat → Prop} {w : World} : ∀ (l : List Nat) {ρ ρ' : Nat → Value} {x : AV} {v : Value}, yE M ρ w x v → (∀ j, j ∉ l → ρ' j = ρ j) → yE M ρ' w (x.kills l) v
  | [], ρ, ρ', x, v, h, he => by
    have e : ρ' = ρ := funext fun j => he j (by simp)
    rw [e]; exact h
  | id :: r, ρ, ρ', x, v, h, he => yE.kills r (h.killed id (ρ' id)) fun j hj => by
    by_cases e : j = id
    · subst e; simp [upd]
    · rw [he j (by simp [e, hj])]; simp [upd, e]
theorem xX.kills {M : Nat → Nat → Prop} {w : World} {B : Nat} : ∀ (l : List Nat) {ρ ρ' : Nat → Value} {b : Blk} {v : Value}, xX M B ρ w v b → (∀ j, j ∉ l → ρ' j = ρ j) → xX M B ρ' w v (b.kills l)
  | [], ρ, ρ', x, v, h, he => by
    have e : ρ' = ρ := funext fun j => he j (by simp)
    rw [e]; exact h
  | id :: r, ρ, ρ', x, v, h, he => xX.kills r (h.killed id (ρ' id)) fun j hj => by
    by_cases e : j = id
    · subst e; simp [upd]
    · rw [he j (by simp [e, hj])]; simp [upd, e]
theorem okE_pures (xs : List PV) (m : Nat) : (xs.map AV.p).all (AV.okE m) = true := by simp [AV.okE]
theorem ren_pures (xs : List PV) (σ : Nat → Nat) : (xs.map AV.p).map (AV.ren σ) = xs.map AV.p := by rw [List.map_map]; rfl
/-- a block's fact, from the caller's names to the contract's -/
theorem xX.inn {M M' : Nat → Nat → Prop} {ids : List Nat} {m B : Nat} {ρ : Nat → Value} {w : World} {b : Blk} {v : Value} (h : xX M B ρ w v (b.ren (sig ids))) (hk : b.okZ m = true) (hM : ∀ k c, k < w.heap.size → M' k c → M k c) :
    xX M' B (fun k => ρ (sig ids k)) w v b := by
  cases b with
  | box t cs => obtain ⟨g, ys, hv, hg, hh, hc⟩ := h; exact ⟨g, ys, hv, hg, hh, yH.inn hc hk hM⟩
  | obj mp Q => exact h
  | row t s n xs => obtain ⟨ys, ho, hc⟩ := h; exact ⟨ys, ho, yH.inn hc hk hM⟩
  | prow t s n xs => obtain ⟨ys, ho, hc⟩ := h; exact ⟨ys, ho, yH.inn (ids := ids) (ρ := ρ) (by rw [ren_pures]; exact hc) (okE_pures xs m) hM⟩
  | lent t s n xs => cases hk
/-- and back -/
theorem xX.outw {M M' : Nat → Nat → Prop} {ids : List Nat} {m B : Nat} {ρ ρ2 : Nat → Value} {w : World} {b : Blk} {v : Value} (h : xX M B ρ2 w v b) (hk : b.okZ m = true) (hM : ∀ k c, k < w.heap.size → M' k c → M k c)
    (hρ : ∀ k, 1000 ≤ k → k < 1000 + m → ρ2 k = ρ (sig ids k)) : xX M' B ρ w v (b.ren (sig ids)) := by
  cases b with
  | box t cs => obtain ⟨g, ys, hv, hg, hh, hc⟩ := h; exact ⟨g, ys, hv, hg, hh, yH.outw hc hk hM hρ⟩
  | obj mp Q => exact h
  | row t s n xs => obtain ⟨ys, ho, hc⟩ := h; exact ⟨ys, ho, yH.outw hc hk hM hρ⟩
  | prow t s n xs => obtain ⟨ys, ho, hc⟩ := h; exact ⟨ys, ho, ren_pures xs (sig ids) ▸ yH.outw (ids := ids) hc (okE_pures xs m) hM hρ⟩
  | lent t s n xs => cases hk
section
variable {P : Program} {n : Nat} {o : Oper} {S : AS} {d : Nat}
theorem call_z {f : FuncId} {xs : List AV} {bids rids nids : List Nat} {B R B' New : List Blk} {rx : AV} (hf : FnZ P f xs B R rx B' New) (hh : HandsZ S (bids ++ rids) (B ++ R)) (hbl : bids.length = B.length) (hpin : B.all Blk.pinned = true) (hB' : B'.length = B.length) (hnl : nids.length = New.length) (hnd : (bids ++ nids).Nodup)
    (hok' : (B' ++ New).all (Blk.okZ (B' ++ New).length) = true) (hxs : xs.all (AV.okE (B ++ R).length) = true) (hrx : rx.okE (B' ++ New).length = true)
    {M : Nat → Nat → Prop} {w0 : Home} {ρ : Nat → Value} {a : Act} {w : World} (hs : Sat M n w0 S ρ a w) (hlo : ∀ j ∈ rids ++ nids, w0.r j = none) {vs : List Value} (hvl : vs.length = xs.length)
    (hvs : ∀ (i : Nat) x v, xs[i]? = some x → vs[i]? = some v → yE (Mut M S ρ) ρ w (x.ren (sig (bids ++ rids))) v) :
    Calls P f vs.toArray w fun e w' => ∃ ρ' v, e = .returned v ∧ Sat M n w0 ((S.drops (rids ++ nids)).after (bids ++ nids) (B' ++ New)) ρ' a w' ∧ yE (Mut M ((S.drops (rids ++ nids)).after (bids ++ nids) (B' ++ New)) ρ') ρ' w' (rx.ren (sig (bids ++ nids))) v := by
  have hlen := hh.len
  have hLL : (bids ++ nids).length = (B' ++ New).length := by simp [hbl, hB', hnl]
  have at_i : ∀ i, i < (B ++ R).length → ∃ id b, (bids ++ rids)[i]? = some id ∧ (B ++ R)[i]? = some b ∧ S.blk id = some (b.ren (sig (bids ++ rids))) ∧ sig (bids ++ rids) (1000 + i) = id := fun i hi => by
    have h1 : (bids ++ rids)[i]? = some ((bids ++ rids)[i]'(by omega)) := List.getElem?_eq_getElem _
    have h2 : (B ++ R)[i]? = some (B ++ R)[i] := List.getElem?_eq_getElem _
    exact ⟨_, _, h1, h2, hh.at_ i _ _ h1 h2, kP h1⟩
  have box_i : ∀ i, i < B.length → ∃ mp g, ρ (sig (bids ++ rids) (1000 + i)) = objV mp g := fun i hi => by
    obtain ⟨id, b, h1, h2, h3, h4⟩ := at_i i (by simp; omega)
    have hb := hs.blks id _ h3
    rw [List.getElem?_append_left hi] at h2
    have hbo := List.all_eq_true.1 hpin b (List.mem_of_getElem? h2)
    rw [h4]
    cases b with
    | box t cs => obtain ⟨g, ys, hv, _⟩ := hb; exact ⟨false, g, hv⟩
    | row t s m cs => cases hbo
    | prow t s m cs => cases hbo
    | lent t s m cs => cases hbo
    | obj mp Q => obtain ⟨g, o, hv, _⟩ := hb; exact ⟨mp, g, hv⟩
  let T : Nat → Prop := fun k => ∃ i, i < (B ++ R).length ∧ yJ (ρ (sig (bids ++ rids) (1000 + i))) = some k
  have T_mut : ∀ k c, T k → Mut M S ρ k c := fun k c ⟨i, hi, hk⟩ => by
    obtain ⟨id, b, h1, h2, h3, h4⟩ := at_i i hi
    rw [h4] at hk
    exact .inr ⟨id, _, h3, hk, (Blk.ren_turns c).2 (Blk.okZ_turns (List.all_eq_true.1 hh.ok b (List.mem_of_getElem? h2)) c)⟩
  have T_has : ∀ k, T k → w0.has k := fun k ⟨i, hi, hk⟩ => by
    obtain ⟨id, b, h1, h2, h3, h4⟩ := at_i i hi
    rw [h4] at hk
    exact hs.mine id _ k h3 hk
  let M' : Nat → Nat → Prop := fun k c => Mut M S ρ k c ∧ ¬ T k
  let h : Home := ⟨w, T, hs.lays, (fun g hg ht => hs.tabs g 0 hg (T_mut g 0 ht)), fun k => if 1000 ≤ k ∧ k < 1000 + B.length then some (ρ (sig (bids ++ rids) k)) else none, (fun k v hk => by
      by_cases hc : 1000 ≤ k ∧ k < 1000 + B.length
      · simp only [hc, and_self, if_true, Option.some.injEq] at hk
        obtain ⟨mp, g, hg⟩ := box_i (k - 1000) (by omega)
        have e : 1000 + (k - 1000) = k := by omega
        rw [e] at hg
        exact ⟨mp, g, by rw [← hk, hg]⟩
      · rw [if_neg hc] at hk; cases hk), (fun k hk => if_neg (by omega)), []⟩
  have hr_i : ∀ k, 1000 ≤ k → k < 1000 + B.length → h.r k = some (ρ (sig (bids ++ rids) k)) := fun k h1 h2 => if_pos ⟨h1, h2⟩
  have mutc : ∀ k c, Mut M' (asB (B ++ R)) (fun k => ρ (sig (bids ++ rids) k)) k c → Mut M S ρ k c := by
    rintro k c (hk | ⟨id, b, hb, hk, _⟩)
    · exact hk.1
    · obtain ⟨i, rfl, hbi⟩ := y7 hb
      exact T_mut k c ⟨i, (List.getElem?_eq_some_iff.1 hbi).1, hk⟩
  have hsat : Sat M' 0 h (asB (B ++ R)) (fun k => ρ (sig (bids ++ rids) k)) wT h.w := by
    refine ⟨wD.refl h, fun k c hk hh2 => ?_, fun g c hg hk => ?_, rfl, rfl, fun i => .any _, fun id b hb => ?_, fun id b k hb hk => ?_, fun k v hk => ?_, fun k hk => by omega, fun i j bi bj k hi hj h1 h2 => ?_⟩
    · rcases hh2 with hh2 | hh2
      · exact absurd (Mut.lt hs hk.1) (Nat.not_lt.2 hh2)
      · exact hk.2 hh2
    · exact hs.tabs g c hg hk.1
    · obtain ⟨i, rfl, hbi⟩ := y7 hb
      have hi : i < (B ++ R).length := (List.getElem?_eq_some_iff.1 hbi).1
      obtain ⟨id, b2, h1, h2, h3, h4⟩ := at_i i hi
      rw [hbi] at h2
      obtain rfl := Option.some.inj h2
      have hbo := List.all_eq_true.1 hh.ok b (List.mem_of_getElem? hbi)
      have hb2 := hs.blks id _ h3
      show xX _ 0 _ w (ρ (sig (bids ++ rids) (1000 + i))) b
      rw [h4]
      exact xX.inn hb2 hbo fun k c _ hk => mutc k c hk
    · obtain ⟨i, rfl, hbi⟩ := y7 hb
      exact .inr ⟨i, (List.getElem?_eq_some_iff.1 hbi).1, hk⟩
    · by_cases hc : 1000 ≤ k ∧ k < 1000 + B.length
      · rw [hr_i k hc.1 hc.2] at hk
        exact Option.some.inj hk
      · have : h.r k = none := if_neg hc
        rw [this] at hk; cases hk
    · obtain ⟨i', rfl, hbi⟩ := y7 hi
      obtain ⟨j', rfl, hbj⟩ := y7 hj
      obtain ⟨id, b1, p1, p2, p3, p4⟩ := at_i i' (List.getElem?_eq_some_iff.1 hbi).1
      obtain ⟨jd, b2, q1, q2, q3, q4⟩ := at_i j' (List.getElem?_eq_some_iff.1 hbj).1
      rw [p4] at h1
      rw [q4] at h2
      have e := hs.dist id jd _ _ k p3 q3 h1 h2
      subst e
      rw [nodup_inj hh.nodup p1 q1]
  have hcall := hf M' h _ vs ⟨fun i hi => hr_i _ (by omega) (by omega), fun k hk => if_neg (by omega), fun k hk => hk⟩ hsat hvl (fun i x v h1 h2 => yE.inn (hvs i x v h1 h2) (List.all_eq_true.1 hxs x (List.mem_of_getElem? h1)) fun k c _ hk => mutc k c hk)
  refine Calls.mono hcall ?_
  rintro e w' ⟨ρ2, v, rfl, hs2, hrep⟩
  have hρ1 : ∀ k, 1000 ≤ k → k < 1000 + B.length → ρ2 k = ρ (sig (bids ++ rids) k) := fun k h1 h2 => hs2.fix k _ (hr_i k h1 h2)
  let ρ3 : Nat → Value := fun j => if j ∈ nids then ρ2 (1000 + (bids ++ nids).idxOf j) else ρ j
  have off3 : ∀ j, j ∉ rids ++ nids → ρ3 j = ρ j := fun j hj => if_neg fun h => hj (List.mem_append_right _ h)
  have hs3 : Sat M n w0 (S.drops (rids ++ nids)) ρ3 a w := Sat.drops _ hs hlo ρ3 off3
  have idx_at : ∀ i j, (bids ++ nids)[i]? = some j → (bids ++ nids).idxOf j = i := fun i j hi => by
    have hm : j ∈ bids ++ nids := List.mem_of_getElem? hi
    have h1 : (bids ++ nids).idxOf j < (bids ++ nids).length := List.idxOf_lt_length_of_mem hm
    have h2 : (bids ++ nids)[(bids ++ nids).idxOf j]? = some j := by rw [List.getElem?_eq_getElem h1, List.getElem_idxOf h1]
    exact nodup_inj hnd h2 hi
  have old_not : ∀ j, j ∈ bids → j ∉ nids := fun j h1 h2 => (List.nodup_append.1 hnd).2.2 j h1 j h2 rfl
  have old_notR : ∀ j, j ∈ bids → j ∉ rids := fun j h1 h2 => (List.nodup_append.1 hh.nodup).2.2 j h1 j h2 rfl
  have old3 : ∀ j, j ∈ bids → ρ3 j = ρ j := fun j hj => if_neg (old_not j hj)
  have sigB : ∀ i (hi : i < bids.length), sig (bids ++ rids) (1000 + i) = bids[i] := fun i hi => kP (by rw [List.getElem?_append_left hi]; exact List.getElem?_eq_getElem hi)
  have hρ : ∀ k, 1000 ≤ k → k < 1000 + (B' ++ New).length → ρ2 k = ρ3 (sig (bids ++ nids) k) := fun k h1 h2 => by
    obtain ⟨i, rfl⟩ : ∃ i, k = 1000 + i := ⟨k - 1000, by omega⟩
    have hi : i < (bids ++ nids).length := by omega
    have hat : (bids ++ nids)[i]? = some (bids ++ nids)[i] := List.getElem?_eq_getElem hi
    rw [kP hat]
    by_cases hlt : i < bids.length
    · have e1 : (bids ++ nids)[i] = bids[i] := List.getElem_append_left hlt
      rw [e1, old3 _ (List.getElem_mem _), hρ1 (1000 + i) (by omega) (by omega), sigB i hlt]
    · have e1 : (bids ++ nids)[i] ∈ nids := by
        rw [List.getElem_append_right (by omega)]
        exact List.getElem_mem _
      show _ = if _ then _ else _
      rw [if_pos e1, idx_at i _ hat]
  have hblk : ∀ j, ((S.drops (rids ++ nids)).after (bids ++ nids) (B' ++ New)).blk j = if j ∈ bids ++ nids then ((B' ++ New).map (Blk.ren (sig (bids ++ nids))))[(bids ++ nids).idxOf j]? else (S.drops (rids ++ nids)).blk j := fun j => look_putBs _ _ (S.drops (rids ++ nids)).s j (by rw [List.length_map]; exact hLL) hnd
  have htmp : ∀ i, ((S.drops (rids ++ nids)).after (bids ++ nids) (B' ++ New)).tmp i = (S.tmp i).kills (rids ++ nids) := fun i => drops_tmp _ _ _
  generalize hS1 : (S.drops (rids ++ nids)).after (bids ++ nids) (B' ++ New) = S1 at *
  have mem_at : ∀ j, j ∈ bids ++ nids → ∃ i b, (bids ++ nids).idxOf j = i ∧ i < (B' ++ New).length ∧ (bids ++ nids)[i]? = some j ∧ (B' ++ New)[i]? = some b ∧ sig (bids ++ nids) (1000 + i) = j := fun j hj => by
    have h1 : (bids ++ nids).idxOf j < (bids ++ nids).length := List.idxOf_lt_length_of_mem hj
    have h2 : (bids ++ nids)[(bids ++ nids).idxOf j]? = some j := by rw [List.getElem?_eq_getElem h1, List.getElem_idxOf h1]
    have h3 : (bids ++ nids).idxOf j < (B' ++ New).length := by omega
    exact ⟨_, _, rfl, h3, h2, List.getElem?_eq_getElem h3, kP h2⟩
  have T_old : ∀ j k, j ∈ bids → yJ (ρ j) = some k → T k := fun j k hj hk => by
    obtain ⟨i, hi, he⟩ := List.getElem_of_mem hj
    refine ⟨i, by simp; omega, ?_⟩
    rw [sigB i hi, he]; exact hk
  have bid_blk : ∀ j, j ∈ bids → ∃ b0, S.blk j = some b0 ∧ ∀ c, b0.turns c := fun j hj => by
    obtain ⟨i, hi, he⟩ := List.getElem_of_mem hj
    obtain ⟨id, b0, h1, h2, h3, h4⟩ := at_i i (by simp; omega)
    rw [sigB i hi, he] at h4
    subst h4
    exact ⟨_, h3, fun c => (Blk.ren_turns c).2 (Blk.okZ_turns (List.all_eq_true.1 hh.ok b0 (List.mem_of_getElem? h2)) c)⟩
  have new_or : ∀ j k, j ∈ nids → yJ (ρ3 j) = some k → w.heap.size ≤ k ∨ ∃ i, B.length ≤ i ∧ i < (B ++ R).length ∧ yJ (ρ (sig (bids ++ rids) (1000 + i))) = some k := fun j k hj hk => by
    obtain ⟨i, b, h1, h2, h3, h4, h5⟩ := mem_at j (List.mem_append_right _ hj)
    have e3 : ρ2 (1000 + i) = ρ3 j := by rw [hρ (1000 + i) (by omega) (by omega), h5]
    have hb : (asB (B' ++ New)).blk (1000 + i) = some b := by rw [qW]; exact h4
    rcases hs2.mine (1000 + i) b k hb (by rw [e3]; exact hk) with h6 | ⟨i', h6, h7⟩
    · exact .inl h6
    · by_cases hlt : i' < B.length
      · have h8 : i' < (B' ++ New).length := by simp; omega
        have hb' : (asB (B' ++ New)).blk (1000 + i') = some (B' ++ New)[i'] := by rw [qW]; exact List.getElem?_eq_getElem h8
        have e := hs2.dist _ _ _ _ k hb hb' (by rw [e3]; exact hk) (by rw [hρ1 (1000 + i') (by omega) (by omega)]; exact h7)
        have e' : i = i' := by omega
        subst e'
        rw [List.getElem?_append_left (by omega)] at h3
        exact absurd hj (old_not j (List.mem_of_getElem? h3))
      · exact .inr ⟨i', by omega, h6, h7⟩
  have rid_of : ∀ i, B.length ≤ i → i < (B ++ R).length → sig (bids ++ rids) (1000 + i) ∈ rids := fun i h1 h2 => by
    have hi : i < (bids ++ rids).length := by omega
    rw [kP (List.getElem?_eq_getElem hi), List.getElem_append_right (by omega)]
    exact List.getElem_mem _
  -- other blocks
  have oth : ∀ j b, j ∉ bids ++ nids → S1.blk j = some b → ∃ b0, S.blk j = some b0 ∧ b = b0.kills (rids ++ nids) ∧ ρ3 j = ρ j ∧ ∀ k, yJ (ρ j) = some k → ¬ T k := fun j b hj hb => by
    rw [hblk, if_neg hj] at hb
    obtain ⟨h1, b0, h2, h3⟩ := drops_some _ _ _ _ hb
    refine ⟨b0, h2, h3, off3 j h1, fun k hk ⟨i, hi, hk2⟩ => ?_⟩
    obtain ⟨id, b2, p1, p2, p3, p4⟩ := at_i i hi
    rw [p4] at hk2
    have := hs.dist j id _ _ k h2 p3 hk hk2
    subst this
    rcases List.mem_append.1 (List.mem_of_getElem? p1) with hm | hm
    · exact hj (List.mem_append_left _ hm)
    · exact h1 (List.mem_append_left _ hm)
  have mut3 : ∀ k c, Mut M S1 ρ3 k c → Mut M' (asB (B' ++ New)) ρ2 k c := fun k c hk => by
    rcases hk with hk | ⟨j, b, hb, hk, htn⟩
    · exact .inl ⟨.inl hk, fun ht => hs.out k c hk (T_has k ht)⟩
    · by_cases hj : j ∈ bids ++ nids
      · obtain ⟨i, b', h1, h2, h3, h4, h5⟩ := mem_at j hj
        refine .inr ⟨1000 + i, b', by rw [qW]; exact h4, ?_, Blk.okZ_turns (List.all_eq_true.1 hok' b' (List.mem_of_getElem? h4)) c⟩
        rw [hρ (1000 + i) (by omega) (by omega), h5]
        exact hk
      · obtain ⟨b0, h1, rfl, h3, h4⟩ := oth j b hj hb
        rw [h3] at hk
        exact .inl ⟨.inr ⟨j, b0, h1, hk, (kills_turns _ _ _).1 htn⟩, h4 k hk⟩
  have mut1 : ∀ k c, k < w.heap.size → Mut M S1 ρ3 k c → Mut M S ρ k c := by
    rintro k c hlt (hk | ⟨j, b, hb, hk, ht⟩)
    · exact .inl hk
    · by_cases hj : j ∈ bids ++ nids
      · rcases List.mem_append.1 hj with hj | hj
        · rw [old3 j hj] at hk
          exact T_mut k c (T_old j k hj hk)
        · rcases new_or j k hj hk with h1 | ⟨i, h1, h2, h3⟩
          · omega
          · exact T_mut k c ⟨i, h2, h3⟩
      · obtain ⟨b0, h1, rfl, h3, h4⟩ := oth j b hj hb
        rw [h3] at hk
        exact .inr ⟨j, b0, h1, hk, (kills_turns _ _ _).1 ht⟩
  let V : Nat → Nat → Prop := fun k c => Mut M S ρ k c ∨ Mut M S1 ρ3 k c
  have hV : ∀ k c, k < w.heap.size → V k c → Mut M S ρ k c := fun k c hk h1 => h1.elim (fun h => h) (mut1 k c hk)
  have grow : Keeps V w w' := ⟨hs2.below.size, fun k c hk hnm => World.cell?_of_block (w := w) (hs2.below.block k hk (fun ht => hnm (.inl (T_mut k c ht))))⟩
  have blk_same : ∀ k, k < w.heap.size → ¬ T k → w'.heap[k]? = w.heap[k]? := fun k hk ht => hs2.below.block k hk ht
  refine ⟨ρ3, v, rfl, ?_, yE.outw hrep hrx (fun k c _ hk => mut3 k c hk) hρ⟩
  refine ⟨⟨hs2.below.os.trans hs.below.os, hs2.below.tape.trans hs.below.tape, hs2.below.output.trans hs.below.output, Nat.le_trans hs.below.size hs2.below.size, fun k hk ht => ?_⟩, hs.out, hs.tab, hs.size, hs.defers, fun i => ?_, fun j b hb => ?_, fun j b k hb hk => ?_, hs3.fix, hs.free, fun i j bi bj k hi hj h1 h2 => ?_⟩
  · refine (hs2.below.block k (Nat.lt_of_lt_of_le hk hs.below.size) (fun hT => ?_)).trans (hs.below.block k hk ht)
    rcases T_has k hT with h1 | h1
    · omega
    · exact ht h1
  · rw [htmp]
    exact (((yE.kills (rids ++ nids) (hs.tmps i) off3).mono hV).keep grow).mono fun k c _ hk => .inr hk
  · by_cases hj : j ∈ bids ++ nids
    · obtain ⟨i, b', h1, hi, h2, h4, h6⟩ := mem_at j hj
      rw [hblk, if_pos hj, h1, List.getElem?_map, h4] at hb
      obtain rfl := Option.some.inj hb
      have hb2 := hs2.blks (1000 + i) b' (by rw [qW]; exact h4)
      have hbo := List.all_eq_true.1 hok' b' (List.mem_of_getElem? h4)
      have e : ρ2 (1000 + i) = ρ3 j := by rw [hρ (1000 + i) (by omega) (by omega), h6]
      rw [e] at hb2
      exact xX.outw hb2 hbo (fun k c _ hk => mut3 k c hk) hρ
    · obtain ⟨b0, h1, rfl, h3, h4⟩ := oth j b hj hb
      rw [h3]
      refine (xX.keep (M' := V) (xX.kills (rids ++ nids) (hs.blks j b0 h1) off3) (fun k hk => blk_same k (Mut.blk_lt hs h1 hk) (h4 k hk)) grow hV).mono fun k c hk => .inr hk
  · by_cases hj : j ∈ bids ++ nids
    · rcases List.mem_append.1 hj with hj2 | hj2
      · rw [old3 j hj2] at hk
        exact T_has k (T_old j k hj2 hk)
      · rcases new_or j k hj2 hk with h1 | ⟨i, h1, h2, h3⟩
        · exact .inl (Nat.le_trans hs.below.size h1)
        · exact T_has k ⟨i, h2, h3⟩
    · obtain ⟨b0, h1, rfl, h3, h4⟩ := oth j b hj hb
      rw [h3] at hk
      exact hs.mine j b0 k h1 hk
  · have mixed : ∀ i j bi bj, i ∈ bids ++ nids → j ∉ bids ++ nids → S1.blk i = some bi → S1.blk j = some bj → yJ (ρ3 i) = some k → yJ (ρ3 j) = some k → False := fun i j bi bj hi2 hj2 hi hj h1 h2 => by
      obtain ⟨b0, r1, rfl, r3, r4⟩ := oth j bj hj2 hj
      rw [r3] at h2
      have hlt := Mut.blk_lt hs r1 h2
      rcases List.mem_append.1 hi2 with hi3 | hi3
      · rw [old3 i hi3] at h1
        exact r4 k h2 (T_old i k hi3 h1)
      · rcases new_or i k hi3 h1 with h5 | ⟨i', h5, h6, h7⟩
        · omega
        · exact r4 k h2 ⟨i', h6, h7⟩
    by_cases hi2 : i ∈ bids ++ nids
    · by_cases hj2 : j ∈ bids ++ nids
      · obtain ⟨ii, bI, p1, p2, p3, p4, p5⟩ := mem_at i hi2
        have eI : ρ2 (1000 + ii) = ρ3 i := by rw [hρ (1000 + ii) (by omega) (by omega), p5]
        obtain ⟨jj, bJ, q1, q2, q3, q4, q5⟩ := mem_at j hj2
        have eJ : ρ2 (1000 + jj) = ρ3 j := by rw [hρ (1000 + jj) (by omega) (by omega), q5]
        have e := hs2.dist (1000 + ii) (1000 + jj) bI bJ k (by rw [qW]; exact p4) (by rw [qW]; exact q4) (by rw [eI]; exact h1) (by rw [eJ]; exact h2)
        have e' : ii = jj := by omega
        subst e'
        rw [p3] at q3
        exact Option.some.inj q3
      · exact (mixed i j bi bj hi2 hj2 hi hj h1 h2).elim
    · by_cases hj2 : j ∈ bids ++ nids
      · exact (mixed j i bj bi hj2 hi2 hj hi h2 h1).elim
      · obtain ⟨b0, r1, rfl, r3, r4⟩ := oth i bi hi2 hi
        obtain ⟨b1, s1, rfl, s3, s4⟩ := oth j bj hj2 hj
        rw [r3] at h1
        rw [s3] at h2
        exact hs.dist i j b0 b1 k r1 s1 h1 h2
/-- A call by such a contract. -/
theorem zR.z {f : FuncId} {avs xs : List AV} {B R B' New : List Blk} {rx : AV} {K : Exit → AS → Prop} {N : AS → Prop} (bids rids nids : List Nat) (hf : FnZ P f xs B R rx B' New) (hd : o.dst = some d) (hn : d < n) (he : Enters P o S f avs) (hx : avs = xs.map (AV.ren (sig (bids ++ rids)))) (hh : HandsZ S (bids ++ rids) (B ++ R)) (hbl : bids.length = B.length) (hpin : B.all Blk.pinned = true) (hrow : R.all Blk.isRowZ = true)
    (hlo : nids.all (fun k => decide (k < 1000) || rids.contains k) = true)
    (hB' : B'.length = B.length) (hnl : nids.length = New.length) (hnd : (bids ++ nids).Nodup) (hok' : (B' ++ New).all (Blk.okZ (B' ++ New).length) = true) (hxs : xs.all (AV.okE (B ++ R).length) = true) (hrx : rx.okE (B' ++ New).length = true)
    (hr : N (((S.drops (rids ++ nids)).after (bids ++ nids) (B' ++ New)).put d (rx.ren (sig (bids ++ nids))))) : zR P n o S K N := by
  intro M w0 ρ a w KK Q hs hK _
  obtain ⟨vs, he1, he2, he3⟩ := he M n w0 ρ a w hs
  unfold Oper.wp
  rw [he1, Oper.upon_enter]
  have hrid : ∀ j ∈ rids, w0.r j = none := fun j hj => by
    obtain ⟨i, hi, e⟩ := List.getElem_of_mem hj
    have h1 : (bids ++ rids)[bids.length + i]? = some j := by rw [List.getElem?_append_right (by omega)]; simp [hi, e]
    have hlt : bids.length + i < (B ++ R).length := by rw [← hh.len]; simp; exact hi
    have h2 : (B ++ R)[bids.length + i]? = some (B ++ R)[bids.length + i] := List.getElem?_eq_getElem hlt
    have h3 := hh.at_ _ _ _ h1 h2
    have h4 : (B ++ R)[bids.length + i] ∈ R := by
      rw [List.getElem_append_right (by omega)]
      exact List.getElem_mem _
    have h5 := List.all_eq_true.1 hrow _ h4
    have h6 := hs.blks j _ h3
    generalize (B ++ R)[bids.length + i] = b at h5 h6
    cases b with
    | row t s m ys => obtain ⟨us, ho, _⟩ := h6; exact row_free hs ho
    | prow t s m ys => obtain ⟨us, ho, _⟩ := h6; exact row_free hs ho
    | box => cases h5
    | lent => cases h5
    | obj => cases h5
  have hall : ∀ j ∈ rids ++ nids, w0.r j = none := fun j hj => by
    rcases List.mem_append.1 hj with hj | hj
    · exact hrid j hj
    · have := List.all_eq_true.1 hlo j hj
      simp only [Bool.or_eq_true, decide_eq_true_eq, List.contains_iff_mem] at this
      rcases this with h1 | h1
      · exact w0.lo j h1
      · exact hrid j h1
  refine Calls.mono (call_z hf hh hbl hpin hB' hnl hnd hok' hxs hrx hs hall (by rw [he2, hx, List.length_map]) (reps_ren hx he3)) ?_
  rintro e w' ⟨ρ', v, rfl, hs', hv⟩
  show KK (a.put o.dst v) w'
  rw [hd]
  exact hK _ ρ' _ w' hr (hs'.put hn hv)
end
end Go.Proofs.YteadaggehndacaaDoor
/- Structs that hold an own row's slice: what a function hands back. Generic over the program. -/
namespace Go.Proofs.YteadaggehndacaaDoor
set_option maxRecDepth 100000
set_option maxHeartbeats 16000000
open Go Go.RowKit
set_option linter.unusedVariables false
set_option linter.unusedSimpArgs false
/-- a struct's cells, pure ones and own rows' slices -/
def cls : List AV → Option (List Cl)
  | [] => some []
  | .p x :: r => (cls r).map (.p x :: ·)
  | .own id :: r => (cls r).map (.o id :: ·)
  | _ :: _ => none
theorem cls_spec : ∀ {xs : List AV} {cs : List Cl}, cls xs = some cs → xs = cs.map Cl.av
  | [], cs, h => by cases h; rfl
  | .p x :: r, cs, h => by
    unfold cls at h
    rw [Option.map_eq_some_iff] at h
    obtain ⟨l, h1, rfl⟩ := h
    rw [cls_spec h1]; rfl
  | .own id :: r, cs, h => by
    unfold cls at h
    rw [Option.map_eq_some_iff] at h
    obtain ⟨l, h1, rfl⟩ := h
    rw [cls_spec h1]; rfl
  | .any :: _, _, h => by cases h
  | .ptr _ _ :: _, _, h => by cases h
  | .pt _ :: _, _, h => by cases h
  | .tup _ :: _, _, h => by cases h
  | .clo _ _ :: _, _, h => by cases h
  | .glob _ :: _, _, h => by cases h
  | .ifp _ _ :: _, _, h => by cases h
  | .ag _ :: _, _, h => by cases h
theorem clOK_of {M : Nat → Nat → Prop} {ρ : Nat → Value} {w : World} {c : Cl} {v : Value} (h : yE M ρ w c.av v) : ClOK M ρ w c v := by
  cases c with
  | p x => exact kM h
  | o id => exact kQ h
theorem repA_ag {M : Nat → Nat → Prop} {ρ : Nat → Value} {w : World} {xs : List AV} {ys : List Value} {cs : List Cl} (h : yH M ρ w xs ys) (hc : xs = cs.map Cl.av) : yE M ρ w (.ag cs) (.agg ys.toArray) := by
  subst hc
  refine .ag cs ys (by simpa using h.len) (fun i c v h1 h2 => clOK_of (h.each i c.av v (by rw [List.getElem?_map, h1]; rfl) h2)) h.one
section
variable {P : Program} {n : Nat} {o : Oper} {S : AS} {d : Nat} {x : Operand} {t : TypeId}
theorem w_extractAg {avs : List AV} {i : Nat} {cs : List Cl} (ho : o.op = .extract x i) (hx : S.get x = .tup avs) (hi : avs[i]? = some (.ag cs)) (hd : o.dst = some d) (hn : d < n) : zQ P n o S [] (.ag cs) none :=
  zQ.pure hd hn fun S2 hg _ M w0 ρ a w hs => by
    have h1 := hs.rep x
    rw [hg x (by rw [ho]; simp [Op.operands]), hx] at h1
    generalize hev : a.eval x = ev at h1
    cases h1 with
    | tup _ vs hl h =>
      have hlt : i < vs.length := by rw [hl]; exact (List.getElem?_eq_some_iff.1 hi).1
      refine ⟨vs[i], w, ?_, Below.refl _ _, h i _ _ hi (List.getElem?_eq_getElem hlt)⟩
      unfold execOp
      rw [ho]
      simp [hev, Instr.extract, hlt]
theorem yO {id off m : Nat} {b : Blk} {cs : List Cl} [h : TyA P t true m] (ho : o.op = .load t x) (hx : S.get x = .ptr id off) (hb : S.blk id = some b) (hc : cls ((b.xs.drop off).take m) = some cs) (hl : cs.length = m) (hd : o.dst = some d) (hn : d < n) : zQ P n o S [id] (.ag cs) none :=
  zQ.pure hd hn fun S2 hg hbl M w0 ρ a w hs => by
    have h1 := hs.rep x
    rw [hg x (by rw [ho]; simp [Op.operands]), hx] at h1
    obtain ⟨g, hgv, hv⟩ := vE h1
    have hb2 : S2.blk id = some b := (hbl id (by simp)).trans hb
    obtain ⟨ys, hcs, hcell⟩ := (hs.blks id b hb2).cells hgv
    have hcm := cls_spec hc
    have hlen : ((b.xs.drop off).take m).length = m := by rw [hcm, List.length_map, hl]
    have hlen2 : ((ys.drop off).take m).length = m := by
      simp only [List.length_take, List.length_drop] at hlen ⊢
      rw [hcs.len]
      exact hlen
    have get : ∀ (j : Nat) y, ((ys.drop off).take m)[j]? = some y → j < m ∧ ys[off + j]? = some y := by
      intro j y hy
      rw [List.getElem?_take] at hy
      split at hy
      · rename_i hj
        rw [List.getElem?_drop] at hy
        exact ⟨hj, hy⟩
      · cases hy
    refine ⟨.agg ((ys.drop off).take m).toArray, w, ?_, Below.refl _ _, repA_ag (xs := (b.xs.drop off).take m) ⟨by rw [hlen, hlen2], fun i c v h1 h2 => ?_, fun v hv => hcs.one v (List.mem_of_mem_drop (List.mem_of_mem_take hv))⟩ hcm⟩
    · unfold execOp
      rw [ho]
      have := kE (P := P) (w := w) (t := t) (g := g) (o := off) (ys := (ys.drop off).take m) (h.ag w) (h.sz w) hlen2 (fun j y hy => (hcell (off + j) y (get j y hy).2).1)
      simp only [hv, Sem.run_bind, this]
      rfl
    · obtain ⟨hj, hy⟩ := get i v h2
      rw [List.getElem?_take, if_pos hj, List.getElem?_drop] at h1
      exact hcs.each (off + i) c v h1 hy
def ownB (id : Nat) (av : AV) : Bool := av.q8 || (match av with
  | .own j => j == id
  | _ => false)
/-- a struct's literal that holds own row id (0: none) -/
theorem w_buildAg (id : Nat) {ps : Array (Nat × Operand)} {pl : List (Nat × Nat)} {z : Value} {zs : List AV} {cs : List Cl} {b : Blk} [hb : BuildA P t pl] [hz : ZeroA P t z] (ho : o.op = .build t ps) (h1 : z.cells.toList.all (fun u => u.oneCell') = true)
    (hk : ps.toList.all (fun p => ownB id (S.get p.2)) = true) (hbk : S.blk id = some b) (hrow : b.isRow = true)
    (hf : fillA (fun i => pl[i]?) (z.cells.toList.map fun u => .p (.val u)) (ps.toList.map fun p => (p.1, S.get p.2)) = some zs) (hp : cls zs = some cs) (hd : o.dst = some d) (hn : d < n) : zQ P n o S [id] (.ag cs) none :=
  zQ.pure hd hn fun S2 hg hbl M w0 ρ a w hs => by
    have hargs : ∀ p ∈ ps.toList, S2.get p.2 = S.get p.2 := fun p hp => hg p.2 (by rw [ho]; simp only [Op.operands, List.mem_map]; exact ⟨p, hp, rfl⟩)
    have hb2 : S2.blk id = some b := (hbl id (by simp)).trans hbk
    have parts : ∀ p ∈ ps.toList, yH (Mut M S2 ρ) ρ w (S.get p.2).wK (a.eval p.2).cells.toList := fun p hp => by
      have h := List.all_eq_true.1 hk p hp
      have hrep := hs.rep p.2
      rw [hargs p hp] at hrep
      generalize hav : S.get p.2 = av at h hrep ⊢
      cases hpo : av.q8 with
      | true => exact repA_cells hrep hpo
      | false =>
        unfold ownB at h
        rw [hpo, Bool.false_or] at h
        cases av with
        | own j =>
          obtain rfl : j = id := by simpa using h
          exact cells_own hs hb2 hrow hrep
        | _ => cases h
    obtain ⟨us, h3, h4⟩ := fill_rep (fun i => pl[i]?) S.get a.eval ps.toList _ zs z.cells.toList parts hf (zerosA fun u hu => List.all_eq_true.1 h1 u hu)
    refine ⟨.agg us.toArray, w, ?_, Below.refl _ _, repA_ag h4 (cls_spec hp)⟩
    unfold execOp
    rw [ho]
    have e : (ps.map fun (i, x) => (i, a.eval x)) = (ps.toList.map fun p => (p.1, a.eval p.2)).toArray := by apply Array.ext'; simp
    simp only [e, Sem.run_bind, run_build (P := P) (t := t) (pl := pl) (z := z) _ w _ h3]
    rfl
/-- without one -/
theorem w_buildAg0 {ps : Array (Nat × Operand)} {pl : List (Nat × Nat)} {z : Value} {zs : List AV} {cs : List Cl} [hb : BuildA P t pl] [hz : ZeroA P t z] (ho : o.op = .build t ps) (h1 : z.cells.toList.all (fun u => u.oneCell') = true)
    (hk : ps.toList.all (fun p => (S.get p.2).q8) = true)
    (hf : fillA (fun i => pl[i]?) (z.cells.toList.map fun u => .p (.val u)) (ps.toList.map fun p => (p.1, S.get p.2)) = some zs) (hp : cls zs = some cs) (hd : o.dst = some d) (hn : d < n) : zQ P n o S [] (.ag cs) none :=
  zQ.pure hd hn fun S2 hg _ M w0 ρ a w hs => by
    have hargs : ∀ p ∈ ps.toList, S2.get p.2 = S.get p.2 := fun p hp => hg p.2 (by rw [ho]; simp only [Op.operands, List.mem_map]; exact ⟨p, hp, rfl⟩)
    obtain ⟨us, h3, h4⟩ := fill_rep (fun i => pl[i]?) S.get a.eval ps.toList _ zs z.cells.toList (parts_ok hs hargs hk) hf (zerosA fun u hu => List.all_eq_true.1 h1 u hu)
    refine ⟨.agg us.toArray, w, ?_, Below.refl _ _, repA_ag h4 (cls_spec hp)⟩
    unfold execOp
    rw [ho]
    have e : (ps.map fun (i, x) => (i, a.eval x)) = (ps.toList.map fun p => (p.1, a.eval p.2)).toArray := by apply Array.ext'; simp
    simp only [e, Sem.run_bind, run_build (P := P) (t := t) (pl := pl) (z := z) _ w _ h3]
    rfl
end
/-! ### A function that hands back a struct with an own row -/
def Cl.at_ (d : Nat) : Cl → Cl
  | .o _ => .o d
  | .p x => .p x
structure AgRes (cs : List Cl) (t sz : Nat) (es : List PV) (M : Nat → Nat → Prop) (w w' : World) (us : List Value) (u : Value) : Prop where
  len : us.length = cs.length
  each : ∀ (i : Nat) c x, cs[i]? = some c → us[i]? = some x → match c with
    | .p y => Rep (fun k c => M k c ∨ yJ u = some k) w' y x
    | .o _ => x = u
  one : ∀ x ∈ us, x.oneCell' = true
  row : ∃ ys, w'.ownsRow w.heap.size t sz u es.length ys ∧ RepL (fun k c => M k c ∨ yJ u = some k) w' (flat es) ys
def agV (z : Option Value) (us : List Value) : Value := match z with
  | none => .agg us.toArray
  | some c => .tuple #[.agg us.toArray, c]
def FnAg (P : Program) (f : FuncId) (args : List PV) (cs : List Cl) (t sz : Nat) (es : List PV) (z : Option Value) : Prop :=
  ∀ (M : Nat → Nat → Prop) (w : World) (vs : List Value), Lays w ∧ (∀ g c, Tabs g → ¬ M g c) → (∀ k c, M k c → k < w.heap.size) → vs.length = args.length → (∀ (i : Nat) x v, args[i]? = some x → vs[i]? = some v → Rep M w x v) →
    Calls P f vs.toArray w fun e w' => ∃ us u, e = .returned (agV z us) ∧ AgRes cs t sz es M w w' us u ∧ Below w.heap.size w w'
/-- the results, as they lie at the end -/
inductive AgEnd (P : Program) (fn : Func) (S : AS) (cs : List Cl) (t sz : Nat) (es : List PV) : Option Value → Prop
  | one {a ty id off m k : Nat} {b : Blk} [ht : TyA P ty true m] (hr : fn.results = #[.cell a ty]) (h : S.tmp a = .ptr id off) (hb : S.blk id = some b) (hc : cls ((b.xs.drop off).take m) = some (cs.map (Cl.at_ k))) (hl : cs.length = m) (hk : S.blk k = some (yG t sz es)) : AgEnd P fn S cs t sz es none
  | two {a ty id off m k q : Nat} {b : Blk} {z : Value} [ht : TyA P ty true m] (hr : fn.results = #[.cell a ty, .tmp q]) (h : S.tmp a = .ptr id off) (hb : S.blk id = some b) (hc : cls ((b.xs.drop off).take m) = some (cs.map (Cl.at_ k))) (hl : cs.length = m) (hk : S.blk k = some (yG t sz es)) (hq : S.tmp q = .p (.val z)) : AgEnd P fn S cs t sz es (some z)
theorem ag_cell {P : Program} {M : Nat → Nat → Prop} {n : Nat} {w : World} {hl0 : Lays w} {w' : World} {S : AS} {ρ : Nat → Value} {a : Act} (hs : Sat M n (Home.plain w hl0) S ρ a w') {cs : List Cl} {t sz p ty id off m k : Nat} {es : List PV} {b : Blk} [ht : TyA P ty true m]
    (h : S.tmp p = .ptr id off) (hb : S.blk id = some b) (hc : cls ((b.xs.drop off).take m) = some (cs.map (Cl.at_ k))) (hl : cs.length = m) (hk : S.blk k = some (yG t sz es)) :
    ∃ us, (kN a.tmps (.cell p ty)).run P w' = .ok (.agg us.toArray) w' ∧ AgRes cs t sz es M w w' us (ρ k) := by
  have h1 := hs.tmps p
  rw [h] at h1
  obtain ⟨g, hgv, hv⟩ := vE h1
  obtain ⟨ys, hcs, hcell⟩ := (hs.blks id b hb).cells hgv
  have hcm := cls_spec hc
  have hlen : ((b.xs.drop off).take m).length = m := by rw [hcm, List.length_map, List.length_map, hl]
  have hlen2 : ((ys.drop off).take m).length = m := by
    simp only [List.length_take, List.length_drop] at hlen ⊢
    rw [hcs.len]
    exact hlen
  have get : ∀ (j : Nat) y, ((ys.drop off).take m)[j]? = some y → j < m ∧ ys[off + j]? = some y := by
    intro j y hy
    rw [List.getElem?_take] at hy
    split at hy
    · rename_i hj
      rw [List.getElem?_drop] at hy
      exact ⟨hj, hy⟩
    · cases hy
  have hup : ∀ k' c, k' < w'.heap.size → (M k' c ∨ yJ (ρ k) = some k') → Mut M S ρ k' c := fun k' c _ h => h.elim .inl fun h => .inr ⟨k, _, hk, h, trivial⟩
  refine ⟨(ys.drop off).take m, ?_, ⟨by rw [hlen2, hl], fun i c x h1 h2 => ?_, fun v hv => hcs.one v (List.mem_of_mem_drop (List.mem_of_mem_take hv)), ?_⟩⟩
  · have := kE (P := P) (w := w') (t := ty) (g := g) (o := off) (ys := (ys.drop off).take m) (ht.ag w') (ht.sz w') hlen2 (fun j y hy => (hcell (off + j) y (get j y hy).2).1)
    simp only [Instr.loadAt, Instr.sureAddr, Sem.run_bind, Sem.run_pure, Result.andThen_ok] at this
    simp only [kN, hv, asAddr, Sem.run_bind, Sem.run_pure, Result.andThen_ok]
    exact this
  · obtain ⟨hj, hy⟩ := get i x h2
    have h3 : b.xs[off + i]? = some (c.at_ k).av := by
      have h4 : ((b.xs.drop off).take m)[i]? = ((cs.map (Cl.at_ k)).map Cl.av)[i]? := by rw [hcm]
      rw [List.getElem?_take, if_pos hj, List.getElem?_drop, List.getElem?_map, List.getElem?_map, h1] at h4
      exact h4
    have h5 := clOK_of (hcs.each (off + i) _ x h3 hy)
    cases c with
    | p y => exact Rep.mono h5 hup
    | o j => exact h5
  · obtain ⟨ys2, ho, hc2⟩ := hs.blks k _ hk
    refine ⟨ys2, qJ ho (fun k' hk' => (hs.mine k _ k' hk hk').elim (fun h => h) (fun h => h.elim)), by simpa using hc2.len, fun i c v h3 h4 => ?_, hc2.one⟩
    exact (kM (hc2.each i (.p c) v (by rw [List.getElem?_map, h3]; rfl) h4)).mono hup
theorem fn_ofAg {P : Program} {f : FuncId} {fn : Func} {c : Code} {args : List PV} {cs : List Cl} {t sz : Nat} {es : List PV} {z : Option Value} {n : Nat} (hf : P.funcs[f]? = some fn) (hb : fn.body = some c) (hn : fn.ntmps = n) (hle : args.length ≤ n)
    (h : zZ P n c (AS.entry args) (fun e S => (e = .ret ∨ e = .normal) ∧ AgEnd P fn S cs t sz es z)) : FnAg P f args cs t sz es z := by
  intro M w vs hT hM hvl hvs
  refine calls_of_wp hf hb ?_
  have hsat : Sat M n (Home.plain w hT.1) (AS.entry args) (fun _ => undef) { tmps := vs.toArray ++ Array.replicate (fn.ntmps - vs.toArray.size) undef, defers := [] } w := by
    refine ⟨wD.refl (Home.plain w hT.1), (fun k c hk hh => by rcases hh with hh | hh; exact absurd (hM k c hk) (Nat.not_lt.2 hh); exact hh), hT.2, by simp; omega, rfl, fun i => ?_, (fun id b hb => by cases hb), (fun id b k hb => by cases hb), (fun k v hk => by cases hk), (fun _ _ => rfl), (fun i j bi bj k hi => by cases hi)⟩
    show yE _ _ _ ((look (zipArgs 0 args) i).getD .any) _
    rw [look_zipArgs]
    simp only [Nat.zero_le, if_true, Nat.sub_zero]
    cases hx : args[i]? with
    | none => exact .any _
    | some x =>
      have hi : i < vs.length := by rw [hvl]; exact (List.getElem?_eq_some_iff.1 hx).1
      have e : ({ tmps := vs.toArray ++ Array.replicate (fn.ntmps - vs.toArray.size) undef, defers := [] } : Act).tmps.getD i undef = vs[i] := by
        simp [Array.getD_eq_getD_getElem?, Array.getElem?_append, hi]
      rw [e]
      refine .p ((hvs i x vs[i] hx (List.getElem?_eq_getElem hi)).mono ?_)
      rintro k c _ (hk | ⟨id, b, hb, _⟩)
      · exact hk
      · cases hb
  refine h M (Home.plain w hT.1) _ _ w _ hsat ?_
  rintro e S0 ρ' a' w' ⟨he, hend⟩ hs'
  have fin : a'.defers = [] ∧ ∃ v, (results fn a'.tmps).run P w' = .ok v w' ∧ (∃ us u, Ending.returned v = .returned (agV z us) ∧ AgRes cs t sz es M w w' us u ∧ Below w.heap.size w w') := by
    refine ⟨hs'.defers, ?_⟩
    cases hend with
    | @one p ty id off m k b ht hr hp hbk hc hl hk =>
      obtain ⟨us, h1, h2⟩ := ag_cell (P := P) (ty := ty) hs' hp hbk hc hl hk
      have h5 := wE (P := P) (w := w') fn a'.tmps (rs := [_]) (vs := [.agg us.toArray]) hr (by simp only [List.mapM_cons, List.mapM_nil, Sem.run_bind, Sem.run_pure, h1, Result.andThen_ok])
      exact ⟨_, h5, us, _, rfl, h2, hs'.below.plain⟩
    | @two p ty id off m k q b z ht hr hp hbk hc hl hk hq =>
      obtain ⟨us, h1, h2⟩ := ag_cell (P := P) (ty := ty) hs' hp hbk hc hl hk
      have e3 : a'.tmps.getD q undef = z := by
        have g1 := hs'.tmps q
        rw [hq] at g1
        have g2 := kM g1
        generalize a'.tmps.getD q undef = u at g2
        cases g2; rfl
      have hq2 : (kN a'.tmps (.tmp q)).run P w' = .ok z w' := by rw [← e3]; rfl
      have h5 := wE (P := P) (w := w') fn a'.tmps (rs := [_, _]) (vs := [.agg us.toArray, z]) hr (by simp only [List.mapM_cons, List.mapM_nil, Sem.run_bind, Sem.run_pure, h1, hq2, Result.andThen_ok])
      exact ⟨_, h5, us, _, rfl, h2, hs'.below.plain⟩
  intro _
  cases e with
  | ret => exact fin
  | normal => exact fin
  | exit id => rcases he with h | h <;> cases h
  | goto l => rcases he with h | h <;> cases h
  | panic c => rcases he with h | h <;> cases h
  | outgrown => rcases he with h | h <;> cases h
def agA (z : Option Value) (cs : List Cl) : AV := match z with
  | none => .ag cs
  | some c => .tup [.ag cs, .p (.val c)]
section
variable {P : Program} {n : Nat} {o : Oper} {S : AS} {d : Nat}
theorem w_callAg {f : Nat} {args : Array Operand} {ts : Array TypeId} {xs : List PV} {cs : List Cl} {e sz : Nat} {es : List PV} {z : Option Value} [hc : HasFn P f] (hf : FnAg P f xs cs e sz es z) (ho : o.op = .call { callee := .value (.func f), args := args, argTypes := ts })
    (hx : args.toList.map S.get = xs.map AV.p) (hd : o.dst = some d) (hn : d < n) : zQ P n o S [] (agA z (cs.map (Cl.at_ d))) (some (yG e sz es)) := by
  intro S2 hg _ M w0 ρ a w K Q hs hK
  have hargs : ∀ x ∈ args.toList, S2.get x = S.get x := fun x hx => hg x (by rw [ho]; simp [Op.operands, Call.operands]; exact .inr (by simpa using hx))
  have he : (execOp a.eval o).run P w = .ok (.enter f (args.map a.eval)) w := by
    unfold execOp
    rw [ho]
    simp [resolve, Deferred.ofValue, Act.eval, invoke, hc.h]
  unfold Oper.wp
  rw [he, Oper.upon_enter]
  have hlen : (args.toList.map a.eval).length = xs.length := by
    have := congrArg List.length hx
    simpa using this
  have := hf (Mut M S2 ρ) w (args.toList.map a.eval) ⟨hs.lays, hs.tabs⟩ (fun k c hk => Mut.lt hs hk) hlen (fun i x v h1 h2 => by
    rw [List.getElem?_map, Option.map_eq_some_iff] at h2
    obtain ⟨y, hy, rfl⟩ := h2
    have h3 : S.get y = .p x := by
      have h4 : (args.toList.map S.get)[i]? = (xs.map AV.p)[i]? := by rw [hx]
      rw [List.getElem?_map, List.getElem?_map, hy, h1] at h4
      simpa using h4
    exact xB hs ((hargs y (List.mem_of_getElem? hy)).trans h3))
  have e1 : (args.toList.map a.eval).toArray = args.map a.eval := by apply Array.ext'; simp
  rw [e1] at this
  refine this.mono ?_
  rintro en w' ⟨us, v, rfl, hres, hb⟩
  obtain ⟨ys, hown, hl⟩ := hres.row
  show K (a.put o.dst (agV z us)) w'
  rw [hd] at hK ⊢
  have hnew : ∀ k, yJ v = some k → w.heap.size ≤ k := fun k hk => by
    rcases hown.2 with ⟨rfl, _⟩ | ⟨g, cap, cur, rfl, hg2, _⟩
    · cases hk
    · simp only [yJ, Option.some.injEq] at hk; omega
  have hbk : xX (fun k c => Mut M S2 ρ k c ∨ (yJ v = some k ∧ (yG e sz es).turns c)) 0 ρ w' v (yG e sz es) :=
    ⟨ys, qJ hown (fun _ _ => Nat.zero_le _), ⟨by simpa using hl.len, fun i c u h1 h2 => by
      rw [List.getElem?_map, Option.map_eq_some_iff] at h1
      obtain ⟨y, hy, rfl⟩ := h1
      exact .p ((hl.each i y u hy h2).mono fun k c _ hk => hk.elim .inl fun h => .inr h.1), hl.one⟩⟩
  have hs' := hs.change d (yG e sz es) v none (hs.free d hn) (w' := w') ⟨hb.os, hb.tape, hb.output, hb.size, fun k hk _ => hb.block k hk⟩ (fun k hk => by cases hk) (fun k hk => .inl (hnew k hk)) hbk
  refine hK _ _ w' (hs'.put hn ?_)
  have hag : yE (Mut M (S2.create d (yG e sz es)) (upd ρ d v)) (upd ρ d v) w' (.ag (cs.map (Cl.at_ d))) (.agg us.toArray) := by
    refine .ag _ us (by simpa using hres.len) (fun i c x hc hx => ?_) hres.one
    rw [List.getElem?_map, Option.map_eq_some_iff] at hc
    obtain ⟨c0, hc0, rfl⟩ := hc
    have h2 := hres.each i c0 x hc0 hx
    cases c0 with
    | o j => show x = upd ρ d v d; simp only [upd, if_true]; exact h2
    | p y =>
      refine Rep.mono h2 fun k c _ hk => ?_
      rcases hk with hk | ⟨id, b, hb1, hv1, ht1⟩
      · exact .inl (.inl hk)
      · rw [AS.vL] at hb1
        by_cases hid : d = id
        · subst hid
          rw [show upd ρ d v d = v from by simp [upd]] at hv1
          exact .inr hv1
        · rw [if_neg hid, Option.map_eq_some_iff] at hb1
          obtain ⟨b0, hb0, rfl⟩ := hb1
          have hv2 : yJ (ρ id) = some k := by simpa [upd, Ne.symm hid] using hv1
          exact .inl (.inr ⟨id, b0, hb0, hv2, (Blk.kV b0 d c).1 ht1⟩)
  cases z with
  | none => exact hag
  | some c =>
    refine .tup [.ag (cs.map (Cl.at_ d)), .p (.val c)] [.agg us.toArray, c] rfl fun i c' x hc hx => ?_
    match i with
    | 0 => cases hc; cases hx; exact hag
    | 1 => cases hc; cases hx; exact .p (.val _)
    | i + 2 => simp at hc
end
end Go.Proofs.YteadaggehndacaaDoor
/- Functions that turn own rows and hand back several things, own rows among them: contracts. Generic over the program. (Written by gen_fnz2.py.) -/
namespace Go.Proofs.YteadaggehndacaaDoor
set_option maxRecDepth 100000
set_option maxHeartbeats 16000000
open Go Go.RowKit
set_option linter.unusedSimpArgs false
set_option linter.unusedVariables false
abbrev ResT := (Nat → Nat → Prop) → (Nat → Value) → World → Value → Prop
def FnZR (P : Program) (f : FuncId) (args : List AV) (B R : List Blk) (Res : ResT) (B' New : List Blk) : Prop :=
  ∀ (M : Nat → Nat → Prop) (h : Home) (ρ : Nat → Value) (vs : List Value), HandedZ h B.length (B ++ R) ρ → Sat M 0 h (asB (B ++ R)) ρ wT h.w → vs.length = args.length →
    (∀ (i : Nat) x v, args[i]? = some x → vs[i]? = some v → yE (Mut M (asB (B ++ R)) ρ) ρ h.w x v) →
    Calls P f vs.toArray h.w fun e w' => ∃ ρ' v, e = .returned v ∧ Sat M 0 h (asB (B' ++ New)) ρ' wT w' ∧ Res (Mut M (asB (B' ++ New)) ρ') ρ' w' v
/-- several things -/
def resL (l : List AV) : ResT := fun M ρ w v => ∃ us : List Value, v = .tuple us.toArray ∧ us.length = l.length ∧ ∀ (i : Nat) x u, l[i]? = some x → us[i]? = some u → yE M ρ w x u
def FnZL (P : Program) (f : FuncId) (args : List AV) (B R : List Blk) (l : List AV) (B' New : List Blk) : Prop := FnZR P f args B R (resL l) B' New
/-! ### what a function hands back -/
inductive ResA (P : Program) (S : AS) : ResultVar → AV → Prop
  | v {r : ResultVar} {x : PV} (h : ResV P S r x) : ResA P S r (.p x)
  | tmp {t : Nat} {x : AV} (h : S.tmp t = x) : ResA P S (.tmp t) x
  | ag {a t id off m : Nat} {b : Blk} {cs : List Cl} [ht : TyA P t true m] (h : S.tmp a = .ptr id off) (hb : S.blk id = some b) (hc : cls ((b.xs.drop off).take m) = some cs) (hl : cs.length = m) : ResA P S (.cell a t) (.ag cs)
inductive ResAs (P : Program) (S : AS) : List ResultVar → List AV → Prop
  | nil : ResAs P S [] []
  | cons {r : ResultVar} {x : AV} {rs : List ResultVar} {xs : List AV} (h : ResA P S r x) (t : ResAs P S rs xs) : ResAs P S (r :: rs) (x :: xs)
def GivesL (P : Program) (fn : Func) (S : AS) (l : List AV) : Prop := ∃ rs : List ResultVar, fn.results = rs.toArray ∧ rs.length ≠ 1 ∧ ResAs P S rs l
theorem resA_one {P : Program} {M : Nat → Nat → Prop} {n : Nat} {w0 : Home} {w : World} {S : AS} {ρ : Nat → Value} {a : Act} (hs : Sat M n w0 S ρ a w) {r : ResultVar} {x : AV} (h : ResA P S r x) :
    ∃ v, (kN a.tmps r).run P w = .ok v w ∧ yE (Mut M S ρ) ρ w x v := by
  cases h with
  | v h =>
    obtain ⟨v, h1, h2⟩ := res_oneM hs h
    exact ⟨v, h1, .p h2⟩
  | @tmp t _ h => exact ⟨_, rfl, h ▸ hs.tmps t⟩
  | @ag p t id off m b cs ht h hb hc hl =>
    have h1 := hs.tmps p
    rw [h] at h1
    obtain ⟨g, hgv, hv⟩ := vE h1
    obtain ⟨ys, hcs, hcell⟩ := (hs.blks id b hb).cells hgv
    have hcm := cls_spec hc
    have hlen : ((b.xs.drop off).take m).length = m := by rw [hcm, List.length_map, hl]
    have hlen2 : ((ys.drop off).take m).length = m := by
      simp only [List.length_take, List.length_drop] at hlen ⊢
      rw [hcs.len]
      exact hlen
    have get : ∀ (j : Nat) y, ((ys.drop off).take m)[j]? = some y → j < m ∧ ys[off + j]? = some y := by
      intro j y hy
      rw [List.getElem?_take] at hy
      split at hy
      · rename_i hj
        rw [List.getElem?_drop] at hy
        exact ⟨hj, hy⟩
      · cases hy
    refine ⟨.agg ((ys.drop off).take m).toArray, ?_, repA_ag (xs := (b.xs.drop off).take m) ⟨by rw [hlen, hlen2], fun i c v h1 h2 => ?_, fun v hv => hcs.one v (List.mem_of_mem_drop (List.mem_of_mem_take hv))⟩ hcm⟩
    · have := kE (P := P) (w := w) (t := t) (g := g) (o := off) (ys := (ys.drop off).take m) (ht.ag w) (ht.sz w) hlen2 (fun j y hy => (hcell (off + j) y (get j y hy).2).1)
      simp only [Instr.loadAt, Instr.sureAddr, Sem.run_bind, Sem.run_pure, Result.andThen_ok] at this
      simp only [kN, hv, asAddr, Sem.run_bind, Sem.run_pure, Result.andThen_ok]
      exact this
    · obtain ⟨hj, hy⟩ := get i v h2
      rw [List.getElem?_take, if_pos hj, List.getElem?_drop] at h1
      exact hcs.each (off + i) c v h1 hy
theorem resA_all {P : Program} {M : Nat → Nat → Prop} {n : Nat} {w0 : Home} {w : World} {S : AS} {ρ : Nat → Value} {a : Act} (hs : Sat M n w0 S ρ a w) {rs : List ResultVar} {l : List AV} (h : ResAs P S rs l) :
    ∃ vs : List Value, (List.mapM (kN a.tmps) rs).run P w = .ok vs w ∧ vs.length = l.length ∧ rs.length = l.length ∧ ∀ (i : Nat) x u, l[i]? = some x → vs[i]? = some u → yE (Mut M S ρ) ρ w x u := by
  induction h with
  | nil => exact ⟨[], by simp, rfl, rfl, fun i x u h => by simp at h⟩
  | @cons r x rs xs h _ ih =>
    obtain ⟨v, h1, h2⟩ := resA_one hs h
    obtain ⟨vs, h3, h4, h6, h5⟩ := ih
    refine ⟨v :: vs, by simp only [List.mapM_cons, Sem.run_bind, Sem.run_pure, h1, h3, Result.andThen_ok], by simp [h4], by simp [h6], fun i y u hy hu => ?_⟩
    cases i with
    | zero => simp at hy hu; subst hy; subst hu; exact h2
    | succ i => exact h5 i y u (by simpa using hy) (by simpa using hu)
section
variable {P : Program} {n : Nat} {o : Oper} {S : AS} {d : Nat}
theorem w_boxAg {t : TypeId} {x : Operand} {cs : List Cl} (ho : o.op = .box t x) (hx : S.get x = .ag cs) (hd : o.dst = some d) (hn : d < n) : zQ P n o S [] (.ptr d 0) (some (.box t (cs.map Cl.av))) :=
  zQ.made hd hn fun S2 hg _ M w0 ρ a w hs => by
    have hr := hs.rep x
    rw [hg x (by rw [ho]; simp [Op.operands]), hx] at hr
    refine ⟨.pointer (some ⟨w.heap.size, 0, none⟩), w.alloc (.cells (a.eval x).cells t), ?_, World.grownBy_alloc w _ none, fun k hk => ?_, ?_, .inr ⟨rfl, _, rfl⟩⟩
    · unfold execOp
      rw [ho]
      simp [Instr.box, newVar, newRow]
    · simp only [yJ, Option.some.injEq] at hk; omega
    · have hc := repA_cells hr rfl
      refine ⟨w.heap.size, (a.eval x).cells.toList, rfl, Nat.zero_le _, by rw [heap_alloc_new], ⟨hc.len, fun i c u h2 h3 => ?_, hc.one⟩⟩
      refine ((hc.each i c u h2 h3).mono fun k c hk h => ?_).keep (.of_below _ ((Below.refl _ _).alloc (Nat.le_refl _) _))
      rcases h with h | h
      · exact h
      · simp only [yJ, Option.some.injEq] at h; omega
theorem call_zR {Res : ResT} {f : FuncId} {xs : List AV} {bids rids nids : List Nat} {B R B' New : List Blk} (hf : FnZR P f xs B R Res B' New) (hh : HandsZ S (bids ++ rids) (B ++ R)) (hbl : bids.length = B.length) (hpin : B.all Blk.pinned = true) (hB' : B'.length = B.length) (hnl : nids.length = New.length) (hnd : (bids ++ nids).Nodup)
    (hok' : (B' ++ New).all (Blk.okZ (B' ++ New).length) = true) (hxs : xs.all (AV.okE (B ++ R).length) = true)
    {M : Nat → Nat → Prop} {w0 : Home} {ρ : Nat → Value} {a : Act} {w : World} (hs : Sat M n w0 S ρ a w) (hlo : ∀ j ∈ rids ++ nids, w0.r j = none) {vs : List Value} (hvl : vs.length = xs.length)
    (hvs : ∀ (i : Nat) x v, xs[i]? = some x → vs[i]? = some v → yE (Mut M S ρ) ρ w (x.ren (sig (bids ++ rids))) v) :
    Calls P f vs.toArray w fun e w' => ∃ ρ' v, e = .returned v ∧ Sat M n w0 ((S.drops (rids ++ nids)).after (bids ++ nids) (B' ++ New)) ρ' a w' ∧ ∃ M2 ρ2, Res (Mut M2 (asB (B' ++ New)) ρ2) ρ2 w' v ∧ (∀ k c, Mut M ((S.drops (rids ++ nids)).after (bids ++ nids) (B' ++ New)) ρ' k c → Mut M2 (asB (B' ++ New)) ρ2 k c) ∧ ∀ k, 1000 ≤ k → k < 1000 + (B' ++ New).length → ρ2 k = ρ' (sig (bids ++ nids) k) := by
  have hlen := hh.len
  have hLL : (bids ++ nids).length = (B' ++ New).length := by simp [hbl, hB', hnl]
  have at_i : ∀ i, i < (B ++ R).length → ∃ id b, (bids ++ rids)[i]? = some id ∧ (B ++ R)[i]? = some b ∧ S.blk id = some (b.ren (sig (bids ++ rids))) ∧ sig (bids ++ rids) (1000 + i) = id := fun i hi => by
    have h1 : (bids ++ rids)[i]? = some ((bids ++ rids)[i]'(by omega)) := List.getElem?_eq_getElem _
    have h2 : (B ++ R)[i]? = some (B ++ R)[i] := List.getElem?_eq_getElem _
    exact ⟨_, _, h1, h2, hh.at_ i _ _ h1 h2, kP h1⟩
  have box_i : ∀ i, i < B.length → ∃ mp g, ρ (sig (bids ++ rids) (1000 + i)) = objV mp g := fun i hi => by
    obtain ⟨id, b, h1, h2, h3, h4⟩ := at_i i (by simp; omega)
    have hb := hs.blks id _ h3
    rw [List.getElem?_append_left hi] at h2
    have hbo := List.all_eq_true.1 hpin b (List.mem_of_getElem? h2)
    rw [h4]
    cases b with
    | box t cs => obtain ⟨g, ys, hv, _⟩ := hb; exact ⟨false, g, hv⟩
    | row t s m cs => cases hbo
    | prow t s m cs => cases hbo
    | lent t s m cs => cases hbo
    | obj mp Q => obtain ⟨g, o, hv, _⟩ := hb; exact ⟨mp, g, hv⟩
  let T : Nat → Prop := fun k => ∃ i, i < (B ++ R).length ∧ yJ (ρ (sig (bids ++ rids) (1000 + i))) = some k
  have T_mut : ∀ k c, T k → Mut M S ρ k c := fun k c ⟨i, hi, hk⟩ => by
    obtain ⟨id, b, h1, h2, h3, h4⟩ := at_i i hi
    rw [h4] at hk
    exact .inr ⟨id, _, h3, hk, (Blk.ren_turns c).2 (Blk.okZ_turns (List.all_eq_true.1 hh.ok b (List.mem_of_getElem? h2)) c)⟩
  have T_has : ∀ k, T k → w0.has k := fun k ⟨i, hi, hk⟩ => by
    obtain ⟨id, b, h1, h2, h3, h4⟩ := at_i i hi
    rw [h4] at hk
    exact hs.mine id _ k h3 hk
  let M' : Nat → Nat → Prop := fun k c => Mut M S ρ k c ∧ ¬ T k
  let h : Home := ⟨w, T, hs.lays, (fun g hg ht => hs.tabs g 0 hg (T_mut g 0 ht)), fun k => if 1000 ≤ k ∧ k < 1000 + B.length then some (ρ (sig (bids ++ rids) k)) else none, (fun k v hk => by
      by_cases hc : 1000 ≤ k ∧ k < 1000 + B.length
      · simp only [hc, and_self, if_true, Option.some.injEq] at hk
        obtain ⟨mp, g, hg⟩ := box_i (k - 1000) (by omega)
        have e : 1000 + (k - 1000) = k := by omega
        rw [e] at hg
        exact ⟨mp, g, by rw [← hk, hg]⟩
      · rw [if_neg hc] at hk; cases hk), (fun k hk => if_neg (by omega)), []⟩
  have hr_i : ∀ k, 1000 ≤ k → k < 1000 + B.length → h.r k = some (ρ (sig (bids ++ rids) k)) := fun k h1 h2 => if_pos ⟨h1, h2⟩
  have mutc : ∀ k c, Mut M' (asB (B ++ R)) (fun k => ρ (sig (bids ++ rids) k)) k c → Mut M S ρ k c := by
    rintro k c (hk | ⟨id, b, hb, hk, _⟩)
    · exact hk.1
    · obtain ⟨i, rfl, hbi⟩ := y7 hb
      exact T_mut k c ⟨i, (List.getElem?_eq_some_iff.1 hbi).1, hk⟩
  have hsat : Sat M' 0 h (asB (B ++ R)) (fun k => ρ (sig (bids ++ rids) k)) wT h.w := by
    refine ⟨wD.refl h, fun k c hk hh2 => ?_, fun g c hg hk => ?_, rfl, rfl, fun i => .any _, fun id b hb => ?_, fun id b k hb hk => ?_, fun k v hk => ?_, fun k hk => by omega, fun i j bi bj k hi hj h1 h2 => ?_⟩
    · rcases hh2 with hh2 | hh2
      · exact absurd (Mut.lt hs hk.1) (Nat.not_lt.2 hh2)
      · exact hk.2 hh2
    · exact hs.tabs g c hg hk.1
    · obtain ⟨i, rfl, hbi⟩ := y7 hb
      have hi : i < (B ++ R).length := (List.getElem?_eq_some_iff.1 hbi).1
      obtain ⟨id, b2, h1, h2, h3, h4⟩ := at_i i hi
      rw [hbi] at h2
      obtain rfl := Option.some.inj h2
      have hbo := List.all_eq_true.1 hh.ok b (List.mem_of_getElem? hbi)
      have hb2 := hs.blks id _ h3
      show xX _ 0 _ w (ρ (sig (bids ++ rids) (1000 + i))) b
      rw [h4]
      exact xX.inn hb2 hbo fun k c _ hk => mutc k c hk
    · obtain ⟨i, rfl, hbi⟩ := y7 hb
      exact .inr ⟨i, (List.getElem?_eq_some_iff.1 hbi).1, hk⟩
    · by_cases hc : 1000 ≤ k ∧ k < 1000 + B.length
      · rw [hr_i k hc.1 hc.2] at hk
        exact Option.some.inj hk
      · have : h.r k = none := if_neg hc
        rw [this] at hk; cases hk
    · obtain ⟨i', rfl, hbi⟩ := y7 hi
      obtain ⟨j', rfl, hbj⟩ := y7 hj
      obtain ⟨id, b1, p1, p2, p3, p4⟩ := at_i i' (List.getElem?_eq_some_iff.1 hbi).1
      obtain ⟨jd, b2, q1, q2, q3, q4⟩ := at_i j' (List.getElem?_eq_some_iff.1 hbj).1
      rw [p4] at h1
      rw [q4] at h2
      have e := hs.dist id jd _ _ k p3 q3 h1 h2
      subst e
      rw [nodup_inj hh.nodup p1 q1]
  have hcall := hf M' h _ vs ⟨fun i hi => hr_i _ (by omega) (by omega), fun k hk => if_neg (by omega), fun k hk => hk⟩ hsat hvl (fun i x v h1 h2 => yE.inn (hvs i x v h1 h2) (List.all_eq_true.1 hxs x (List.mem_of_getElem? h1)) fun k c _ hk => mutc k c hk)
  refine Calls.mono hcall ?_
  rintro e w' ⟨ρ2, v, rfl, hs2, hrep⟩
  have hρ1 : ∀ k, 1000 ≤ k → k < 1000 + B.length → ρ2 k = ρ (sig (bids ++ rids) k) := fun k h1 h2 => hs2.fix k _ (hr_i k h1 h2)
  let ρ3 : Nat → Value := fun j => if j ∈ nids then ρ2 (1000 + (bids ++ nids).idxOf j) else ρ j
  have off3 : ∀ j, j ∉ rids ++ nids → ρ3 j = ρ j := fun j hj => if_neg fun h => hj (List.mem_append_right _ h)
  have hs3 : Sat M n w0 (S.drops (rids ++ nids)) ρ3 a w := Sat.drops _ hs hlo ρ3 off3
  have idx_at : ∀ i j, (bids ++ nids)[i]? = some j → (bids ++ nids).idxOf j = i := fun i j hi => by
    have hm : j ∈ bids ++ nids := List.mem_of_getElem? hi
    have h1 : (bids ++ nids).idxOf j < (bids ++ nids).length := List.idxOf_lt_length_of_mem hm
    have h2 : (bids ++ nids)[(bids ++ nids).idxOf j]? = some j := by rw [List.getElem?_eq_getElem h1, List.getElem_idxOf h1]
    exact nodup_inj hnd h2 hi
  have old_not : ∀ j, j ∈ bids → j ∉ nids := fun j h1 h2 => (List.nodup_append.1 hnd).2.2 j h1 j h2 rfl
  have old_notR : ∀ j, j ∈ bids → j ∉ rids := fun j h1 h2 => (List.nodup_append.1 hh.nodup).2.2 j h1 j h2 rfl
  have old3 : ∀ j, j ∈ bids → ρ3 j = ρ j := fun j hj => if_neg (old_not j hj)
  have sigB : ∀ i (hi : i < bids.length), sig (bids ++ rids) (1000 + i) = bids[i] := fun i hi => kP (by rw [List.getElem?_append_left hi]; exact List.getElem?_eq_getElem hi)
  have hρ : ∀ k, 1000 ≤ k → k < 1000 + (B' ++ New).length → ρ2 k = ρ3 (sig (bids ++ nids) k) := fun k h1 h2 => by
    obtain ⟨i, rfl⟩ : ∃ i, k = 1000 + i := ⟨k - 1000, by omega⟩
    have hi : i < (bids ++ nids).length := by omega
    have hat : (bids ++ nids)[i]? = some (bids ++ nids)[i] := List.getElem?_eq_getElem hi
    rw [kP hat]
    by_cases hlt : i < bids.length
    · have e1 : (bids ++ nids)[i] = bids[i] := List.getElem_append_left hlt
      rw [e1, old3 _ (List.getElem_mem _), hρ1 (1000 + i) (by omega) (by omega), sigB i hlt]
    · have e1 : (bids ++ nids)[i] ∈ nids := by
        rw [List.getElem_append_right (by omega)]
        exact List.getElem_mem _
      show _ = if _ then _ else _
      rw [if_pos e1, idx_at i _ hat]
  have hblk : ∀ j, ((S.drops (rids ++ nids)).after (bids ++ nids) (B' ++ New)).blk j = if j ∈ bids ++ nids then ((B' ++ New).map (Blk.ren (sig (bids ++ nids))))[(bids ++ nids).idxOf j]? else (S.drops (rids ++ nids)).blk j := fun j => look_putBs _ _ (S.drops (rids ++ nids)).s j (by rw [List.length_map]; exact hLL) hnd
  have htmp : ∀ i, ((S.drops (rids ++ nids)).after (bids ++ nids) (B' ++ New)).tmp i = (S.tmp i).kills (rids ++ nids) := fun i => drops_tmp _ _ _
  generalize hS1 : (S.drops (rids ++ nids)).after (bids ++ nids) (B' ++ New) = S1 at *
  have mem_at : ∀ j, j ∈ bids ++ nids → ∃ i b, (bids ++ nids).idxOf j = i ∧ i < (B' ++ New).length ∧ (bids ++ nids)[i]? = some j ∧ (B' ++ New)[i]? = some b ∧ sig (bids ++ nids) (1000 + i) = j := fun j hj => by
    have h1 : (bids ++ nids).idxOf j < (bids ++ nids).length := List.idxOf_lt_length_of_mem hj
    have h2 : (bids ++ nids)[(bids ++ nids).idxOf j]? = some j := by rw [List.getElem?_eq_getElem h1, List.getElem_idxOf h1]
    have h3 : (bids ++ nids).idxOf j < (B' ++ New).length := by omega
    exact ⟨_, _, rfl, h3, h2, List.getElem?_eq_getElem h3, kP h2⟩
  have T_old : ∀ j k, j ∈ bids → yJ (ρ j) = some k → T k := fun j k hj hk => by
    obtain ⟨i, hi, he⟩ := List.getElem_of_mem hj
    refine ⟨i, by simp; omega, ?_⟩
    rw [sigB i hi, he]; exact hk
  have bid_blk : ∀ j, j ∈ bids → ∃ b0, S.blk j = some b0 ∧ ∀ c, b0.turns c := fun j hj => by
    obtain ⟨i, hi, he⟩ := List.getElem_of_mem hj
    obtain ⟨id, b0, h1, h2, h3, h4⟩ := at_i i (by simp; omega)
    rw [sigB i hi, he] at h4
    subst h4
    exact ⟨_, h3, fun c => (Blk.ren_turns c).2 (Blk.okZ_turns (List.all_eq_true.1 hh.ok b0 (List.mem_of_getElem? h2)) c)⟩
  have new_or : ∀ j k, j ∈ nids → yJ (ρ3 j) = some k → w.heap.size ≤ k ∨ ∃ i, B.length ≤ i ∧ i < (B ++ R).length ∧ yJ (ρ (sig (bids ++ rids) (1000 + i))) = some k := fun j k hj hk => by
    obtain ⟨i, b, h1, h2, h3, h4, h5⟩ := mem_at j (List.mem_append_right _ hj)
    have e3 : ρ2 (1000 + i) = ρ3 j := by rw [hρ (1000 + i) (by omega) (by omega), h5]
    have hb : (asB (B' ++ New)).blk (1000 + i) = some b := by rw [qW]; exact h4
    rcases hs2.mine (1000 + i) b k hb (by rw [e3]; exact hk) with h6 | ⟨i', h6, h7⟩
    · exact .inl h6
    · by_cases hlt : i' < B.length
      · have h8 : i' < (B' ++ New).length := by simp; omega
        have hb' : (asB (B' ++ New)).blk (1000 + i') = some (B' ++ New)[i'] := by rw [qW]; exact List.getElem?_eq_getElem h8
        have e := hs2.dist _ _ _ _ k hb hb' (by rw [e3]; exact hk) (by rw [hρ1 (1000 + i') (by omega) (by omega)]; exact h7)
        have e' : i = i' := by omega
        subst e'
        rw [List.getElem?_append_left (by omega)] at h3
        exact absurd hj (old_not j (List.mem_of_getElem? h3))
      · exact .inr ⟨i', by omega, h6, h7⟩
  have rid_of : ∀ i, B.length ≤ i → i < (B ++ R).length → sig (bids ++ rids) (1000 + i) ∈ rids := fun i h1 h2 => by
    have hi : i < (bids ++ rids).length := by omega
    rw [kP (List.getElem?_eq_getElem hi), List.getElem_append_right (by omega)]
    exact List.getElem_mem _
  -- other blocks
  have oth : ∀ j b, j ∉ bids ++ nids → S1.blk j = some b → ∃ b0, S.blk j = some b0 ∧ b = b0.kills (rids ++ nids) ∧ ρ3 j = ρ j ∧ ∀ k, yJ (ρ j) = some k → ¬ T k := fun j b hj hb => by
    rw [hblk, if_neg hj] at hb
    obtain ⟨h1, b0, h2, h3⟩ := drops_some _ _ _ _ hb
    refine ⟨b0, h2, h3, off3 j h1, fun k hk ⟨i, hi, hk2⟩ => ?_⟩
    obtain ⟨id, b2, p1, p2, p3, p4⟩ := at_i i hi
    rw [p4] at hk2
    have := hs.dist j id _ _ k h2 p3 hk hk2
    subst this
    rcases List.mem_append.1 (List.mem_of_getElem? p1) with hm | hm
    · exact hj (List.mem_append_left _ hm)
    · exact h1 (List.mem_append_left _ hm)
  have mut3 : ∀ k c, Mut M S1 ρ3 k c → Mut M' (asB (B' ++ New)) ρ2 k c := fun k c hk => by
    rcases hk with hk | ⟨j, b, hb, hk, htn⟩
    · exact .inl ⟨.inl hk, fun ht => hs.out k c hk (T_has k ht)⟩
    · by_cases hj : j ∈ bids ++ nids
      · obtain ⟨i, b', h1, h2, h3, h4, h5⟩ := mem_at j hj
        refine .inr ⟨1000 + i, b', by rw [qW]; exact h4, ?_, Blk.okZ_turns (List.all_eq_true.1 hok' b' (List.mem_of_getElem? h4)) c⟩
        rw [hρ (1000 + i) (by omega) (by omega), h5]
        exact hk
      · obtain ⟨b0, h1, rfl, h3, h4⟩ := oth j b hj hb
        rw [h3] at hk
        exact .inl ⟨.inr ⟨j, b0, h1, hk, (kills_turns _ _ _).1 htn⟩, h4 k hk⟩
  have mut1 : ∀ k c, k < w.heap.size → Mut M S1 ρ3 k c → Mut M S ρ k c := by
    rintro k c hlt (hk | ⟨j, b, hb, hk, ht⟩)
    · exact .inl hk
    · by_cases hj : j ∈ bids ++ nids
      · rcases List.mem_append.1 hj with hj | hj
        · rw [old3 j hj] at hk
          exact T_mut k c (T_old j k hj hk)
        · rcases new_or j k hj hk with h1 | ⟨i, h1, h2, h3⟩
          · omega
          · exact T_mut k c ⟨i, h2, h3⟩
      · obtain ⟨b0, h1, rfl, h3, h4⟩ := oth j b hj hb
        rw [h3] at hk
        exact .inr ⟨j, b0, h1, hk, (kills_turns _ _ _).1 ht⟩
  let V : Nat → Nat → Prop := fun k c => Mut M S ρ k c ∨ Mut M S1 ρ3 k c
  have hV : ∀ k c, k < w.heap.size → V k c → Mut M S ρ k c := fun k c hk h1 => h1.elim (fun h => h) (mut1 k c hk)
  have grow : Keeps V w w' := ⟨hs2.below.size, fun k c hk hnm => World.cell?_of_block (w := w) (hs2.below.block k hk (fun ht => hnm (.inl (T_mut k c ht))))⟩
  have blk_same : ∀ k, k < w.heap.size → ¬ T k → w'.heap[k]? = w.heap[k]? := fun k hk ht => hs2.below.block k hk ht
  refine ⟨ρ3, v, rfl, ?_, M', ρ2, hrep, mut3, hρ⟩
  refine ⟨⟨hs2.below.os.trans hs.below.os, hs2.below.tape.trans hs.below.tape, hs2.below.output.trans hs.below.output, Nat.le_trans hs.below.size hs2.below.size, fun k hk ht => ?_⟩, hs.out, hs.tab, hs.size, hs.defers, fun i => ?_, fun j b hb => ?_, fun j b k hb hk => ?_, hs3.fix, hs.free, fun i j bi bj k hi hj h1 h2 => ?_⟩
  · refine (hs2.below.block k (Nat.lt_of_lt_of_le hk hs.below.size) (fun hT => ?_)).trans (hs.below.block k hk ht)
    rcases T_has k hT with h1 | h1
    · omega
    · exact ht h1
  · rw [htmp]
    exact (((yE.kills (rids ++ nids) (hs.tmps i) off3).mono hV).keep grow).mono fun k c _ hk => .inr hk
  · by_cases hj : j ∈ bids ++ nids
    · obtain ⟨i, b', h1, hi, h2, h4, h6⟩ := mem_at j hj
      rw [hblk, if_pos hj, h1, List.getElem?_map, h4] at hb
      obtain rfl := Option.some.inj hb
      have hb2 := hs2.blks (1000 + i) b' (by rw [qW]; exact h4)
      have hbo := List.all_eq_true.1 hok' b' (List.mem_of_getElem? h4)
      have e : ρ2 (1000 + i) = ρ3 j := by rw [hρ (1000 + i) (by omega) (by omega), h6]
      rw [e] at hb2
      exact xX.outw hb2 hbo (fun k c _ hk => mut3 k c hk) hρ
    · obtain ⟨b0, h1, rfl, h3, h4⟩ := oth j b hj hb
      rw [h3]
      refine (xX.keep (M' := V) (xX.kills (rids ++ nids) (hs.blks j b0 h1) off3) (fun k hk => blk_same k (Mut.blk_lt hs h1 hk) (h4 k hk)) grow hV).mono fun k c hk => .inr hk
  · by_cases hj : j ∈ bids ++ nids
    · rcases List.mem_append.1 hj with hj2 | hj2
      · rw [old3 j hj2] at hk
        exact T_has k (T_old j k hj2 hk)
      · rcases new_or j k hj2 hk with h1 | ⟨i, h1, h2, h3⟩
        · exact .inl (Nat.le_trans hs.below.size h1)
        · exact T_has k ⟨i, h2, h3⟩
    · obtain ⟨b0, h1, rfl, h3, h4⟩ := oth j b hj hb
      rw [h3] at hk
      exact hs.mine j b0 k h1 hk
  · have mixed : ∀ i j bi bj, i ∈ bids ++ nids → j ∉ bids ++ nids → S1.blk i = some bi → S1.blk j = some bj → yJ (ρ3 i) = some k → yJ (ρ3 j) = some k → False := fun i j bi bj hi2 hj2 hi hj h1 h2 => by
      obtain ⟨b0, r1, rfl, r3, r4⟩ := oth j bj hj2 hj
      rw [r3] at h2
      have hlt := Mut.blk_lt hs r1 h2
      rcases List.mem_append.1 hi2 with hi3 | hi3
      · rw [old3 i hi3] at h1
        exact r4 k h2 (T_old i k hi3 h1)
      · rcases new_or i k hi3 h1 with h5 | ⟨i', h5, h6, h7⟩
        · omega
        · exact r4 k h2 ⟨i', h6, h7⟩
    by_cases hi2 : i ∈ bids ++ nids
    · by_cases hj2 : j ∈ bids ++ nids
      · obtain ⟨ii, bI, p1, p2, p3, p4, p5⟩ := mem_at i hi2
        have eI : ρ2 (1000 + ii) = ρ3 i := by rw [hρ (1000 + ii) (by omega) (by omega), p5]
        obtain ⟨jj, bJ, q1, q2, q3, q4, q5⟩ := mem_at j hj2
        have eJ : ρ2 (1000 + jj) = ρ3 j := by rw [hρ (1000 + jj) (by omega) (by omega), q5]
        have e := hs2.dist (1000 + ii) (1000 + jj) bI bJ k (by rw [qW]; exact p4) (by rw [qW]; exact q4) (by rw [eI]; exact h1) (by rw [eJ]; exact h2)
        have e' : ii = jj := by omega
        subst e'
        rw [p3] at q3
        exact Option.some.inj q3
      · exact (mixed i j bi bj hi2 hj2 hi hj h1 h2).elim
    · by_cases hj2 : j ∈ bids ++ nids
      · exact (mixed j i bj bi hj2 hi2 hj hi h2 h1).elim
      · obtain ⟨b0, r1, rfl, r3, r4⟩ := oth i bi hi2 hi
        obtain ⟨b1, s1, rfl, s3, s4⟩ := oth j bj hj2 hj
        rw [r3] at h1
        rw [s3] at h2
        exact hs.dist i j b0 b1 k r1 s1 h1 h2
/-- A call by such a contract. -/
theorem zR.zL {f : FuncId} {avs xs : List AV} {B R B' New : List Blk} {rl : List AV} {K : Exit → AS → Prop} {N : AS → Prop} (bids rids nids : List Nat) (hf : FnZL P f xs B R rl B' New) (hd : o.dst = some d) (hn : d < n) (he : Enters P o S f avs) (hx : avs = xs.map (AV.ren (sig (bids ++ rids)))) (hh : HandsZ S (bids ++ rids) (B ++ R)) (hbl : bids.length = B.length) (hpin : B.all Blk.pinned = true) (hrow : R.all Blk.isRowZ = true)
    (hlo : nids.all (fun k => decide (k < 1000) || rids.contains k) = true)
    (hB' : B'.length = B.length) (hnl : nids.length = New.length) (hnd : (bids ++ nids).Nodup) (hok' : (B' ++ New).all (Blk.okZ (B' ++ New).length) = true) (hxs : xs.all (AV.okE (B ++ R).length) = true) (hrx : rl.all (AV.okE (B' ++ New).length) = true)
    (hr : N (((S.drops (rids ++ nids)).after (bids ++ nids) (B' ++ New)).put d (.tup (rl.map (AV.ren (sig (bids ++ nids))))))) : zR P n o S K N := by
  intro M w0 ρ a w KK Q hs hK _
  obtain ⟨vs, he1, he2, he3⟩ := he M n w0 ρ a w hs
  unfold Oper.wp
  rw [he1, Oper.upon_enter]
  have hrid : ∀ j ∈ rids, w0.r j = none := fun j hj => by
    obtain ⟨i, hi, e⟩ := List.getElem_of_mem hj
    have h1 : (bids ++ rids)[bids.length + i]? = some j := by rw [List.getElem?_append_right (by omega)]; simp [hi, e]
    have hlt : bids.length + i < (B ++ R).length := by rw [← hh.len]; simp; exact hi
    have h2 : (B ++ R)[bids.length + i]? = some (B ++ R)[bids.length + i] := List.getElem?_eq_getElem hlt
    have h3 := hh.at_ _ _ _ h1 h2
    have h4 : (B ++ R)[bids.length + i] ∈ R := by
      rw [List.getElem_append_right (by omega)]
      exact List.getElem_mem _
    have h5 := List.all_eq_true.1 hrow _ h4
    have h6 := hs.blks j _ h3
    generalize (B ++ R)[bids.length + i] = b at h5 h6
    cases b with
    | row t s m ys => obtain ⟨us, ho, _⟩ := h6; exact row_free hs ho
    | prow t s m ys => obtain ⟨us, ho, _⟩ := h6; exact row_free hs ho
    | box => cases h5
    | lent => cases h5
    | obj => cases h5
  have hall : ∀ j ∈ rids ++ nids, w0.r j = none := fun j hj => by
    rcases List.mem_append.1 hj with hj | hj
    · exact hrid j hj
    · have := List.all_eq_true.1 hlo j hj
      simp only [Bool.or_eq_true, decide_eq_true_eq, List.contains_iff_mem] at this
      rcases this with h1 | h1
      · exact w0.lo j h1
      · exact hrid j h1
  refine Calls.mono (call_zR hf hh hbl hpin hB' hnl hnd hok' hxs hs hall (by rw [he2, hx, List.length_map]) (reps_ren hx he3)) ?_
  rintro e w' ⟨ρ', v, rfl, hs', M2, ρ2, ⟨us, rfl, hul, hue⟩, hm, hρ⟩
  have hv : yE (Mut M ((S.drops (rids ++ nids)).after (bids ++ nids) (B' ++ New)) ρ') ρ' w' (.tup (rl.map (AV.ren (sig (bids ++ nids))))) (.tuple us.toArray) := .tup _ us (by simpa using hul) fun i c u hc hu => by
    rw [List.getElem?_map, Option.map_eq_some_iff] at hc
    obtain ⟨y, hy, rfl⟩ := hc
    exact yE.outw (hue i y u hy hu) (List.all_eq_true.1 hrx y (List.mem_of_getElem? hy)) (fun k c _ hk => hm k c hk) hρ
  show KK (a.put o.dst (.tuple us.toArray)) w'
  rw [hd]
  exact hK _ ρ' _ w' hr (hs'.put hn hv)
theorem fn_ofZL {f : FuncId} {fn : Func} {c : Code} {args : List AV} {B R B' New : List Blk} {xl : List AV} (hf : P.funcs[f]? = some fn) (hb : fn.body = some c) (hn : fn.ntmps = n) (hle : args.length ≤ n) (h1000 : n ≤ 1000) (hrx : xl.all (AV.okE (B' ++ New).length) = true)
    (h : zZ P n c { t := zipA 0 args, s := numB 1000 (B ++ R) } (fun e S => (e = .ret ∨ e = .normal) ∧ ∃ (IDS : List Nat) (S' : AS), IDS.take B.length = (List.range B.length).map (1000 + ·) ∧ Sub S S' ∧ GivesL P fn S' (xl.map (AV.ren (sig IDS))) ∧ HandsZ S' IDS (B' ++ New))) : FnZL P f args B R xl B' New := by
  intro M hh ρ vs hand hs0 hvl hvs
  have hnone := hand.no
  refine calls_of_wp hf hb ?_
  have hsat : Sat M n hh { t := zipA 0 args, s := numB 1000 (B ++ R) } ρ { tmps := vs.toArray ++ Array.replicate (fn.ntmps - vs.toArray.size) undef, defers := [] } hh.w := by
    refine ⟨hs0.below, hs0.out, hs0.tab, by simp; omega, hs0.defers, fun i => ?_, hs0.blks, hs0.mine, hs0.fix, fun k hk => hh.lo k (by omega), hs0.dist⟩
    show yE _ _ _ ((look (zipA 0 args) i).getD .any) _
    rw [look_zipA]
    simp only [Nat.zero_le, if_true, Nat.sub_zero]
    cases hx : args[i]? with
    | none => exact .any _
    | some x =>
      have hi : i < vs.length := by rw [hvl]; exact (List.getElem?_eq_some_iff.1 hx).1
      have e : ({ tmps := vs.toArray ++ Array.replicate (fn.ntmps - vs.toArray.size) undef, defers := [] } : Act).tmps.getD i undef = vs[i] := by
        simp [Array.getD_eq_getD_getElem?, Array.getElem?_append, hi]
      rw [e]
      exact hvs i x vs[i] hx (List.getElem?_eq_getElem hi)
  refine h M hh ρ _ hh.w _ hsat ?_
  rintro e S0 ρ0 a' w' ⟨he, IDS, S', hids, hsub, hg, hH⟩ hs1 hx
  obtain ⟨ρ', hs'⟩ := hsub M n hh ρ0 a' w' hs1
  have at_i : ∀ i b, (B' ++ New)[i]? = some b → ∃ id, IDS[i]? = some id ∧ S'.blk id = some (b.ren (sig IDS)) ∧ sig IDS (1000 + i) = id := fun i b hb => by
    have hi : i < IDS.length := by rw [hH.len]; exact (List.getElem?_eq_some_iff.1 hb).1
    have h1 : IDS[i]? = some IDS[i] := List.getElem?_eq_getElem hi
    exact ⟨_, h1, hH.at_ i _ b h1 hb, kP h1⟩
  have low : ∀ i, i < B.length → sig IDS (1000 + i) = 1000 + i := fun i hi => by
    have h1 : (IDS.take B.length)[i]? = some (1000 + i) := by rw [hids, List.getElem?_map, List.getElem?_range hi]; rfl
    rw [List.getElem?_take, if_pos hi] at h1
    exact kP h1
  have mutc : ∀ k c, Mut M (asB (B' ++ New)) (fun k => ρ' (sig IDS k)) k c → Mut M S' ρ' k c := by
    rintro k c (hk | ⟨id, b, hb, hk, ht⟩)
    · exact .inl hk
    · obtain ⟨i, rfl, hbi⟩ := y7 hb
      obtain ⟨id, h1, h2, h3⟩ := at_i i b hbi
      exact .inr ⟨id, _, h2, by rw [← h3]; exact hk, (Blk.ren_turns c).2 ht⟩
  have hfin : Sat M 0 hh (asB (B' ++ New)) (fun k => ρ' (sig IDS k)) wT w' := by
    refine ⟨hs'.below, hs'.out, hs'.tab, rfl, hs0.defers, fun i => .any _, fun id b hb => ?_, fun id b k hb hk => ?_, fun k v hk => ?_, fun k hk => by omega, fun i j bi bj k hi hj h1 h2 => ?_⟩
    · obtain ⟨i, rfl, hbi⟩ := y7 hb
      obtain ⟨id, h1, h2, h3⟩ := at_i i b hbi
      have hbo := List.all_eq_true.1 hH.ok b (List.mem_of_getElem? hbi)
      have hb2 := hs'.blks id _ h2
      show xX _ 0 _ w' (ρ' (sig IDS (1000 + i))) b
      rw [h3]
      exact xX.inn hb2 hbo fun k c _ hk => mutc k c hk
    · obtain ⟨i, rfl, hbi⟩ := y7 hb
      obtain ⟨id, h1, h2, h3⟩ := at_i i b hbi
      exact hs'.mine id _ k h2 (by rw [← h3]; exact hk)
    · rcases Nat.lt_or_ge k 1000 with h1 | h1
      · rw [hh.lo k h1] at hk; cases hk
      · rcases Nat.lt_or_ge k (1000 + B.length) with h2 | h2
        · have e := low (k - 1000) (by omega)
          have e2 : 1000 + (k - 1000) = k := by omega
          rw [e2] at e
          show ρ' (sig IDS k) = v
          rw [e]
          exact hs'.fix k v hk
        · rw [hnone k h2] at hk; cases hk
    · obtain ⟨i', rfl, hbi⟩ := y7 hi
      obtain ⟨j', rfl, hbj⟩ := y7 hj
      obtain ⟨id, p1, p2, p3⟩ := at_i i' bi hbi
      obtain ⟨jd, q1, q2, q3⟩ := at_i j' bj hbj
      have e := hs'.dist id jd _ _ k p2 q2 (by rw [← p3]; exact h1) (by rw [← q3]; exact h2)
      subst e
      rw [nodup_inj hH.nodup p1 q1]
  have fin : a'.defers = [] ∧ ∃ v, (results fn a'.tmps).run P w' = .ok v w' ∧ (∃ ρ' v2, Ending.returned v = .returned v2 ∧ Sat M 0 hh (asB (B' ++ New)) ρ' wT w' ∧ resL xl (Mut M (asB (B' ++ New)) ρ') ρ' w' v2) := by
    refine ⟨hs'.defers.trans hs0.defers.symm, ?_⟩
    obtain ⟨rs, hr, hl, hx⟩ := hg
    obtain ⟨us, g1, g2, g4, g3⟩ := resA_all hs' hx
    have g5 := wE (P := P) (w := w') fn a'.tmps hr g1
    rw [dif_neg (by simp only [List.size_toArray]; omega)] at g5
    refine ⟨_, g5, _, _, rfl, hfin, us, rfl, by simpa using g2, fun i y v hy hv => ?_⟩
    refine yE.inn (ids := IDS) (ρ := ρ') (M := Mut M S' ρ') (g3 i _ v (by rw [List.getElem?_map, hy]; rfl) hv) (List.all_eq_true.1 hrx y (List.mem_of_getElem? hy)) fun k c _ hk => mutc k c hk
  cases e with
  | ret => exact fin
  | normal => exact fin
  | exit id => rcases he with h | h <;> cases h
  | goto l => rcases he with h | h <;> cases h
  | panic c => rcases he with h | h <;> cases h
  | outgrown => rcases he with h | h <;> cases h
end
end Go.Proofs.YteadaggehndacaaDoor
/- An access of a word, in a memory that its caller owns: contract. -/
namespace Go.Proofs.YteadaggehndacaaDoor
set_option maxRecDepth 100000
set_option maxHeartbeats 16000000
open Go Go.RowKit
set_option linter.unusedSimpArgs false
set_option linter.unusedVariables false
attribute [local irreducible] zY zZ Step zQ Sub zO zR Fn
def wordsZS (t c kind a b old : Int) (i : Nat) (ws : List Int) (d : PV) (k : Nat) : AS :=
  { t := [(2, .ptr 2 0), (3, .ptr 3 0), (4, .ptr 4 0), (5, .ptr 5 0), (6, .p (.val (.int .u64 old))), (30, .p (.sl turnsL)), (31, .p (.val (.int .i64 5))), (32, .p (.val (.int .i64 (k : Nat))))],
    s := [(2, .box 26 [.p (.val (.int .i64 t)), .p (.val (.int .i64 c)), .own 1000]), (3, .box 73 [.p (.val (.int .i64 kind)), .p (.val (.int .i64 i)), .p (.val (.int .u64 a)), .p (.val (.int .u64 b)), .p d, .p xJ]),
      (4, .box 26 [.p (.val (.int .i64 0)), .p (.val (.int .i64 0)), .p (.val (.slice none 0 0))]), (5, .box 77 [.p (.val (.int .u64 0)), .p (.val (.slice none 0 0)), .p (.val (.bool false))]), (1000, yG 27 1 (wds ws))] }
def wS (ws : List Int) : Blk := yG 27 1 (wds ws)
def memA (t c : Int) : AV := .ag [.p (.val (.int .i64 t)), .p (.val (.int .i64 c)), .o 1000]
theorem rowZ_set (ws : List Int) (i : Nat) (x : Int) : wS (ws.set i x) = yG 27 1 ((wds ws).set ((i : Nat) : Int).toNat (.val (.int .u64 x))) := by
  unfold wS
  rw [Int.toNat_natCast, kY]
theorem qZ {ws : List Int} {i : Nat} {x old : Int} (h : ws[i]? = some old) (e : (!decide (x = old)) = false) : wS (ws.set i x) = wS ws := by
  obtain rfl := eq_of_nd e
  rw [qF h]
theorem wordsZ_fn (t c kd a b old : Int) (hkd : 0 ≤ kd ∧ kd ≤ 4) (i : Nat) (ws : List Int) (d : PV) (hi : ws[i]? = some old) (h1 : ws.length ≤ 1000000) :
    FnZL Tryd.prog 51 [memA t c, .p (accV kd i a b d)] [] [wS ws] [memA t c, .p (resN (xD kd old a b).1)] [] [wS (ws.set i (xD kd old a b).2)] := by
  have hlt : i < ws.length := (List.getElem?_eq_some_iff.1 hi).1
  have g1 := vT ws
  have g2 := turns_cells
  have g3 : (wds ws)[((i : Nat) : Int).toNat * 1]? = some (.val (.int .u64 old)) := by rw [Int.toNat_natCast, Nat.mul_one]; exact wds_at hi
  have g8 : ∀ e ∈ wds ws, e.cells = [e] := fun e he => by
    obtain ⟨x, _, rfl⟩ := List.mem_map.1 he
    rfl
  have g4 : decide ((i : Int) < 0) = false := decide_eq_false (by omega)
  have g5 : decide (((wds ws).length : Int) ≤ (i : Int)) = false := decide_eq_false (by rw [wR]; omega)
  have g6 : (0 : Int) ≤ (i : Int) ∧ (i : Int) < (wds ws).length := by rw [wR]; omega
  have g7 : (i : Int).toNat < (wds ws).length := by rw [wR]; omega
  have c1 := cloneW_fn ws (by omega) h1
  have gx : ∀ x : Int, (!decide (x = x)) = false := fun x => by simp
  refine fn_ofZL Tryd.func51 rfl Tryd.ntmps51 (Nat.le_of_ble_eq_true rfl) (Nat.le_of_ble_eq_true rfl) rfl ?_
  repeat' ((refine zZ.is ?_; first | refine zZ.seq ?_ | (refine zZ.isR (id := 0) ?_; refine zZ.yZ [0, 1] [2, 3, 4, 5, 8, 19, 30, 31, 46, 54, 1000] (by repeat' first | exact zX.nil | apply zX.p rfl | apply zX.ag rfl) (by repeat' first | exact zW.nil | apply zW.some rfl | apply zW.skip) ?_; (refine zY.m rfl rfl (w_boxAg rfl rfl rfl (by decide)) ?_); (refine zY.m rfl rfl (yP rfl rfl rfl (by decide)) ?_); (refine zY.m rfl rfl (zG rfl (by decide) rfl (by decide)) ?_); (refine zY.m rfl rfl (zG rfl (by decide) rfl (by decide)) ?_); refine zY.nil ?_) | (refine zZ.iq 1 ?_; refine zZ.rqh _ K_4 K_2 ?_; all_goals (refine zY.v rfl rfl (zK rfl rfl rfl (by decide)) ?_); all_goals (refine zY.v rfl rfl (zA rfl rfl rfl (by rfl) rfl (by decide)) ?_); all_goals (refine zY.v rfl rfl (by exact xP rfl rfl rfl (by exact g4) rfl (by decide)) ?_); all_goals (refine zY.v rfl rfl (zJ rfl rfl rfl (by decide)) ?_); all_goals (refine zY.gY rfl rfl (by decide) rfl (by assumption) rfl (by decide) (zK rfl rfl rfl (by decide)) ?_); all_goals (refine zY.gY rfl rfl (by decide) rfl (by assumption) rfl (by decide) (zA rfl rfl rfl (by rfl) rfl (by decide)) ?_); all_goals (refine zY.gY rfl rfl (by decide) rfl (by assumption) rfl (by decide) (zK rfl rfl rfl (by decide)) ?_); all_goals (refine zY.gY rfl rfl (by decide) rfl (by assumption) rfl (by decide) (vF rfl rfl rfl rfl rfl (by decide)) ?_); all_goals (refine zY.gY rfl rfl (by decide) rfl (by assumption) rfl (by decide) (w_lenV rfl rfl rfl rfl (by decide)) ?_); all_goals (refine zY.gY rfl rfl (by decide) rfl (by assumption) rfl (by decide) (by exact r_geq rfl rfl rfl (by exact g5) rfl (by decide)) ?_); all_goals (refine zY.v rfl rfl (by exact wP rfl rfl (by assumption) rfl rfl (by decide)) ?_); all_goals (refine zY.nil ?_)) | (refine zZ.iq 3 ?_; refine zZ.rqh _ K_4 K_2 ?_; (refine zY.v rfl rfl (zK rfl rfl rfl (by decide)) ?_); (refine zY.v rfl rfl (vF rfl rfl rfl rfl rfl (by decide)) ?_); (refine zY.v rfl rfl (zK rfl rfl rfl (by decide)) ?_); (refine zY.v rfl rfl (zA rfl rfl rfl (by rfl) rfl (by decide)) ?_); (refine zY.v rfl rfl (by exact xH rfl rfl rfl rfl (by exact g6) rfl (by decide)) ?_); (refine zY.v rfl rfl (by exact kZ rfl rfl rfl (by exact g8) (by exact g3) rfl (by decide)) ?_); (refine zY.v rfl rfl (zV rfl rfl rfl (by decide)) ?_); refine zY.nil ?_) | (refine zZ.iq 4 ?_; refine zZ.rqf _ K_16 K_2 ?_; (refine zY.v rfl rfl (by exact yK (turns_fn) rfl rfl rfl (by decide)) ?_); (refine zY.v rfl rfl (w_lenS rfl rfl rfl (by decide)) ?_); (refine zY.v rfl rfl (zJ rfl rfl rfl (by decide)) ?_); refine zY.nil ?_) | refine zZ.yU rfl (by assumption) ?_ | refine zZ.skip ?_ | refine zZ.block ?_))
  refine zZ.loop (wordsZS t c kd a b old i ws d) (fun k => (k : Int) ≤ kd) (fun k => 5 - k) 0 ?h0 hkd.1 ?rd
  case h0 =>
    exact yS K_e K_y
  case rd =>
    rintro k hk
    have hk6 : k = 0 ∨ k = 1 ∨ k = 2 ∨ k = 3 ∨ k = 4 := by omega
    rcases hk6 with rfl | rfl | rfl | rfl | rfl
    · have gl : decide (((0 : Nat) : Int) < 5) = true := rfl
      by_cases hke : kd = 0
      case neg =>
        have gw : IntKind.i64.wrap (((0 : Nat) : Int) + 1) = ((1 : Nat) : Int) := rfl
        have gd : (!decide ((0 : Int) = kd)) = true := by simp; omega
        repeat' (first | (refine zZ.is ?_; first | refine zZ.seq ?_ | (refine zZ.iq 5 ?_; refine zZ.rqe _ K_0 K_2 ?_; (refine zY.v rfl rfl (by exact xP rfl rfl rfl (by exact gl) rfl (by decide)) ?_); refine zY.nil ?_) | (refine zZ.iq 6 ?_; refine zZ.rqe _ K_0 K_2 ?_; (refine zY.v rfl rfl (by exact xM rfl rfl rfl (by exact g2) (by rfl) rfl (by decide)) ?_); (refine zY.v rfl rfl (by exact wO rfl rfl (by exact Nat.le_of_ble_eq_true rfl) rfl (by decide)) ?_); (refine zY.m rfl rfl (zG rfl (by decide) rfl (by decide)) ?_); (refine zY.w rfl (by exact zH rfl rfl rfl rfl rfl (by rfl) (by exact Nat.le_of_ble_eq_true rfl) rfl rfl) ?_); refine zY.nil ?_) | (refine zZ.iq 7 ?_; refine zZ.rqe _ K_0 K_2 ?_; (refine zY.v rfl rfl (zK rfl rfl rfl (by decide)) ?_); (refine zY.v rfl rfl (zA rfl rfl rfl (by rfl) rfl (by decide)) ?_); (refine zY.v rfl rfl (zK rfl rfl rfl (by decide)) ?_); (refine zY.v rfl rfl (zA rfl rfl rfl (by rfl) rfl (by decide)) ?_); (refine zY.v rfl rfl (by exact vZ rfl rfl rfl (by exact gd) rfl (by decide)) ?_); refine zY.nil ?_) | (refine zZ.iq 13 ?_; refine zZ.rqe _ K_0 K_2 ?_; (refine zY.v rfl rfl (by exact q9 rfl rfl rfl (by exact gw) rfl (by decide)) ?_); (refine zY.v rfl rfl (zJ rfl rfl rfl (by decide)) ?_); refine zY.nil ?_) | refine zZ.yT rfl (by assumption) ?_ | refine zZ.skip ?_ | refine zZ.block ?_ | refine zZ.exit ?_) | refine zS.n ?_)
        refine ⟨1, ?_, (by omega), by decide⟩
        exact yS K_e K_y
      case pos =>
        subst hke
        repeat' (first | (refine zZ.is ?_; first | refine zZ.seq ?_ | (refine zZ.iq 5 ?_; refine zZ.rqe _ K_0 K_2 ?_; (refine zY.v rfl rfl (by exact xP rfl rfl rfl (by exact gl) rfl (by decide)) ?_); refine zY.nil ?_) | (refine zZ.iq 6 ?_; refine zZ.rqe _ K_0 K_2 ?_; (refine zY.v rfl rfl (by exact xM rfl rfl rfl (by exact g2) (by rfl) rfl (by decide)) ?_); (refine zY.v rfl rfl (by exact wO rfl rfl (by exact Nat.le_of_ble_eq_true rfl) rfl (by decide)) ?_); (refine zY.m rfl rfl (zG rfl (by decide) rfl (by decide)) ?_); (refine zY.w rfl (by exact zH rfl rfl rfl rfl rfl (by rfl) (by exact Nat.le_of_ble_eq_true rfl) rfl rfl) ?_); refine zY.nil ?_) | (refine zZ.iq 7 ?_; refine zZ.rqe _ K_0 K_2 ?_; (refine zY.v rfl rfl (zK rfl rfl rfl (by decide)) ?_); (refine zY.v rfl rfl (zA rfl rfl rfl (by rfl) rfl (by decide)) ?_); (refine zY.v rfl rfl (zK rfl rfl rfl (by decide)) ?_); (refine zY.v rfl rfl (zA rfl rfl rfl (by rfl) rfl (by decide)) ?_); (refine zY.v rfl rfl (by exact vZ rfl rfl rfl (by exact gx _) rfl (by decide)) ?_); refine zY.nil ?_) | (refine zZ.iq 8 ?_; refine zZ.rqe _ K_0 K_2 ?_; (refine zY.v rfl rfl (zK rfl rfl rfl (by decide)) ?_); (refine zY.v rfl rfl (zA rfl rfl rfl (by rfl) rfl (by decide)) ?_); (refine zY.v rfl rfl (zJ rfl rfl rfl (by decide)) ?_); (refine zY.v rfl rfl (zT rfl rfl rfl (by rfl) (by rfl) rfl (by decide)) ?_); (refine zY.ofT rfl (zR.eRet [] (FnE.ofFnT (turn1_fn old 0 i a b d xJ)) rfl (by decide) (wI rfl rfl) (by rfl) (wX (by decide) rfl (by repeat' exact trivial)) rfl rfl rfl rfl ?_)); (refine zY.v rfl rfl (xW rfl rfl rfl (by decide)) ?_); (refine zY.v rfl rfl (yY rfl rfl rfl rfl (by decide)) ?_); (refine zY.v rfl rfl (yY rfl rfl rfl rfl (by decide)) ?_); (refine zY.v rfl rfl (zV rfl rfl rfl (by decide)) ?_); (refine zY.v rfl rfl (zV rfl rfl rfl (by decide)) ?_); refine zY.nil ?_) | (refine zZ.iq 9 ?_; refine zZ.rqe _ K_0 K_2 ?_; (refine zY.v rfl rfl (zJ rfl rfl rfl (by decide)) ?_); (refine zY.v rfl rfl (zJ rfl rfl rfl (by decide)) ?_); (refine zY.v rfl rfl (by exact vZ rfl rfl rfl (by exact gx _) rfl (by decide)) ?_); refine zY.nil ?_) | (refine zZ.iq 12 ?_; refine zZ.rqf _ K_0 K_2 ?_; (refine zY.v rfl rfl (yO rfl rfl rfl (by rfl) (by rfl) rfl (by decide)) ?_); (refine zY.v rfl rfl (zJ rfl rfl rfl (by decide)) ?_); (refine zY.v rfl rfl (y8 rfl (by rfl) (by rfl) (by rfl) (by rfl) rfl (by decide)) ?_); (refine zY.w rfl (by exact zH rfl rfl rfl rfl rfl (by rfl) (by exact Nat.le_of_ble_eq_true rfl) rfl rfl) ?_); (refine zY.w rfl (by exact zH rfl rfl rfl rfl rfl (by rfl) (by exact Nat.le_of_ble_eq_true rfl) rfl rfl) ?_); refine zY.nil ?_) | refine zZ.yT rfl (by assumption) ?_ | refine zZ.yU rfl (by assumption) ?_ | refine zZ.skip ?_ | refine zZ.block ?_ | refine zZ.ret ?_) | refine zS.r ?_ | refine yA.r ?_)
        all_goals first
          | (have e : wS (ws.set i (xD 0 old a b).2) = wS ws := qZ hi h; rw [e]; exact ⟨by first | exact .inl rfl | exact .inr rfl, [1000], _, rfl, Sub.refl _, ⟨[.cell 4 26, .cell 5 77], rfl, by decide, .cons (.ag rfl rfl (by rfl) (by rfl)) (.cons (.v (.cellN rfl rfl (by rfl) (by rfl))) .nil)⟩, yD (by decide) rfl (by repeat' fail)⟩)
          | (have e : wS (ws.set i (xD 0 old a b).2) = wS ws := qZ hi (gx old); rw [e]; exact ⟨by first | exact .inl rfl | exact .inr rfl, [1000], _, rfl, Sub.refl _, ⟨[.cell 4 26, .cell 5 77], rfl, by decide, .cons (.ag rfl rfl (by rfl) (by rfl)) (.cons (.v (.cellN rfl rfl (by rfl) (by rfl))) .nil)⟩, yD (by decide) rfl (by repeat' first | exact trivial | rfl | constructor)⟩)
          | (have e : wS (ws.set i (xD 0 old a b).2) = yG 27 1 ((wds ws).set ((i : Nat) : Int).toNat (.val (.int .u64 (xD 0 old a b).2))) := rowZ_set ws i _; rw [e]; exact ⟨by first | exact .inl rfl | exact .inr rfl, [54], _, rfl, Sub.refl _, ⟨[.cell 4 26, .cell 5 77], rfl, by decide, .cons (.ag rfl rfl (by rfl) (by rfl)) (.cons (.v (.cellN rfl rfl (by rfl) (by rfl))) .nil)⟩, yD (by decide) rfl (by repeat' fail)⟩)
    · have gl : decide (((1 : Nat) : Int) < 5) = true := rfl
      by_cases hke : kd = 1
      case neg =>
        have gw : IntKind.i64.wrap (((1 : Nat) : Int) + 1) = ((2 : Nat) : Int) := rfl
        have gd : (!decide ((1 : Int) = kd)) = true := by simp; omega
        repeat' (first | (refine zZ.is ?_; first | refine zZ.seq ?_ | (refine zZ.iq 5 ?_; refine zZ.rqe _ K_0 K_2 ?_; (refine zY.v rfl rfl (by exact xP rfl rfl rfl (by exact gl) rfl (by decide)) ?_); refine zY.nil ?_) | (refine zZ.iq 6 ?_; refine zZ.rqe _ K_0 K_2 ?_; (refine zY.v rfl rfl (by exact xM rfl rfl rfl (by exact g2) (by rfl) rfl (by decide)) ?_); (refine zY.v rfl rfl (by exact wO rfl rfl (by exact Nat.le_of_ble_eq_true rfl) rfl (by decide)) ?_); (refine zY.m rfl rfl (zG rfl (by decide) rfl (by decide)) ?_); (refine zY.w rfl (by exact zH rfl rfl rfl rfl rfl (by rfl) (by exact Nat.le_of_ble_eq_true rfl) rfl rfl) ?_); refine zY.nil ?_) | (refine zZ.iq 7 ?_; refine zZ.rqe _ K_0 K_2 ?_; (refine zY.v rfl rfl (zK rfl rfl rfl (by decide)) ?_); (refine zY.v rfl rfl (zA rfl rfl rfl (by rfl) rfl (by decide)) ?_); (refine zY.v rfl rfl (zK rfl rfl rfl (by decide)) ?_); (refine zY.v rfl rfl (zA rfl rfl rfl (by rfl) rfl (by decide)) ?_); (refine zY.v rfl rfl (by exact vZ rfl rfl rfl (by exact gd) rfl (by decide)) ?_); refine zY.nil ?_) | (refine zZ.iq 13 ?_; refine zZ.rqe _ K_0 K_2 ?_; (refine zY.v rfl rfl (by exact q9 rfl rfl rfl (by exact gw) rfl (by decide)) ?_); (refine zY.v rfl rfl (zJ rfl rfl rfl (by decide)) ?_); refine zY.nil ?_) | refine zZ.yT rfl (by assumption) ?_ | refine zZ.skip ?_ | refine zZ.block ?_ | refine zZ.exit ?_) | refine zS.n ?_)
        refine ⟨2, ?_, (by omega), by decide⟩
        exact yS K_e K_y
      case pos =>
        subst hke
        repeat' (first | (refine zZ.is ?_; first | refine zZ.seq ?_ | (refine zZ.iq 5 ?_; refine zZ.rqe _ K_0 K_2 ?_; (refine zY.v rfl rfl (by exact xP rfl rfl rfl (by exact gl) rfl (by decide)) ?_); refine zY.nil ?_) | (refine zZ.iq 6 ?_; refine zZ.rqe _ K_0 K_2 ?_; (refine zY.v rfl rfl (by exact xM rfl rfl rfl (by exact g2) (by rfl) rfl (by decide)) ?_); (refine zY.v rfl rfl (by exact wO rfl rfl (by exact Nat.le_of_ble_eq_true rfl) rfl (by decide)) ?_); (refine zY.m rfl rfl (zG rfl (by decide) rfl (by decide)) ?_); (refine zY.w rfl (by exact zH rfl rfl rfl rfl rfl (by rfl) (by exact Nat.le_of_ble_eq_true rfl) rfl rfl) ?_); refine zY.nil ?_) | (refine zZ.iq 7 ?_; refine zZ.rqe _ K_0 K_2 ?_; (refine zY.v rfl rfl (zK rfl rfl rfl (by decide)) ?_); (refine zY.v rfl rfl (zA rfl rfl rfl (by rfl) rfl (by decide)) ?_); (refine zY.v rfl rfl (zK rfl rfl rfl (by decide)) ?_); (refine zY.v rfl rfl (zA rfl rfl rfl (by rfl) rfl (by decide)) ?_); (refine zY.v rfl rfl (by exact vZ rfl rfl rfl (by exact gx _) rfl (by decide)) ?_); refine zY.nil ?_) | (refine zZ.iq 8 ?_; refine zZ.rqe _ K_0 K_2 ?_; (refine zY.v rfl rfl (zK rfl rfl rfl (by decide)) ?_); (refine zY.v rfl rfl (zA rfl rfl rfl (by rfl) rfl (by decide)) ?_); (refine zY.v rfl rfl (zJ rfl rfl rfl (by decide)) ?_); (refine zY.v rfl rfl (zT rfl rfl rfl (by rfl) (by rfl) rfl (by decide)) ?_); (refine zY.ofT rfl (zR.eRet [] (FnE.ofFnT (turn2_fn old 1 i a b d xJ)) rfl (by decide) (wI rfl rfl) (by rfl) (wX (by decide) rfl (by repeat' exact trivial)) rfl rfl rfl rfl ?_)); (refine zY.v rfl rfl (xW rfl rfl rfl (by decide)) ?_); (refine zY.v rfl rfl (yY rfl rfl rfl rfl (by decide)) ?_); (refine zY.v rfl rfl (yY rfl rfl rfl rfl (by decide)) ?_); (refine zY.v rfl rfl (zV rfl rfl rfl (by decide)) ?_); (refine zY.v rfl rfl (zV rfl rfl rfl (by decide)) ?_); refine zY.nil ?_) | (refine zZ.iq 9 ?_; refine zZ.rqe _ K_0 K_2 ?_; (refine zY.v rfl rfl (zJ rfl rfl rfl (by decide)) ?_); (refine zY.v rfl rfl (zJ rfl rfl rfl (by decide)) ?_); (refine zY.v rfl rfl (vZ rfl rfl rfl (by rfl) rfl (by decide)) ?_); refine zY.nil ?_) | (refine zZ.isR (id := 10) ?_; refine zZ.sub ((sub_frzE 1000 27 1 (wds ws) rfl)) ?_; refine zZ.rqc _ K_0 K_2 ?_; (refine zY.v rfl rfl (zK rfl rfl rfl (by decide)) ?_); (refine zY.v rfl rfl (zA rfl rfl rfl (by rfl) rfl (by decide)) ?_); (refine zY.m rfl rfl (by exact vJ c1 rfl rfl rfl (by decide)) ?_); (refine zY.v rfl rfl (zK rfl rfl rfl (by decide)) ?_); (refine zY.w rfl (by exact vP rfl rfl rfl rfl rfl rfl (by exact Nat.le_of_ble_eq_true rfl) rfl rfl) ?_); refine zY.nil ?_) | (refine zZ.iq 11 ?_; refine zZ.rqf _ K_0 K_2 ?_; (refine zY.v rfl rfl (zK rfl rfl rfl (by decide)) ?_); (refine zY.v rfl rfl (vF rfl rfl rfl rfl rfl (by decide)) ?_); (refine zY.v rfl rfl (zK rfl rfl rfl (by decide)) ?_); (refine zY.v rfl rfl (zA rfl rfl rfl (by rfl) rfl (by decide)) ?_); (refine zY.v rfl rfl (zJ rfl rfl rfl (by decide)) ?_); (refine zY.v rfl rfl (by exact xH rfl rfl rfl rfl (by exact g6) rfl (by decide)) ?_); (refine zY.w rfl (by exact qC rfl rfl rfl rfl rfl (by exact g1) (by rfl) rfl (by exact g7) rfl) ?_); refine zY.nil ?_) | (refine zZ.iq 12 ?_; refine zZ.rqf _ K_0 K_2 ?_; (refine zY.v rfl rfl (yO rfl rfl rfl (by rfl) (by rfl) rfl (by decide)) ?_); (refine zY.v rfl rfl (zJ rfl rfl rfl (by decide)) ?_); (refine zY.v rfl rfl (y8 rfl (by rfl) (by rfl) (by rfl) (by rfl) rfl (by decide)) ?_); (refine zY.w rfl (by exact zH rfl rfl rfl rfl rfl (by rfl) (by exact Nat.le_of_ble_eq_true rfl) rfl rfl) ?_); (refine zY.w rfl (by exact zH rfl rfl rfl rfl rfl (by rfl) (by exact Nat.le_of_ble_eq_true rfl) rfl rfl) ?_); refine zY.nil ?_) | refine zZ.yT rfl (by assumption) ?_ | refine zZ.yU rfl (by assumption) ?_ | refine zZ.cond rfl (fun h => ?_) (fun h => ?_) | refine zZ.skip ?_ | refine zZ.block ?_ | refine zZ.ret ?_) | refine zS.r ?_ | refine yA.r ?_)
        all_goals first
          | (have e : wS (ws.set i (xD 1 old a b).2) = wS ws := qZ hi h; rw [e]; exact ⟨by first | exact .inl rfl | exact .inr rfl, [1000], _, rfl, Sub.refl _, ⟨[.cell 4 26, .cell 5 77], rfl, by decide, .cons (.ag rfl rfl (by rfl) (by rfl)) (.cons (.v (.cellN rfl rfl (by rfl) (by rfl))) .nil)⟩, yD (by decide) rfl (by repeat' first | exact trivial | rfl | constructor)⟩)
          | (have e : wS (ws.set i (xD 1 old a b).2) = wS ws := qZ hi (gx old); rw [e]; exact ⟨by first | exact .inl rfl | exact .inr rfl, [1000], _, rfl, Sub.refl _, ⟨[.cell 4 26, .cell 5 77], rfl, by decide, .cons (.ag rfl rfl (by rfl) (by rfl)) (.cons (.v (.cellN rfl rfl (by rfl) (by rfl))) .nil)⟩, yD (by decide) rfl (by repeat' fail)⟩)
          | (have e : wS (ws.set i (xD 1 old a b).2) = yG 27 1 ((wds ws).set ((i : Nat) : Int).toNat (.val (.int .u64 (xD 1 old a b).2))) := rowZ_set ws i _; rw [e]; exact ⟨by first | exact .inl rfl | exact .inr rfl, [54], _, rfl, Sub.refl _, ⟨[.cell 4 26, .cell 5 77], rfl, by decide, .cons (.ag rfl rfl (by rfl) (by rfl)) (.cons (.v (.cellN rfl rfl (by rfl) (by rfl))) .nil)⟩, yD (by decide) rfl (by repeat' first | exact trivial | rfl | constructor)⟩)
    · have gl : decide (((2 : Nat) : Int) < 5) = true := rfl
      by_cases hke : kd = 2
      case neg =>
        have gw : IntKind.i64.wrap (((2 : Nat) : Int) + 1) = ((3 : Nat) : Int) := rfl
        have gd : (!decide ((2 : Int) = kd)) = true := by simp; omega
        repeat' (first | (refine zZ.is ?_; first | refine zZ.seq ?_ | (refine zZ.iq 5 ?_; refine zZ.rqe _ K_0 K_2 ?_; (refine zY.v rfl rfl (by exact xP rfl rfl rfl (by exact gl) rfl (by decide)) ?_); refine zY.nil ?_) | (refine zZ.iq 6 ?_; refine zZ.rqe _ K_0 K_2 ?_; (refine zY.v rfl rfl (by exact xM rfl rfl rfl (by exact g2) (by rfl) rfl (by decide)) ?_); (refine zY.v rfl rfl (by exact wO rfl rfl (by exact Nat.le_of_ble_eq_true rfl) rfl (by decide)) ?_); (refine zY.m rfl rfl (zG rfl (by decide) rfl (by decide)) ?_); (refine zY.w rfl (by exact zH rfl rfl rfl rfl rfl (by rfl) (by exact Nat.le_of_ble_eq_true rfl) rfl rfl) ?_); refine zY.nil ?_) | (refine zZ.iq 7 ?_; refine zZ.rqe _ K_0 K_2 ?_; (refine zY.v rfl rfl (zK rfl rfl rfl (by decide)) ?_); (refine zY.v rfl rfl (zA rfl rfl rfl (by rfl) rfl (by decide)) ?_); (refine zY.v rfl rfl (zK rfl rfl rfl (by decide)) ?_); (refine zY.v rfl rfl (zA rfl rfl rfl (by rfl) rfl (by decide)) ?_); (refine zY.v rfl rfl (by exact vZ rfl rfl rfl (by exact gd) rfl (by decide)) ?_); refine zY.nil ?_) | (refine zZ.iq 13 ?_; refine zZ.rqe _ K_0 K_2 ?_; (refine zY.v rfl rfl (by exact q9 rfl rfl rfl (by exact gw) rfl (by decide)) ?_); (refine zY.v rfl rfl (zJ rfl rfl rfl (by decide)) ?_); refine zY.nil ?_) | refine zZ.yT rfl (by assumption) ?_ | refine zZ.skip ?_ | refine zZ.block ?_ | refine zZ.exit ?_) | refine zS.n ?_)
        refine ⟨3, ?_, (by omega), by decide⟩
        exact yS K_e K_y
      case pos =>
        subst hke
        repeat' (first | (refine zZ.is ?_; first | refine zZ.seq ?_ | (refine zZ.iq 5 ?_; refine zZ.rqe _ K_0 K_2 ?_; (refine zY.v rfl rfl (by exact xP rfl rfl rfl (by exact gl) rfl (by decide)) ?_); refine zY.nil ?_) | (refine zZ.iq 6 ?_; refine zZ.rqe _ K_0 K_2 ?_; (refine zY.v rfl rfl (by exact xM rfl rfl rfl (by exact g2) (by rfl) rfl (by decide)) ?_); (refine zY.v rfl rfl (by exact wO rfl rfl (by exact Nat.le_of_ble_eq_true rfl) rfl (by decide)) ?_); (refine zY.m rfl rfl (zG rfl (by decide) rfl (by decide)) ?_); (refine zY.w rfl (by exact zH rfl rfl rfl rfl rfl (by rfl) (by exact Nat.le_of_ble_eq_true rfl) rfl rfl) ?_); refine zY.nil ?_) | (refine zZ.iq 7 ?_; refine zZ.rqe _ K_0 K_2 ?_; (refine zY.v rfl rfl (zK rfl rfl rfl (by decide)) ?_); (refine zY.v rfl rfl (zA rfl rfl rfl (by rfl) rfl (by decide)) ?_); (refine zY.v rfl rfl (zK rfl rfl rfl (by decide)) ?_); (refine zY.v rfl rfl (zA rfl rfl rfl (by rfl) rfl (by decide)) ?_); (refine zY.v rfl rfl (by exact vZ rfl rfl rfl (by exact gx _) rfl (by decide)) ?_); refine zY.nil ?_) | (refine zZ.iq 8 ?_; refine zZ.rqe _ K_0 K_2 ?_; (refine zY.v rfl rfl (zK rfl rfl rfl (by decide)) ?_); (refine zY.v rfl rfl (zA rfl rfl rfl (by rfl) rfl (by decide)) ?_); (refine zY.v rfl rfl (zJ rfl rfl rfl (by decide)) ?_); (refine zY.v rfl rfl (zT rfl rfl rfl (by rfl) (by rfl) rfl (by decide)) ?_); (refine zY.ofT rfl (zR.eRet [] (FnE.ofFnT (turn3_fn old 2 i a b d xJ)) rfl (by decide) (wI rfl rfl) (by rfl) (wX (by decide) rfl (by repeat' exact trivial)) rfl rfl rfl rfl ?_)); (refine zY.v rfl rfl (xW rfl rfl rfl (by decide)) ?_); (refine zY.v rfl rfl (yY rfl rfl rfl rfl (by decide)) ?_); (refine zY.v rfl rfl (yY rfl rfl rfl rfl (by decide)) ?_); (refine zY.v rfl rfl (zV rfl rfl rfl (by decide)) ?_); (refine zY.v rfl rfl (zV rfl rfl rfl (by decide)) ?_); refine zY.nil ?_) | (refine zZ.iq 9 ?_; refine zZ.rqe _ K_0 K_2 ?_; (refine zY.v rfl rfl (zJ rfl rfl rfl (by decide)) ?_); (refine zY.v rfl rfl (zJ rfl rfl rfl (by decide)) ?_); (refine zY.v rfl rfl (vZ rfl rfl rfl (by rfl) rfl (by decide)) ?_); refine zY.nil ?_) | (refine zZ.isR (id := 10) ?_; refine zZ.sub ((sub_frzE 1000 27 1 (wds ws) rfl)) ?_; refine zZ.rqc _ K_0 K_2 ?_; (refine zY.v rfl rfl (zK rfl rfl rfl (by decide)) ?_); (refine zY.v rfl rfl (zA rfl rfl rfl (by rfl) rfl (by decide)) ?_); (refine zY.m rfl rfl (by exact vJ c1 rfl rfl rfl (by decide)) ?_); (refine zY.v rfl rfl (zK rfl rfl rfl (by decide)) ?_); (refine zY.w rfl (by exact vP rfl rfl rfl rfl rfl rfl (by exact Nat.le_of_ble_eq_true rfl) rfl rfl) ?_); refine zY.nil ?_) | (refine zZ.iq 11 ?_; refine zZ.rqf _ K_0 K_2 ?_; (refine zY.v rfl rfl (zK rfl rfl rfl (by decide)) ?_); (refine zY.v rfl rfl (vF rfl rfl rfl rfl rfl (by decide)) ?_); (refine zY.v rfl rfl (zK rfl rfl rfl (by decide)) ?_); (refine zY.v rfl rfl (zA rfl rfl rfl (by rfl) rfl (by decide)) ?_); (refine zY.v rfl rfl (zJ rfl rfl rfl (by decide)) ?_); (refine zY.v rfl rfl (by exact xH rfl rfl rfl rfl (by exact g6) rfl (by decide)) ?_); (refine zY.w rfl (by exact qC rfl rfl rfl rfl rfl (by exact g1) (by rfl) rfl (by exact g7) rfl) ?_); refine zY.nil ?_) | (refine zZ.iq 12 ?_; refine zZ.rqf _ K_0 K_2 ?_; (refine zY.v rfl rfl (yO rfl rfl rfl (by rfl) (by rfl) rfl (by decide)) ?_); (refine zY.v rfl rfl (zJ rfl rfl rfl (by decide)) ?_); (refine zY.v rfl rfl (y8 rfl (by rfl) (by rfl) (by rfl) (by rfl) rfl (by decide)) ?_); (refine zY.w rfl (by exact zH rfl rfl rfl rfl rfl (by rfl) (by exact Nat.le_of_ble_eq_true rfl) rfl rfl) ?_); (refine zY.w rfl (by exact zH rfl rfl rfl rfl rfl (by rfl) (by exact Nat.le_of_ble_eq_true rfl) rfl rfl) ?_); refine zY.nil ?_) | refine zZ.yT rfl (by assumption) ?_ | refine zZ.yU rfl (by assumption) ?_ | refine zZ.cond rfl (fun h => ?_) (fun h => ?_) | refine zZ.skip ?_ | refine zZ.block ?_ | refine zZ.ret ?_) | refine zS.r ?_ | refine yA.r ?_)
        all_goals first
          | (have e : wS (ws.set i (xD 2 old a b).2) = wS ws := qZ hi h; rw [e]; exact ⟨by first | exact .inl rfl | exact .inr rfl, [1000], _, rfl, Sub.refl _, ⟨[.cell 4 26, .cell 5 77], rfl, by decide, .cons (.ag rfl rfl (by rfl) (by rfl)) (.cons (.v (.cellN rfl rfl (by rfl) (by rfl))) .nil)⟩, yD (by decide) rfl (by repeat' first | exact trivial | rfl | constructor)⟩)
          | (have e : wS (ws.set i (xD 2 old a b).2) = wS ws := qZ hi (gx old); rw [e]; exact ⟨by first | exact .inl rfl | exact .inr rfl, [1000], _, rfl, Sub.refl _, ⟨[.cell 4 26, .cell 5 77], rfl, by decide, .cons (.ag rfl rfl (by rfl) (by rfl)) (.cons (.v (.cellN rfl rfl (by rfl) (by rfl))) .nil)⟩, yD (by decide) rfl (by repeat' fail)⟩)
          | (have e : wS (ws.set i (xD 2 old a b).2) = yG 27 1 ((wds ws).set ((i : Nat) : Int).toNat (.val (.int .u64 (xD 2 old a b).2))) := rowZ_set ws i _; rw [e]; exact ⟨by first | exact .inl rfl | exact .inr rfl, [54], _, rfl, Sub.refl _, ⟨[.cell 4 26, .cell 5 77], rfl, by decide, .cons (.ag rfl rfl (by rfl) (by rfl)) (.cons (.v (.cellN rfl rfl (by rfl) (by rfl))) .nil)⟩, yD (by decide) rfl (by repeat' first | exact trivial | rfl | constructor)⟩)
    · have gl : decide (((3 : Nat) : Int) < 5) = true := rfl
      by_cases hke : kd = 3
      case neg =>
        have gw : IntKind.i64.wrap (((3 : Nat) : Int) + 1) = ((4 : Nat) : Int) := rfl
        have gd : (!decide ((3 : Int) = kd)) = true := by simp; omega
        repeat' (first | (refine zZ.is ?_; first | refine zZ.seq ?_ | (refine zZ.iq 5 ?_; refine zZ.rqe _ K_0 K_2 ?_; (refine zY.v rfl rfl (by exact xP rfl rfl rfl (by exact gl) rfl (by decide)) ?_); refine zY.nil ?_) | (refine zZ.iq 6 ?_; refine zZ.rqe _ K_0 K_2 ?_; (refine zY.v rfl rfl (by exact xM rfl rfl rfl (by exact g2) (by rfl) rfl (by decide)) ?_); (refine zY.v rfl rfl (by exact wO rfl rfl (by exact Nat.le_of_ble_eq_true rfl) rfl (by decide)) ?_); (refine zY.m rfl rfl (zG rfl (by decide) rfl (by decide)) ?_); (refine zY.w rfl (by exact zH rfl rfl rfl rfl rfl (by rfl) (by exact Nat.le_of_ble_eq_true rfl) rfl rfl) ?_); refine zY.nil ?_) | (refine zZ.iq 7 ?_; refine zZ.rqe _ K_0 K_2 ?_; (refine zY.v rfl rfl (zK rfl rfl rfl (by decide)) ?_); (refine zY.v rfl rfl (zA rfl rfl rfl (by rfl) rfl (by decide)) ?_); (refine zY.v rfl rfl (zK rfl rfl rfl (by decide)) ?_); (refine zY.v rfl rfl (zA rfl rfl rfl (by rfl) rfl (by decide)) ?_); (refine zY.v rfl rfl (by exact vZ rfl rfl rfl (by exact gd) rfl (by decide)) ?_); refine zY.nil ?_) | (refine zZ.iq 13 ?_; refine zZ.rqe _ K_0 K_2 ?_; (refine zY.v rfl rfl (by exact q9 rfl rfl rfl (by exact gw) rfl (by decide)) ?_); (refine zY.v rfl rfl (zJ rfl rfl rfl (by decide)) ?_); refine zY.nil ?_) | refine zZ.yT rfl (by assumption) ?_ | refine zZ.skip ?_ | refine zZ.block ?_ | refine zZ.exit ?_) | refine zS.n ?_)
        refine ⟨4, ?_, (by omega), by decide⟩
        exact yS K_e K_y
      case pos =>
        subst hke
        repeat' (first | (refine zZ.is ?_; first | refine zZ.seq ?_ | (refine zZ.iq 5 ?_; refine zZ.rqe _ K_0 K_2 ?_; (refine zY.v rfl rfl (by exact xP rfl rfl rfl (by exact gl) rfl (by decide)) ?_); refine zY.nil ?_) | (refine zZ.iq 6 ?_; refine zZ.rqe _ K_0 K_2 ?_; (refine zY.v rfl rfl (by exact xM rfl rfl rfl (by exact g2) (by rfl) rfl (by decide)) ?_); (refine zY.v rfl rfl (by exact wO rfl rfl (by exact Nat.le_of_ble_eq_true rfl) rfl (by decide)) ?_); (refine zY.m rfl rfl (zG rfl (by decide) rfl (by decide)) ?_); (refine zY.w rfl (by exact zH rfl rfl rfl rfl rfl (by rfl) (by exact Nat.le_of_ble_eq_true rfl) rfl rfl) ?_); refine zY.nil ?_) | (refine zZ.iq 7 ?_; refine zZ.rqe _ K_0 K_2 ?_; (refine zY.v rfl rfl (zK rfl rfl rfl (by decide)) ?_); (refine zY.v rfl rfl (zA rfl rfl rfl (by rfl) rfl (by decide)) ?_); (refine zY.v rfl rfl (zK rfl rfl rfl (by decide)) ?_); (refine zY.v rfl rfl (zA rfl rfl rfl (by rfl) rfl (by decide)) ?_); (refine zY.v rfl rfl (by exact vZ rfl rfl rfl (by exact gx _) rfl (by decide)) ?_); refine zY.nil ?_) | (refine zZ.iq 8 ?_; refine zZ.rqe _ K_0 K_2 ?_; (refine zY.v rfl rfl (zK rfl rfl rfl (by decide)) ?_); (refine zY.v rfl rfl (zA rfl rfl rfl (by rfl) rfl (by decide)) ?_); (refine zY.v rfl rfl (zJ rfl rfl rfl (by decide)) ?_); (refine zY.v rfl rfl (zT rfl rfl rfl (by rfl) (by rfl) rfl (by decide)) ?_); (refine zY.ofT rfl (zR.eRet [] (FnE.ofFnT (turn4_fn old 3 i a b d xJ)) rfl (by decide) (wI rfl rfl) (by rfl) (wX (by decide) rfl (by repeat' exact trivial)) rfl rfl rfl rfl ?_)); (refine zY.v rfl rfl (xW rfl rfl rfl (by decide)) ?_); (refine zY.v rfl rfl (yY rfl rfl rfl rfl (by decide)) ?_); (refine zY.v rfl rfl (yY rfl rfl rfl rfl (by decide)) ?_); (refine zY.v rfl rfl (zV rfl rfl rfl (by decide)) ?_); (refine zY.v rfl rfl (zV rfl rfl rfl (by decide)) ?_); refine zY.nil ?_) | (refine zZ.iq 9 ?_; refine zZ.rqe _ K_0 K_2 ?_; (refine zY.v rfl rfl (zJ rfl rfl rfl (by decide)) ?_); (refine zY.v rfl rfl (zJ rfl rfl rfl (by decide)) ?_); (refine zY.v rfl rfl (vZ rfl rfl rfl (by rfl) rfl (by decide)) ?_); refine zY.nil ?_) | (refine zZ.isR (id := 10) ?_; refine zZ.sub ((sub_frzE 1000 27 1 (wds ws) rfl)) ?_; refine zZ.rqc _ K_0 K_2 ?_; (refine zY.v rfl rfl (zK rfl rfl rfl (by decide)) ?_); (refine zY.v rfl rfl (zA rfl rfl rfl (by rfl) rfl (by decide)) ?_); (refine zY.m rfl rfl (by exact vJ c1 rfl rfl rfl (by decide)) ?_); (refine zY.v rfl rfl (zK rfl rfl rfl (by decide)) ?_); (refine zY.w rfl (by exact vP rfl rfl rfl rfl rfl rfl (by exact Nat.le_of_ble_eq_true rfl) rfl rfl) ?_); refine zY.nil ?_) | (refine zZ.iq 11 ?_; refine zZ.rqf _ K_0 K_2 ?_; (refine zY.v rfl rfl (zK rfl rfl rfl (by decide)) ?_); (refine zY.v rfl rfl (vF rfl rfl rfl rfl rfl (by decide)) ?_); (refine zY.v rfl rfl (zK rfl rfl rfl (by decide)) ?_); (refine zY.v rfl rfl (zA rfl rfl rfl (by rfl) rfl (by decide)) ?_); (refine zY.v rfl rfl (zJ rfl rfl rfl (by decide)) ?_); (refine zY.v rfl rfl (by exact xH rfl rfl rfl rfl (by exact g6) rfl (by decide)) ?_); (refine zY.w rfl (by exact qC rfl rfl rfl rfl rfl (by exact g1) (by rfl) rfl (by exact g7) rfl) ?_); refine zY.nil ?_) | (refine zZ.iq 12 ?_; refine zZ.rqf _ K_0 K_2 ?_; (refine zY.v rfl rfl (yO rfl rfl rfl (by rfl) (by rfl) rfl (by decide)) ?_); (refine zY.v rfl rfl (zJ rfl rfl rfl (by decide)) ?_); (refine zY.v rfl rfl (y8 rfl (by rfl) (by rfl) (by rfl) (by rfl) rfl (by decide)) ?_); (refine zY.w rfl (by exact zH rfl rfl rfl rfl rfl (by rfl) (by exact Nat.le_of_ble_eq_true rfl) rfl rfl) ?_); (refine zY.w rfl (by exact zH rfl rfl rfl rfl rfl (by rfl) (by exact Nat.le_of_ble_eq_true rfl) rfl rfl) ?_); refine zY.nil ?_) | refine zZ.yT rfl (by assumption) ?_ | refine zZ.yU rfl (by assumption) ?_ | refine zZ.cond rfl (fun h => ?_) (fun h => ?_) | refine zZ.skip ?_ | refine zZ.block ?_ | refine zZ.ret ?_) | refine zS.r ?_ | refine yA.r ?_)
        all_goals first
          | (have e : wS (ws.set i (xD 3 old a b).2) = wS ws := qZ hi h; rw [e]; exact ⟨by first | exact .inl rfl | exact .inr rfl, [1000], _, rfl, Sub.refl _, ⟨[.cell 4 26, .cell 5 77], rfl, by decide, .cons (.ag rfl rfl (by rfl) (by rfl)) (.cons (.v (.cellN rfl rfl (by rfl) (by rfl))) .nil)⟩, yD (by decide) rfl (by repeat' first | exact trivial | rfl | constructor)⟩)
          | (have e : wS (ws.set i (xD 3 old a b).2) = wS ws := qZ hi (gx old); rw [e]; exact ⟨by first | exact .inl rfl | exact .inr rfl, [1000], _, rfl, Sub.refl _, ⟨[.cell 4 26, .cell 5 77], rfl, by decide, .cons (.ag rfl rfl (by rfl) (by rfl)) (.cons (.v (.cellN rfl rfl (by rfl) (by rfl))) .nil)⟩, yD (by decide) rfl (by repeat' fail)⟩)
          | (have e : wS (ws.set i (xD 3 old a b).2) = yG 27 1 ((wds ws).set ((i : Nat) : Int).toNat (.val (.int .u64 (xD 3 old a b).2))) := rowZ_set ws i _; rw [e]; exact ⟨by first | exact .inl rfl | exact .inr rfl, [54], _, rfl, Sub.refl _, ⟨[.cell 4 26, .cell 5 77], rfl, by decide, .cons (.ag rfl rfl (by rfl) (by rfl)) (.cons (.v (.cellN rfl rfl (by rfl) (by rfl))) .nil)⟩, yD (by decide) rfl (by repeat' first | exact trivial | rfl | constructor)⟩)
    · have gl : decide (((4 : Nat) : Int) < 5) = true := rfl
      obtain rfl : kd = 4 := by omega
      repeat' (first | (refine zZ.is ?_; first | refine zZ.seq ?_ | (refine zZ.iq 5 ?_; refine zZ.rqe _ K_0 K_2 ?_; (refine zY.v rfl rfl (by exact xP rfl rfl rfl (by exact gl) rfl (by decide)) ?_); refine zY.nil ?_) | (refine zZ.iq 6 ?_; refine zZ.rqe _ K_0 K_2 ?_; (refine zY.v rfl rfl (by exact xM rfl rfl rfl (by exact g2) (by rfl) rfl (by decide)) ?_); (refine zY.v rfl rfl (by exact wO rfl rfl (by exact Nat.le_of_ble_eq_true rfl) rfl (by decide)) ?_); (refine zY.m rfl rfl (zG rfl (by decide) rfl (by decide)) ?_); (refine zY.w rfl (by exact zH rfl rfl rfl rfl rfl (by rfl) (by exact Nat.le_of_ble_eq_true rfl) rfl rfl) ?_); refine zY.nil ?_) | (refine zZ.iq 7 ?_; refine zZ.rqe _ K_0 K_2 ?_; (refine zY.v rfl rfl (zK rfl rfl rfl (by decide)) ?_); (refine zY.v rfl rfl (zA rfl rfl rfl (by rfl) rfl (by decide)) ?_); (refine zY.v rfl rfl (zK rfl rfl rfl (by decide)) ?_); (refine zY.v rfl rfl (zA rfl rfl rfl (by rfl) rfl (by decide)) ?_); (refine zY.v rfl rfl (by exact vZ rfl rfl rfl (by exact gx _) rfl (by decide)) ?_); refine zY.nil ?_) | (refine zZ.iq 8 ?_; refine zZ.rqe _ K_0 K_2 ?_; (refine zY.v rfl rfl (zK rfl rfl rfl (by decide)) ?_); (refine zY.v rfl rfl (zA rfl rfl rfl (by rfl) rfl (by decide)) ?_); (refine zY.v rfl rfl (zJ rfl rfl rfl (by decide)) ?_); (refine zY.v rfl rfl (zT rfl rfl rfl (by rfl) (by rfl) rfl (by decide)) ?_); (refine zY.ofT rfl (zR.eRet [] (FnE.ofFnT (turn5_fn old 4 i a b d xJ)) rfl (by decide) (wI rfl rfl) (by rfl) (wX (by decide) rfl (by repeat' exact trivial)) rfl rfl rfl rfl ?_)); (refine zY.v rfl rfl (xW rfl rfl rfl (by decide)) ?_); (refine zY.v rfl rfl (yY rfl rfl rfl rfl (by decide)) ?_); (refine zY.v rfl rfl (yY rfl rfl rfl rfl (by decide)) ?_); (refine zY.v rfl rfl (zV rfl rfl rfl (by decide)) ?_); (refine zY.v rfl rfl (zV rfl rfl rfl (by decide)) ?_); refine zY.nil ?_) | (refine zZ.iq 9 ?_; refine zZ.rqe _ K_0 K_2 ?_; (refine zY.v rfl rfl (zJ rfl rfl rfl (by decide)) ?_); (refine zY.v rfl rfl (zJ rfl rfl rfl (by decide)) ?_); (refine zY.v rfl rfl (vZ rfl rfl rfl (by rfl) rfl (by decide)) ?_); refine zY.nil ?_) | (refine zZ.isR (id := 10) ?_; refine zZ.sub ((sub_frzE 1000 27 1 (wds ws) rfl)) ?_; refine zZ.rqc _ K_0 K_2 ?_; (refine zY.v rfl rfl (zK rfl rfl rfl (by decide)) ?_); (refine zY.v rfl rfl (zA rfl rfl rfl (by rfl) rfl (by decide)) ?_); (refine zY.m rfl rfl (by exact vJ c1 rfl rfl rfl (by decide)) ?_); (refine zY.v rfl rfl (zK rfl rfl rfl (by decide)) ?_); (refine zY.w rfl (by exact vP rfl rfl rfl rfl rfl rfl (by exact Nat.le_of_ble_eq_true rfl) rfl rfl) ?_); refine zY.nil ?_) | (refine zZ.iq 11 ?_; refine zZ.rqf _ K_0 K_2 ?_; (refine zY.v rfl rfl (zK rfl rfl rfl (by decide)) ?_); (refine zY.v rfl rfl (vF rfl rfl rfl rfl rfl (by decide)) ?_); (refine zY.v rfl rfl (zK rfl rfl rfl (by decide)) ?_); (refine zY.v rfl rfl (zA rfl rfl rfl (by rfl) rfl (by decide)) ?_); (refine zY.v rfl rfl (zJ rfl rfl rfl (by decide)) ?_); (refine zY.v rfl rfl (by exact xH rfl rfl rfl rfl (by exact g6) rfl (by decide)) ?_); (refine zY.w rfl (by exact qC rfl rfl rfl rfl rfl (by exact g1) (by rfl) rfl (by exact g7) rfl) ?_); refine zY.nil ?_) | (refine zZ.iq 12 ?_; refine zZ.rqf _ K_0 K_2 ?_; (refine zY.v rfl rfl (yO rfl rfl rfl (by rfl) (by rfl) rfl (by decide)) ?_); (refine zY.v rfl rfl (zJ rfl rfl rfl (by decide)) ?_); (refine zY.v rfl rfl (y8 rfl (by rfl) (by rfl) (by rfl) (by rfl) rfl (by decide)) ?_); (refine zY.w rfl (by exact zH rfl rfl rfl rfl rfl (by rfl) (by exact Nat.le_of_ble_eq_true rfl) rfl rfl) ?_); (refine zY.w rfl (by exact zH rfl rfl rfl rfl rfl (by rfl) (by exact Nat.le_of_ble_eq_true rfl) rfl rfl) ?_); refine zY.nil ?_) | refine zZ.yT rfl (by assumption) ?_ | refine zZ.yU rfl (by assumption) ?_ | refine zZ.cond rfl (fun h => ?_) (fun h => ?_) | refine zZ.skip ?_ | refine zZ.block ?_ | refine zZ.ret ?_) | refine zS.r ?_ | refine yA.r ?_)
      all_goals first
        | (have e : wS (ws.set i (xD 4 old a b).2) = wS ws := qZ hi h; rw [e]; exact ⟨by first | exact .inl rfl | exact .inr rfl, [1000], _, rfl, Sub.refl _, ⟨[.cell 4 26, .cell 5 77], rfl, by decide, .cons (.ag rfl rfl (by rfl) (by rfl)) (.cons (.v (.cellN rfl rfl (by rfl) (by rfl))) .nil)⟩, yD (by decide) rfl (by repeat' first | exact trivial | rfl | constructor)⟩)
        | (have e : wS (ws.set i (xD 4 old a b).2) = wS ws := qZ hi (gx old); rw [e]; exact ⟨by first | exact .inl rfl | exact .inr rfl, [1000], _, rfl, Sub.refl _, ⟨[.cell 4 26, .cell 5 77], rfl, by decide, .cons (.ag rfl rfl (by rfl) (by rfl)) (.cons (.v (.cellN rfl rfl (by rfl) (by rfl))) .nil)⟩, yD (by decide) rfl (by repeat' fail)⟩)
        | (have e : wS (ws.set i (xD 4 old a b).2) = yG 27 1 ((wds ws).set ((i : Nat) : Int).toNat (.val (.int .u64 (xD 4 old a b).2))) := rowZ_set ws i _; rw [e]; exact ⟨by first | exact .inl rfl | exact .inr rfl, [54], _, rfl, Sub.refl _, ⟨[.cell 4 26, .cell 5 77], rfl, by decide, .cons (.ag rfl rfl (by rfl) (by rfl)) (.cons (.v (.cellN rfl rfl (by rfl) (by rfl))) .nil)⟩, yD (by decide) rfl (by repeat' first | exact trivial | rfl | constructor)⟩)
end Go.Proofs.YteadaggehndacaaDoor
/- An access, in a world whose words its caller owns: contracts. -/
namespace Go.Proofs.YteadaggehndacaaDoor
set_option maxRecDepth 100000
set_option maxHeartbeats 16000000
open Go Go.RowKit
set_option linter.unusedSimpArgs false
set_option linter.unusedVariables false
attribute [local irreducible] zY zZ Step zQ Sub zO zR Fn
theorem wordsOutZ_fn (t c kd cell a b : Int) (ws : List Int) (d : PV) (hi : cell < 0 ∨ (ws.length : Int) ≤ cell) :
    FnZL Tryd.prog 51 [memA t c, .p (accV kd cell a b d)] [] [wS ws] [memA t c, .p (resN 0)] [] [wS ws] := by
  by_cases hn : cell < 0
  case pos =>
    have g4 : decide (cell < 0) = true := decide_eq_true hn
    refine fn_ofZL Tryd.func51 rfl Tryd.ntmps51 (Nat.le_of_ble_eq_true rfl) (Nat.le_of_ble_eq_true rfl) rfl ?_
    repeat' (first | (refine zZ.is ?_; first | refine zZ.seq ?_ | (refine zZ.isR (id := 0) ?_; refine zZ.yZ [0, 1] [2, 3, 4, 5, 8, 1000] (by repeat' first | exact zX.nil | apply zX.p rfl | apply zX.ag rfl) (by repeat' first | exact zW.nil | apply zW.some rfl | apply zW.skip) ?_; (refine zY.m rfl rfl (w_boxAg rfl rfl rfl (by decide)) ?_); (refine zY.m rfl rfl (yP rfl rfl rfl (by decide)) ?_); (refine zY.m rfl rfl (zG rfl (by decide) rfl (by decide)) ?_); (refine zY.m rfl rfl (zG rfl (by decide) rfl (by decide)) ?_); refine zY.nil ?_) | (refine zZ.iq 1 ?_; refine zZ.rqh _ K_4 K_13 ?_; all_goals (refine zY.v rfl rfl (zK rfl rfl rfl (by decide)) ?_); all_goals (refine zY.v rfl rfl (zA rfl rfl rfl (by rfl) rfl (by decide)) ?_); all_goals (refine zY.v rfl rfl (by exact xP rfl rfl rfl (by exact g4) rfl (by decide)) ?_); all_goals (refine zY.v rfl rfl (zJ rfl rfl rfl (by decide)) ?_); all_goals (refine zY.gnF rfl rfl (by decide) rfl (by with_reducible rfl) rfl (by decide) ?_); all_goals (refine zY.gnF rfl rfl (by decide) rfl (by with_reducible rfl) rfl (by decide) ?_); all_goals (refine zY.gnF rfl rfl (by decide) rfl (by with_reducible rfl) rfl (by decide) ?_); all_goals (refine zY.gnF rfl rfl (by decide) rfl (by with_reducible rfl) rfl (by decide) ?_); all_goals (refine zY.gnF rfl rfl (by decide) rfl (by with_reducible rfl) rfl (by decide) ?_); all_goals (refine zY.gnF rfl rfl (by decide) rfl (by with_reducible rfl) rfl (by decide) ?_); all_goals (refine zY.v rfl rfl (by exact wC rfl rfl (by with_reducible rfl) rfl rfl (by decide)) ?_); all_goals (refine zY.nil ?_)) | (refine zZ.iq 2 ?_; refine zZ.rqh _ K_4 K_13 ?_; (refine zY.v rfl rfl (yO rfl rfl rfl (by rfl) (by rfl) rfl (by decide)) ?_); (refine zY.v rfl rfl (y8 rfl (by rfl) (by rfl) (by rfl) (by rfl) rfl (by decide)) ?_); (refine zY.w rfl (by exact zH rfl rfl rfl rfl rfl (by rfl) (by exact Nat.le_of_ble_eq_true rfl) rfl rfl) ?_); (refine zY.w rfl (by exact zH rfl rfl rfl rfl rfl (by rfl) (by exact Nat.le_of_ble_eq_true rfl) rfl rfl) ?_); refine zY.nil ?_) | refine zZ.yT rfl (by first | assumption | with_reducible rfl) ?_ | refine zZ.ret ?_) | refine zS.r ?_)
    all_goals exact ⟨by first | exact .inl rfl | exact .inr rfl, [1000], _, rfl, Sub.refl _, ⟨[.cell 4 26, .cell 5 77], rfl, by decide, .cons (.ag rfl rfl (by rfl) (by rfl)) (.cons (.v (.cellN rfl rfl (by rfl) (by rfl))) .nil)⟩, yD (by decide) rfl (by repeat' first | exact trivial | rfl | constructor)⟩
  case neg =>
    have g4 : decide (cell < 0) = false := decide_eq_false hn
    have g5 : decide (((wds ws).length : Int) ≤ cell) = true := decide_eq_true (by rw [wR]; omega)
    refine fn_ofZL Tryd.func51 rfl Tryd.ntmps51 (Nat.le_of_ble_eq_true rfl) (Nat.le_of_ble_eq_true rfl) rfl ?_
    repeat' (first | (refine zZ.is ?_; first | refine zZ.seq ?_ | (refine zZ.isR (id := 0) ?_; refine zZ.yZ [0, 1] [2, 3, 4, 5, 8, 1000] (by repeat' first | exact zX.nil | apply zX.p rfl | apply zX.ag rfl) (by repeat' first | exact zW.nil | apply zW.some rfl | apply zW.skip) ?_; (refine zY.m rfl rfl (w_boxAg rfl rfl rfl (by decide)) ?_); (refine zY.m rfl rfl (yP rfl rfl rfl (by decide)) ?_); (refine zY.m rfl rfl (zG rfl (by decide) rfl (by decide)) ?_); (refine zY.m rfl rfl (zG rfl (by decide) rfl (by decide)) ?_); refine zY.nil ?_) | (refine zZ.iq 1 ?_; refine zZ.rqh _ K_4 K_13 ?_; all_goals (refine zY.v rfl rfl (zK rfl rfl rfl (by decide)) ?_); all_goals (refine zY.v rfl rfl (zA rfl rfl rfl (by rfl) rfl (by decide)) ?_); all_goals (refine zY.v rfl rfl (by exact xP rfl rfl rfl (by exact g4) rfl (by decide)) ?_); all_goals (refine zY.v rfl rfl (zJ rfl rfl rfl (by decide)) ?_); all_goals (refine zY.gY rfl rfl (by decide) rfl (by with_reducible rfl) rfl (by decide) (zK rfl rfl rfl (by decide)) ?_); all_goals (refine zY.gY rfl rfl (by decide) rfl (by with_reducible rfl) rfl (by decide) (zA rfl rfl rfl (by rfl) rfl (by decide)) ?_); all_goals (refine zY.gY rfl rfl (by decide) rfl (by with_reducible rfl) rfl (by decide) (zK rfl rfl rfl (by decide)) ?_); all_goals (refine zY.gY rfl rfl (by decide) rfl (by with_reducible rfl) rfl (by decide) (vF rfl rfl rfl rfl rfl (by decide)) ?_); all_goals (refine zY.gY rfl rfl (by decide) rfl (by with_reducible rfl) rfl (by decide) (w_lenV rfl rfl rfl rfl (by decide)) ?_); all_goals (refine zY.gY rfl rfl (by decide) rfl (by with_reducible rfl) rfl (by decide) (by exact r_geq rfl rfl rfl (by exact g5) rfl (by decide)) ?_); all_goals (refine zY.v rfl rfl (by exact wP rfl rfl (by with_reducible rfl) rfl rfl (by decide)) ?_); all_goals (refine zY.nil ?_)) | (refine zZ.iq 2 ?_; refine zZ.rqh _ K_4 K_13 ?_; (refine zY.v rfl rfl (yO rfl rfl rfl (by rfl) (by rfl) rfl (by decide)) ?_); (refine zY.v rfl rfl (y8 rfl (by rfl) (by rfl) (by rfl) (by rfl) rfl (by decide)) ?_); (refine zY.w rfl (by exact zH rfl rfl rfl rfl rfl (by rfl) (by exact Nat.le_of_ble_eq_true rfl) rfl rfl) ?_); (refine zY.w rfl (by exact zH rfl rfl rfl rfl rfl (by rfl) (by exact Nat.le_of_ble_eq_true rfl) rfl rfl) ?_); refine zY.nil ?_) | refine zZ.yT rfl (by first | assumption | with_reducible rfl) ?_ | refine zZ.ret ?_) | refine zS.r ?_)
    all_goals exact ⟨by first | exact .inl rfl | exact .inr rfl, [1000], _, rfl, Sub.refl _, ⟨[.cell 4 26, .cell 5 77], rfl, by decide, .cons (.ag rfl rfl (by rfl) (by rfl)) (.cons (.v (.cellN rfl rfl (by rfl) (by rfl))) .nil)⟩, yD (by decide) rfl (by repeat' first | exact trivial | rfl | constructor)⟩
def wldA (t c root : Int) (r0 r1 : List (List Int × Int)) : AV := .ag [.p (.val (.int .i64 t)), .p (.val (.int .i64 c)), .o 1000, .p (.val (.int .u64 root)), .p (.sl (strs r0)), .p (.sl (strs r1))]
theorem doWordZ_fn (t c kd a b old me root : Int) (hkd : 0 ≤ kd ∧ kd ≤ 4) (i : Nat) (ws : List Int) (d : PV) (r0 r1 : List (List Int × Int)) (hi : ws[i]? = some old) (h1 : ws.length ≤ 1000000) :
    FnZL Tryd.prog 26 [wldA t c root r0 r1, .p (.val (.int .i64 me)), .p (accV kd i a b d), .p (.val (.bool false))] [] [wS ws] [wldA t c root r0 r1, .p (resN (xD kd old a b).1)] [] [wS (ws.set i (xD kd old a b).2)] := by
  have c0 : Fn Tryd.prog 48 [.val (.int .i64 kd)] (.p (.val (.bool false))) := by
    have e : (decide (5 ≤ kd) && decide (kd ≤ 12)) = false := by rw [decide_eq_false (show ¬5 ≤ kd by omega)]; rfl
    exact e ▸ vU kd
  have c1 := wordsZ_fn t c kd a b old hkd i ws d hi h1
  have g1 : decide (kd = 13) = false := decide_eq_false (by omega)
  generalize (xD kd old a b).1 = n1 at *
  generalize ws.set i (xD kd old a b).2 = ws2 at *
  refine fn_ofZL Tryd.func26 rfl Tryd.ntmps26 (Nat.le_of_ble_eq_true rfl) (Nat.le_of_ble_eq_true rfl) rfl ?_
  repeat' ((refine zZ.is ?_; first | refine zZ.seq ?_ | (refine zZ.isR (id := 0) ?_; refine zZ.yZ [0, 1, 2, 3] [4, 6, 8, 9, 10, 900, 1000] (by repeat' first | exact zX.nil | apply zX.p rfl | apply zX.ag rfl) (by repeat' first | exact zW.nil | apply zW.some rfl | apply zW.skip) ?_; (refine zY.m rfl rfl (w_boxAg rfl rfl rfl (by decide)) ?_); (refine zY.m rfl rfl (yP rfl rfl rfl (by decide)) ?_); (refine zY.m rfl rfl (zG rfl (by decide) rfl (by decide)) ?_); (refine zY.m rfl rfl (zG rfl (by decide) rfl (by decide)) ?_); refine zY.nil ?_) | (refine zZ.iq 1 ?_; refine zZ.rqf _ K_f K_g ?_; (refine zY.m rfl rfl (zG rfl (by decide) rfl (by decide)) ?_); refine zY.nil ?_) | (refine zZ.iq 3 ?_; refine zZ.rqf _ K_d K_g ?_; all_goals (refine zY.v rfl rfl (zK rfl rfl rfl (by decide)) ?_); all_goals (refine zY.v rfl rfl (zA rfl rfl rfl (by rfl) rfl (by decide)) ?_); all_goals (refine zY.v rfl rfl (by exact yK (c0) rfl rfl rfl (by decide)) ?_); all_goals (refine zY.v rfl rfl (zJ rfl rfl rfl (by decide)) ?_); all_goals (refine zY.gnT rfl rfl (by decide) rfl (by with_reducible rfl) rfl (by decide) ?_); all_goals (refine zY.v rfl rfl (by exact wP rfl rfl (by with_reducible rfl) rfl rfl (by decide)) ?_); all_goals (refine zY.v rfl rfl (zV rfl rfl rfl (by decide)) ?_); all_goals (refine zY.nil ?_)) | (refine zZ.iq 5 ?_; refine zZ.rqf _ K_8 K_g ?_; (refine zY.v rfl rfl (zK rfl rfl rfl (by decide)) ?_); (refine zY.v rfl rfl (zA rfl rfl rfl (by rfl) rfl (by decide)) ?_); (refine zY.v rfl rfl (by exact yK (c0) rfl rfl rfl (by decide)) ?_); (refine zY.v rfl rfl (zV rfl rfl rfl (by decide)) ?_); refine zY.nil ?_) | (refine zZ.iq 7 ?_; refine zZ.rqh _ K_3 K_g ?_; (refine zY.v rfl rfl (zK rfl rfl rfl (by decide)) ?_); (refine zY.v rfl rfl (zA rfl rfl rfl (by rfl) rfl (by decide)) ?_); (refine zY.v rfl rfl (by exact r_eql rfl rfl rfl (by exact g1) rfl (by decide)) ?_); (refine zY.v rfl rfl (zV rfl rfl rfl (by decide)) ?_); refine zY.nil ?_) | (refine zZ.iq 2 ?_; refine zZ.rqh _ K_3 K_g ?_; (refine zY.v rfl rfl (zK rfl rfl rfl (by decide)) ?_); (refine zY.v rfl rfl (yO rfl rfl rfl (by rfl) (by rfl) rfl (by decide)) ?_); (refine zY.v rfl rfl (zT rfl rfl rfl (by rfl) (by rfl) rfl (by decide)) ?_); (refine zY.ofT rfl (zR.zL [] [1000] [900] (c1) rfl (by decide) (wW rfl) (by rfl) (yD (by decide) rfl (by repeat' first | exact trivial | rfl | constructor)) rfl rfl rfl (by decide) rfl rfl (by decide) rfl rfl rfl ?_)); (refine zY.v rfl rfl (xW rfl rfl rfl (by decide)) ?_); (refine zY.v rfl rfl (w_extractAg rfl rfl rfl rfl (by decide)) ?_); (refine zY.v rfl rfl (yY rfl rfl rfl rfl (by decide)) ?_); (refine zY.v rfl rfl (zK rfl rfl rfl (by decide)) ?_); (refine zY.w rfl (by exact zH rfl rfl rfl rfl rfl (by rfl) (by exact Nat.le_of_ble_eq_true rfl) rfl rfl) ?_); (refine zY.w rfl (by exact zH rfl rfl rfl rfl rfl (by rfl) (by exact Nat.le_of_ble_eq_true rfl) rfl rfl) ?_); refine zY.nil ?_) | (refine zZ.isR (id := 10) ?_; refine zZ.qX [4, 8, 9, 10] [4, 6, 8, 9, 10, 900, 1000] (by repeat' first | exact zX.nil | apply zX.ptr rfl) (by repeat' first | exact zW.nil | apply zW.boxP rfl rfl | apply zW.some rfl | apply zW.skip) (zZ.qM (by kernel_rfl) ?_); repeat' (first | refine vD.many (by rfl) ?_ | refine zP.cons ?_ ?_ | exact zP.nil | refine vN.v rfl rfl rfl (by first | exact zT rfl rfl rfl (by rfl) (by rfl) rfl (by decide) | exact yO rfl rfl rfl (by rfl) (by rfl) rfl (by decide)) ?_ | refine vN.w rfl rfl (by exact zH rfl rfl rfl rfl rfl (by rfl) (by exact Nat.le_of_ble_eq_true rfl) rfl rfl) ?_ | refine vD.fin (by rfl) ?_)) | refine zZ.yU rfl (by first | assumption | with_reducible rfl) ?_ | refine zZ.block ?_ | refine zZ.ret ?_))
  all_goals exact ⟨by first | exact .inl rfl | exact .inr rfl, [900], _, rfl, Sub.refl _, ⟨[.cell 8 33, .cell 9 77], rfl, by decide, .cons (.ag rfl rfl (by rfl) (by rfl)) (.cons (.v (.cellN rfl rfl (by rfl) (by rfl))) .nil)⟩, yD (by decide) rfl (by repeat' first | exact trivial | rfl | constructor)⟩
theorem doOutZ_fn (t c kd cell a b me root : Int) (hkd : 0 ≤ kd ∧ kd ≤ 4) (ws : List Int) (d : PV) (r0 r1 : List (List Int × Int)) (hi : cell < 0 ∨ (ws.length : Int) ≤ cell) :
    FnZL Tryd.prog 26 [wldA t c root r0 r1, .p (.val (.int .i64 me)), .p (accV kd cell a b d), .p (.val (.bool false))] [] [wS ws] [wldA t c root r0 r1, .p (resN 0)] [] [wS ws] := by
  have c0 : Fn Tryd.prog 48 [.val (.int .i64 kd)] (.p (.val (.bool false))) := by
    have e : (decide (5 ≤ kd) && decide (kd ≤ 12)) = false := by rw [decide_eq_false (show ¬5 ≤ kd by omega)]; rfl
    exact e ▸ vU kd
  have c1 := wordsOutZ_fn t c kd cell a b ws d hi
  have g1 : decide (kd = 13) = false := decide_eq_false (by omega)
  refine fn_ofZL Tryd.func26 rfl Tryd.ntmps26 (Nat.le_of_ble_eq_true rfl) (Nat.le_of_ble_eq_true rfl) rfl ?_
  repeat' ((refine zZ.is ?_; first | refine zZ.seq ?_ | (refine zZ.isR (id := 0) ?_; refine zZ.yZ [0, 1, 2, 3] [4, 6, 8, 9, 10, 900, 1000] (by repeat' first | exact zX.nil | apply zX.p rfl | apply zX.ag rfl) (by repeat' first | exact zW.nil | apply zW.some rfl | apply zW.skip) ?_; (refine zY.m rfl rfl (w_boxAg rfl rfl rfl (by decide)) ?_); (refine zY.m rfl rfl (yP rfl rfl rfl (by decide)) ?_); (refine zY.m rfl rfl (zG rfl (by decide) rfl (by decide)) ?_); (refine zY.m rfl rfl (zG rfl (by decide) rfl (by decide)) ?_); refine zY.nil ?_) | (refine zZ.iq 1 ?_; refine zZ.rqf _ K_f K_g ?_; (refine zY.m rfl rfl (zG rfl (by decide) rfl (by decide)) ?_); refine zY.nil ?_) | (refine zZ.iq 3 ?_; refine zZ.rqf _ K_d K_g ?_; all_goals (refine zY.v rfl rfl (zK rfl rfl rfl (by decide)) ?_); all_goals (refine zY.v rfl rfl (zA rfl rfl rfl (by rfl) rfl (by decide)) ?_); all_goals (refine zY.v rfl rfl (by exact yK (c0) rfl rfl rfl (by decide)) ?_); all_goals (refine zY.v rfl rfl (zJ rfl rfl rfl (by decide)) ?_); all_goals (refine zY.gnT rfl rfl (by decide) rfl (by with_reducible rfl) rfl (by decide) ?_); all_goals (refine zY.v rfl rfl (by exact wP rfl rfl (by with_reducible rfl) rfl rfl (by decide)) ?_); all_goals (refine zY.v rfl rfl (zV rfl rfl rfl (by decide)) ?_); all_goals (refine zY.nil ?_)) | (refine zZ.iq 5 ?_; refine zZ.rqf _ K_8 K_g ?_; (refine zY.v rfl rfl (zK rfl rfl rfl (by decide)) ?_); (refine zY.v rfl rfl (zA rfl rfl rfl (by rfl) rfl (by decide)) ?_); (refine zY.v rfl rfl (by exact yK (c0) rfl rfl rfl (by decide)) ?_); (refine zY.v rfl rfl (zV rfl rfl rfl (by decide)) ?_); refine zY.nil ?_) | (refine zZ.iq 7 ?_; refine zZ.rqh _ K_3 K_g ?_; (refine zY.v rfl rfl (zK rfl rfl rfl (by decide)) ?_); (refine zY.v rfl rfl (zA rfl rfl rfl (by rfl) rfl (by decide)) ?_); (refine zY.v rfl rfl (by exact r_eql rfl rfl rfl (by exact g1) rfl (by decide)) ?_); (refine zY.v rfl rfl (zV rfl rfl rfl (by decide)) ?_); refine zY.nil ?_) | (refine zZ.iq 2 ?_; refine zZ.rqh _ K_3 K_g ?_; (refine zY.v rfl rfl (zK rfl rfl rfl (by decide)) ?_); (refine zY.v rfl rfl (yO rfl rfl rfl (by rfl) (by rfl) rfl (by decide)) ?_); (refine zY.v rfl rfl (zT rfl rfl rfl (by rfl) (by rfl) rfl (by decide)) ?_); (refine zY.ofT rfl (zR.zL [] [1000] [900] (c1) rfl (by decide) (wW rfl) (by rfl) (yD (by decide) rfl (by repeat' first | exact trivial | rfl | constructor)) rfl rfl rfl (by decide) rfl rfl (by decide) rfl rfl rfl ?_)); (refine zY.v rfl rfl (xW rfl rfl rfl (by decide)) ?_); (refine zY.v rfl rfl (w_extractAg rfl rfl rfl rfl (by decide)) ?_); (refine zY.v rfl rfl (yY rfl rfl rfl rfl (by decide)) ?_); (refine zY.v rfl rfl (zK rfl rfl rfl (by decide)) ?_); (refine zY.w rfl (by exact zH rfl rfl rfl rfl rfl (by rfl) (by exact Nat.le_of_ble_eq_true rfl) rfl rfl) ?_); (refine zY.w rfl (by exact zH rfl rfl rfl rfl rfl (by rfl) (by exact Nat.le_of_ble_eq_true rfl) rfl rfl) ?_); refine zY.nil ?_) | (refine zZ.isR (id := 10) ?_; refine zZ.qX [4, 8, 9, 10] [4, 6, 8, 9, 10, 900, 1000] (by repeat' first | exact zX.nil | apply zX.ptr rfl) (by repeat' first | exact zW.nil | apply zW.boxP rfl rfl | apply zW.some rfl | apply zW.skip) (zZ.qM (by kernel_rfl) ?_); repeat' (first | refine vD.many (by rfl) ?_ | refine zP.cons ?_ ?_ | exact zP.nil | refine vN.v rfl rfl rfl (by first | exact zT rfl rfl rfl (by rfl) (by rfl) rfl (by decide) | exact yO rfl rfl rfl (by rfl) (by rfl) rfl (by decide)) ?_ | refine vN.w rfl rfl (by exact zH rfl rfl rfl rfl rfl (by rfl) (by exact Nat.le_of_ble_eq_true rfl) rfl rfl) ?_ | refine vD.fin (by rfl) ?_)) | refine zZ.yU rfl (by first | assumption | with_reducible rfl) ?_ | refine zZ.block ?_ | refine zZ.ret ?_))
  all_goals exact ⟨by first | exact .inl rfl | exact .inr rfl, [900], _, rfl, Sub.refl _, ⟨[.cell 8 33, .cell 9 77], rfl, by decide, .cons (.ag rfl rfl (by rfl) (by rfl)) (.cons (.v (.cellN rfl rfl (by rfl) (by rfl))) .nil)⟩, yD (by decide) rfl (by repeat' first | exact trivial | rfl | constructor)⟩
theorem doDisk50Z_fn (t c p q r root : Int) (ws : List Int) (r0 r1 : List (List Int × Int)) (i : Nat) (d : List Int) (s : Int) (bs : List Int) (h0 : 0 ≤ root) (hr : root % 2 = 0) (hi : r0[i]? = some (d, s)) (h1 : r0.length ≤ 1000000) (h2 : d.length + bs.length ≤ 100000000) :
    FnZL Tryd.prog 26 [wldA t c root r0 r1, .p (.val (.int .i64 i)), .p (accV 5 p q r (.sl (byts bs))), .p (.val (.bool false))] [] [wS ws] [wldA t c root (r0.set i (d ++ bs, s)) r1, .p (resN 0)] [] [wS ws] := by
  have c0 : Fn Tryd.prog 48 [.val (.int .i64 5)] (.p (.val (.bool true))) := vU 5
  have c1 := streams50_fn root r0 r1 i d s p q r bs h0 hr hi h1 h2
  refine fn_ofZL Tryd.func26 rfl Tryd.ntmps26 (Nat.le_of_ble_eq_true rfl) (Nat.le_of_ble_eq_true rfl) rfl ?_
  repeat' ((refine zZ.is ?_; first | refine zZ.seq ?_ | (refine zZ.isR (id := 0) ?_; refine zZ.yZ [0, 1, 2, 3] [4, 6, 8, 9, 10, 1000] (by repeat' first | exact zX.nil | apply zX.p rfl | apply zX.ag rfl) (by repeat' first | exact zW.nil | apply zW.some rfl | apply zW.skip) ?_; (refine zY.m rfl rfl (w_boxAg rfl rfl rfl (by decide)) ?_); (refine zY.m rfl rfl (yP rfl rfl rfl (by decide)) ?_); (refine zY.m rfl rfl (zG rfl (by decide) rfl (by decide)) ?_); (refine zY.m rfl rfl (zG rfl (by decide) rfl (by decide)) ?_); refine zY.nil ?_) | (refine zZ.iq 1 ?_; refine zZ.rqf _ K_f K_l ?_; (refine zY.m rfl rfl (zG rfl (by decide) rfl (by decide)) ?_); refine zY.nil ?_) | (refine zZ.iq 3 ?_; refine zZ.rqm _ K_d K_l ?_; all_goals (refine zY.v rfl rfl (zK rfl rfl rfl (by decide)) ?_); all_goals (refine zY.v rfl rfl (zA rfl rfl rfl rfl rfl (by decide)) ?_); all_goals (refine zY.v rfl rfl (by exact yK (c0) rfl rfl rfl (by decide)) ?_); all_goals (refine zY.v rfl rfl (zJ rfl rfl rfl (by decide)) ?_); all_goals (refine zY.gY rfl rfl (by decide) rfl (by with_reducible rfl) rfl (by decide) (zJ rfl rfl rfl (by decide)) ?_); all_goals (refine zY.v rfl rfl (by exact wC rfl rfl (by with_reducible rfl) rfl rfl (by decide)) ?_); all_goals (refine zY.v rfl rfl (zV rfl rfl rfl (by decide)) ?_); all_goals (refine zY.nil ?_)) | (refine zZ.iq 5 ?_; refine zZ.rqm _ K_8 K_l ?_; (refine zY.v rfl rfl (zK rfl rfl rfl (by decide)) ?_); (refine zY.v rfl rfl (zA rfl rfl rfl rfl rfl (by decide)) ?_); (refine zY.v rfl rfl (by exact yK (c0) rfl rfl rfl (by decide)) ?_); (refine zY.v rfl rfl (zV rfl rfl rfl (by decide)) ?_); refine zY.nil ?_) | (refine zZ.iq 6 ?_; refine zZ.rqm _ K_8 K_l ?_; (refine zY.v rfl rfl (zK rfl rfl rfl (by decide)) ?_); (refine zY.v rfl rfl (zT rfl rfl rfl (by rfl) (by rfl) rfl (by decide)) ?_); (refine zY.v rfl rfl (zJ rfl rfl rfl (by decide)) ?_); (refine zY.v rfl rfl (zT rfl rfl rfl (by rfl) (by rfl) rfl (by decide)) ?_); (refine zY.v rfl rfl (by exact xI (c1) rfl rfl rfl (by decide)) ?_); (refine zY.v rfl rfl (xW rfl rfl rfl (by decide)) ?_); (refine zY.v rfl rfl (yY rfl rfl rfl rfl (by decide)) ?_); (refine zY.v rfl rfl (yY rfl rfl rfl rfl (by decide)) ?_); (refine zY.v rfl rfl (zK rfl rfl rfl (by decide)) ?_); (refine zY.w rfl (by exact zH rfl rfl rfl rfl rfl (by rfl) (by exact Nat.le_of_ble_eq_true rfl) rfl rfl) ?_); (refine zY.w rfl (by exact zH rfl rfl rfl rfl rfl (by rfl) (by exact Nat.le_of_ble_eq_true rfl) rfl rfl) ?_); refine zY.nil ?_) | (refine zZ.isR (id := 10) ?_; refine zZ.qX [4, 8, 9, 10] [4, 6, 8, 9, 10, 1000] (by repeat' first | exact zX.nil | apply zX.ptr rfl) (by repeat' first | exact zW.nil | apply zW.boxP rfl rfl | apply zW.some rfl) (zZ.qM (by kernel_rfl) ?_); repeat' (first | refine vD.many (by rfl) ?_ | refine zP.cons ?_ ?_ | exact zP.nil | refine vN.v rfl rfl rfl (by first | exact zT rfl rfl rfl (by rfl) (by rfl) rfl (by decide) | exact yO rfl rfl rfl (by rfl) (by rfl) rfl (by decide)) ?_ | refine vN.w rfl rfl (by exact zH rfl rfl rfl rfl rfl (by rfl) (by exact Nat.le_of_ble_eq_true rfl) rfl rfl) ?_ | refine vD.fin (by rfl) ?_)) | refine zZ.yT rfl (by with_reducible rfl) ?_ | refine zZ.yU rfl (by with_reducible rfl) ?_ | refine zZ.block ?_ | refine zZ.ret ?_))
  all_goals exact ⟨by first | exact .inl rfl | exact .inr rfl, [1000], _, rfl, Sub.refl _, ⟨[.cell 8 33, .cell 9 77], rfl, by decide, .cons (.ag rfl rfl (by rfl) (by rfl)) (.cons (.v (.cellN rfl rfl (by rfl) (by rfl))) .nil)⟩, yD (by decide) rfl (by repeat' first | exact trivial | rfl | constructor)⟩
theorem doDisk60Z_fn (t c p q r root : Int) (ws : List Int) (r0 r1 : List (List Int × Int)) (i : Nat) (d : List Int) (s : Int) (x : PV) (h0 : 0 ≤ root) (hr : root % 2 = 0) (hi : r0[i]? = some (d, s)) (h1 : r0.length ≤ 1000000) :
    FnZL Tryd.prog 26 [wldA t c root r0 r1, .p (.val (.int .i64 i)), .p (accV 6 p q r x), .p (.val (.bool false))] [] [wS ws] [wldA t c root (r0.set i (d, d.length)) r1, .p (resN 0)] [] [wS ws] := by
  have c0 : Fn Tryd.prog 48 [.val (.int .i64 6)] (.p (.val (.bool true))) := vU 6
  have c1 := streams60_fn root r0 r1 i d s p q r x h0 hr hi h1
  refine fn_ofZL Tryd.func26 rfl Tryd.ntmps26 (Nat.le_of_ble_eq_true rfl) (Nat.le_of_ble_eq_true rfl) rfl ?_
  repeat' ((refine zZ.is ?_; first | refine zZ.seq ?_ | (refine zZ.isR (id := 0) ?_; refine zZ.yZ [0, 1, 2, 3] [4, 6, 8, 9, 10, 1000] (by repeat' first | exact zX.nil | apply zX.p rfl | apply zX.ag rfl) (by repeat' first | exact zW.nil | apply zW.some rfl | apply zW.skip) ?_; (refine zY.m rfl rfl (w_boxAg rfl rfl rfl (by decide)) ?_); (refine zY.m rfl rfl (yP rfl rfl rfl (by decide)) ?_); (refine zY.m rfl rfl (zG rfl (by decide) rfl (by decide)) ?_); (refine zY.m rfl rfl (zG rfl (by decide) rfl (by decide)) ?_); refine zY.nil ?_) | (refine zZ.iq 1 ?_; refine zZ.rqf _ K_f K_l ?_; (refine zY.m rfl rfl (zG rfl (by decide) rfl (by decide)) ?_); refine zY.nil ?_) | (refine zZ.iq 3 ?_; refine zZ.rqm _ K_d K_l ?_; all_goals (refine zY.v rfl rfl (zK rfl rfl rfl (by decide)) ?_); all_goals (refine zY.v rfl rfl (zA rfl rfl rfl rfl rfl (by decide)) ?_); all_goals (refine zY.v rfl rfl (by exact yK (c0) rfl rfl rfl (by decide)) ?_); all_goals (refine zY.v rfl rfl (zJ rfl rfl rfl (by decide)) ?_); all_goals (refine zY.gY rfl rfl (by decide) rfl (by with_reducible rfl) rfl (by decide) (zJ rfl rfl rfl (by decide)) ?_); all_goals (refine zY.v rfl rfl (by exact wC rfl rfl (by with_reducible rfl) rfl rfl (by decide)) ?_); all_goals (refine zY.v rfl rfl (zV rfl rfl rfl (by decide)) ?_); all_goals (refine zY.nil ?_)) | (refine zZ.iq 5 ?_; refine zZ.rqm _ K_8 K_l ?_; (refine zY.v rfl rfl (zK rfl rfl rfl (by decide)) ?_); (refine zY.v rfl rfl (zA rfl rfl rfl rfl rfl (by decide)) ?_); (refine zY.v rfl rfl (by exact yK (c0) rfl rfl rfl (by decide)) ?_); (refine zY.v rfl rfl (zV rfl rfl rfl (by decide)) ?_); refine zY.nil ?_) | (refine zZ.iq 6 ?_; refine zZ.rqm _ K_8 K_l ?_; (refine zY.v rfl rfl (zK rfl rfl rfl (by decide)) ?_); (refine zY.v rfl rfl (zT rfl rfl rfl (by rfl) (by rfl) rfl (by decide)) ?_); (refine zY.v rfl rfl (zJ rfl rfl rfl (by decide)) ?_); (refine zY.v rfl rfl (zT rfl rfl rfl (by rfl) (by rfl) rfl (by decide)) ?_); (refine zY.v rfl rfl (by exact xI (c1) rfl rfl rfl (by decide)) ?_); (refine zY.v rfl rfl (xW rfl rfl rfl (by decide)) ?_); (refine zY.v rfl rfl (yY rfl rfl rfl rfl (by decide)) ?_); (refine zY.v rfl rfl (yY rfl rfl rfl rfl (by decide)) ?_); (refine zY.v rfl rfl (zK rfl rfl rfl (by decide)) ?_); (refine zY.w rfl (by exact zH rfl rfl rfl rfl rfl (by rfl) (by exact Nat.le_of_ble_eq_true rfl) rfl rfl) ?_); (refine zY.w rfl (by exact zH rfl rfl rfl rfl rfl (by rfl) (by exact Nat.le_of_ble_eq_true rfl) rfl rfl) ?_); refine zY.nil ?_) | (refine zZ.isR (id := 10) ?_; refine zZ.qX [4, 8, 9, 10] [4, 6, 8, 9, 10, 1000] (by repeat' first | exact zX.nil | apply zX.ptr rfl) (by repeat' first | exact zW.nil | apply zW.boxP rfl rfl | apply zW.some rfl) (zZ.qM (by kernel_rfl) ?_); repeat' (first | refine vD.many (by rfl) ?_ | refine zP.cons ?_ ?_ | exact zP.nil | refine vN.v rfl rfl rfl (by first | exact zT rfl rfl rfl (by rfl) (by rfl) rfl (by decide) | exact yO rfl rfl rfl (by rfl) (by rfl) rfl (by decide)) ?_ | refine vN.w rfl rfl (by exact zH rfl rfl rfl rfl rfl (by rfl) (by exact Nat.le_of_ble_eq_true rfl) rfl rfl) ?_ | refine vD.fin (by rfl) ?_)) | refine zZ.yT rfl (by with_reducible rfl) ?_ | refine zZ.yU rfl (by with_reducible rfl) ?_ | refine zZ.block ?_ | refine zZ.ret ?_))
  all_goals exact ⟨by first | exact .inl rfl | exact .inr rfl, [1000], _, rfl, Sub.refl _, ⟨[.cell 8 33, .cell 9 77], rfl, by decide, .cons (.ag rfl rfl (by rfl) (by rfl)) (.cons (.v (.cellN rfl rfl (by rfl) (by rfl))) .nil)⟩, yD (by decide) rfl (by repeat' first | exact trivial | rfl | constructor)⟩
theorem FnZL.weak2 {P : Program} {f : FuncId} {args : List AV} {B R B' New : List Blk} {a : AV} {x y : PV} (h : FnZL P f args B R [a, .p x] B' New) (hp : PLe x y) : FnZL P f args B R [a, .p y] B' New := fun M hh ρ vs h1 h2 h3 h4 => by
  refine Calls.mono (h M hh ρ vs h1 h2 h3 h4) ?_
  rintro e w' ⟨ρ', v, rfl, hs, us, rfl, hl, hu⟩
  refine ⟨ρ', _, rfl, hs, us, rfl, hl, fun i z u hz hx => ?_⟩
  match i with
  | 0 => exact hu 0 z u hz hx
  | 1 =>
    simp at hz
    subst hz
    exact .p (hp.rep (kM (hu 1 (.p x) u rfl hx)))
/-- an access of an owned world -/
def Wd.av (W : Wd) : AV := wldA W.t W.c W.root W.r0 W.r1
theorem doXZ_fn {b : Nat} {W : Wd} {q : Ned} (h : WdOK b W) (hb : b ≤ 90000000) (hq : qP q) {me : Nat} (hme : me < W.r0.length) :
    FnZL Tryd.prog 26 [W.av, .p (.val (.int .i64 me)), .p (accV q.kind q.cell q.a q.b (.sl (byts (w9 q.d)))), .p (.val (.bool false))] [] [wS W.ws] [(doX W me q false).1.av, .p (resV (doX W me q false).2)] [] [wS (doX W me q false).1.ws] := by
  obtain ⟨t, c, ws, root, r0, r1⟩ := W
  obtain ⟨kind, cell, a, b', d, w⟩ := q
  obtain rfl : root = 0 := h.root
  have hd : (0 ≤ kind ∧ kind ≤ 4) ∨ kind = 5 ∨ kind = 6 := by
    rcases hq.d with ⟨h, _⟩ | ⟨h, _⟩
    · rcases h with h | h
      · exact .inl h
      · exact .inr (.inr h)
    · exact .inr (.inl h)
  have hl : (w9 d).length ≤ 1000 := hq.len
  rcases hd with hk | hk
  · have e : (decide (kind = 5) || decide (kind = 6)) = false := by rw [decide_eq_false (show ¬kind = 5 by omega), decide_eq_false (show ¬kind = 6 by omega)]; rfl
    unfold doX
    dsimp only
    rw [e, cond_false]
    by_cases hc : cell < 0
    · rw [decide_eq_true hc, cond_true]
      exact (doOutZ_fn t c kind cell a b' me 0 hk ws (.sl (byts (w9 d))) r0 r1 (.inl hc)).weak2 (kX _ false)
    · rw [decide_eq_false hc, cond_false]
      cases ho : ws[cell.toNat]? with
      | none =>
        refine (doOutZ_fn t c kind cell a b' me 0 hk ws (.sl (byts (w9 d))) r0 r1 (.inr ?_)).weak2 (kX _ false)
        have := List.getElem?_eq_none_iff.1 ho
        omega
      | some old =>
        obtain ⟨i, rfl⟩ : ∃ i : Nat, cell = (i : Int) := ⟨cell.toNat, by omega⟩
        rw [Int.toNat_natCast] at ho ⊢
        exact (doWordZ_fn t c kind a b' old me 0 hk i ws (.sl (byts (w9 d))) r0 r1 ho h.len).weak2 (kX _ false)
  · have hme' : me < r0.length := hme
    have hr : r0[me]? = some r0[me] := List.getElem?_eq_getElem hme'
    have hs := h.str r0[me] (List.getElem_mem hme')
    generalize r0[me] = p at hr hs
    obtain ⟨x, s⟩ := p
    have hs : x.length ≤ b := hs
    unfold doX
    dsimp only
    rcases hk with rfl | rfl
    · simp only [hr, decide_true, Bool.true_or, cond_true, cond_false]
      exact (doDisk50Z_fn t c cell a b' 0 ws r0 r1 me x s (w9 d) (by decide) rfl hr h.rows (by omega)).weak2 (kX 0 false)
    · simp only [hr, decide_true, Bool.or_true, cond_true, cond_false]
      exact (doDisk60Z_fn t c cell a b' 0 ws r0 r1 me x s (.sl (byts (w9 d))) (by decide) rfl hr h.rows).weak2 (kX 0 false)
end Go.Proofs.YteadaggehndacaaDoor
/- Rows of slices that own their rows: a cell read as a slice that nobody turns; a nil in a cell as an own row; code in two parts with a frame between. Generic over the program. -/
namespace Go.Proofs.YteadaggehndacaaDoor
set_option maxRecDepth 100000
set_option maxHeartbeats 16000000
open Go Go.RowKit
set_option linter.unusedSimpArgs false
section
variable {P : Program} {n : Nat} {o : Oper} {S : AS} {d : Nat} {t : TypeId} {x : Operand}
end
/-- Code in two parts: behind the first one of a family of frames. -/
theorem zZ.cut {P : Program} {n : Nat} {S : AS} {c1 c2 : Code} {K : Exit → AS → Prop} {ι : Type} (mid : ι → AS) (ok : ι → Prop) (h1 : zZ P n c1 S (zS (fun S' => ∃ i, ok i ∧ Sub S' (mid i)) K)) (h2 : ∀ i, ok i → zZ P n c2 (mid i) K) : zZ P n (.seq c1 c2) S K :=
  .seq (h1.mono fun e S' h => by
    cases e with
    | normal => obtain ⟨i, hi, hs⟩ := h; exact (h2 i hi).sub hs
    | _ => exact h)
/-- a goal that a walk leaves -/
def Hold (p : Prop) : Prop := p
theorem Hold.go {p : Prop} (h : p) : Hold p := h
theorem Hold.out {p : Prop} (h : Hold p) : p := h
theorem zZ.hold {P : Program} {n id : Nat} {ops : Array Oper} {d : Bool} {S : AS} {c2 : Code} {K : Exit → AS → Prop} (h : Hold (zZ P n (.seq (.region id ops d) c2) S K)) : zZ P n (.seq (.region id ops d) c2) S K := h
/-- A region that may go many ways: behind it one frame, told by the first of them. -/
theorem zZ.cutR {P : Program} {n id : Nat} {ops : Array Oper} {d : Bool} {S M : AS} {c2 : Code} {K : Exit → AS → Prop} (h1 : zZ P n (.region id ops d) S (zS (fun S' => Sub S' M) K)) (h2 : zZ P n c2 M K) : zZ P n (.seq (.region id ops d) c2) S K :=
  .seq (h1.mono fun e S' h => by
    cases e with
    | normal => exact h2.sub h
    | _ => exact h)
attribute [irreducible] Hold
end Go.Proofs.YteadaggehndacaaDoor
/- An operation that steps alone (law 15), in a world whose words its caller owns: contract. -/
namespace Go.Proofs.YteadaggehndacaaDoor
set_option maxRecDepth 100000
set_option maxHeartbeats 16000000
open Go Go.RowKit
set_option linter.unusedSimpArgs false
set_option linter.unusedVariables false
attribute [local irreducible] zY zZ Step zQ Sub zO zR Fn
def wldCs (W : Wd) : List AV := [.p (.val (.int .i64 W.t)), .p (.val (.int .i64 W.c)), .own 1000, .p (.val (.int .u64 W.root)), .p (.sl (strs W.r0)), .p (.sl (strs W.r1))]
def aloneZS (me : Nat) (k u v w : Int) (most : Int) (s : AlSt) : AS :=
  { t := [(1, .p (.val (.int .i64 me))), (3, .p (.val (.int .i64 most))), (4, .ptr 4 0), (6, .ptr 6 0), (8, .ptr 8 0), (9, .ptr 9 0), (10, .p (.val (.bool false))), (11, .own 11), (12, .p (.val (.int .i64 (s.n : Nat))))],
    s := [(4, .box 33 (wldCs s.W)), (6, .box 42 ((opV k u v w).cells.map AV.p)), (8, .box 33 ([.val (.int .i64 0), .val (.int .i64 0), xJ, .val (.int .u64 0), xJ, xJ].map AV.p)),
      (9, .box 38 ((outV 0 false 0 0).cells.map AV.p)), (11, lentV 77 3 (s.L.map resV)), (1000, wS s.W.ws)] }
theorem aloneZ_fn (B : Nat) (W W' : Wd) (me : Nat) (k u v w : Int) (most : Nat) (m : Nat) (o : OutN) (hW : WdOK B W) (ht0 : Small W.t) (hme : me < W.r0.length) (hop : OpL k u v w)
    (hr : (opL W.t k u v w).run (wSt me qH) (W, 0) = .done o (W', m)) (hmm : m ≤ most) (h1000 : most ≤ 1000) (hB : B ≤ 70000000) (hB2 : B + 1000 * most ≤ 90000000) :
    FnZL Tryd.prog 9 [W.av, .p (.val (.int .i64 me)), .p (opV k u v w), .p (.val (.int .i64 most))] [] [wS W.ws] [W'.av, .p (outV o.e o.is o.n o.w), .p (.val (.bool true))] [] [wS W'.ws] := by
  have hfine := fine_opL (t := W.t) hop
  obtain ⟨t, c, ws, root, r0, r1⟩ := W
  have hme : me < r0.length := hme
  have ht0 : Small t := ht0
  refine fn_ofZL Tryd.func9 rfl Tryd.ntmps9 (Nat.le_of_ble_eq_true rfl) (Nat.le_of_ble_eq_true rfl) rfl ?_
  repeat' ((refine zZ.is ?_; first | refine zZ.seq ?_ | (refine zZ.isR (id := 0) ?_; refine zZ.yZ [0, 1, 2, 3] [4, 6, 8, 9, 11, 13, 14, 16, 17, 50, 1000] (by repeat' first | exact zX.nil | apply zX.p rfl | apply zX.ag rfl) (by repeat' first | exact zW.nil | apply zW.some rfl | apply zW.skip) ?_; (refine zY.m rfl rfl (w_boxAg rfl rfl rfl (by decide)) ?_); (refine zY.m rfl rfl (yP rfl rfl rfl (by decide)) ?_); (refine zY.m rfl rfl (zG rfl (by decide) rfl (by decide)) ?_); (refine zY.m rfl rfl (zG rfl (by decide) rfl (by decide)) ?_); (refine zY.v rfl rfl (zV rfl rfl rfl (by decide)) ?_); refine zY.nil ?_) | (refine zZ.iq 1 ?_; refine zZ.rqf _ K_d K_1r ?_; (refine zY.v rfl rfl (zV rfl rfl rfl (by decide)) ?_); refine zY.nil ?_) | (refine zZ.iq 2 ?_; refine zZ.rqf _ K_28 K_1r ?_; (refine zY.v rfl rfl (zV rfl rfl rfl (by decide)) ?_); refine zY.nil ?_) | refine zZ.block ?_))
  refine zZ.loop (fun s => aloneZS me k u v w most s) (fun s => s.n ≤ m ∧ s.W.t = t ∧ s.W.r0.length = r0.length ∧ WdOK (B + 1000 * s.n) s.W ∧ s.L.length = s.n ∧ (∀ r ∈ s.L, U r.n) ∧ (opL t k u v w).after s.L = some s.p ∧ s.p.xS yes (many - s.n) ∧ s.p.run (wSt me qH) (s.W, s.n) = .done o (W', m)) (fun s => most + 1 - s.n) ⟨0, ⟨t, c, ws, root, r0, r1⟩, [], opL t k u v w⟩ ?h0
    ⟨Nat.zero_le _, rfl, rfl, hW, rfl, (fun r h => by simp at h), (by cases opL t k u v w <;> rfl), hfine, hr⟩ ?rd
  case h0 =>
    refine (sub_adopt (d := 11) (id := 11) (ty := 77) (sz := 3) (by decide) rfl).trans ?_
    refine (vH (id := 11) (b := .row 77 3 0 []) (b' := yG 77 3 []) (by rfl) (vO 77 3 [])).sub.trans ?_
    refine (sub_lend (id := 11) (e := 77) (sz := 3) (es := []) (by rfl)).trans ?_
    exact yS K_1s K_1t
  case rd =>
    rintro ⟨n, W, L, p⟩ ⟨hn, ht, hrl, hok, hl, hru, haf, hfi, hrun⟩
    dsimp only at hn ht hrl hok hl hru haf hfi hrun
    obtain ⟨t', c', ws', root', r0', r1'⟩ := W
    have ht : t' = t := ht
    subst ht
    change zZ _ _ _ (aloneZS me k u v w most ⟨n, ⟨t', c', ws', root', r0', r1'⟩, L, p⟩) _
    unfold aloneZS wldCs
    dsimp only
    have g1 : decide ((n : Int) ≤ most) = true := decide_eq_true (by omega)
    repeat' ((refine zZ.is ?_; first | refine zZ.seq ?_ | (refine zZ.isR (id := 3) ?_; refine zZ.yZ [1, 3, 4, 6, 8, 9, 10, 11, 12, 13, 14, 15, 16, 17, 20, 37] [4, 6, 8, 9, 11, 13, 14, 16, 17, 50, 1000] (by repeat' first | exact zX.nil | apply zX.p rfl | apply zX.ptr rfl | apply zX.own rfl | apply zX.skip) (by repeat' first | exact zW.nil | apply zW.boxP rfl rfl | apply zW.some rfl | apply zW.skip) ?_; (refine zY.v rfl rfl (zJ rfl rfl rfl (by decide)) ?_); (refine zY.v rfl rfl (zJ rfl rfl rfl (by decide)) ?_); (refine zY.v rfl rfl (by exact r_leq rfl rfl rfl (by exact g1) rfl (by decide)) ?_); refine zY.nil ?_) | (refine zZ.isR (id := 5) ?_; refine zZ.yZ [1, 3, 4, 6, 8, 9, 10, 11, 12, 13, 14, 15, 16, 17, 20, 37] [4, 6, 8, 9, 11, 13, 14, 16, 17, 50, 1000] (by repeat' first | exact zX.nil | apply zX.p rfl | apply zX.ptr rfl | apply zX.own rfl | apply zX.skip) (by repeat' first | exact zW.nil | apply zW.boxP rfl rfl | apply zW.some rfl | apply zW.skip) ?_; all_goals (refine zY.v rfl rfl (zK rfl rfl rfl (by decide)) ?_); all_goals (refine zY.v rfl rfl (zK rfl rfl rfl (by decide)) ?_); all_goals (refine zY.v rfl rfl (zA rfl rfl rfl (by rfl) rfl (by decide)) ?_); all_goals (refine zY.v rfl rfl (zK rfl rfl rfl (by decide)) ?_); all_goals (refine zY.v rfl rfl (zK rfl rfl rfl (by decide)) ?_); all_goals (refine zY.v rfl rfl (zA rfl rfl rfl (by rfl) rfl (by decide)) ?_); all_goals (refine zY.v rfl rfl (zJ rfl rfl rfl (by decide)) ?_); all_goals (refine zY.v rfl rfl (zT rfl rfl rfl (by rfl) (by rfl) rfl (by decide)) ?_); all_goals (refine zY.v rfl rfl (a_moveO rfl rfl rfl (by decide)) ?_); all_goals (skip)) | refine zZ.yT rfl (by first | assumption | with_reducible rfl) ?_ | refine zZ.skip ?_ | refine zZ.block ?_))
    refine zY.sub (sub_view (d := 32) (id := 11) (e := 77) (sz := 3) (es := L.map resV) rfl rfl) ?_
    have hL : LogOK L := ⟨by omega, hru⟩
    cases p with
    | stuck => cases hrun
    | ret o' =>
      rw [zN] at hrun
      injection hrun with e1 e2
      injection e2 with e2 e3
      subst e1 e2
      have c1 := next_done L hL c' me ht0 hop (after_done haf)
      repeat' (first | (refine zY.is ?_; first | refine zY.nil ?_ | refine zY.v rfl rfl (by first | exact zV rfl rfl rfl (by decide) | exact yY rfl rfl rfl rfl (by decide) | exact xW rfl rfl rfl (by decide) | exact xI (c1) rfl rfl rfl (by decide)) ?_ | refine zY.m rfl rfl (zG rfl (by decide) rfl (by decide)) ?_ | refine zY.w rfl (by exact zH rfl rfl rfl rfl rfl (by rfl) (by exact Nat.le_of_ble_eq_true rfl) rfl rfl) ?_) | (refine zZ.is ?_; first | refine zZ.seq ?_ | (refine zZ.isR (id := 6) ?_; refine zZ.yZ [1, 3, 4, 6, 8, 9, 10, 11, 12, 13, 14, 15, 16, 17, 20, 37] [4, 6, 8, 9, 11, 13, 14, 16, 17, 50, 1000] (by repeat' first | exact zX.nil | apply zX.p rfl | apply zX.ptr rfl | apply zX.own rfl | apply zX.skip) (by repeat' first | exact zW.nil | apply zW.boxP rfl rfl | apply zW.some rfl | apply zW.skip) ?_; (refine zY.v rfl rfl (zJ rfl rfl rfl (by decide)) ?_); refine zY.nil ?_) | (refine zZ.isR (id := 7) ?_; refine zZ.qX [1, 3, 4, 6, 8, 9, 10, 11, 12, 13, 14, 15, 16, 17, 20, 37] [4, 6, 8, 9, 11, 13, 14, 16, 17, 50, 1000] (by repeat' first | exact zX.nil | apply zX.p rfl | apply zX.ptr rfl | apply zX.own rfl | apply zX.skip) (by repeat' first | exact zW.nil | apply zW.boxP rfl rfl | apply zW.some rfl | apply zW.skip) (zZ.qM (by kernel_rfl) ?_); repeat' (first | refine vD.many (by rfl) ?_ | refine zP.cons ?_ ?_ | exact zP.nil | refine vN.v rfl rfl rfl (by first | exact zV rfl rfl rfl (by decide) | exact zT rfl rfl rfl (by rfl) (by rfl) rfl (by decide) | exact yO rfl rfl rfl (by rfl) (by rfl) rfl (by decide)) ?_ | refine vN.w rfl rfl (by exact zH rfl rfl rfl rfl rfl (by rfl) (by exact Nat.le_of_ble_eq_true rfl) rfl rfl) ?_ | refine vD.fin (by rfl) ?_)) | refine zZ.yT rfl (by first | assumption | with_reducible rfl) ?_ | refine zZ.ret ?_) | refine zS.r ?_ | refine yA.r ?_)
      all_goals exact ⟨by first | exact .inl rfl | exact .inr rfl, [1000], _, rfl, Sub.refl _, ⟨[.cell 8 33, .cell 9 38, .tmp 10], rfl, by decide, .cons (.ag rfl rfl (by rfl) (by rfl)) (.cons (.v (.cellN rfl rfl (by rfl) (by rfl))) (.cons (.v (.tmp rfl)) .nil))⟩, yD (by decide) rfl (by repeat' first | exact trivial | rfl | constructor)⟩
    | ask q kq =>
      have hq : qP q := hfi.1
      rw [vG] at hrun
      have hrun2 : (kq (doX ⟨t', c', ws', root', r0', r1'⟩ me q false).2).run (wSt me qH) ((doX ⟨t', c', ws', root', r0', r1'⟩ me q false).1, n + 1) = .done o (W', m) := hrun
      have hle := wSt_le hrun2
      dsimp only at hle
      have c1 := next_needW L hL c' me ht0 hop (after_need haf) hq
      have hdo := doX_ok hok hq me false
      have hkeep := doX_keeps ⟨t', c', ws', root', r0', r1'⟩ me q false
      have hme' : me < r0'.length := by have : r0'.length = r0.length := hrl; omega
      have c2 := doXZ_fn hok (by omega) hq (me := me) hme'
      have haf2 := after_snoc (doX ⟨t', c', ws', root', r0', r1'⟩ me q false).2 haf
      generalize hde : doX ⟨t', c', ws', root', r0', r1'⟩ me q false = dd at *
      obtain ⟨W2, r⟩ := dd
      dsimp only at hrun2 hle c2 hdo hkeep haf2
      have g3 : IntKind.i64.wrap ((n : Int) + 1) = ((n + 1 : Nat) : Int) := by rw [wrap_i64 _ (by omega)]; omega
      have g4 : ∀ e ∈ L.map resV, e.cells.length = 3 := resV_cells L
      have g5 : ∀ e ∈ [resV r], e.cells.length = 3 := fun e he => by simp at he; subst he; rfl
      have g10 : ((L.map resV).length + ([resV r] : List PV).length) * 40 ≤ 140737488355328 ∧ (L.map resV).length + ([resV r] : List PV).length ≤ maxLen := by
        simp only [List.length_map, List.length_cons, List.length_nil, maxLen]
        omega
      have hnext : n + 1 ≤ m ∧ W2.t = t' ∧ W2.r0.length = r0.length ∧ WdOK (B + 1000 * (n + 1)) W2 ∧ (L ++ [r]).length = n + 1 ∧ (∀ x ∈ L ++ [r], U x.n) ∧ (opL t' k u v w).after (L ++ [r]) = some (kq r) ∧ (kq r).xS yes (many - (n + 1)) ∧ (kq r).run (wSt me qH) (W2, n + 1) = .done o (W', m) :=
        ⟨hle, hkeep.1, hkeep.2.2.1.trans hrl, hdo.1.le (by omega), by simp [hl], (fun x hx => by
          rcases List.mem_append.1 hx with hx | hx
          · exact hru x hx
          · simp at hx; subst hx; exact hdo.2), haf2, Pr.xS.le (by omega) (hfi.2 r hdo.2), hrun2⟩
      repeat' (first | (refine zY.is ?_; first | refine zY.nil ?_ | refine zY.v rfl rfl (by first | exact zV rfl rfl rfl (by decide) | exact yY rfl rfl rfl rfl (by decide) | exact xW rfl rfl rfl (by decide) | exact xI (c1) rfl rfl rfl (by decide)) ?_ | refine zY.m rfl rfl (zG rfl (by decide) rfl (by decide)) ?_ | refine zY.w rfl (by exact zH rfl rfl rfl rfl rfl (by rfl) (by exact Nat.le_of_ble_eq_true rfl) rfl rfl) ?_) | (refine zZ.is ?_; first | refine zZ.seq ?_ | (refine zZ.isR (id := 6) ?_; refine zZ.yZ [1, 3, 4, 6, 8, 9, 10, 11, 12, 13, 14, 15, 16, 17, 20, 37] [4, 6, 8, 9, 11, 13, 14, 16, 17, 50, 1000] (by repeat' first | exact zX.nil | apply zX.p rfl | apply zX.ptr rfl | apply zX.own rfl | apply zX.skip) (by repeat' first | exact zW.nil | apply zW.boxP rfl rfl | apply zW.some rfl | apply zW.skip) ?_; (refine zY.v rfl rfl (zJ rfl rfl rfl (by decide)) ?_); refine zY.nil ?_) | (refine zZ.isR (id := 8) ?_; refine zZ.yZ [1, 3, 4, 6, 8, 9, 10, 11, 12, 13, 14, 15, 16, 17, 20, 37] [4, 6, 8, 9, 11, 13, 14, 16, 17, 50, 1000] (by repeat' first | exact zX.nil | apply zX.p rfl | apply zX.ptr rfl | apply zX.own rfl | apply zX.skip) (by repeat' first | exact zW.nil | apply zW.boxP rfl rfl | apply zW.some rfl | apply zW.skip) ?_; (refine zY.v rfl rfl (yO rfl rfl rfl (by rfl) (by rfl) rfl (by decide)) ?_); (refine zY.v rfl rfl (zJ rfl rfl rfl (by decide)) ?_); (refine zY.v rfl rfl (zT rfl rfl rfl (by rfl) (by rfl) rfl (by decide)) ?_); (refine zY.ofT rfl (zR.zL [] [1000] [1000] (c2) rfl (by decide) (wW rfl) (by rfl) (yD (by decide) rfl (by repeat' first | exact trivial | rfl | constructor)) rfl rfl rfl (by decide) rfl rfl (by decide) rfl rfl rfl ?_)); (refine zY.v rfl rfl (xW rfl rfl rfl (by decide)) ?_); (refine zY.v rfl rfl (w_extractAg rfl rfl rfl rfl (by decide)) ?_); (refine zY.v rfl rfl (yY rfl rfl rfl rfl (by decide)) ?_); (refine zY.m rfl rfl (zG rfl (by decide) rfl (by decide)) ?_); (refine zY.m rfl rfl (zG rfl (by decide) rfl (by decide)) ?_); (refine zY.w rfl (by exact zH rfl rfl rfl rfl rfl (by rfl) (by exact Nat.le_of_ble_eq_true rfl) rfl rfl) ?_); (refine zY.w rfl (by exact zH rfl rfl rfl rfl rfl (by rfl) (by exact Nat.le_of_ble_eq_true rfl) rfl rfl) ?_); refine zY.nil ?_) | (refine zZ.isR (id := 9) ?_; refine zZ.yZ [1, 3, 4, 6, 8, 9, 10, 11, 12, 13, 14, 15, 16, 17, 20, 37] [4, 6, 8, 9, 11, 13, 14, 16, 17, 50, 1000] (by repeat' first | exact zX.nil | apply zX.p rfl | apply zX.ptr rfl | apply zX.own rfl) (by repeat' first | exact zW.nil | apply zW.boxP rfl rfl | apply zW.some rfl | apply zW.skip) ?_; (refine zY.v rfl rfl (yO rfl rfl rfl (by rfl) (by rfl) rfl (by decide)) ?_); (refine zY.w rfl (by exact zH rfl rfl rfl rfl rfl (by rfl) (by exact Nat.le_of_ble_eq_true rfl) rfl rfl) ?_); refine zY.nil ?_) | (refine zZ.isR (id := 10) ?_; refine zZ.yZ [1, 3, 4, 6, 8, 9, 10, 11, 12, 13, 14, 15, 16, 17, 20, 37] [4, 6, 8, 9, 11, 13, 14, 16, 17, 50, 1000] (by repeat' first | exact zX.nil | apply zX.p rfl | apply zX.ptr rfl | apply zX.own rfl) (by repeat' first | exact zW.nil | apply zW.boxP rfl rfl | apply zW.some rfl | apply zW.skip) ?_; (refine zY.v rfl rfl (a_moveO rfl rfl rfl (by decide)) ?_); (refine zY.v rfl rfl (zT rfl rfl rfl (by rfl) (by rfl) rfl (by decide)) ?_); (refine zY.v rfl rfl (w_buildSl rfl (by decide) (by decide) (by decide) (by decide) (by rfl) (by rfl) (by rfl) (by rfl) (by rfl) (by rfl) (by rfl) rfl (by decide)) ?_); (refine zY.w rfl (by exact s_appL rfl rfl rfl rfl (by exact g5) (by exact g10) rfl (by decide) rfl (by decide)) ?_); (refine zY.v rfl rfl (vY rfl rfl rfl (by decide)) ?_); refine zY.nil ?_) | (refine zZ.isR (id := 4) ?_; refine zZ.yZ [1, 3, 4, 6, 8, 9, 10, 11, 12, 13, 14, 15, 16, 17, 20, 37] [4, 6, 8, 9, 11, 13, 14, 16, 17, 50, 1000] (by repeat' first | exact zX.nil | apply zX.p rfl | apply zX.ptr rfl | apply zX.own rfl) (by repeat' first | exact zW.nil | apply zW.boxP rfl rfl | apply zW.some rfl | apply zW.skip) ?_; (refine zY.v rfl rfl (zJ rfl rfl rfl (by decide)) ?_); (refine zY.v rfl rfl (by exact q9 rfl rfl rfl (by exact g3) rfl (by decide)) ?_); (refine zY.v rfl rfl (zV rfl rfl rfl (by decide)) ?_); refine zY.nil ?_) | refine zZ.yU rfl (by with_reducible rfl) ?_ | refine zZ.skip ?_) | refine zS.n ?_)
      all_goals
        refine ⟨⟨n + 1, W2, L ++ [r], kq r⟩, ?_, hnext, by dsimp only; omega⟩
        show Sub _ (aloneZS me k u v w most ⟨n + 1, W2, L ++ [r], kq r⟩)
        unfold aloneZS wldCs
        dsimp only
        rw [List.map_append]
        exact yS K_1s K_1t
end Go.Proofs.YteadaggehndacaaDoor
/- New disks (reference): contract. -/
namespace Go.Proofs.YteadaggehndacaaDoor
set_option maxRecDepth 100000
set_option maxHeartbeats 16000000
open Go Go.RowKit
set_option linter.unusedSimpArgs false
attribute [local irreducible] zY zZ Step zQ Sub zO zR Fn
def zStr : PV := .agg [.val (.slice none 0 0), .val (.int .i64 0)]
theorem flat_zs : ∀ t : Nat, PL0s (flat (List.replicate t zStr)) (flat (strs (List.replicate t ([], 0))))
  | 0 => .nil
  | t + 1 => .cons .nil (.cons (.refl _) (flat_zs t))
theorem zStr_cells (t : Nat) : ∀ e ∈ List.replicate t zStr, e.cells.length = 2 := fun e he => by
  rw [List.eq_of_mem_replicate he]
  rfl
theorem new7_fn (t : Nat) (h1 : 1 ≤ t) (h64 : t ≤ 64) : Fn Tryd.prog 24 [.val (.int .i64 t)] (.tup [vR 0 (List.replicate t ([], 0)) (List.replicate t ([], 0)), .val (.int .i64 0)]) := by
  have g1 : decide ((t : Int) < 1) = false := decide_eq_false (by omega)
  have g2 : decide ((64 : Int) < t) = false := decide_eq_false (by omega)
  have g3 : t * 2 ≤ 16777216 ∧ 32 * t ≤ 281474976710656 ∧ t ≤ maxLen := by simp only [maxLen]; omega
  have g4 := zStr_cells t
  refine Fn.weakT (l := [.agg [.val (.int .u64 0), .sl (List.replicate t zStr), .sl (List.replicate t zStr)], .val (.int .i64 0)]) ?_ (.cons (.agg (.cons (.refl _) (.cons (.sl (by simp [strs]) (flat_zs t)) (.cons (.sl (by simp [strs]) (flat_zs t)) .nil)))) (.cons (.refl _) .nil))
  refine xV Tryd.func24 rfl Tryd.ntmps24 (Nat.le_of_ble_eq_true rfl) ?_
  repeat' ((refine zZ.is ?_; first | refine zZ.seq ?_ | (refine zZ.iq 0 ?_; refine zZ.rqb _ K_b K_t ?_; (refine zY.m rfl rfl (zG rfl (by decide) rfl (by decide)) ?_); (refine zY.v rfl rfl (zV rfl rfl rfl (by decide)) ?_); refine zY.nil ?_) | (refine zZ.iq 1 ?_; refine zZ.rqc _ K_p K_t ?_; all_goals (refine zY.v rfl rfl (zJ rfl rfl rfl (by decide)) ?_); all_goals (refine zY.v rfl rfl (by exact xP rfl rfl rfl (by exact g1) rfl (by decide)) ?_); all_goals (refine zY.v rfl rfl (zJ rfl rfl rfl (by decide)) ?_); all_goals (refine zY.gY rfl rfl (by decide) rfl (by with_reducible rfl) rfl (by decide) (zJ rfl rfl rfl (by decide)) ?_); all_goals (refine zY.gY rfl rfl (by decide) rfl (by with_reducible rfl) rfl (by decide) (by exact r_gtr rfl rfl rfl (by exact g2) rfl (by decide)) ?_); all_goals (refine zY.v rfl rfl (by exact wP rfl rfl (by with_reducible rfl) rfl rfl (by decide)) ?_); all_goals (refine zY.nil ?_)) | (refine zZ.iq 3 ?_; refine zZ.rqc _ K_p K_t ?_; (refine zY.m rfl rfl (zG rfl (by decide) rfl (by decide)) ?_); refine zY.nil ?_) | (refine zZ.iq 4 ?_; refine zZ.rqc _ K_10 K_t ?_; (refine zY.v rfl rfl (zJ rfl rfl rfl (by decide)) ?_); (refine zY.m rfl rfl (by exact w_makeVN rfl rfl rfl (by exact g3) rfl (by decide) (by rfl) rfl (by decide)) ?_); (refine zY.v rfl rfl (zK rfl rfl rfl (by decide)) ?_); (refine zY.v rfl rfl (by exact qE rfl rfl rfl (by omega) rfl (by decide)) ?_); (refine zY.w rfl (by exact vP rfl rfl rfl rfl rfl rfl (by exact Nat.le_of_ble_eq_true rfl) rfl rfl) ?_); refine zY.nil ?_) | (refine zZ.iq 5 ?_; refine zZ.rqf _ K_10 K_t ?_; (refine zY.v rfl rfl (zJ rfl rfl rfl (by decide)) ?_); (refine zY.m rfl rfl (by exact w_makeVN rfl rfl rfl (by exact g3) rfl (by decide) (by rfl) rfl (by decide)) ?_); (refine zY.v rfl rfl (zK rfl rfl rfl (by decide)) ?_); (refine zY.v rfl rfl (by exact qE rfl rfl rfl (by omega) rfl (by decide)) ?_); (refine zY.w rfl (by exact vP rfl rfl rfl rfl rfl rfl (by exact Nat.le_of_ble_eq_true rfl) rfl rfl) ?_); refine zY.nil ?_) | (refine zZ.isR (id := 6) ?_; refine zZ.sub (sub_frz (id := 13) rfl) ?_; refine zZ.sub (sub_frz (id := 17) rfl) ?_; refine zZ.rqc _ K_u K_t ?_; (refine zY.v rfl rfl (zT rfl rfl rfl (by rfl) (by rfl) rfl (by decide)) ?_); (refine zY.w rfl (by exact zH rfl rfl rfl rfl rfl (by rfl) (by exact Nat.le_of_ble_eq_true rfl) rfl rfl) ?_); (refine zY.v rfl rfl (zV rfl rfl rfl (by decide)) ?_); refine zY.nil ?_) | refine zZ.yU rfl (by first | assumption | with_reducible rfl) ?_ | refine zZ.skip ?_ | refine zZ.ret ?_))
  all_goals exact ⟨by first | exact .inl rfl | exact .inr rfl, _, Sub.refl _, .tup (rs := [.cell 2 31, .tmp 3]) (l := [.agg [.val (.int .u64 0), .sl (List.replicate t zStr), .sl (List.replicate t zStr)], .val (.int .i64 0)]) rfl (by decide) (.cons (.cellN rfl rfl (by rfl) (by rfl)) (.cons (.tmp rfl) .nil))⟩
end Go.Proofs.YteadaggehndacaaDoor
/- New worlds (reference), that their callers may write into: contracts. -/
namespace Go.Proofs.YteadaggehndacaaDoor
set_option maxRecDepth 100000
set_option maxHeartbeats 16000000
open Go Go.RowKit
set_option linter.unusedSimpArgs false
attribute [local irreducible] zY zZ Step zQ Sub zO zR Fn
/-- the free list's words -/
def freeW (t : Nat) : Nat → List Int → List Int
  | 0, l => l
  | k + 1, l => (freeW t k l).set (8 + t + 8 * k + 7) ((k : Int) + 2)
theorem freeW_len (t : Nat) (l : List Int) : ∀ k, (freeW t k l).length = l.length
  | 0 => rfl
  | k + 1 => by rw [freeW, List.length_set, freeW_len t l k]
def newW (t c : Nat) : List Int := freeW t (c - 1) ((List.replicate (8 + t + 8 * c) 0).set 1 1)
def newS (t c : Nat) (k : Nat) : AS :=
  { t := [(0, .p (.val (.int .i64 (t : Nat)))), (1, .p (.val (.int .i64 (c : Nat)))), (4, .ptr 4 0), (5, .p (.val (.int .i64 0))), (6, .ptr 6 0), (7, .p (.val (.int .i64 ((k + 1 : Nat) : Int))))],
    s := [(4, .box 26 ([.val (.int .i64 0), .val (.int .i64 0), .val (.slice none 0 0)].map AV.p)), (6, .box 26 [.p (.val (.int .i64 (t : Nat))), .p (.val (.int .i64 (c : Nat))), .own 30]), (30, yG 27 1 (wds (freeW t k ((List.replicate (8 + t + 8 * c) 0).set 1 1))))] }
theorem new9A_fn (t c : Nat) (h1 : 1 ≤ t) (h64 : t ≤ 64) (hc1 : 1 ≤ c) (hc : c ≤ 65536) : FnAg Tryd.prog 23 [.val (.int .i64 t), .val (.int .i64 c)] [.p (.val (.int .i64 t)), .p (.val (.int .i64 c)), .o 0] 27 1 (wds (newW t c)) (some (.int .i64 0)) := by
  have g1 : decide ((t : Int) < 1) = false := decide_eq_false (by omega)
  have g2 : decide ((64 : Int) < t) = false := decide_eq_false (by omega)
  have f1 : decide ((c : Int) < 0) = false := decide_eq_false (by omega)
  have f2 : decide ((65536 : Int) < c) = false := decide_eq_false (by omega)
  have g3 : (8 + t + 8 * c) * 1 ≤ 16777216 ∧ 8 * (8 + t + 8 * c) ≤ 281474976710656 ∧ 8 + t + 8 * c ≤ maxLen := by simp only [maxLen]; omega
  have g4 : IntKind.i64.wrap (8 + (t : Int)) = 8 + (t : Int) := wrap_i64 _ (by omega)
  have g4b : IntKind.i64.wrap (8 * (c : Int)) = 8 * (c : Int) := wrap_i64 _ (by omega)
  have g5 : IntKind.i64.wrap (8 + (t : Int) + 8 * (c : Int)) = ((8 + t + 8 * c : Nat) : Int) := by rw [wrap_i64 _ (by omega)]; omega
  have g6 : ∀ e ∈ List.replicate (8 + t + 8 * c) (PV.val (.int .u64 0)), e.cells.length = 1 := fun e he => by rw [List.eq_of_mem_replicate he]; rfl
  have g7 : (0 : Int) ≤ 1 ∧ (1 : Int) < (List.replicate (8 + t + 8 * c) (PV.val (.int .u64 0))).length := by simp; omega
  have g8 : (1 : Int).toNat < (List.replicate (8 + t + 8 * c) (PV.val (.int .u64 0))).length := by simp; omega
  have g9 : decide ((0 : Int) < c) = true := decide_eq_true (by omega)
  refine fn_ofAg Tryd.func23 rfl Tryd.ntmps23 (Nat.le_of_ble_eq_true rfl) ?_
  repeat' (first | (refine zY.at_ 31 rfl ?_; refine zY.v rfl rfl (w_buildAg 30 rfl (by rfl) (by rfl) rfl rfl (by rfl) (by rfl) rfl (by decide)) ?_) | (refine zY.is ?_; first | refine zY.nil ?_ | (refine zY.at_ 6 rfl ?_; refine zY.rc (.m xY (.w yI .e)) ?_)) | (refine zZ.is ?_; first | refine zZ.seq ?_ | (refine zZ.isR (id := 0) ?_; refine zZ.rc [0, 1] [4, 6, 30] (r := (.m xY (.v yV .e))) (h := ?_)) | (refine zZ.isR (id := 1) ?_; refine zZ.rc [0, 1, 4, 5] [4, 6, 30] (r := (.v zC (.v v43_0 (.v zC (.gY zC (.gY v45_0 (.v qY (.v zC (.gY zC (.gY v43_0 (.v qY (.v zC (.gY zC (.gY v45_0 (.v qY .e))))))))))))))) (h := ?_)) | (refine zZ.isR (id := 3) ?_; refine zZ.rc [0, 1, 4, 5] [4, 6, 30] (r := (.v zC (.v zC (.v zC (.v v30_0 (.v zC (.v v32_0 (.v v30_0 (.m m21_0 .e))))))))) (h := ?_)) | (refine zZ.isR (id := 4) ?_; refine zZ.rc [0, 1, 4, 5, 6] [4, 6, 30] (r := (.v zC (.v v45_0 .e))) (h := ?_)) | (refine zZ.isR (id := 5) ?_; refine zZ.rc [0, 1, 4, 5, 6] [4, 6, 30] (r := (.v yR (.v v2_8 (.v kS (.w w24_1 .e))))) (h := ?_)) | (refine zZ.isR (id := 6) ?_; refine zZ.rc [0, 1, 4, 5, 6] [4, 6, 30] (r := (.v yV .e)) (h := ?_)) | refine zZ.yT rfl bA ?_ | refine zZ.yU rfl bA ?_ | refine zZ.skip ?_ | refine zZ.block ?_))
  refine zZ.loop (newS t c) (fun k => k + 1 ≤ c) (fun k => c - k) 0 ?h0 (by omega) ?rd
  case h0 =>
    have e0 : wds (freeW t 0 ((List.replicate (8 + t + 8 * c) 0).set 1 1)) = (List.replicate (8 + t + 8 * c) (PV.val (.int .u64 0))).set (1 : Int).toNat (.val (.int .u64 1)) := by simp [wds, freeW, List.map_set]
    unfold newS
    rw [e0]
    exact yS K_1u K_1v
  case rd =>
    rintro k hk
    have hfl : (freeW t k ((List.replicate (8 + t + 8 * c) 0).set 1 1)).length = 8 + t + 8 * c := by rw [freeW_len]; simp
    unfold newS
    by_cases hkc : k + 1 < c
    case pos =>
      have f3 : decide (((k + 1 : Nat) : Int) < c) = true := decide_eq_true (by omega)
      have c3 : Fn Tryd.prog 10 [.val (.int .i64 (t : Nat)), .val (.int .i64 ((k + 1 : Nat) : Int)), .val (.int .i64 7)] (.p (.val (.int .i64 ((8 + t + 8 * k + 7 : Nat) : Int)))) := by
        have h := qD t ((k + 1 : Nat) : Int) 7 (by unfold Small; omega) (by omega) (by unfold Small; omega)
        have e : zF t ((k + 1 : Nat) : Int) 7 = ((8 + t + 8 * k + 7 : Nat) : Int) := by unfold zF; omega
        rw [← e]; exact h
      have g10 : IntKind.i64.wrap (((k + 1 : Nat) : Int) + 1) = ((k + 2 : Nat) : Int) := by rw [wrap_i64 _ (by omega)]; omega
      have g11 : IntKind.u64.wrap ((k + 2 : Nat) : Int) = (k : Int) + 2 := by rw [wrap_u64 _ (by omega)]; omega
      have g12 := vT (freeW t k ((List.replicate (8 + t + 8 * c) 0).set 1 1))
      have g13 : (0 : Int) ≤ ((8 + t + 8 * k + 7 : Nat) : Int) ∧ ((8 + t + 8 * k + 7 : Nat) : Int) < (wds (freeW t k ((List.replicate (8 + t + 8 * c) 0).set 1 1))).length := by rw [wR, hfl]; omega
      have g14 : ((8 + t + 8 * k + 7 : Nat) : Int).toNat < (wds (freeW t k ((List.replicate (8 + t + 8 * c) 0).set 1 1))).length := by rw [wR, hfl]; omega
      repeat' (first | (refine zY.nil ?_) | (refine zZ.is ?_; first | refine zZ.seq ?_ | (refine zZ.isR (id := 7) ?_; refine zZ.rc [0, 1, 4, 5, 6, 7, 39] [4, 6, 30] (r := (.v zC (.v zC (.v v43_0 .e)))) (h := ?_)) | (refine zZ.isR (id := 9) ?_; refine zZ.rk [0, 1, 4, 5, 6, 7, 39] [4, 6, 30] ?_; refine zZ.draws ?_) | (refine zZ.isR (id := 8) ?_; refine zZ.rc [0, 1, 4, 5, 6, 7, 39] [4, 6, 30] (r := (.v zC (.v v30_0 (.v yV .e)))) (h := ?_)) | refine zZ.yT rfl bA ?_ | refine zZ.skip ?_ | refine zZ.block ?_) | refine zS.n ?_ | (refine Draws.is ?_; first | refine Draws.rc (.v zC (.v v30_0 (.v v6_0 (.v kS .e)))) ?_ | refine Draws.rc (.v yR (.v v2_8 (.v zC (.v zC .e)))) ?_ | (refine Draws.in_ [46] rfl ?_; refine Draws.v rfl rfl (yK (c3) rfl rfl rfl (by decide)) ?_) | refine Draws.done (by kernel_rfl) (by kernel_rfl) (by kernel_rfl) ?_) | (refine zO.is ?_; first | refine zO.nil ?_ | refine zO.rc (.w w24_1 .e) ?_))
      refine ⟨k + 1, ?_, by omega, by omega⟩
      have e1 : wds (freeW t (k + 1) ((List.replicate (8 + t + 8 * c) 0).set 1 1)) = (wds (freeW t k ((List.replicate (8 + t + 8 * c) 0).set 1 1))).set ((8 + t + 8 * k + 7 : Nat) : Int).toNat (.val (.int .u64 ((k : Int) + 2))) := by rw [kY, Int.toNat_natCast]; rfl
      show Sub _ (newS t c (k + 1))
      unfold newS
      rw [e1]
      exact yS K_1u K_1v
    case neg =>
      obtain rfl : k = c - 1 := by omega
      have f3 : decide (((c - 1 + 1 : Nat) : Int) < c) = false := decide_eq_false (by omega)
      repeat' (first | (refine zY.nil ?_) | (refine zZ.is ?_; first | refine zZ.seq ?_ | (refine zZ.isR (id := 7) ?_; refine zZ.rc [0, 1, 4, 5, 6, 7, 39] [4, 6, 30] (r := (.v zC (.v zC (.v v43_0 .e)))) (h := ?_)) | (refine zZ.isR (id := 10) ?_; refine zZ.rc [4, 5, 6] [4, 6, 30] (r := (.v v2_19 (.w yI (.v yV .e)))) (h := ?_)) | refine zZ.yU rfl bA ?_ | refine zZ.exit ?_ | refine zZ.ret ?_))
      all_goals exact ⟨by first | exact .inl rfl | exact .inr rfl, .two (k := 30) rfl rfl rfl (by rfl) (by rfl) rfl rfl⟩
theorem new10A_fn (t c : Nat) (h1 : 1 ≤ t) (h64 : t ≤ 64) (hc1 : 1 ≤ c) (hc : c ≤ 65536) : FnAg Tryd.prog 8 [.val (.int .i64 t), .val (.int .i64 c)] ([.p (.val (.int .i64 t)), .p (.val (.int .i64 c)), .o 0] ++ (vR 0 (List.replicate t ([], 0)) (List.replicate t ([], 0))).cells.map .p) 27 1 (wds (newW t c)) none := by
  have c1 := new9A_fn t c h1 h64 hc1 hc
  have c2 := new7_fn t h1 h64
  refine fn_ofAg Tryd.func8 rfl Tryd.ntmps8 (Nat.le_of_ble_eq_true rfl) ?_
  repeat' (first | (refine zY.is ?_; first | refine zY.nil ?_ | (refine zY.at_ 15 rfl ?_; refine zY.rc (.v v0_4 (.v x9 (.v x9 (.m xY (.w yI (.v yV .e)))))) ?_) | (refine zY.at_ 9 rfl ?_; refine zY.rc (.v v0_4 (.v v9_2 (.v x9 (.m xY (.w yI (.v yV .e)))))) ?_) | (refine zY.in_ [17] rfl ?_; refine zY.v rfl rfl (xI (c2) rfl rfl rfl (by decide)) ?_) | (refine zY.in_ [12] rfl ?_; refine zY.m rfl rfl (w_callAg c1 rfl rfl rfl (by decide)) ?_)) | (refine zZ.is ?_; first | refine zZ.seq ?_ | (refine zZ.isR (id := 0) ?_; refine zZ.rc [0, 1] [4, 5, 7, 12, 17] (r := (.m xY .e)) (h := ?_)) | (refine zZ.isR (id := 1) ?_; refine zZ.rc [0, 1, 4] [4, 5, 7, 12, 17] (r := (.v zC (.v zC .e))) (h := ?_)) | (refine zZ.isR (id := 2) ?_; refine zZ.rc [0, 4, 5] [4, 5, 7, 12, 17] (r := (.v zC .e)) (h := ?_)) | (refine zZ.isR (id := 3) ?_; refine zZ.rc [4, 5, 7] [4, 5, 7, 12, 17] (r := (.v v2_19 (.v v2_6 (.v v10_2 (.w yI .e))))) (h := ?_)) | refine zZ.ret ?_))
  all_goals exact ⟨by first | exact .inl rfl | exact .inr rfl, .one (k := 12) rfl rfl rfl (by rfl) (by rfl) rfl⟩
end Go.Proofs.YteadaggehndacaaDoor
/- The list's example: by evaluation, and its contracts. -/
namespace Go.Proofs.YteadaggehndacaaDoor
set_option maxRecDepth 100000
set_option maxHeartbeats 16000000
open Go Go.RowKit
set_option linter.unusedSimpArgs false
theorem run_keeps {α : Type} {good : α → Prop} {me : Nat} {f : Nat → Bool} : ∀ {p : Pr α} {n b i j : Nat} {W W' : Wd} {x : α}, p.xS good n → WdOK b W → p.run (wSt me f) (W, i) = .done x (W', j) →
    i ≤ j ∧ WdOK (b + 1000 * (j - i)) W' ∧ W'.t = W.t ∧ W'.c = W.c ∧ W'.r0.length = W.r0.length ∧ W'.ws.length = W.ws.length ∧ good x
  | .ret _, n, b, i, j, W, W', x, hf, h, hr => by
    rw [zN] at hr
    injection hr with e1 e2
    injection e2 with e2 e3
    subst e1 e2 e3
    exact ⟨Nat.le_refl _, h.le (by omega), rfl, rfl, rfl, rfl, hf⟩
  | .stuck, _, _, _, _, _, _, _, _, _, hr => by cases hr
  | .ask q k, n, b, i, j, W, W', x, hf, h, hr => by
    rw [vG] at hr
    have hr2 : (k (doX W me q (f i)).2).run (wSt me f) ((doX W me q (f i)).1, i + 1) = .done x (W', j) := hr
    obtain ⟨h1, h2⟩ := doX_ok h hf.1 me (f i)
    obtain ⟨k1, k2, k3, k4, _⟩ := doX_keeps W me q (f i)
    obtain ⟨a1, a2, a3, a4, a5, a6, a7⟩ := run_keeps (hf.2 _ h2) h1 hr2
    exact ⟨by omega, a2.le (by omega), a3.trans k1, a4.trans k2, a5.trans k3, a6.trans k4, a7⟩
def wd0 : Wd := ⟨0, 0, [], 0, [], []⟩
structure ResN where
  o : OutN
  W : Wd
  m : Nat
/-- what an operation answers, that steps alone -/
def rsN (p : Pr OutN) (me : Nat) (W : Wd) : ResN := match p.run (wSt me qH) (W, 0) with
  | .done o s => ⟨o, s.1, s.2⟩
  | _ => ⟨⟨0, false, 0, 0⟩, wd0, 1000⟩
theorem freeW_U (t : Nat) {l : List Int} (hl : ∀ x ∈ l, U x) : ∀ k, k ≤ 65536 → ∀ x ∈ freeW t k l, U x
  | 0, _, x, hx => hl x hx
  | k + 1, hk, x, hx => by
    rw [freeW] at hx
    rcases List.mem_or_eq_of_mem_set hx with hx | rfl
    · exact freeW_U t hl k (by omega) x hx
    · unfold U; omega
theorem newW_U {t c : Nat} (h2 : c ≤ 65536) : ∀ x ∈ newW t c, U x := freeW_U t (fun x hx => by
    rcases List.mem_or_eq_of_mem_set hx with hx | rfl
    · rw [List.eq_of_mem_replicate hx]; exact U.zero
    · unfold U; decide) _ (by omega)
theorem newW_len (t c : Nat) : (newW t c).length = 8 + t + 8 * c := by rw [newW, freeW_len]; simp
/-- an operation that steps alone, in a world: its contract, and what is kept -/
structure AlN (B : Nat) (me : Nat) (k u v w : Int) (most : Nat) (W : Wd) (R : ResN) : Prop where
  fn : Fn Tryd.prog 9 [W.pv, .val (.int .i64 me), opV k u v w, .val (.int .i64 most)] (.tup [R.W.pv, outV R.o.e R.o.is R.o.n R.o.w, .val (.bool true)])
  ok : WdOK (B + 20000) R.W
  t : R.W.t = W.t
  c : R.W.c = W.c
  r0 : R.W.r0.length = W.r0.length
  ws : R.W.ws.length = W.ws.length
theorem alN_of {B me : Nat} {k u v w : Int} {most : Nat} {W : Wd} {R : ResN} (hr : (opL W.t k u v w).run (wSt me qH) (W, 0) = .done R.o (R.W, R.m)) (ht : Small W.t) (hop : OpL k u v w) (hW : WdOK B W) (hme : me < W.r0.length) (hm : R.m ≤ most) (h20 : most ≤ 20) (hB : B ≤ 500000) : AlN B me k u v w most W R := by
  have hk := run_keeps (fine_opL (t := W.t) hop) hW hr
  exact ⟨alone_fn B W R.W me k u v w most R.m R.o hW ht hme hop hr hm (by omega) (by omega) (by omega), hk.2.1.le (by omega), hk.2.2.1, hk.2.2.2.1, hk.2.2.2.2.1, hk.2.2.2.2.2.1⟩
/-! ### The document's example -/
def slW : Wd := ⟨1, 2, (newW 1 2).set 10 5, 0, [([], 0)], [([], 0)]⟩
def slV : ResN := rsN (opL 1 24 0 0 1) 0 slW
def slB : ResN := rsN (opL 1 8 0 0 5) 0 slV.W
def slD : ResN := rsN (opL 1 8 0 0 4) 0 slV.W
def slE : ResN := rsN (opL 1 8 0 0 6) 0 slV.W
def slF : ResN := rsN (opL 1 25 0 0 5) 0 slV.W
theorem sl1 : (opL 1 24 0 0 1).run (wSt 0 qH) (slW, 0) = .done slV.o (slV.W, slV.m) := by kernel_rfl
theorem sl2 : (opL 1 8 0 0 5).run (wSt 0 qH) (slV.W, 0) = .done slB.o (slB.W, slB.m) := by kernel_rfl
theorem sl3 : (opL 1 8 0 0 4).run (wSt 0 qH) (slV.W, 0) = .done slD.o (slD.W, slD.m) := by kernel_rfl
theorem sl4 : (opL 1 8 0 0 6).run (wSt 0 qH) (slV.W, 0) = .done slE.o (slE.W, slE.m) := by kernel_rfl
theorem sl5 : (opL 1 25 0 0 5).run (wSt 0 qH) (slV.W, 0) = .done slF.o (slF.W, slF.m) := by kernel_rfl
theorem sl6 : slV.o.is = true ∧ (slB.o.n = 1 ∧ slB.o.w = 0 ∧ slB.o.is = true) ∧ (slD.o.n = 1 ∧ slD.o.is = false) ∧ (slE.o.n = 0 ∧ slE.o.w = 1 ∧ slE.o.is = false) ∧ slF.o.n = 1 ∧ slF.o.is = true := by refine ⟨?_, ⟨?_, ?_, ?_⟩, ⟨?_, ?_⟩, ⟨?_, ?_, ?_⟩, ?_, ?_⟩ <;> kernel_rfl
theorem sl7 : slV.m ≤ 9 ∧ slB.m ≤ 9 ∧ slD.m ≤ 9 ∧ slE.m ≤ 9 ∧ slF.m ≤ 9 := by refine ⟨?_, ?_, ?_, ?_, ?_⟩ <;> exact Nat.le_of_ble_eq_true (by kernel_rfl)
theorem slW_ok : WdOK 0 slW := ⟨fun x hx => by
    rcases List.mem_or_eq_of_mem_set hx with hx | rfl
    · exact newW_U (by decide) x hx
    · unfold U; decide, by show ((newW 1 2).set 10 5).length ≤ _; rw [List.length_set, newW_len]; decide, rfl, by decide, fun p hp => by
    have hp : p ∈ [(([] : List Int), (0 : Int))] := hp
    rw [List.mem_singleton] at hp
    subst hp
    exact Nat.le_refl _⟩
theorem al_sl : AlN 0 0 24 0 0 1 9 slW slV ∧ AlN 20000 0 8 0 0 5 9 slV.W slB ∧ AlN 20000 0 8 0 0 4 9 slV.W slD ∧ AlN 20000 0 8 0 0 6 9 slV.W slE ∧ AlN 20000 0 25 0 0 5 9 slV.W slF := by
  obtain ⟨m1, m2, m3, m4, m5⟩ := sl7
  have z : Rf 0 := ⟨by decide, by decide⟩
  have z1 : Rf 1 := ⟨by decide, by decide⟩
  have hu : ∀ n : Int, 0 ≤ n → n ≤ 9 → U n := fun n h1 h2 => by unfold U; omega
  have hs : Small 1 := by unfold Small; omega
  have a1 : AlN 0 0 24 0 0 1 9 slW slV := alN_of sl1 hs ⟨fun _ => z, fun _ => ⟨z, z1⟩, hu _ (by decide) (by decide)⟩ slW_ok (by decide) m1 (by decide) (by decide)
  have ht : slV.W.t = 1 := a1.t
  have hr : 0 < slV.W.r0.length := by rw [a1.r0]; decide
  exact ⟨a1, alN_of (by rw [ht]; exact sl2) (by rw [ht]; exact hs) ⟨fun _ => z, fun h => absurd h (by decide), hu _ (by decide) (by decide)⟩ a1.ok hr m2 (by decide) (by decide),
    alN_of (by rw [ht]; exact sl3) (by rw [ht]; exact hs) ⟨fun _ => z, fun h => absurd h (by decide), hu _ (by decide) (by decide)⟩ a1.ok hr m3 (by decide) (by decide),
    alN_of (by rw [ht]; exact sl4) (by rw [ht]; exact hs) ⟨fun _ => z, fun h => absurd h (by decide), hu _ (by decide) (by decide)⟩ a1.ok hr m4 (by decide) (by decide),
    alN_of (by rw [ht]; exact sl5) (by rw [ht]; exact hs) ⟨fun _ => z, fun h => absurd h (by decide), hu _ (by decide) (by decide)⟩ a1.ok hr m5 (by decide) (by decide)⟩
end Go.Proofs.YteadaggehndacaaDoor
