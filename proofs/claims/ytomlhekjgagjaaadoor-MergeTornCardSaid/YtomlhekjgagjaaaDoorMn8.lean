/- For every input MergeTorn returns true, and leaves its argument as it was. Conditions: none beyond the given statement. (Part 8 of 9.) -/
import Derived.Test.YtomlhekjgagjaaaDoorMn7
namespace Go.Proofs.YtomlhekjgagjaaaDoor
set_option maxRecDepth 100000
set_option maxHeartbeats 16000000
open Go Go.RowKit
def no3 (L : List zV) : Bool := L.all fun e => !decide (e.k = 3)
def all1 (L : List zV) : Bool := L.all fun e => decide (e.k = 1)
def scanR (i : Nat) : Nat → Int → List zV → Option (List zV × Int)
  | _, left, [] => some ([], left)
  | k, left, e :: r =>
      bif (decide (e.k = 3) != (decide ((i : Int) = 0) && decide ((k : Int) = 0))) then none
      else bif decide (e.k = 3) then scanR i (k + 1) e.s r
      else bif decide (left > 0) then (bif decide (e.k = 1) then (scanR i (k + 1) (left - 1) r).map (fun q => (e :: q.1, q.2)) else none)
      else (scanR i (k + 1) left r).map (fun q => (e :: q.1, q.2))
theorem rowsR_scan (i : Nat) : ∀ (rows : List (List Int)) (k : Nat) (left : Int), rowsR i k left rows = if (decs rows).2 = true then scanR i k left (decs rows).1 else none
  | [], k, left => rfl
  | b :: r, k, left => by
    rw [rowsR_cons]
    unfold decs
    cases hd : decE b with
    | none => rfl
    | some e =>
      simp only []
      rw [rowsR_scan i r, rowsR_scan i r, rowsR_scan i r]
      rw [scanR]
      cases (decs r).2
      · simp only [Bool.false_eq_true, if_false, Option.map_none]
        cases (decide (e.k = 3) != (decide ((i : Int) = 0) && decide ((k : Int) = 0))) <;> cases decide (e.k = 3) <;> cases decide (left > 0) <;> cases decide (e.k = 1) <;> rfl
      · simp only [if_true]
theorem scan_tail (i : Nat) : ∀ (L : List zV) (k : Nat) (left : Int), 0 ≤ left → ¬ (i = 0 ∧ k = 0) → scanR i k left L = if (no3 L && all1 (L.take left.toNat)) = true then some (L, left - (min left.toNat L.length : Nat)) else none
  | [], k, left, h, _ => by simp [scanR, no3, all1]
  | e :: r, k, left, h, hk => by
    have hf : (decide ((i : Int) = 0) && decide ((k : Int) = 0)) = false := by
      rw [Bool.and_eq_false_iff, decide_eq_false_iff_not, decide_eq_false_iff_not]
      omega
    rw [scanR, hf]
    by_cases h3 : e.k = 3
    · rw [decide_eq_true h3]
      simp [no3, h3]
    · rw [decide_eq_false h3]
      simp only [bne_self_eq_false, cond_false]
      by_cases hl : left > 0
      · rw [decide_eq_true hl, cond_true]
        have ht : left.toNat = (left - 1).toNat + 1 := by omega
        by_cases h1 : e.k = 1
        · rw [decide_eq_true h1, cond_true, scan_tail i r (k + 1) (left - 1) (by omega) (by omega), ht, List.take_succ_cons]
          have e1 : no3 (e :: r) = no3 r := by simp [no3, h3]
          have e2 : all1 (e :: r.take (left - 1).toNat) = all1 (r.take (left - 1).toNat) := by simp [all1, h1]
          rw [e1, e2]
          split
          · simp only [Option.map_some, List.length_cons, Option.some.injEq, Prod.mk.injEq, true_and]
            omega
          · rfl
        · rw [decide_eq_false h1, cond_false, ht, List.take_succ_cons]
          have e2 : all1 (e :: r.take (left - 1).toNat) = false := by simp [all1, h1]
          rw [e2, Bool.and_false]
          rfl
      · have h0 : left = 0 := by omega
        subst h0
        rw [decide_eq_false hl, cond_false, scan_tail i r (k + 1) 0 (by omega) (by omega)]
        have e1 : no3 (e :: r) = no3 r := by simp [no3, h3]
        rw [e1]
        simp only [Int.toNat_zero, List.take_zero, Nat.zero_min]
        cases no3 r && all1 [] <;> rfl
def streamR (i : Nat) (s : List Int) : Option (List zV) := match rowsR i 0 0 (rowsOf s) with
    | none => none
    | some (l, left) => bif decide (left > 0) || (decide ((i : Int) = 0) && decide (((rowsOf s).length : Int) = 0)) then none else some l
theorem kK (i : Nat) (s : List Int) (r : List (List Int)) : allL i (s :: r) = match streamR i s with
    | none => none
    | some l => (allL (i + 1) r).map (l ++ ·) := by
  rw [allL_cons]
  unfold streamR
  rcases rowsR i 0 0 (rowsOf s) with _ | ⟨l, left⟩
  · rfl
  · simp only []
    cases decide (left > 0) || (decide ((i : Int) = 0) && decide (((rowsOf s).length : Int) = 0)) <;> rfl
theorem decs_len : ∀ (rows : List (List Int)), (decs rows).2 = true → (decs rows).1.length = rows.length
  | [], _ => rfl
  | b :: r, h => by
    unfold decs at h ⊢
    cases hd : decE b with
    | none => rw [hd] at h; cases h
    | some e =>
      rw [hd] at h
      simp only [List.length_cons]
      rw [decs_len r h]
theorem stream_eq (i : Nat) {s : List Int} (hb : yI s) : streamR i s = if ((yA i s).2 && no3 (yA i s).1) = true then some (yA i s).1 else none := by
  have hok := entsOf_ok hb
  have hln := decs_len (rowsOf s)
  unfold streamR yA
  rw [rowsR_scan]
  unfold wL at *
  generalize decs (rowsOf s) = D at *
  obtain ⟨L, b⟩ := D
  cases b
  case false =>
    simp
  case true =>
    simp only [if_true] at *
    have hln := hln trivial
    by_cases hi : i = 0
    · subst hi
      simp only [and_true, if_true]
      cases L with
      | nil =>
        rw [← hln]
        rfl
      | cons h r =>
        have h0 : 0 ≤ h.s := (hok.1 h (by simp)).1.s.1
        have hle : decide (((rowsOf s).length : Int) = 0) = false := decide_eq_false (by rw [← hln, List.length_cons]; omega)
        rw [hle]
        have hh : headOf (h :: r) = if h.k = 3 then if (r.length : Int) < h.s then ([], false) else (r, (r.take h.s.toNat).all fun e => decide (e.k = 1)) else ([], false) := rfl
        rw [hh, scanR]
        by_cases h3 : h.k = 3
        · rw [if_pos h3, decide_eq_true h3, scan_tail 0 r 1 h.s h0 (by omega)]
          have e0 : (true != (decide (((0 : Nat) : Int) = 0) && decide (((0 : Nat) : Int) = 0))) = false := rfl
          rw [e0, cond_false, cond_true]
          by_cases hlt : (r.length : Int) < h.s
          · rw [if_pos hlt]
            split
            · rename_i heq
              split at heq
              · cases heq
              · rfl
            · rename_i heq
              split at heq
              · cases heq
                rw [decide_eq_true (by omega)]
                rfl
              · cases heq
          · rw [if_neg hlt]
            show (match (if (no3 r && all1 (r.take h.s.toNat)) = true then some (r, h.s - (min h.s.toNat r.length : Nat)) else none) with | none => none | some (l, left) => _) = if (all1 (r.take h.s.toNat) && no3 r) = true then some r else none
            rw [Bool.and_comm (all1 _)]
            cases no3 r && all1 (r.take h.s.toNat)
            · rfl
            · simp only [if_true]
              rw [decide_eq_false (by omega)]
              rfl
        · rw [if_neg h3, decide_eq_false h3]
          rfl
    · have e3 : (if i = 0 ∧ True then headOf L else (L, true)) = (L, true) := if_neg (fun e => hi e.1)
      rw [e3, scan_tail i L 0 0 (by omega) (by omega)]
      have e1 : decide ((i : Int) = 0) = false := decide_eq_false (by omega)
      rw [e1]
      simp only [Int.toNat_zero, List.take_zero, Nat.zero_min, Bool.true_and]
      have e2 : all1 [] = true := rfl
      rw [e2, Bool.and_true]
      cases no3 L
      · rfl
      · simp
theorem gput_stays {g : GD} (e : zV) (h : g.bad = true) : (gput g e).bad = true := by
  unfold gput
  split
  · simp [h]
  · split
    · exact h
    · rfl
theorem gputs_bad : ∀ (L : List zV) {g : GD}, g.bad = true → (L.foldl gput g).bad = true
  | [], g, h => h
  | e :: r, g, h => gputs_bad r (gput_stays e h)
theorem gputs_three : ∀ (L : List zV) (g : GD), no3 L = false → (L.foldl gput g).bad = true
  | [], g, h => by cases h
  | e :: r, g, h => by
    by_cases h3 : e.k = 3
    · refine gputs_bad r ?_
      unfold gput
      rw [if_neg (by omega), if_neg (by omega)]
    · refine gputs_three r _ ?_
      simpa [no3, h3] using h
theorem gfrom_bad : ∀ (ss : List (List Int)) {g : GD} (i : Nat), g.bad = true → (gfrom g i ss).bad = true
  | [], g, i, h => h
  | s :: r, g, i, h => gfrom_bad r (i + 1) (gputs_bad _ (by simp [h]))
theorem gfrom_all : ∀ (ss : List (List Int)) (g : GD) (i : Nat), (∀ s ∈ ss, yI s) → match allL i ss with
    | none => (gfrom g i ss).bad = true
    | some l => gfrom g i ss = l.foldl gput g ∨ ((gfrom g i ss).bad = true ∧ (l.foldl gput g).bad = true)
  | [], g, i, _ => .inl rfl
  | s :: r, g, i, hb => by
    rw [kK, stream_eq i (hb s (by simp))]
    unfold gfrom
    have ih := fun g' => gfrom_all r g' (i + 1) fun c hc => hb c (by simp [hc])
    unfold gstep
    obtain ⟨L, b⟩ := yA i s
    cases b
    · exact gfrom_bad r _ (gputs_bad _ (by simp))
    · cases h3 : no3 L
      · exact gfrom_bad r _ (gputs_three _ _ h3)
      · simp only [Bool.true_and, if_true]
        have e1 : ({ g with bad := g.bad || !true } : GD) = g := by simp
        rw [e1]
        have h := ih (L.foldl gput g)
        generalize allL (i + 1) r = A at h ⊢
        cases A with
        | none => exact h
        | some l =>
          show _ ∨ _
          rw [List.foldl_append]
          exact h
def G0 : GD := ⟨[], [], false⟩
theorem gather_all (ss : List (List Int)) (hb : ∀ s ∈ ss, yI s) : match allR ss with
    | none => (xB ss).bad = true
    | some l => xB ss = l.foldl gput G0 ∨ ((xB ss).bad = true ∧ (l.foldl gput G0).bad = true) := by
  unfold xB allR
  by_cases hz : ss.length = 0
  · rw [if_pos hz]
    exact gfrom_bad ss 0 (by simp [hz])
  · rw [if_neg hz]
    have e1 : (⟨[], [], decide (ss.length = 0)⟩ : GD) = G0 := by rw [decide_eq_false hz]; rfl
    rw [e1]
    exact gfrom_all ss G0 0 hb
theorem bget_put (e : zV) : ∀ (B : List zV), bget B e.s = some e → bput B e = B
  | [], h => by cases h
  | x :: r, h => by
    unfold bget at h
    unfold bput
    split
    · rename_i hs
      rw [if_pos hs] at h
      rw [Option.some.inj h]
    · rename_i hs
      rw [if_neg hs] at h
      rw [bget_put e r h]
theorem bget_new (e : zV) : ∀ (B : List zV), bget B e.s = none → bput B e = B ++ [e]
  | [], h => rfl
  | x :: r, h => by
    unfold bget at h
    unfold bput
    split
    · rename_i hs
      rw [if_pos hs] at h
      cases h
    · rename_i hs
      rw [if_neg hs] at h
      rw [bget_new e r h]
      rfl
theorem bget_append : ∀ (A B : List zV) (j : Int), bget (A ++ B) j = (bget A j).or (bget B j)
  | [], B, j => by simp [bget]
  | x :: r, B, j => by
    simp only [List.cons_append, bget]
    split
    · rfl
    · exact bget_append r B j
theorem hadP_append : ∀ (A B : List zV) (e : zV), hadP (A ++ B) e = (hadP A e || hadP B e)
  | [], B, e => by simp [hadP]
  | x :: r, B, e => by simp only [List.cons_append, hadP]; rw [hadP_append r B e, Bool.or_assoc]
theorem clashP_append : ∀ (A B : List zV) (e : zV), qH (A ++ B) e = (qH A e || qH B e)
  | [], B, e => by simp [qH]
  | x :: r, B, e => by simp only [List.cons_append, qH]; rw [clashP_append r B e, Bool.or_assoc]
theorem deadR_append : ∀ (A B : List zV) (j : Int), vT (A ++ B) j = (vT A j || vT B j)
  | [], B, e => by simp [vT]
  | x :: r, B, e => by simp only [List.cons_append, vT]; rw [deadR_append r B e, Bool.or_assoc]
theorem vfind_append : ∀ (A B : List zV) (j w : Int), vfind (A ++ B) j w = (vfind A j w || vfind B j w)
  | [], B, j, w => by simp [vfind]
  | x :: r, B, j, w => by simp only [List.cons_append, vfind]; rw [vfind_append r B j w, Bool.or_assoc]
structure Knows (P : List zV) (g : GD) : Prop where
  had : ∀ e : zV, e.k = 1 → hadP P e = (bget g.born e.s).isSome
  clash : ∀ e : zV, e.k = 1 → qH P e = g.clash e
  dead : ∀ j, 0 ≤ (dget g.dead j).getD 0 ∧ (vT P j = decide ((dget g.dead j).getD 0 > 0))
  vert : ∀ j w, vfind P j w = match bget g.born j with
    | some x => decide (x.y = w)
    | none => false
  one : ∀ e ∈ g.born, e.k = 1
theorem Knows.start : Knows [] G0 := ⟨fun e _ => rfl, fun e _ => rfl, fun j => ⟨Int.le_refl 0, rfl⟩, fun j w => rfl, fun e he => by cases he⟩
theorem hadP_one (x e : zV) (hk : e.k = 1) (hx : x.k = 1) : hadP [x] e = decide (x.s = e.s) := by
  simp [hadP, hk, hx]
theorem clashP_one (x e : zV) (hk : e.k = 1) (hx : x.k = 1) : qH [x] e = (decide (x.s = e.s) && !decide (x = e)) := by
  simp [qH, hk, hx]
theorem Knows.birth {P : List zV} {g : GD} (h : Knows P g) {e : zV} (hk : e.k = 1) (hc : qH P e = false) : Knows (P ++ [e]) (gput g e) ∧ (gput g e).bad = g.bad ∧ (gput g e).born = if hadP P e = true then g.born else g.born ++ [e] := by
  have hgc := h.clash e hk
  rw [hc] at hgc
  have hb : (gput g e).bad = g.bad := by unfold gput; rw [if_pos hk]; simp [← hgc]
  have hd : (gput g e).dead = g.dead := by unfold gput; rw [if_pos hk]
  have hbo : (gput g e).born = if hadP P e = true then g.born else g.born ++ [e] := by
    unfold gput
    rw [if_pos hk, h.had e hk]
    unfold GD.clash at hgc
    cases hbg : bget g.born e.s with
    | none => simpa using bget_new e _ hbg
    | some x =>
      rw [hbg] at hgc
      simp only [Bool.false_eq, Bool.not_eq_false', decide_eq_true_eq] at hgc
      subst hgc
      simpa using bget_put x _ hbg
  have hget : ∀ j, bget (gput g e).born j = (bget g.born j).or (if e.s = j then some e else none) := fun j => by
    rw [hbo, h.had e hk]
    cases hbg : bget g.born e.s with
    | none =>
      simp only [Option.isSome_none, Bool.false_eq_true, if_false]
      rw [bget_append]
      rfl
    | some x =>
      simp only [Option.isSome_some, if_true]
      by_cases hj : e.s = j
      · subst hj
        rw [hbg]
        rfl
      · rw [if_neg hj, Option.or_none]
  refine ⟨⟨fun d hdk => ?_, fun d hdk => ?_, fun j => ?_, fun j w => ?_, ?_⟩, hb, hbo⟩
  · rw [hadP_append, h.had d hdk, hget, hadP_one e d hdk hk]
    by_cases hs : e.s = d.s
    · rw [if_pos hs, decide_eq_true hs]; cases bget g.born d.s <;> rfl
    · rw [if_neg hs, decide_eq_false hs]; cases bget g.born d.s <;> rfl
  · rw [clashP_append, h.clash d hdk, clashP_one e d hdk hk]
    unfold GD.clash
    rw [hget]
    by_cases hs : e.s = d.s
    · rw [if_pos hs, decide_eq_true hs]
      have hge := hgc
      unfold GD.clash at hge
      rw [hs] at hge
      cases hbg : bget g.born d.s with
      | none => simp
      | some x =>
        rw [hbg] at hge
        simp only [Bool.false_eq, Bool.not_eq_false', decide_eq_true_eq] at hge
        subst hge
        simp
    · rw [if_neg hs, decide_eq_false hs]; cases bget g.born d.s <;> simp
  · rw [hd, deadR_append]
    refine ⟨(h.dead j).1, ?_⟩
    rw [(h.dead j).2]
    simp [vT, hk]
  · rw [vfind_append, h.vert j w, hget]
    have hv1 : vfind [e] j w = (decide (e.s = j) && decide (e.y = w)) := by simp [vfind, hk]
    rw [hv1]
    by_cases hs : e.s = j
    · rw [if_pos hs, decide_eq_true hs]
      have hge := hgc
      unfold GD.clash at hge
      rw [hs] at hge
      cases hbg : bget g.born j with
      | none => simp
      | some x =>
        rw [hbg] at hge
        simp only [Bool.false_eq, Bool.not_eq_false', decide_eq_true_eq] at hge
        subst hge
        simp
    · rw [if_neg hs, decide_eq_false hs]; cases bget g.born j <;> simp
  · rw [hbo]
    intro d hd'
    split at hd'
    · exact h.one d hd'
    · rcases List.mem_append.1 hd' with hd' | hd'
      · exact h.one d hd'
      · rw [List.mem_singleton] at hd'; subst hd'; exact hk
theorem Knows.death {P : List zV} {g : GD} (h : Knows P g) {e : zV} (hk : e.k = 2) : Knows (P ++ [e]) (gput g e) ∧ (gput g e).bad = g.bad ∧ (gput g e).born = g.born := by
  have hn1 : ¬ e.k = 1 := by omega
  have hg : gput g e = { g with dead := dset g.dead e.s ((dget g.dead e.s).getD 0 + 1) } := by unfold gput; rw [if_neg hn1, if_pos hk]
  rw [hg]
  refine ⟨⟨fun d hdk => ?_, fun d hdk => ?_, fun j => ?_, fun j w => ?_, h.one⟩, rfl, rfl⟩
  · rw [hadP_append, h.had d hdk]; simp [hadP, hn1]
  · rw [clashP_append, h.clash d hdk]; simp [qH, hn1, GD.clash]
  · show 0 ≤ (dget (dset g.dead e.s ((dget g.dead e.s).getD 0 + 1)) j).getD 0 ∧ vT (P ++ [e]) j = decide ((dget (dset g.dead e.s ((dget g.dead e.s).getD 0 + 1)) j).getD 0 > 0)
    have hj := h.dead j
    have hs := h.dead e.s
    rw [dget_set, deadR_append]
    have hd1 : vT [e] j = decide (e.s = j) := by simp [vT, hk]
    rw [hd1]
    by_cases hsj : e.s = j
    · rw [if_pos hsj, decide_eq_true hsj, Bool.or_true]
      refine ⟨?_, ?_⟩
      · show 0 ≤ (dget g.dead e.s).getD 0 + 1
        omega
      · show true = decide ((dget g.dead e.s).getD 0 + 1 > 0)
        rw [decide_eq_true (by omega)]
    · rw [if_neg hsj, decide_eq_false hsj, Bool.or_false]
      exact hj
  · rw [vfind_append, h.vert j w]; simp [vfind, hn1]
theorem lives_eq {l : List zV} {g : GD} (h : Knows l g) {e : zV} (he : e.k = 1) : kX l e = g.live e := by
  have hv : ∀ j u, vertR l j u = g.vert j u := fun j u => by
    unfold vertR GD.vert
    rw [h.vert j, (h.dead j).2]
    have h0 := (h.dead j).1
    cases bget g.born j with
    | none => simp
    | some x =>
      simp only []
      congr 1
      by_cases hz : (dget g.dead j).getD 0 = 0
      · rw [decide_eq_true hz, decide_eq_false (by omega)]; rfl
      · rw [decide_eq_false hz, decide_eq_true (by omega)]; rfl
  unfold kX GD.live
  rw [hv, hv, (h.dead e.s).2, decide_eq_true he, Bool.true_and]
theorem all_kinds : ∀ (ss : List (List Int)) (i : Nat) (l : List zV), (∀ s ∈ ss, yI s) → allL i ss = some l → (∀ e ∈ l, (e.k = 1 ∨ e.k = 2) ∧ e.ok ∧ e.may = true) ∧ l.length ≤ total ss
  | [], i, l, _, h => by
    obtain rfl := Option.some.inj (show some [] = some l from h)
    exact ⟨fun e he => (by cases he), Nat.zero_le _⟩
  | s :: r, i, l, hb, h => by
    rw [kK, stream_eq i (hb s (by simp))] at h
    have hs := streamEnts_ok (i := i) (hb s (by simp))
    generalize yA i s = E at *
    obtain ⟨L, b⟩ := E
    cases b
    · cases h
    · cases h3 : no3 L
      · rw [h3] at h; cases h
      · rw [h3] at h
        simp only [Bool.and_self, if_true] at h
        cases hA : allL (i + 1) r with
        | none => rw [hA] at h; cases h
        | some m =>
          rw [hA] at h
          obtain rfl := Option.some.inj (show some (L ++ m) = some l from h)
          have ih := all_kinds r (i + 1) m (fun c hc => hb c (by simp [hc])) hA
          refine ⟨fun e he => ?_, ?_⟩
          · rcases List.mem_append.1 he with he | he
            · have h1 := hs.1 e he
              refine ⟨?_, h1⟩
              have h4 : ¬ e.k = 3 := by
                have := List.all_eq_true.1 h3 e he
                simpa using this
              have h5 := h1.2
              unfold zV.may qP at h5
              by_cases k1 : e.k = 1
              · exact .inl k1
              · by_cases k2 : e.k = 2
                · exact .inr k2
                · exfalso
                  simp [k1, k2, h4] at h5
            · exact ih.1 e he
          · have h6 := hs.2
            have h7 := ih.2
            simp only [total, List.map_cons, List.sum_cons, List.length_append] at *
            omega
end Go.Proofs.YtomlhekjgagjaaaDoor
namespace Go.Proofs.YtomlhekjgagjaaaDoor
set_option maxRecDepth 100000
set_option maxHeartbeats 16000000
open Go Go.RowKit
attribute [local irreducible] zZ zY Step zA Sub zL z8 Fn
def strsW (ss : List (List Int)) : PV := .sl (ss.map fun s => .sl (byts s))
def fewL (ss : List (List Int)) : Bool := decide (ss.length ≤ 8) && decide (total ss ≤ 3000)
def fwS (ss : List (List Int)) (i : Nat) : AS := { t := [(0, .p (strsW ss)), (3, .p (.val (.int .i64 (total (ss.take i) : Nat)))), (4, .p (.val (.int .i64 (i : Nat))))], s := [] }
theorem total_take {ss : List (List Int)} {i : Nat} {s : List Int} (h : ss[i]? = some s) : total (ss.take (i + 1)) = total (ss.take i) + s.length := by
  rw [List.take_add_one, h]
  simp [total]
theorem total_le (ss : List (List Int)) (i : Nat) : total (ss.take i) ≤ total ss := by
  have h : total ss = total (ss.take i) + total (ss.drop i) := by
    unfold total
    rw [← List.sum_append, ← List.map_append, List.take_append_drop]
  omega
theorem few_fn (ss : List (List Int)) (hn : ss.length ≤ 1000000000000) (ht : total ss ≤ 10000000000000000) : Fn Tryd.prog 11 [strsW ss] (.p (.val (.bool (fewL ss)))) := by
 have hlen : (ss.map fun s => PV.sl (byts s)).length = ss.length := by rw [List.length_map]
 have hcells : ∀ e ∈ ss.map (fun s => PV.sl (byts s)), e.cells.length = 1 := fun e he => by
  obtain ⟨b, _, rfl⟩ := List.mem_map.1 he
  rfl
 refine qI Tryd.func11 rfl Tryd.ntmps11 (Nat.le_of_ble_eq_true rfl) ?_
 unfold strsW
 repeat' ((refine zY.is ?_; first | refine zY.seq ?_ | (refine zY.isR (id := 0) ?_; refine zY.zK [0] [] (by repeat' first | exact zX.nil | apply zX.p rfl) (by repeat' exact zW.nil) ?_; refine zZ.va rfl rfl rfl rfl (by decide) ?_; refine zZ.nil ?_) | (refine zY.isR (id := 1) ?_; refine zY.zK [0, 2] [] (by repeat' first | exact zX.nil | apply zX.p rfl) (by repeat' exact zW.nil) ?_; refine zZ.va rfl rfl rfl rfl (by decide) ?_; refine zZ.nil ?_) | (refine zY.isR (id := 2) ?_; refine zY.zK [0, 2, 3] [] (by repeat' first | exact zX.nil | apply zX.p rfl) (by repeat' exact zW.nil) ?_; refine zZ.va rfl rfl rfl rfl (by decide) ?_; refine zZ.nil ?_) | refine zY.block ?_))
 refine zY.loop (fwS ss) (fun i => i ≤ ss.length) (fun i => ss.length - i) 0 ?h0 (Nat.zero_le _) ?rd
 case h0 =>
  unfold fwS strsW
  exact zD K_x []
 case rd =>
  intro i hi
  have g3 : IntKind.i64.wrap (((i : Nat) : Int) + 1) = ((i + 1 : Nat) : Int) := by rw [wrap_i64 _ (by omega)]; omega
  unfold fwS strsW
  by_cases hlt : i < ss.length
  case pos =>
   have g1 : decide (((i : Nat) : Int) < (((ss.map fun s => PV.sl (byts s)).length : Nat) : Int)) = true := decide_eq_true (by rw [hlen]; omega)
   obtain ⟨b, hbi⟩ : ∃ b, ss[i]? = some b := ⟨_, List.getElem?_eq_getElem hlt⟩
   have g2 : (ss.map fun b => PV.sl (byts b))[i]? = some (.sl (byts b)) := by rw [List.getElem?_map, hbi]; rfl
   have htk := total_take hbi
   have htl := total_le ss (i + 1)
   have g4 : IntKind.i64.wrap ((total (ss.take i) : Nat) + (b.length : Nat) : Int) = (total (ss.take (i + 1)) : Nat) := by rw [htk, wrap_i64 _ (by omega)]; omega
   repeat' (first | (refine zY.is ?_; first | refine zY.seq ?_ | (refine zY.isR (id := 3) ?_; refine zY.zK [0, 2, 3, 4, 8] [] (by repeat' first | exact zX.nil | apply zX.p rfl | apply zX.skip) (by repeat' exact zW.nil) ?_; refine zZ.vm rfl rfl rfl rfl (by decide) ?_; refine zZ.vm rfl rfl rfl rfl (by decide) ?_; refine zZ.v rfl rfl (yL rfl rfl rfl (by decide)) ?_; refine zZ.v rfl rfl (yZ rfl rfl rfl g1 rfl (by decide)) ?_; refine zZ.nil ?_) | (refine zY.isR (id := 5) ?_; refine zY.zK [0, 2, 3, 4, 8] [] (by repeat' first | exact zX.nil | apply zX.p rfl | apply zX.skip) (by repeat' exact zW.nil) ?_; refine zZ.vm rfl rfl rfl rfl (by decide) ?_; refine zZ.vm rfl rfl rfl rfl (by decide) ?_; refine zZ.vm rfl rfl rfl rfl (by decide) ?_; refine zZ.v rfl rfl (yY rfl rfl rfl hcells g2 rfl (by decide)) ?_; refine zZ.v rfl rfl (zP rfl rfl rfl rfl (by decide)) ?_; refine zZ.v rfl rfl (xH rfl rfl rfl (by decide)) ?_; refine zZ.v rfl rfl (yX rfl rfl rfl g4 rfl (by decide)) ?_; refine zZ.va rfl rfl rfl rfl (by decide) ?_; refine zZ.nil ?_) | (refine zY.isR (id := 4) ?_; refine zY.zK [0, 2, 3, 4, 8] [] (by repeat' first | exact zX.nil | apply zX.p rfl | apply zX.skip) (by repeat' exact zW.nil) ?_; refine zZ.vm rfl rfl rfl rfl (by decide) ?_; refine zZ.v rfl rfl (yX rfl rfl rfl g3 rfl (by decide)) ?_; refine zZ.va rfl rfl rfl rfl (by decide) ?_; refine zZ.nil ?_) | refine zY.yC rfl (by first | assumption | with_reducible rfl) ?_ | refine zY.skip ?_ | refine zY.block ?_) | refine zH.n ?_)
   all_goals
    refine ⟨i + 1, ?_, hlt, by omega⟩
    try unfold fwS strsW
    exact zD K_x []
  case neg =>
   have hie : i = ss.length := by omega
   subst hie
   have g1 : decide (((ss.length : Nat) : Int) < (((ss.map fun s => PV.sl (byts s)).length : Nat) : Int)) = false := decide_eq_false (by rw [hlen]; omega)
   rw [List.take_length]
   unfold fewL
   cases c1 : decide (ss.length ≤ 8) <;> cases c2 : decide (total ss ≤ 3000)
   all_goals
    have k1 : decide ((((ss.map fun s => PV.sl (byts s)).length : Nat) : Int) ≤ 8) = decide (ss.length ≤ 8) := decide_eq_decide.2 (by rw [hlen]; omega)
    have k2 : decide (((total ss : Nat) : Int) ≤ 3000) = decide (total ss ≤ 3000) := decide_eq_decide.2 (by omega)
    rw [c1] at k1
    rw [c2] at k2
    repeat' ((refine zY.is ?_; first | refine zY.seq ?_ | (refine zY.isR (id := 3) ?_; refine zY.zK [0, 2, 3, 4, 8] [] (by repeat' first | exact zX.nil | apply zX.p rfl | apply zX.skip) (by repeat' exact zW.nil) ?_; refine zZ.vm rfl rfl rfl rfl (by decide) ?_; refine zZ.vm rfl rfl rfl rfl (by decide) ?_; refine zZ.v rfl rfl (yL rfl rfl rfl (by decide)) ?_; refine zZ.v rfl rfl (yZ rfl rfl rfl g1 rfl (by decide)) ?_; refine zZ.nil ?_) | (refine zY.isR (id := 6) ?_; refine zY.zK [0, 2, 3] [] (by repeat' first | exact zX.nil | apply zX.p rfl | apply zX.skip) (by repeat' exact zW.nil) ?_; all_goals (refine zZ.vm rfl rfl rfl rfl (by decide) ?_); all_goals (refine zZ.v rfl rfl (yL rfl rfl rfl (by decide)) ?_); all_goals (refine zZ.v rfl rfl (r_leq rfl rfl rfl k1 rfl (by decide)) ?_); all_goals (refine zZ.vm rfl rfl rfl rfl (by decide) ?_); all_goals (first | refine zZ.gY rfl rfl (by decide) rfl (by rfl) rfl (by decide) (zQ rfl rfl rfl (by decide)) ?_ | refine zZ.gnT rfl rfl (by decide) rfl (by rfl) rfl (by decide) ?_); all_goals (first | refine zZ.gY rfl rfl (by decide) rfl (by rfl) rfl (by decide) (r_leq rfl rfl rfl k2 rfl (by decide)) ?_ | refine zZ.gnT rfl rfl (by decide) rfl (by rfl) rfl (by decide) ?_); all_goals (refine zZ.v rfl rfl (by first | exact zR rfl rfl (by rfl) rfl rfl (by decide) | exact zM rfl rfl (by rfl) rfl rfl (by decide)) ?_); all_goals (refine zZ.va rfl rfl rfl rfl (by decide) ?_); all_goals (refine zZ.nil ?_)) | refine zY.yF rfl (by first | assumption | with_reducible rfl) ?_ | refine zY.exit ?_ | refine zY.ret ?_))
   all_goals exact ⟨.inl rfl, gives1 rfl rfl rfl⟩
def smS (A B : List zV) (i : Nat) : AS := { t := [(0, .p (.sl (A.map zV.V))), (1, .p (.sl (B.map zV.V))), (5, .p (.val (.int .i64 (i : Nat))))], s := [] }
theorem entV_inj {a b : zV} (h : a.V = b.V) : a = b := by
  obtain ⟨k, s, y, u, v, x⟩ := a
  obtain ⟨k', s', y', u', v', x'⟩ := b
  simp only [zV.V, entV, PV.agg.injEq, List.cons.injEq, PV.val.injEq, Value.int.injEq, true_and, and_true] at h
  simp [h]
theorem same_fn (A B : List zV) (hA : A.length ≤ 1000000) (hB : B.length ≤ 1000000) (r : Bool) (hr : r = true ↔ A = B) : Fn Tryd.prog 14 [.sl (A.map zV.V), .sl (B.map zV.V)] (.p (.val (.bool r))) := by
 have hlA : (A.map zV.V).length = A.length := by rw [List.length_map]
 have hlB : (B.map zV.V).length = B.length := by rw [List.length_map]
 have hcA := yU A
 have hcB := yU B
 refine qI Tryd.func14 rfl Tryd.ntmps14 (Nat.le_of_ble_eq_true rfl) ?_
 by_cases hl : A.length = B.length
 case neg =>
  have c1 : (!decide ((((A.map zV.V).length : Nat) : Int) = (((B.map zV.V).length : Nat) : Int))) = true := by rw [decide_eq_false (by rw [hlA, hlB]; omega)]; rfl
  have hr' : r = false := Bool.eq_false_iff.2 fun h => hl (by rw [hr.1 h])
  subst hr'
  repeat' (first | (refine zY.is ?_; first | refine zY.seq ?_ | (refine zY.isR (id := 0) ?_; refine zY.zK [0, 1] [] (by repeat' first | exact zX.nil | apply zX.p rfl) (by repeat' exact zW.nil) ?_; refine zZ.va rfl rfl rfl rfl (by decide) ?_; refine zZ.nil ?_) | (refine zY.isR (id := 1) ?_; refine zY.zK [0, 1, 4] [] (by repeat' first | exact zX.nil | apply zX.p rfl) (by repeat' exact zW.nil) ?_; refine zZ.vm rfl rfl rfl rfl (by decide) ?_; refine zZ.v rfl rfl (yL rfl rfl rfl (by decide)) ?_; refine zZ.vm rfl rfl rfl rfl (by decide) ?_; refine zZ.v rfl rfl (yL rfl rfl rfl (by decide)) ?_; refine zZ.v rfl rfl (vJ rfl rfl rfl c1 rfl (by decide)) ?_; refine zZ.nil ?_) | (refine zY.isR (id := 2) ?_; refine zY.zK [0, 1, 4] [] (by repeat' first | exact zX.nil | apply zX.p rfl) (by repeat' exact zW.nil) ?_; refine zZ.va rfl rfl rfl rfl (by decide) ?_; refine zZ.nil ?_) | refine zY.yC rfl (by first | assumption | with_reducible rfl) ?_ | refine zY.ret ?_) | refine zH.r ?_)
  all_goals exact ⟨.inl rfl, gives1 rfl rfl rfl⟩
 case pos =>
  have c1 : (!decide ((((A.map zV.V).length : Nat) : Int) = (((B.map zV.V).length : Nat) : Int))) = false := by rw [decide_eq_true (by rw [hlA, hlB]; omega)]; rfl
  repeat' ((refine zY.is ?_; first | refine zY.seq ?_ | (refine zY.isR (id := 0) ?_; refine zY.zK [0, 1] [] (by repeat' first | exact zX.nil | apply zX.p rfl) (by repeat' exact zW.nil) ?_; refine zZ.va rfl rfl rfl rfl (by decide) ?_; refine zZ.nil ?_) | (refine zY.isR (id := 1) ?_; refine zY.zK [0, 1, 4] [] (by repeat' first | exact zX.nil | apply zX.p rfl) (by repeat' exact zW.nil) ?_; refine zZ.vm rfl rfl rfl rfl (by decide) ?_; refine zZ.v rfl rfl (yL rfl rfl rfl (by decide)) ?_; refine zZ.vm rfl rfl rfl rfl (by decide) ?_; refine zZ.v rfl rfl (yL rfl rfl rfl (by decide)) ?_; refine zZ.v rfl rfl (vJ rfl rfl rfl c1 rfl (by decide)) ?_; refine zZ.nil ?_) | (refine zY.isR (id := 3) ?_; refine zY.zK [0, 1, 4] [] (by repeat' first | exact zX.nil | apply zX.p rfl) (by repeat' exact zW.nil) ?_; refine zZ.va rfl rfl rfl rfl (by decide) ?_; refine zZ.nil ?_) | refine zY.yF rfl (by first | assumption | with_reducible rfl) ?_ | refine zY.skip ?_ | refine zY.block ?_))
  refine zY.loop (smS A B) (fun i => i ≤ A.length ∧ A.take i = B.take i) (fun i => A.length - i) 0 ?h0 ⟨Nat.zero_le _, rfl⟩ ?rd
  case h0 =>
   unfold smS
   exact zD K_28 []
  case rd =>
   intro i ⟨hi, htk⟩
   have g3 : IntKind.i64.wrap (((i : Nat) : Int) + 1) = ((i + 1 : Nat) : Int) := by rw [wrap_i64 _ (by omega)]; omega
   unfold smS
   by_cases hlt : i < A.length
   case pos =>
    have g1 : decide (((i : Nat) : Int) < (((A.map zV.V).length : Nat) : Int)) = true := decide_eq_true (by rw [hlA]; omega)
    obtain ⟨a, ha⟩ : ∃ a, A[i]? = some a := ⟨_, List.getElem?_eq_getElem hlt⟩
    obtain ⟨b, hb⟩ : ∃ b, B[i]? = some b := ⟨_, List.getElem?_eq_getElem (by omega)⟩
    have g2 : (A.map zV.V)[i]? = some a.V := by rw [List.getElem?_map, ha]; rfl
    have g4 : (B.map zV.V)[i]? = some b.V := by rw [List.getElem?_map, hb]; rfl
    obtain ⟨ak, as', ay, au, av, ax⟩ := a
    obtain ⟨bk', bs, by', bu, bv, bx⟩ := b
    by_cases hab : (⟨ak, as', ay, au, av, ax⟩ : zV) = ⟨bk', bs, by', bu, bv, bx⟩
    case pos =>
     have htk' : A.take (i + 1) = B.take (i + 1) := by rw [List.take_add_one, List.take_add_one, ha, hb, htk, hab]
     clear ha hb
     cases hab
     have c7 : (!decide ([(IntKind.i64, ak), (IntKind.u64, as'), (IntKind.u64, ay), (IntKind.u64, au), (IntKind.u64, av), (IntKind.u64, ax)] = [(IntKind.i64, ak), (IntKind.u64, as'), (IntKind.u64, ay), (IntKind.u64, au), (IntKind.u64, av), (IntKind.u64, ax)])) = false := by rw [decide_eq_true rfl]; rfl
     repeat' (first | (refine zY.is ?_; first | refine zY.seq ?_ | (refine zY.isR (id := 4) ?_; refine zY.zK [0, 1, 4, 5, 14, 25] [] (by repeat' first | exact zX.nil | apply zX.p rfl | apply zX.skip) (by repeat' exact zW.nil) ?_; refine zZ.vm rfl rfl rfl rfl (by decide) ?_; refine zZ.vm rfl rfl rfl rfl (by decide) ?_; refine zZ.v rfl rfl (yL rfl rfl rfl (by decide)) ?_; refine zZ.v rfl rfl (yZ rfl rfl rfl g1 rfl (by decide)) ?_; refine zZ.nil ?_) | (refine zY.isR (id := 6) ?_; refine zY.xE [0, 1, 4, 5, 14, 25] [] (by repeat' first | exact zX.nil | apply zX.p rfl | apply zX.skip) (by repeat' exact zW.nil) (zY.draws ?_); all_goals (refine Draws.v rfl rfl (zQ rfl rfl rfl (by decide)) ?_); all_goals (refine Draws.v rfl rfl (zQ rfl rfl rfl (by decide)) ?_); all_goals (refine Draws.v rfl rfl (yY rfl rfl rfl hcA g2 rfl (by decide)) ?_); all_goals (refine Draws.v rfl rfl (by exact vW rfl rfl (by exact Nat.le_of_ble_eq_true rfl) rfl (by decide)) ?_); all_goals (refine Draws.v rfl rfl (zQ rfl rfl rfl (by decide)) ?_); all_goals (refine Draws.v rfl rfl (zQ rfl rfl rfl (by decide)) ?_); all_goals (refine Draws.v rfl rfl (yY rfl rfl rfl hcB g4 rfl (by decide)) ?_); all_goals (refine Draws.v rfl rfl (by exact vW rfl rfl (by exact Nat.le_of_ble_eq_true rfl) rfl (by decide)) ?_); all_goals (refine Draws.v rfl rfl (r_neqT rfl rfl rfl rfl rfl rfl (by rfl) c7 rfl (by decide)) ?_); all_goals ((refine Draws.done (by kernel_rfl) (by kernel_rfl) (by kernel_rfl) ?_; refine zL.nil ?_))) | (refine zY.isR (id := 5) ?_; refine zY.zK [0, 1, 4, 5, 14, 25] [] (by repeat' first | exact zX.nil | apply zX.p rfl | apply zX.skip) (by repeat' exact zW.nil) ?_; refine zZ.vm rfl rfl rfl rfl (by decide) ?_; refine zZ.v rfl rfl (yX rfl rfl rfl g3 rfl (by decide)) ?_; refine zZ.va rfl rfl rfl rfl (by decide) ?_; refine zZ.nil ?_) | refine zY.yC rfl (by first | assumption | with_reducible rfl) ?_ | refine zY.yF rfl (by first | assumption | with_reducible rfl) ?_ | refine zY.skip ?_ | refine zY.block ?_) | refine zH.n ?_)
     all_goals
      refine ⟨i + 1, ?_, ⟨hlt, htk'⟩, by omega⟩
      try unfold smS
      exact zD K_28 []
    case neg =>
     have c7 : (!decide ([(IntKind.i64, ak), (IntKind.u64, as'), (IntKind.u64, ay), (IntKind.u64, au), (IntKind.u64, av), (IntKind.u64, ax)] = [(IntKind.i64, bk'), (IntKind.u64, bs), (IntKind.u64, by'), (IntKind.u64, bu), (IntKind.u64, bv), (IntKind.u64, bx)])) = true := by
      rw [decide_eq_false (fun h => hab (by simp only [List.cons.injEq, Prod.mk.injEq, true_and, and_true] at h; simp only [zV.mk.injEq]; exact h))]; rfl
     have hr' : r = false := Bool.eq_false_iff.2 fun h => hab (by
      have e := hr.1 h
      subst e
      rw [ha] at hb
      exact Option.some.inj hb)
     subst hr'
     repeat' (first | (refine zY.is ?_; first | refine zY.seq ?_ | (refine zY.isR (id := 4) ?_; refine zY.zK [0, 1, 4, 5, 14, 25] [] (by repeat' first | exact zX.nil | apply zX.p rfl | apply zX.skip) (by repeat' exact zW.nil) ?_; refine zZ.vm rfl rfl rfl rfl (by decide) ?_; refine zZ.vm rfl rfl rfl rfl (by decide) ?_; refine zZ.v rfl rfl (yL rfl rfl rfl (by decide)) ?_; refine zZ.v rfl rfl (yZ rfl rfl rfl g1 rfl (by decide)) ?_; refine zZ.nil ?_) | (refine zY.isR (id := 6) ?_; refine zY.xE [0, 1, 4, 5, 14, 25] [] (by repeat' first | exact zX.nil | apply zX.p rfl | apply zX.skip) (by repeat' exact zW.nil) (zY.draws ?_); all_goals (refine Draws.v rfl rfl (zQ rfl rfl rfl (by decide)) ?_); all_goals (refine Draws.v rfl rfl (zQ rfl rfl rfl (by decide)) ?_); all_goals (refine Draws.v rfl rfl (yY rfl rfl rfl hcA g2 rfl (by decide)) ?_); all_goals (refine Draws.v rfl rfl (by exact vW rfl rfl (by exact Nat.le_of_ble_eq_true rfl) rfl (by decide)) ?_); all_goals (refine Draws.v rfl rfl (zQ rfl rfl rfl (by decide)) ?_); all_goals (refine Draws.v rfl rfl (zQ rfl rfl rfl (by decide)) ?_); all_goals (refine Draws.v rfl rfl (yY rfl rfl rfl hcB g4 rfl (by decide)) ?_); all_goals (refine Draws.v rfl rfl (by exact vW rfl rfl (by exact Nat.le_of_ble_eq_true rfl) rfl (by decide)) ?_); all_goals (refine Draws.v rfl rfl (r_neqT rfl rfl rfl rfl rfl rfl (by rfl) c7 rfl (by decide)) ?_); all_goals ((refine Draws.done (by kernel_rfl) (by kernel_rfl) (by kernel_rfl) ?_; refine zL.nil ?_))) | (refine zY.isR (id := 7) ?_; refine zY.zK [0, 1, 4, 5, 14, 25] [] (by repeat' first | exact zX.nil | apply zX.p rfl | apply zX.skip) (by repeat' exact zW.nil) ?_; refine zZ.va rfl rfl rfl rfl (by decide) ?_; refine zZ.nil ?_) | refine zY.yC rfl (by first | assumption | with_reducible rfl) ?_ | refine zY.skip ?_ | refine zY.block ?_ | refine zY.ret ?_) | refine zH.r ?_ | refine zS.r ?_)
     all_goals exact ⟨.inl rfl, gives1 rfl rfl rfl⟩
   case neg =>
    have g1 : decide (((i : Nat) : Int) < (((A.map zV.V).length : Nat) : Int)) = false := decide_eq_false (by rw [hlA]; omega)
    have hr' : r = true := hr.2 (by rw [List.take_of_length_le (by omega), List.take_of_length_le (by omega)] at htk; exact htk)
    subst hr'
    repeat' ((refine zY.is ?_; first | refine zY.seq ?_ | (refine zY.isR (id := 4) ?_; refine zY.zK [0, 1, 4, 5, 14, 25] [] (by repeat' first | exact zX.nil | apply zX.p rfl | apply zX.skip) (by repeat' exact zW.nil) ?_; refine zZ.vm rfl rfl rfl rfl (by decide) ?_; refine zZ.vm rfl rfl rfl rfl (by decide) ?_; refine zZ.v rfl rfl (yL rfl rfl rfl (by decide)) ?_; refine zZ.v rfl rfl (yZ rfl rfl rfl g1 rfl (by decide)) ?_; refine zZ.nil ?_) | (refine zY.isR (id := 8) ?_; refine zY.zK [4] [] (by repeat' first | exact zX.nil | apply zX.skip) (by repeat' exact zW.nil) ?_; refine zZ.va rfl rfl rfl rfl (by decide) ?_; refine zZ.nil ?_) | refine zY.yF rfl (by first | assumption | with_reducible rfl) ?_ | refine zY.exit ?_ | refine zY.ret ?_))
    all_goals exact ⟨.inl rfl, gives1 rfl rfl rfl⟩
end Go.Proofs.YtomlhekjgagjaaaDoor
namespace Go.Proofs.YtomlhekjgagjaaaDoor
set_option maxRecDepth 100000
set_option maxHeartbeats 16000000
open Go Go.RowKit
theorem decE_enc {e : zV} (ho : e.ok) (hm : e.may = true) : decE e.enc = some e := by
  have h := dec_enc ho.s.1 ho.s.2 ho.y.1 ho.y.2 ho.u.1 ho.u.2 ho.v.1 ho.v.2 ho.x.1 ho.x.2 hm
  have h : decR e.enc = [e.V, .val (.int .i64 0)] := h
  cases hd : decE e.enc with
  | none =>
    rw [decR_none hd] at h
    unfold decBad at h
    simp at h
  | some x =>
    rw [decR_some hd] at h
    have h1 : x.V = e.V := by
      injection h
    rw [entV_inj h1]
theorem rowsOf_cat (bs : List (List Int)) (h : ∀ b ∈ bs, kV b) : rowsOf (vD bs) = bs := by
  unfold rowsOf
  rw [framesOf_cat bs h, endsF_rows]
theorem enc_put (e : zV) : kV e.enc := by
  have := enc_len e
  constructor <;> (rw [this]; split <;> omega)
theorem catE_range {L : List zV} (h : ∀ e ∈ L, e.ok) : yI (catE L) := fun x hx => by
  obtain ⟨e, he, hx⟩ := List.mem_flatMap.1 hx
  rw [entF_may] at hx
  split at hx
  · exact putF_range (enc_bytes (h e he)) x hx
  · cases hx
theorem live_bad {ss : List (List Int)} (c : Int) (h : (xB ss).bad = true) : wV ss c = ([], 8) := by
  unfold wV
  rw [if_pos h]
def leads : List zV → Nat
  | [] => 0
  | e :: r => if e.k = 1 then leads r + 1 else 0
end Go.Proofs.YtomlhekjgagjaaaDoor
namespace Go.Proofs.YtomlhekjgagjaaaDoor
set_option maxRecDepth 100000
set_option maxHeartbeats 16000000
open Go Go.RowKit
theorem hadP_iff : ∀ (P : List zV) (e : zV), hadP P e = true ↔ e.k = 1 ∧ ∃ x ∈ P, x.k = 1 ∧ x.s = e.s
  | [], e => by simp [hadP]
  | x :: r, e => by
    unfold hadP
    rw [Bool.or_eq_true, hadP_iff r e]
    simp only [Bool.and_eq_true, decide_eq_true_eq, List.mem_cons, exists_eq_or_imp]
    constructor
    · rintro (⟨⟨a, b⟩, c⟩ | ⟨a, b⟩)
      · exact ⟨a, .inl ⟨b, c⟩⟩
      · exact ⟨a, .inr b⟩
    · rintro ⟨a, b | b⟩
      · exact .inl ⟨⟨a, b.1⟩, b.2⟩
      · exact .inr ⟨a, b⟩
theorem clashP_iff : ∀ (P : List zV) (e : zV), qH P e = true ↔ e.k = 1 ∧ ∃ x ∈ P, x.k = 1 ∧ x.s = e.s ∧ x ≠ e
  | [], e => by simp [qH]
  | x :: r, e => by
    unfold qH
    rw [Bool.or_eq_true, clashP_iff r e]
    simp only [Bool.and_eq_true, decide_eq_true_eq, List.mem_cons, exists_eq_or_imp, Bool.not_eq_true', decide_eq_false_iff_not]
    constructor
    · rintro (⟨⟨⟨a, b⟩, c⟩, d⟩ | ⟨a, b⟩)
      · exact ⟨a, .inl ⟨b, c, d⟩⟩
      · exact ⟨a, .inr b⟩
    · rintro ⟨a, b | b⟩
      · exact .inl ⟨⟨⟨a, b.1⟩, b.2.1⟩, b.2.2⟩
      · exact .inr ⟨a, b⟩
theorem deadR_iff : ∀ (P : List zV) (j : Int), vT P j = true ↔ ∃ x ∈ P, x.k = 2 ∧ x.s = j
  | [], j => by simp [vT]
  | x :: r, j => by
    unfold vT
    rw [Bool.or_eq_true, deadR_iff r j]
    simp only [Bool.and_eq_true, decide_eq_true_eq, List.mem_cons, exists_eq_or_imp]
theorem vfind_iff : ∀ (P : List zV) (j w : Int), vfind P j w = true ↔ ∃ x ∈ P, x.k = 1 ∧ x.s = j ∧ x.y = w
  | [], j, w => by simp [vfind]
  | x :: r, j, w => by
    unfold vfind
    rw [Bool.or_eq_true, vfind_iff r j w]
    simp only [Bool.and_eq_true, decide_eq_true_eq, List.mem_cons, exists_eq_or_imp, and_assoc]
def NoClash (P : List zV) : Prop := ∀ a ∈ P, ∀ b ∈ P, a.k = 1 → b.k = 1 → a.s = b.s → a = b
structure Births (P B : List zV) : Prop where
  mem : ∀ e, e ∈ B ↔ e ∈ P ∧ e.k = 1
  once : (B.map (·.s)).Nodup
theorem Births.start : Births [] [] := ⟨by simp, by simp⟩
theorem says_way : ∀ (r P : List zV) (g : GD), Knows P g → Births P g.born → NoClash P → g.bad = false → (∀ e ∈ r, e.k = 1 ∨ e.k = 2) →
    ((r.foldl gput g).bad = false → Knows (P ++ r) (r.foldl gput g) ∧ Births (P ++ r) (r.foldl gput g).born ∧ NoClash (P ++ r)) ∧ ((r.foldl gput g).bad = true → ¬ NoClash (P ++ r))
  | [], P, g, h, hB, hN, hb, _ => by
    rw [List.append_nil]
    exact ⟨fun _ => ⟨h, hB, hN⟩, fun h2 => by rw [List.foldl_nil, hb] at h2; cases h2⟩
  | e :: r, P, g, h, hB, hN, hb, hk => by
    have hk2 : ∀ d ∈ r, d.k = 1 ∨ d.k = 2 := fun d hd => hk d (by simp [hd])
    have e0 : P ++ e :: r = (P ++ [e]) ++ r := by simp
    rw [List.foldl_cons, e0]
    rcases hk e (by simp) with h1 | h2
    · cases hc : qH P e
      · obtain ⟨hk', hb', hbo⟩ := h.birth h1 hc
        have hnc : ∀ x ∈ P, x.k = 1 → x.s = e.s → x = e := fun x hx hx1 hxs => Classical.byContradiction fun hne => by
          have := (clashP_iff P e).2 ⟨h1, x, hx, hx1, hxs, hne⟩
          rw [hc] at this
          cases this
        refine says_way r (P ++ [e]) (gput g e) hk' ?_ ?_ (by rw [hb', hb]) hk2
        · rw [hbo]
          cases hh : hadP P e
          · have hno : ∀ x ∈ P, x.k = 1 → x.s ≠ e.s := fun x hx hx1 hxs => by
              have := (hadP_iff P e).2 ⟨h1, x, hx, hx1, hxs⟩
              rw [hh] at this
              cases this
            rw [if_neg (by decide)]
            refine ⟨fun d => ?_, ?_⟩
            · rw [List.mem_append, List.mem_append, hB.mem d, List.mem_singleton]
              constructor
              · rintro (h | rfl)
                · exact ⟨.inl h.1, h.2⟩
                · exact ⟨.inr rfl, h1⟩
              · rintro ⟨h | h, hd⟩
                · exact .inl ⟨h, hd⟩
                · exact .inr h
            · rw [List.map_append]
              refine List.pairwise_append.2 ⟨hB.once, by simp, fun a ha b hb2 => ?_⟩
              obtain ⟨x, hx, rfl⟩ := List.mem_map.1 ha
              simp only [List.map_cons, List.map_nil, List.mem_singleton] at hb2
              subst hb2
              have hx2 := (hB.mem x).1 hx
              exact hno x hx2.1 hx2.2
          · obtain ⟨_, x, hx, hx1, hxs⟩ := (hadP_iff P e).1 hh
            have hxe := hnc x hx hx1 hxs
            subst hxe
            rw [if_pos rfl]
            refine ⟨fun d => ?_, hB.once⟩
            rw [hB.mem d, List.mem_append, List.mem_singleton]
            constructor
            · exact fun h => ⟨.inl h.1, h.2⟩
            · rintro ⟨h | rfl, hd⟩
              · exact ⟨h, hd⟩
              · exact ⟨hx, hd⟩
        · intro a ha b hb2 ha1 hb1 hs
          rcases List.mem_append.1 ha with ha' | ha' <;> rcases List.mem_append.1 hb2 with hb' | hb'
          · exact hN a ha' b hb' ha1 hb1 hs
          · have := List.mem_singleton.1 hb'
            rw [this] at hs ⊢
            exact hnc a ha' ha1 hs
          · have := List.mem_singleton.1 ha'
            rw [this] at hs ⊢
            exact (hnc b hb' hb1 hs.symm).symm
          · rw [List.mem_singleton.1 ha', List.mem_singleton.1 hb']
      · have hgc := h.clash e h1
        rw [hc] at hgc
        have hbad : (gput g e).bad = true := by unfold gput; rw [if_pos h1]; simp [← hgc]
        rw [gputs_bad r hbad]
        refine ⟨fun h => (by cases h), fun _ hno => ?_⟩
        obtain ⟨_, x, hx, hx1, hxs, hne⟩ := (clashP_iff P e).1 hc
        exact hne (hno x (by simp [hx]) e (by simp) hx1 h1 hxs)
    · obtain ⟨hk', hb', hbo⟩ := h.death h2
      refine says_way r (P ++ [e]) (gput g e) hk' ?_ ?_ (by rw [hb', hb]) hk2
      · rw [hbo]
        refine ⟨fun d => ?_, hB.once⟩
        rw [hB.mem d, List.mem_append, List.mem_singleton]
        constructor
        · exact fun h => ⟨.inl h.1, h.2⟩
        · rintro ⟨h | rfl, hd⟩
          · exact ⟨h, hd⟩
          · omega
      · intro a ha b hb2 ha1 hb1 hs
        rcases List.mem_append.1 ha with ha' | ha' <;> rcases List.mem_append.1 hb2 with hb' | hb'
        · exact hN a ha' b hb' ha1 hb1 hs
        · have := List.mem_singleton.1 hb'
          rw [this] at hb1
          omega
        · have := List.mem_singleton.1 ha'
          rw [this] at ha1
          omega
        · have := List.mem_singleton.1 ha'
          rw [this] at ha1
          omega
def liveM (l : List zV) (c : Int) : List zV × Int := if (l.foldl gput G0).bad = true then ([], 8) else kG (l.foldl gput G0).lives c
theorem liveL_all {ss : List (List Int)} {l : List zV} (c : Int) (hb : ∀ s ∈ ss, yI s) (h : allR ss = some l) : wV ss c = liveM l c := by
  have hg := gather_all ss hb
  rw [h] at hg
  unfold wV liveM
  rcases hg with hg | ⟨h1, h2⟩
  · rw [hg]
  · rw [h1, h2, if_pos rfl, if_pos rfl]
theorem livesR_congr {l l' : List zV} (h : ∀ e, e ∈ l ↔ e ∈ l') (e : zV) : kX l e = kX l' e := by
  have hd : ∀ j, vT l j = vT l' j := fun j => Bool.eq_iff_iff.2 (by rw [deadR_iff, deadR_iff]; simp only [h])
  have hv : ∀ j w, vfind l j w = vfind l' j w := fun j w => Bool.eq_iff_iff.2 (by rw [vfind_iff, vfind_iff]; simp only [h])
  unfold kX vertR
  rw [hd, hd, hd, hv, hv]
theorem liveF_perm {F F' : List zV} (h : F.Perm F') (c : Int) : kG F c = kG F' c := by
  have hn : (F.map (·.y)).Nodup ↔ (F'.map (·.y)).Nodup := (h.map (·.y)).nodup_iff
  unfold kG
  by_cases hc : 0 ≤ c ∧ (F.length : Int) ≤ c ∧ (F.map (·.y)).Nodup
  · rw [if_pos hc, if_pos ⟨hc.1, by rw [← h.length_eq]; exact hc.2.1, hn.1 hc.2.2⟩]
    have hs : SortY (isort F) := by
      have h1 := List.pairwise_map.1 (((qJ F).symm.map (·.y)).nodup hc.2.2)
      exact (h1.and (isort_sorted F)).imp fun h => by have := h.1; have := h.2; omega
    rw [sort_uniq hs ((qJ F).trans h)]
  · rw [if_neg hc, if_neg (fun h2 => hc ⟨h2.1, by rw [h.length_eq]; exact h2.2.1, hn.2 h2.2.2⟩)]
theorem liveM_spec {l : List zV} (hk : ∀ e ∈ l, e.k = 1 ∨ e.k = 2) (hN : NoClash l) (c : Int) : ∃ B, Births l B ∧ liveM l c = kG (B.filter (kX l)) c := by
  have hw := says_way l [] G0 .start .start (fun a ha => by cases ha) rfl hk
  rw [List.nil_append] at hw
  cases hb : (l.foldl gput G0).bad
  · obtain ⟨hK, hB, _⟩ := hw.1 hb
    refine ⟨_, hB, ?_⟩
    unfold liveM GD.lives
    rw [hb, if_neg (by decide)]
    congr 1
    exact List.filter_congr fun e he => (lives_eq hK ((hB.mem e).1 he).2).symm
  · exact absurd hN (hw.2 hb)
theorem liveM_clash {l : List zV} (hk : ∀ e ∈ l, e.k = 1 ∨ e.k = 2) (hN : ¬ NoClash l) (c : Int) : liveM l c = ([], 8) := by
  have hw := says_way l [] G0 .start .start (fun a ha => by cases ha) rfl hk
  rw [List.nil_append] at hw
  cases hb : (l.foldl gput G0).bad
  · exact absurd (hw.1 hb).2.2 hN
  · unfold liveM
    rw [hb, if_pos rfl]
theorem liveM_congr {l l' : List zV} (hk : ∀ e ∈ l, e.k = 1 ∨ e.k = 2) (h : ∀ e, e ∈ l ↔ e ∈ l') (c : Int) : liveM l c = liveM l' c := by
  have hk' : ∀ e ∈ l', e.k = 1 ∨ e.k = 2 := fun e he => hk e ((h e).2 he)
  by_cases hN : NoClash l
  · have hN' : NoClash l' := fun a ha b hb => hN a ((h a).2 ha) b ((h b).2 hb)
    obtain ⟨B, hB, e1⟩ := liveM_spec hk hN c
    obtain ⟨B', hB', e2⟩ := liveM_spec hk' hN' c
    rw [e1, e2]
    have hp : B.Perm B' := by
      have n1 : B.Nodup := (List.pairwise_map.1 hB.once).imp fun h e => h (by rw [e])
      have n2 : B'.Nodup := (List.pairwise_map.1 hB'.once).imp fun h e => h (by rw [e])
      exact (List.perm_ext_iff_of_nodup n1 n2).2 fun e => by rw [hB.mem, hB'.mem, h]
    have hf : B'.filter (kX l') = B'.filter (kX l) := List.filter_congr fun e _ => (livesR_congr h e).symm
    rw [hf]
    exact liveF_perm (hp.filter _) c
  · have hN' : ¬ NoClash l' := fun h2 => hN fun a ha b hb => h2 a ((h a).1 ha) b ((h b).1 hb)
    rw [liveM_clash hk hN, liveM_clash hk' hN']
end Go.Proofs.YtomlhekjgagjaaaDoor
namespace Go.Proofs.YtomlhekjgagjaaaDoor
set_option maxRecDepth 100000
set_option maxHeartbeats 16000000
open Go Go.RowKit
def BD (L : List zV) : Prop := ∀ e ∈ L, e.ok ∧ e.may = true ∧ ¬ e.k = 3
theorem BD.no3 {L : List zV} (h : BD L) : no3 L = true := List.all_eq_true.2 fun e he => by simp [(h e he).2.2]
theorem BD.may {L : List zV} (h : BD L) : ∀ e ∈ L, e.ok ∧ e.may = true := fun e he => ⟨(h e he).1, (h e he).2.1⟩
theorem BD.bytes {L : List zV} (h : BD L) : yI (catE L) := catE_range fun e he => (h e he).1
end Go.Proofs.YtomlhekjgagjaaaDoor
namespace Go.Proofs.YtomlhekjgagjaaaDoor
set_option maxRecDepth 100000
set_option maxHeartbeats 16000000
open Go Go.RowKit
def NearE (e : zV) : Prop := e.s ≤ 1000 ∧ e.u ≤ 1000 ∧ e.v ≤ 1000 ∧ e.y / 2147483648 ≤ 99
def FarE (e : zV) : Prop := 1000 < e.s ∧ (e.k = 1 → 99 < e.y / 2147483648 ∧ (0 ≤ e.y % 2147483648 - 1 → 1000 < e.u ∧ 1000 < e.v))
theorem liveF_ok {F : List zV} {c : Int} (h0 : 0 ≤ c) (hl : (F.length : Int) ≤ c) (hn : (F.map (·.y)).Nodup) : kG F c = (isort F, 0) := by unfold kG; rw [if_pos ⟨h0, hl, hn⟩]
theorem sort_isort {F : List zV} (hn : (F.map (·.y)).Nodup) : SortY (isort F) := by
  have h1 := List.pairwise_map.1 (((qJ F).symm.map (·.y)).nodup hn)
  exact (h1.and (isort_sorted F)).imp fun h => by have := h.1; have := h.2; omega
end Go.Proofs.YtomlhekjgagjaaaDoor
namespace Go.Proofs.YtomlhekjgagjaaaDoor
set_option maxRecDepth 100000
set_option maxHeartbeats 16000000
open Go Go.RowKit
attribute [local irreducible] zZ zY Step zA Sub zL z8 Fn
def splitS0 (b : List Int) : AS := { t := [(0, .p (.sl (byts (xD b)))), (4, .p (.val (.slice none 0 0))), (5, .p (.val (.int .i64 0)))], s := [] }
def splitS1 (b X : List Int) : AS := { t := [(0, .p (.sl (byts (xD b)))), (4, .p (.sl [.sl (byts X)])), (5, .p (.val (.int .i64 (6 + (b.length : Int)))))], s := [] }
def splitS (b : List Int) : Nat → AS
  | 0 => splitS0 b
  | _ => splitS1 b b
def splitI (b X : List Int) (i : Nat) : AS :=
  { t := [(0, .p (.sl (byts (xD b)))), (4, .p (.val (.slice none 0 0))), (5, .p (.val (.int .i64 0))), (6, .p (.val (.int .i64 b.length))), (7, .p (.sl (byts X))), (8, .p (.sl (byts (xD b)))), (10, .p (.val (.int .i64 (i : Nat))))], s := [] }
theorem putF_len (b : List Int) (hl : kV b) : (xD b).length = 6 + b.length := by rw [putF_ref b hl]; simp; omega
end Go.Proofs.YtomlhekjgagjaaaDoor
namespace Go.Proofs.YtomlhekjgagjaaaDoor
set_option maxRecDepth 100000
set_option maxHeartbeats 16000000
open Go Go.RowKit
attribute [local irreducible] zZ zY Step zA Sub zL z8 Fn
def frms (bs : List (List Int)) : List Int := (bs.map xD).flatten
def rowsV (bs : List (List Int)) : List PV := bs.map fun b => .sl (byts b)
def splitNS (bs : List (List Int)) (j : Nat) : AS :=
  { t := [(0, .p (.sl (byts (frms bs)))), (4, .own 4), (5, .p (.val (.int .i64 ((frms (bs.take j)).length : Nat))))], s := [(4, lentV 35 1 (rowsV (bs.take j)))] }
def splitNI (bs : List (List Int)) (j : Nat) (b X : List Int) (i : Nat) : AS :=
  { t := [(0, .p (.sl (byts (frms bs)))), (4, .own 4), (5, .p (.val (.int .i64 ((frms (bs.take j)).length : Nat)))), (6, .p (.val (.int .i64 b.length))), (7, .p (.sl (byts X))), (8, .p (.sl (byts (xD b)))), (10, .p (.val (.int .i64 (i : Nat))))], s := [(4, lentV 35 1 (rowsV (bs.take j)))] }
end Go.Proofs.YtomlhekjgagjaaaDoor
namespace Go.Proofs.YtomlhekjgagjaaaDoor
set_option maxRecDepth 100000
set_option maxHeartbeats 16000000
open Go Go.RowKit
attribute [local irreducible] zZ zY Step zA Sub zL z8 Fn
def usedL (s : List Int) : Nat → Nat → Nat
  | 0, p => p
  | f + 1, p => match yR s p with
    | none => p
    | some x => usedL s f x.1
def xS (s : List Int) : Nat := usedL s (s.length + 1) 0
theorem num2 (s : List Int) (p : Nat) (h : p + 2 ≤ s.length) : numOf ((s.drop p).take 2) = s.getD p 0 + 256 * s.getD (p + 1) 0 := by
  rw [numOf_step s p 1 (by omega), numOf_step s (p + 1) 0 (by omega)]
  simp [numOf]
theorem num4 (s : List Int) (p : Nat) (h : p + 4 ≤ s.length) : numOf ((s.drop p).take 4) = s.getD p 0 + 256 * (s.getD (p + 1) 0 + 256 * (s.getD (p + 2) 0 + 256 * s.getD (p + 3) 0)) := by
  rw [numOf_step s p 3 (by omega), numOf_step s (p + 1) 2 (by omega), numOf_step s (p + 2) 1 (by omega), numOf_step s (p + 3) 0 (by omega)]
  simp [numOf]
theorem at_none1 {s : List Int} {p : Nat} (h : ¬ p + 6 ≤ s.length) : yR s p = none := by
  unfold yR
  rw [decide_eq_false h]
  rfl
theorem at_none2 {s : List Int} {p : Nat} (h : ¬ 1 ≤ (numOf ((s.drop p).take 2)).toNat) : yR s p = none := by
  unfold yR
  rw [decide_eq_false h]
  simp
theorem at_none3 {s : List Int} {p : Nat} (h : ¬ p + 6 + (numOf ((s.drop p).take 2)).toNat ≤ s.length) : yR s p = none := by
  unfold yR
  rw [decide_eq_false h]
  simp
theorem at_none4 {s : List Int} {p : Nat} (h : ¬ ((xC 0 ((s.drop (p + 6)).take (numOf ((s.drop p).take 2)).toNat) : Nat) : Int) = numOf ((s.drop (p + 2)).take 4)) : yR s p = none := by
  unfold yR
  rw [decide_eq_false h]
  simp
theorem at_some {s : List Int} {p : Nat} (h1 : p + 6 ≤ s.length) (h2 : 1 ≤ (numOf ((s.drop p).take 2)).toNat) (h3 : p + 6 + (numOf ((s.drop p).take 2)).toNat ≤ s.length) (h4 : ((xC 0 ((s.drop (p + 6)).take (numOf ((s.drop p).take 2)).toNat) : Nat) : Int) = numOf ((s.drop (p + 2)).take 4)) : yR s p = some (p + 6 + (numOf ((s.drop p).take 2)).toNat, (s.drop (p + 6)).take (numOf ((s.drop p).take 2)).toNat) := by
  unfold yR
  rw [decide_eq_true h1, decide_eq_true h2, decide_eq_true h3, decide_eq_true h4]
  rfl
theorem framesL_some {s : List Int} {f p : Nat} {x : Nat × List Int} (h : yR s p = some x) : xX s (f + 1) p = x :: xX s f x.1 := by
  rw [xX, h]
theorem usedL_some {s : List Int} {f p : Nat} {x : Nat × List Int} (h : yR s p = some x) : usedL s (f + 1) p = usedL s f x.1 := by
  rw [usedL, h]
def saS (s : List Int) (q : List (List Int) × Nat) : AS :=
  { t := [(0, .p (.sl (byts s))), (4, .own 4), (5, .p (.val (.int .i64 (q.2 : Nat))))], s := [(4, x9 35 1 (rowsV q.1))] }
def saI (s : List Int) (R : List (List Int)) (p n : Nat) (X : List Int) (k : Nat) : AS :=
  { t := [(0, .p (.sl (byts s))), (4, .own 4), (5, .p (.val (.int .i64 (p : Nat)))), (6, .p (.val (.int .i64 (n : Nat)))), (7, .p (.sl (byts X))), (8, .p (.sl (byts (xD X)))), (10, .p (.val (.int .i64 (k : Nat))))], s := [(4, x9 35 1 (rowsV R))] }
theorem splitA_fn (s : List Int) (hb : ∀ x ∈ s, 0 ≤ x ∧ x < 256) (hlen : s.length ≤ 1000000) :
    Fn Tryd.prog 26 [.sl (byts s)] (.tup [.sl (rowsV (rowsOf s)), .val (.int .i64 (xS s : Nat))]) := by
  refine wU Tryd.func26 rfl Tryd.ntmps26 (Nat.le_of_ble_eq_true rfl) ?_
  repeat' ((refine zY.is ?_; first | refine zY.seq ?_ | (refine zY.iq 0 ?_; refine zY.rqa _ K_5 K_2 ?_; refine zZ.va rfl rfl rfl rfl (by decide) ?_; refine zZ.va rfl rfl rfl rfl (by decide) ?_; refine zZ.nil ?_) | (refine zY.iq 1 ?_; refine zY.rqa _ K_7 K_2 ?_; refine zZ.va rfl rfl rfl rfl (by decide) ?_; refine zZ.nil ?_) | (refine zY.iq 2 ?_; refine zY.rqa _ K_k K_2 ?_; refine zZ.va rfl rfl rfl rfl (by decide) ?_; refine zZ.nil ?_) | refine zY.block ?_))
  refine zY.loop (saS s) (fun q => q.2 ≤ s.length ∧ q.1.length ≤ q.2 ∧ ∃ f, s.length - q.2 < f ∧ rowsOf s = q.1 ++ (xX s f q.2).map (·.2) ∧ xS s = usedL s f q.2) (fun q => s.length - q.2) ([], 0) ?h0 ⟨Nat.zero_le _, Nat.le_refl _, s.length + 1, by simp, rfl, rfl⟩ ?rd
  case h0 =>
    refine (sub_adoptV (d := 4) (id := 4) (ty := 35) (sz := 1) (by decide) rfl).trans ?_
    unfold saS
    exact zD K_1p K_1d
  case rd =>
    rintro ⟨R, p⟩ ⟨hp, hR, f, hf, hrows, hused⟩
    simp only at hp hR hf hrows hused
    obtain ⟨f, rfl⟩ : ∃ f', f = f' + 1 := ⟨f - 1, by omega⟩
    have stop : yR s p = none → rowsOf s = R ∧ xS s = p := fun h => by
      rw [hrows, hused]
      unfold xX usedL
      rw [h]
      simp
    have f0a : IntKind.i64.wrap ((p : Int) + 6) = ((p + 6 : Nat) : Int) := by rw [wrap_i64 _ (by omega)]; omega
    unfold saS
    dsimp only
    by_cases h6 : p + 6 ≤ s.length
    case neg =>
      have f0 : decide (((p + 6 : Nat) : Int) ≤ (s.length : Int)) = false := decide_eq_false (by omega)
      obtain ⟨e1, e2⟩ := stop (at_none1 h6)
      rw [e1, e2]
      repeat' ((refine zY.is ?_; first | refine zY.seq ?_ | (refine zY.iq 3 ?_; refine zY.rqb _ K_3 K_2 ?_; refine zZ.vm rfl rfl rfl rfl (by decide) ?_; refine zZ.v rfl rfl (yX rfl rfl rfl f0a rfl (by decide)) ?_; refine zZ.vm rfl rfl rfl rfl (by decide) ?_; refine zZ.v rfl rfl (xH rfl rfl rfl (by decide)) ?_; refine zZ.v rfl rfl (r_leq rfl rfl rfl f0 rfl (by decide)) ?_; refine zZ.nil ?_) | (refine zY.iq 16 ?_; refine zY.rqb _ K_20 K_2 ?_; refine zZ.v rfl rfl (yJ rfl rfl rfl (by decide)) ?_; refine zZ.vm rfl rfl rfl rfl (by decide) ?_; refine zZ.v rfl rfl (zN rfl rfl rfl (by decide)) ?_; refine zZ.va rfl rfl rfl rfl (by decide) ?_; refine zZ.nil ?_) | refine zY.yF rfl (by first | assumption | with_reducible rfl) ?_ | refine zY.exit ?_ | refine zY.ret ?_))
      all_goals exact ⟨.inl rfl, _, wS 4 35 1 _ rfl, xG.tupE (rs := [.tmp 2, .tmp 3]) rfl (by decide) (.cons (.tmp rfl) (.cons (.tmp rfl) .nil)) rfl⟩
    case pos =>
      have f0 : decide (((p + 6 : Nat) : Int) ≤ (s.length : Int)) = true := decide_eq_true (by omega)
      have f0b : IntKind.i64.wrap ((p : Int) + 1) = ((p + 1 : Nat) : Int) := by rw [wrap_i64 _ (by omega)]; omega
      have i0 : (0 : Int) ≤ (p : Int) ∧ (p : Int) < (s.length : Int) := by omega
      have i1 : (0 : Int) ≤ ((p + 1 : Nat) : Int) ∧ ((p + 1 : Nat) : Int) < (s.length : Int) := by omega
      have hby : ∀ i, 0 ≤ s.getD i 0 ∧ s.getD i 0 < 256 := fun i => by
        rw [List.getD_eq_getElem?_getD]
        cases h : s[i]? with
        | none => simp
        | some v => exact hb v (List.mem_of_getElem? h)
      have b0 := hby p
      have b1 := hby (p + 1)
      have hn2 := num2 s p (by omega)
      have hn4 := num4 s (p + 2) (by omega)
      have an2 := at_none2 (s := s) (p := p)
      have an3 := at_none3 (s := s) (p := p)
      have an4 := at_none4 (s := s) (p := p)
      have ats := at_some (s := s) (p := p) h6
      obtain ⟨n, hn⟩ : ∃ n : Nat, n = (numOf ((s.drop p).take 2)).toNat := ⟨_, rfl⟩
      rw [← hn] at an2 an3 an4 ats
      have hnv : (n : Int) = s.getD p 0 + 256 * s.getD (p + 1) 0 := by omega
      have g1 : IntKind.i64.wrap (s.getD (p : Int).toNat 0) = s.getD p 0 := by rw [Int.toNat_natCast]; exact wrap_i64 _ (by omega)
      have g2 : IntKind.i64.wrap (s.getD ((p + 1 : Nat) : Int).toNat 0) = s.getD (p + 1) 0 := by rw [Int.toNat_natCast]; exact wrap_i64 _ (by omega)
      have g3 : IntKind.i64.wrap (256 * s.getD (p + 1) 0) = 256 * s.getD (p + 1) 0 := wrap_i64 _ (by omega)
      have g4 : IntKind.i64.wrap (s.getD p 0 + 256 * s.getD (p + 1) 0) = (n : Int) := by rw [wrap_i64 _ (by omega)]; omega
      have g5 : IntKind.i64.wrap (((p + 6 : Nat) : Int) + (n : Int)) = ((p + 6 + n : Nat) : Int) := by rw [wrap_i64 _ (by omega)]; omega
      by_cases hn0 : n = 0
      · have f1 : decide ((n : Int) = 0) = true := decide_eq_true (by omega)
        obtain ⟨e1, e2⟩ := stop (an2 (by omega))
        rw [e1, e2]
        repeat' (first | (refine zY.is ?_; first | refine zY.seq ?_ | (refine zY.iq 3 ?_; refine zY.rqb _ K_3 K_2 ?_; refine zZ.vm rfl rfl rfl rfl (by decide) ?_; refine zZ.v rfl rfl (yX rfl rfl rfl f0a rfl (by decide)) ?_; refine zZ.vm rfl rfl rfl rfl (by decide) ?_; refine zZ.v rfl rfl (xH rfl rfl rfl (by decide)) ?_; refine zZ.v rfl rfl (r_leq rfl rfl rfl f0 rfl (by decide)) ?_; refine zZ.nil ?_) | (refine zY.iq 4 ?_; refine zY.rqt _ K_3 K_2 (zY.draws ?_); all_goals (refine Draws.v rfl rfl (zQ rfl rfl rfl (by decide)) ?_); all_goals (refine Draws.v rfl rfl (zQ rfl rfl rfl (by decide)) ?_); all_goals (refine Draws.v rfl rfl (wE rfl rfl rfl i0 rfl (by decide)) ?_); all_goals (refine Draws.v rfl rfl (zP rfl rfl rfl rfl (by decide)) ?_); all_goals (refine Draws.v rfl rfl (xZ rfl rfl g1 rfl (by decide)) ?_); all_goals (refine Draws.v rfl rfl (zQ rfl rfl rfl (by decide)) ?_); all_goals (refine Draws.v rfl rfl (zQ rfl rfl rfl (by decide)) ?_); all_goals (refine Draws.v rfl rfl (yX rfl rfl rfl f0b rfl (by decide)) ?_); all_goals (refine Draws.v rfl rfl (wE rfl rfl rfl i1 rfl (by decide)) ?_); all_goals (refine Draws.v rfl rfl (zP rfl rfl rfl rfl (by decide)) ?_); all_goals (refine Draws.v rfl rfl (xZ rfl rfl g2 rfl (by decide)) ?_); all_goals (refine Draws.v rfl rfl (a_mul rfl rfl rfl g3 rfl (by decide)) ?_); all_goals (refine Draws.v rfl rfl (yX rfl rfl rfl g4 rfl (by decide)) ?_); all_goals (refine Draws.v rfl rfl (wN rfl rfl rfl (by decide)) ?_); all_goals ((refine Draws.done (by kernel_rfl) (by kernel_rfl) (by kernel_rfl) ?_; refine zL.nil ?_))) | (refine zY.iq 5 ?_; refine zY.rqb _ K_3 K_2 ?_; all_goals (refine zZ.vm rfl rfl rfl rfl (by decide) ?_); all_goals (refine zZ.v rfl rfl (yM rfl rfl rfl f1 rfl (by decide)) ?_); all_goals (refine zZ.vm rfl rfl rfl rfl (by decide) ?_); all_goals (refine zZ.gnF rfl rfl (by decide) rfl (by rfl) rfl (by decide) ?_); all_goals (refine zZ.gnF rfl rfl (by decide) rfl (by rfl) rfl (by decide) ?_); all_goals (refine zZ.gnF rfl rfl (by decide) rfl (by rfl) rfl (by decide) ?_); all_goals (refine zZ.gnF rfl rfl (by decide) rfl (by rfl) rfl (by decide) ?_); all_goals (refine zZ.gnF rfl rfl (by decide) rfl (by rfl) rfl (by decide) ?_); all_goals (refine zZ.gnF rfl rfl (by decide) rfl (by rfl) rfl (by decide) ?_); all_goals (refine zZ.gnF rfl rfl (by decide) rfl (by rfl) rfl (by decide) ?_); all_goals (refine zZ.v rfl rfl (zR rfl rfl (by rfl) rfl rfl (by decide)) ?_); all_goals (refine zZ.nil ?_)) | (refine zY.iq 6 ?_; refine zY.rqb _ K_3 K_2 ?_; refine zZ.v rfl rfl (yJ rfl rfl rfl (by decide)) ?_; refine zZ.vm rfl rfl rfl rfl (by decide) ?_; refine zZ.v rfl rfl (zN rfl rfl rfl (by decide)) ?_; refine zZ.va rfl rfl rfl rfl (by decide) ?_; refine zZ.nil ?_) | refine zY.yC rfl (by first | assumption | with_reducible rfl) ?_ | refine zY.skip ?_ | refine zY.block ?_ | refine zY.ret ?_) | refine zH.r ?_ | refine zS.r ?_)
        all_goals exact ⟨.inl rfl, _, wS 4 35 1 _ rfl, xG.tupE (rs := [.tmp 2, .tmp 3]) rfl (by decide) (.cons (.tmp rfl) (.cons (.tmp rfl) .nil)) rfl⟩
      · have f1 : decide ((n : Int) = 0) = false := decide_eq_false (by omega)
        by_cases hn3 : p + 6 + n ≤ s.length
        case neg =>
          have f2 : decide ((s.length : Int) < ((p + 6 + n : Nat) : Int)) = true := decide_eq_true (by omega)
          obtain ⟨e1, e2⟩ := stop (an3 hn3)
          rw [e1, e2]
          repeat' (first | (refine zY.is ?_; first | refine zY.seq ?_ | (refine zY.iq 3 ?_; refine zY.rqb _ K_3 K_2 ?_; refine zZ.vm rfl rfl rfl rfl (by decide) ?_; refine zZ.v rfl rfl (yX rfl rfl rfl f0a rfl (by decide)) ?_; refine zZ.vm rfl rfl rfl rfl (by decide) ?_; refine zZ.v rfl rfl (xH rfl rfl rfl (by decide)) ?_; refine zZ.v rfl rfl (r_leq rfl rfl rfl f0 rfl (by decide)) ?_; refine zZ.nil ?_) | (refine zY.iq 4 ?_; refine zY.rqt _ K_3 K_2 (zY.draws ?_); all_goals (refine Draws.v rfl rfl (zQ rfl rfl rfl (by decide)) ?_); all_goals (refine Draws.v rfl rfl (zQ rfl rfl rfl (by decide)) ?_); all_goals (refine Draws.v rfl rfl (wE rfl rfl rfl i0 rfl (by decide)) ?_); all_goals (refine Draws.v rfl rfl (zP rfl rfl rfl rfl (by decide)) ?_); all_goals (refine Draws.v rfl rfl (xZ rfl rfl g1 rfl (by decide)) ?_); all_goals (refine Draws.v rfl rfl (zQ rfl rfl rfl (by decide)) ?_); all_goals (refine Draws.v rfl rfl (zQ rfl rfl rfl (by decide)) ?_); all_goals (refine Draws.v rfl rfl (yX rfl rfl rfl f0b rfl (by decide)) ?_); all_goals (refine Draws.v rfl rfl (wE rfl rfl rfl i1 rfl (by decide)) ?_); all_goals (refine Draws.v rfl rfl (zP rfl rfl rfl rfl (by decide)) ?_); all_goals (refine Draws.v rfl rfl (xZ rfl rfl g2 rfl (by decide)) ?_); all_goals (refine Draws.v rfl rfl (a_mul rfl rfl rfl g3 rfl (by decide)) ?_); all_goals (refine Draws.v rfl rfl (yX rfl rfl rfl g4 rfl (by decide)) ?_); all_goals (refine Draws.v rfl rfl (wN rfl rfl rfl (by decide)) ?_); all_goals ((refine Draws.done (by kernel_rfl) (by kernel_rfl) (by kernel_rfl) ?_; refine zL.nil ?_))) | (refine zY.iq 5 ?_; refine zY.rqb _ K_3 K_2 ?_; all_goals (refine zZ.vm rfl rfl rfl rfl (by decide) ?_); all_goals (refine zZ.v rfl rfl (yM rfl rfl rfl f1 rfl (by decide)) ?_); all_goals (refine zZ.vm rfl rfl rfl rfl (by decide) ?_); all_goals (refine zZ.gY rfl rfl (by decide) rfl (by rfl) rfl (by decide) (zQ rfl rfl rfl (by decide)) ?_); all_goals (refine zZ.gY rfl rfl (by decide) rfl (by rfl) rfl (by decide) (yX rfl rfl rfl f0a rfl (by decide)) ?_); all_goals (refine zZ.gY rfl rfl (by decide) rfl (by rfl) rfl (by decide) (zQ rfl rfl rfl (by decide)) ?_); all_goals (refine zZ.gY rfl rfl (by decide) rfl (by rfl) rfl (by decide) (yX rfl rfl rfl g5 rfl (by decide)) ?_); all_goals (refine zZ.gY rfl rfl (by decide) rfl (by rfl) rfl (by decide) (zQ rfl rfl rfl (by decide)) ?_); all_goals (refine zZ.gY rfl rfl (by decide) rfl (by rfl) rfl (by decide) (xH rfl rfl rfl (by decide)) ?_); all_goals (refine zZ.gY rfl rfl (by decide) rfl (by rfl) rfl (by decide) (qL rfl rfl rfl f2 rfl (by decide)) ?_); all_goals (refine zZ.v rfl rfl (zM rfl rfl (by rfl) rfl rfl (by decide)) ?_); all_goals (refine zZ.nil ?_)) | (refine zY.iq 6 ?_; refine zY.rqb _ K_3 K_2 ?_; refine zZ.v rfl rfl (yJ rfl rfl rfl (by decide)) ?_; refine zZ.vm rfl rfl rfl rfl (by decide) ?_; refine zZ.v rfl rfl (zN rfl rfl rfl (by decide)) ?_; refine zZ.va rfl rfl rfl rfl (by decide) ?_; refine zZ.nil ?_) | refine zY.yC rfl (by first | assumption | with_reducible rfl) ?_ | refine zY.skip ?_ | refine zY.block ?_ | refine zY.ret ?_) | refine zH.r ?_ | refine zS.r ?_)
          all_goals exact ⟨.inl rfl, _, wS 4 35 1 _ rfl, xG.tupE (rs := [.tmp 2, .tmp 3]) rfl (by decide) (.cons (.tmp rfl) (.cons (.tmp rfl) .nil)) rfl⟩
        case pos =>
          have f2 : decide ((s.length : Int) < ((p + 6 + n : Nat) : Int)) = false := decide_eq_false (by omega)
          have i2 : (0 : Int) ≤ ((p + 6 : Nat) : Int) ∧ ((p + 6 : Nat) : Int) ≤ ((p + 6 + n : Nat) : Int) ∧ ((p + 6 + n : Nat) : Int) ≤ (s.length : Int) := by omega
          obtain ⟨X, hXd⟩ : ∃ X, X = (s.drop (p + 6)).take n := ⟨_, rfl⟩
          rw [← hXd] at an4 ats
          have hXl : X.length = n := by rw [hXd, List.length_take, List.length_drop]; omega
          have hXb : ∀ x ∈ X, 0 ≤ x ∧ x < 256 := fun x hx => by rw [hXd] at hx; exact hb x (List.mem_of_mem_drop (List.mem_of_mem_take hx))
          have hpo : kV X := ⟨by omega, by omega⟩
          have hF := putF_ref X hpo
          have hpl := putF_len X hpo
          have hm := moreF_lt 0 X
          have hX : ([] ++ (s.drop ((p + 6 : Nat) : Int).toNat).take (((p + 6 + n : Nat) : Int).toNat - ((p + 6 : Nat) : Int).toNat)) = X := by
            rw [List.nil_append, Int.toNat_natCast, Int.toNat_natCast, hXd]
            have e1 : p + 6 + n - (p + 6) = n := by omega
            rw [e1]
          have c1 := putRef_fn X hXb hpo
          have c1 : Fn Tryd.prog 45 [.sl (byts ([] ++ (s.drop ((p + 6 : Nat) : Int).toNat).take (((p + 6 + n : Nat) : Int).toNat - ((p + 6 : Nat) : Int).toNat)))] (.tup [.sl (byts (xD X)), .val (.int .i64 0)]) := by rw [hX]; exact c1
          have l1 : ([] : List Int).length + ((s.drop ((p + 6 : Nat) : Int).toNat).take (((p + 6 + n : Nat) : Int).toNat - ((p + 6 : Nat) : Int).toNat)).length ≤ 140737488355328 := by
            simp only [List.length_nil, Nat.zero_add, List.length_take, List.length_drop, Int.toNat_natCast]; omega
          repeat' ((refine zY.is ?_; first | refine zY.seq ?_ | (refine zY.iq 3 ?_; refine zY.rqb _ K_3 K_2 ?_; refine zZ.vm rfl rfl rfl rfl (by decide) ?_; refine zZ.v rfl rfl (yX rfl rfl rfl f0a rfl (by decide)) ?_; refine zZ.vm rfl rfl rfl rfl (by decide) ?_; refine zZ.v rfl rfl (xH rfl rfl rfl (by decide)) ?_; refine zZ.v rfl rfl (r_leq rfl rfl rfl f0 rfl (by decide)) ?_; refine zZ.nil ?_) | (refine zY.iq 4 ?_; refine zY.rqt _ K_3 K_2 (zY.draws ?_); all_goals (refine Draws.v rfl rfl (zQ rfl rfl rfl (by decide)) ?_); all_goals (refine Draws.v rfl rfl (zQ rfl rfl rfl (by decide)) ?_); all_goals (refine Draws.v rfl rfl (wE rfl rfl rfl i0 rfl (by decide)) ?_); all_goals (refine Draws.v rfl rfl (zP rfl rfl rfl rfl (by decide)) ?_); all_goals (refine Draws.v rfl rfl (xZ rfl rfl g1 rfl (by decide)) ?_); all_goals (refine Draws.v rfl rfl (zQ rfl rfl rfl (by decide)) ?_); all_goals (refine Draws.v rfl rfl (zQ rfl rfl rfl (by decide)) ?_); all_goals (refine Draws.v rfl rfl (yX rfl rfl rfl f0b rfl (by decide)) ?_); all_goals (refine Draws.v rfl rfl (wE rfl rfl rfl i1 rfl (by decide)) ?_); all_goals (refine Draws.v rfl rfl (zP rfl rfl rfl rfl (by decide)) ?_); all_goals (refine Draws.v rfl rfl (xZ rfl rfl g2 rfl (by decide)) ?_); all_goals (refine Draws.v rfl rfl (a_mul rfl rfl rfl g3 rfl (by decide)) ?_); all_goals (refine Draws.v rfl rfl (yX rfl rfl rfl g4 rfl (by decide)) ?_); all_goals (refine Draws.v rfl rfl (wN rfl rfl rfl (by decide)) ?_); all_goals ((refine Draws.done (by kernel_rfl) (by kernel_rfl) (by kernel_rfl) ?_; refine zL.nil ?_))) | (refine zY.iq 5 ?_; refine zY.rqb _ K_3 K_2 ?_; all_goals (refine zZ.vm rfl rfl rfl rfl (by decide) ?_); all_goals (refine zZ.v rfl rfl (yM rfl rfl rfl f1 rfl (by decide)) ?_); all_goals (refine zZ.vm rfl rfl rfl rfl (by decide) ?_); all_goals (refine zZ.gY rfl rfl (by decide) rfl (by rfl) rfl (by decide) (zQ rfl rfl rfl (by decide)) ?_); all_goals (refine zZ.gY rfl rfl (by decide) rfl (by rfl) rfl (by decide) (yX rfl rfl rfl f0a rfl (by decide)) ?_); all_goals (refine zZ.gY rfl rfl (by decide) rfl (by rfl) rfl (by decide) (zQ rfl rfl rfl (by decide)) ?_); all_goals (refine zZ.gY rfl rfl (by decide) rfl (by rfl) rfl (by decide) (yX rfl rfl rfl g5 rfl (by decide)) ?_); all_goals (refine zZ.gY rfl rfl (by decide) rfl (by rfl) rfl (by decide) (zQ rfl rfl rfl (by decide)) ?_); all_goals (refine zZ.gY rfl rfl (by decide) rfl (by rfl) rfl (by decide) (xH rfl rfl rfl (by decide)) ?_); all_goals (refine zZ.gY rfl rfl (by decide) rfl (by rfl) rfl (by decide) (qL rfl rfl rfl f2 rfl (by decide)) ?_); all_goals (refine zZ.v rfl rfl (zM rfl rfl (by rfl) rfl rfl (by decide)) ?_); all_goals (refine zZ.nil ?_)) | (refine zY.iq 7 ?_; refine zY.rqb _ K_3 K_2 ?_; refine zZ.m rfl rfl (wC rfl rfl (by decide)) ?_; refine zZ.vm rfl rfl rfl rfl (by decide) ?_; refine zZ.vm rfl rfl rfl rfl (by decide) ?_; refine zZ.v rfl rfl (yX rfl rfl rfl f0a rfl (by decide)) ?_; refine zZ.vm rfl rfl rfl rfl (by decide) ?_; refine zZ.v rfl rfl (yX rfl rfl rfl f0a rfl (by decide)) ?_; refine zZ.vm rfl rfl rfl rfl (by decide) ?_; refine zZ.v rfl rfl (yX rfl rfl rfl g5 rfl (by decide)) ?_; refine zZ.v rfl rfl (vG rfl rfl rfl rfl i2 rfl (by decide)) ?_; refine zZ.w rfl (kZ rfl rfl rfl rfl l1 rfl rfl (by decide)) ?_; refine zZ.v rfl rfl (zN rfl rfl rfl (by decide)) ?_; refine zZ.nil ?_) | (refine zY.isR (id := 8) ?_; refine zY.sub ((sub_frzB 42 rfl)) ?_; refine zY.rqb _ K_3 K_2 ?_; refine zZ.vm rfl rfl rfl rfl (by decide) ?_; refine zZ.v rfl rfl (by exact y9 (c1) rfl rfl rfl (by decide)) ?_; refine zZ.v rfl rfl (yG rfl rfl rfl (by decide)) ?_; refine zZ.v rfl rfl (zC rfl rfl rfl rfl (by decide)) ?_; refine zZ.v rfl rfl (zC rfl rfl rfl rfl (by decide)) ?_; refine zZ.va rfl rfl rfl rfl (by decide) ?_; refine zZ.va rfl rfl rfl rfl (by decide) ?_; refine zZ.nil ?_) | (refine zY.iq 9 ?_; refine zY.rqb _ K_3 K_2 ?_; refine zZ.va rfl rfl rfl rfl (by decide) ?_; refine zZ.nil ?_) | refine zY.yC rfl (by first | assumption | with_reducible rfl) ?_ | refine zY.yF rfl (by first | assumption | with_reducible rfl) ?_ | refine zY.skip ?_ | refine zY.block ?_))
          generalize hXe : ([] ++ (s.drop ((p + 6 : Nat) : Int).toNat).take (((p + 6 + n : Nat) : Int).toNat - ((p + 6 : Nat) : Int).toNat)) = Y at hX ⊢
          subst hX
          refine zY.loop (fun k => saI s R p n Y (k + 2)) (fun k => k ≤ 4 ∧ ∀ i, i < k → (xD Y).getD (i + 2) 0 = s.getD (p + (i + 2)) 0) (fun k => 4 - k) 0 ?k0 ⟨Nat.zero_le _, fun i hi => by omega⟩ ?kr
          case k0 =>
            unfold saI
            exact zD K_1q K_1d
          case kr =>
            intro k ⟨hk4, hke⟩
            have q1 : IntKind.i64.wrap ((p : Int) + ((k + 2 : Nat) : Int)) = ((p + (k + 2) : Nat) : Int) := by rw [wrap_i64 _ (by omega)]; omega
            have q2 : IntKind.i64.wrap (((k + 2 : Nat) : Int) + 1) = ((k + 1 + 2 : Nat) : Int) := by rw [wrap_i64 _ (by omega)]; omega
            have e2 : (xD Y).getD 2 0 = ((xC 0 Y : Nat) : Int) % 256 := by rw [hF]; rfl
            have e3 : (xD Y).getD 3 0 = ((xC 0 Y : Nat) : Int) / 256 % 256 := by rw [hF]; rfl
            have e4 : (xD Y).getD 4 0 = ((xC 0 Y : Nat) : Int) / 65536 % 256 := by rw [hF]; rfl
            have e5 : (xD Y).getD 5 0 = ((xC 0 Y : Nat) : Int) / 16777216 := by rw [hF]; rfl
            have y2 := hby (p + 2)
            have y3 := hby (p + 3)
            have y4 := hby (p + 4)
            have y5 := hby (p + 5)
            unfold saI
            rcases Nat.lt_or_ge k 4 with h4 | h4
            · have q3 : (0 : Int) ≤ ((k + 2 : Nat) : Int) ∧ ((k + 2 : Nat) : Int) < ((xD Y).length : Int) := by rw [hpl]; omega
              have q3b : (0 : Int) ≤ ((p + (k + 2) : Nat) : Int) ∧ ((p + (k + 2) : Nat) : Int) < (s.length : Int) := by omega
              have q5 : decide (((k + 2 : Nat) : Int) < 6) = true := decide_eq_true (by omega)
              by_cases heq : (xD Y).getD (k + 2) 0 = s.getD (p + (k + 2)) 0
              · have q4 : (!decide ((xD Y).getD ((k + 2 : Nat) : Int).toNat 0 = s.getD ((p + (k + 2) : Nat) : Int).toNat 0)) = false := by
                  rw [Int.toNat_natCast, Int.toNat_natCast, heq]; simp
                repeat' (first | (refine zY.is ?_; first | refine zY.seq ?_ | (refine zY.iq 10 ?_; refine zY.rqb _ K_3 K_2 ?_; refine zZ.vm rfl rfl rfl rfl (by decide) ?_; refine zZ.v rfl rfl (yZ rfl rfl rfl q5 rfl (by decide)) ?_; refine zZ.nil ?_) | (refine zY.iq 12 ?_; refine zY.rqt _ K_3 K_2 (zY.draws ?_); all_goals (refine Draws.v rfl rfl (zQ rfl rfl rfl (by decide)) ?_); all_goals (refine Draws.v rfl rfl (zQ rfl rfl rfl (by decide)) ?_); all_goals (refine Draws.v rfl rfl (wE rfl rfl rfl q3 rfl (by decide)) ?_); all_goals (refine Draws.v rfl rfl (zP rfl rfl rfl rfl (by decide)) ?_); all_goals (refine Draws.v rfl rfl (zQ rfl rfl rfl (by decide)) ?_); all_goals (refine Draws.v rfl rfl (zQ rfl rfl rfl (by decide)) ?_); all_goals (refine Draws.v rfl rfl (zQ rfl rfl rfl (by decide)) ?_); all_goals (refine Draws.v rfl rfl (yX rfl rfl rfl q1 rfl (by decide)) ?_); all_goals (refine Draws.v rfl rfl (wE rfl rfl rfl q3b rfl (by decide)) ?_); all_goals (refine Draws.v rfl rfl (zP rfl rfl rfl rfl (by decide)) ?_); all_goals (refine Draws.v rfl rfl (vJ rfl rfl rfl q4 rfl (by decide)) ?_); all_goals ((refine Draws.done (by kernel_rfl) (by kernel_rfl) (by kernel_rfl) ?_; refine zL.nil ?_))) | (refine zY.iq 11 ?_; refine zY.rqb _ K_3 K_2 ?_; refine zZ.vm rfl rfl rfl rfl (by decide) ?_; refine zZ.v rfl rfl (yX rfl rfl rfl q2 rfl (by decide)) ?_; refine zZ.va rfl rfl rfl rfl (by decide) ?_; refine zZ.nil ?_) | refine zY.yC rfl (by first | assumption | with_reducible rfl) ?_ | refine zY.yF rfl (by first | assumption | with_reducible rfl) ?_ | refine zY.skip ?_ | refine zY.block ?_) | refine zH.n ?_)
                all_goals
                  refine ⟨k + 1, ?_, ⟨by omega, fun i hi => ?_⟩, by omega⟩
                  · try unfold saI
                    exact zD K_1q K_1d
                  · rcases Nat.lt_or_ge i k with h | h
                    · exact hke i h
                    · obtain rfl : i = k := by omega
                      exact heq
              · have q4 : (!decide ((xD Y).getD ((k + 2 : Nat) : Int).toNat 0 = s.getD ((p + (k + 2) : Nat) : Int).toNat 0)) = true := by
                  rw [Int.toNat_natCast, Int.toNat_natCast, decide_eq_false heq]; rfl
                have hne : ¬ ((xC 0 Y : Nat) : Int) = numOf ((s.drop (p + 2)).take 4) := fun h => heq (by
                  have a3 : p + 2 + 1 = p + 3 := rfl
                  have a4 : p + 2 + 2 = p + 4 := rfl
                  have a5 : p + 2 + 3 = p + 5 := rfl
                  rw [hn4, a3, a4, a5] at h
                  rcases (show k = 0 ∨ k = 1 ∨ k = 2 ∨ k = 3 by omega) with rfl | rfl | rfl | rfl
                  · show (xD Y).getD 2 0 = s.getD (p + 2) 0
                    rw [e2, h]; omega
                  · show (xD Y).getD 3 0 = s.getD (p + 3) 0
                    rw [e3, h]; omega
                  · show (xD Y).getD 4 0 = s.getD (p + 4) 0
                    rw [e4, h]; omega
                  · show (xD Y).getD 5 0 = s.getD (p + 5) 0
                    rw [e5, h]; omega)
                obtain ⟨r1, r2⟩ := stop (an4 hne)
                rw [r1, r2]
                repeat' (first | (refine zY.is ?_; first | refine zY.seq ?_ | (refine zY.iq 10 ?_; refine zY.rqb _ K_3 K_2 ?_; refine zZ.vm rfl rfl rfl rfl (by decide) ?_; refine zZ.v rfl rfl (yZ rfl rfl rfl q5 rfl (by decide)) ?_; refine zZ.nil ?_) | (refine zY.iq 12 ?_; refine zY.rqt _ K_3 K_2 (zY.draws ?_); all_goals (refine Draws.v rfl rfl (zQ rfl rfl rfl (by decide)) ?_); all_goals (refine Draws.v rfl rfl (zQ rfl rfl rfl (by decide)) ?_); all_goals (refine Draws.v rfl rfl (wE rfl rfl rfl q3 rfl (by decide)) ?_); all_goals (refine Draws.v rfl rfl (zP rfl rfl rfl rfl (by decide)) ?_); all_goals (refine Draws.v rfl rfl (zQ rfl rfl rfl (by decide)) ?_); all_goals (refine Draws.v rfl rfl (zQ rfl rfl rfl (by decide)) ?_); all_goals (refine Draws.v rfl rfl (zQ rfl rfl rfl (by decide)) ?_); all_goals (refine Draws.v rfl rfl (yX rfl rfl rfl q1 rfl (by decide)) ?_); all_goals (refine Draws.v rfl rfl (wE rfl rfl rfl q3b rfl (by decide)) ?_); all_goals (refine Draws.v rfl rfl (zP rfl rfl rfl rfl (by decide)) ?_); all_goals (refine Draws.v rfl rfl (vJ rfl rfl rfl q4 rfl (by decide)) ?_); all_goals ((refine Draws.done (by kernel_rfl) (by kernel_rfl) (by kernel_rfl) ?_; refine zL.nil ?_))) | (refine zY.iq 13 ?_; refine zY.rqb _ K_3 K_2 ?_; refine zZ.v rfl rfl (yJ rfl rfl rfl (by decide)) ?_; refine zZ.vm rfl rfl rfl rfl (by decide) ?_; refine zZ.v rfl rfl (zN rfl rfl rfl (by decide)) ?_; refine zZ.va rfl rfl rfl rfl (by decide) ?_; refine zZ.nil ?_) | refine zY.yC rfl (by first | assumption | with_reducible rfl) ?_ | refine zY.skip ?_ | refine zY.block ?_ | refine zY.ret ?_) | refine zH.r ?_ | refine zS.r ?_)
                all_goals exact ⟨.inl rfl, _, wS 4 35 1 _ rfl, xG.tupE (rs := [.tmp 2, .tmp 3]) rfl (by decide) (.cons (.tmp rfl) (.cons (.tmp rfl) .nil)) rfl⟩
            · obtain rfl : k = 4 := by omega
              have hcrc : ((xC 0 Y : Nat) : Int) = numOf ((s.drop (p + 2)).take 4) := by
                have w2 := hke 0 (by omega)
                have w3 := hke 1 (by omega)
                have w4 := hke 2 (by omega)
                have w5 := hke 3 (by omega)
                simp only [Nat.zero_add, Nat.reduceAdd] at w2 w3 w4 w5
                rw [e2] at w2
                rw [e3] at w3
                rw [e4] at w4
                rw [e5] at w5
                have a3 : p + 2 + 1 = p + 3 := rfl
                have a4 : p + 2 + 2 = p + 4 := rfl
                have a5 : p + 2 + 3 = p + 5 := rfl
                rw [hn4, a3, a4, a5]
                omega
              have hsome := ats (by omega) hn3 hcrc
              have q5 : decide (((4 + 2 : Nat) : Int) < 6) = false := rfl
              have q6 : ∀ e ∈ [PV.sl (byts Y)], e.cells.length = 1 := fun e he => by simp at he; subst he; rfl
              have q7 : ∀ e ∈ rowsV R, e.cells.length = 1 := fun e he => by obtain ⟨x, _, rfl⟩ := List.mem_map.1 he; rfl
              have q8 : ((rowsV R).length + ([PV.sl (byts Y)] : List PV).length) * 24 ≤ 140737488355328 ∧ (rowsV R).length + ([PV.sl (byts Y)] : List PV).length ≤ maxLen := by
                simp only [rowsV, List.length_map, List.length_cons, List.length_nil, maxLen]; omega
              have q10 : ([PV.sl (byts Y)] : List PV).length * 24 ≤ 140737488355328 ∧ ([PV.sl (byts Y)] : List PV).length ≤ maxLen := by simp [maxLen]
              have er : rowsV (R ++ [Y]) = rowsV R ++ [PV.sl (byts Y)] := by simp [rowsV]
              repeat' (first | (refine zY.is ?_; first | refine zY.seq ?_ | (refine zY.iq 10 ?_; refine zY.rqb _ K_3 K_2 ?_; refine zZ.vm rfl rfl rfl rfl (by decide) ?_; refine zZ.v rfl rfl (yZ rfl rfl rfl q5 rfl (by decide)) ?_; refine zZ.nil ?_) | (refine zY.iq 14 ?_; refine zY.rqb _ K_3 K_2 ?_; refine zZ.v rfl rfl (yJ rfl rfl rfl (by decide)) ?_; refine zZ.vm rfl rfl rfl rfl (by decide) ?_; refine zZ.v rfl rfl (wO rfl (by decide) (by decide) (by decide) (by decide) (by rfl) (by rfl) (by rfl) (by rfl) (by rfl) (by rfl) (by rfl) rfl (by decide)) ?_; refine zZ.w rfl (qF rfl rfl rfl rfl q6 q8 rfl (by decide) rfl (by decide)) ?_; refine zZ.v rfl rfl (zN rfl rfl rfl (by decide)) ?_; refine zZ.nil ?_) | (refine zY.iq 15 ?_; refine zY.rqb _ K_3 K_2 ?_; refine zZ.vm rfl rfl rfl rfl (by decide) ?_; refine zZ.v rfl rfl (yX rfl rfl rfl f0a rfl (by decide)) ?_; refine zZ.vm rfl rfl rfl rfl (by decide) ?_; refine zZ.v rfl rfl (yX rfl rfl rfl g5 rfl (by decide)) ?_; refine zZ.va rfl rfl rfl rfl (by decide) ?_; refine zZ.nil ?_) | refine zY.yF rfl (by assumption) ?_ | refine zY.exit ?_) | refine zH.n ?_ | refine zS.n ?_)
              all_goals
                refine ⟨(R ++ [Y], p + 6 + n), ?_, ⟨hn3, by show (R ++ [Y]).length ≤ _; rw [List.length_append]; simp only [List.length_cons, List.length_nil]; omega, f, by show s.length - (p + 6 + n) < f; omega, ?_, ?_⟩, by show s.length - (p + 6 + n) < s.length - p; omega⟩
                · try unfold saS
                  dsimp only
                  rw [er]
                  exact zD K_1p K_1d
                · rw [hrows]
                  show R ++ (xX s (f + 1) p).map (·.2) = _
                  rw [framesL_some hsome, List.map_cons, List.append_assoc]
                  rfl
                · rw [hused]
                  exact usedL_some hsome
end Go.Proofs.YtomlhekjgagjaaaDoor
namespace Go.Proofs.YtomlhekjgagjaaaDoor
set_option maxRecDepth 100000
set_option maxHeartbeats 16000000
open Go Go.RowKit
theorem take_two {s : List Int} {p k m : Nat} : (s.drop p).take (k + m) = (s.drop p).take k ++ (s.drop (p + k)).take m := by
  rw [List.take_add, List.drop_drop]
theorem frame_put {s : List Int} {p : Nat} {x : Nat × List Int} (hb : yI s) (h : yR s p = some x) : kV x.2 ∧ (s.drop p).take (x.1 - p) = xD x.2 ∧ p < x.1 ∧ x.1 ≤ s.length := by
  obtain ⟨h1, h2, h3, h4, h5, h6, h7⟩ := frameAt_some h
  have r2 : ∀ y ∈ (s.drop p).take 2, 0 ≤ y ∧ y < 256 := fun y hy => hb y (List.mem_of_mem_drop (List.mem_of_mem_take hy))
  have r4 : ∀ y ∈ (s.drop (p + 2)).take 4, 0 ≤ y ∧ y < 256 := fun y hy => hb y (List.mem_of_mem_drop (List.mem_of_mem_take hy))
  have l2 : ((s.drop p).take 2).length = 2 := by rw [List.length_take, List.length_drop]; omega
  have l4 : ((s.drop (p + 2)).take 4).length = 4 := by rw [List.length_take, List.length_drop]; omega
  have b2 := bytes_numOf _ r2
  have b4 := bytes_numOf _ r4
  have n2 := numOf_range _ r2
  rw [l2] at b2 n2
  rw [l4] at b4
  obtain ⟨n, hn⟩ : ∃ n : Nat, n = (numOf ((s.drop p).take 2)).toNat := ⟨_, rfl⟩
  rw [← hn] at h4 h5 h6
  have hl : x.2.length = n := by rw [h6, List.length_take, List.length_drop]; omega
  have hp : (256 : Int) ^ 2 = 65536 := rfl
  refine ⟨⟨by omega, by omega⟩, ?_, h1, h2⟩
  have e1 : x.1 - p = 2 + (4 + n) := by omega
  have e2 : ((x.2.length : Nat) : Int) = numOf ((s.drop p).take 2) := by rw [hl, hn]; omega
  unfold xD
  rw [e1, e2, h7, b2, b4, h6, take_two, take_two, List.append_assoc]
theorem used_cat {s : List Int} (hb : yI s) : ∀ (f p : Nat), p ≤ s.length → s.length - p < f → (∀ b ∈ (xX s f p).map (·.2), kV b) ∧ s.take (usedL s f p) = s.take p ++ vD ((xX s f p).map (·.2)) ∧ usedL s f p ≤ s.length
  | 0, p, h1, h2 => by omega
  | f + 1, p, h1, h2 => by
    unfold xX usedL
    cases h : yR s p with
    | none => exact ⟨(fun b hb => by cases hb), by simp [catF_nil], h1⟩
    | some x =>
      obtain ⟨g1, g2, g3, g4⟩ := frame_put hb h
      obtain ⟨i1, i2, i3⟩ := used_cat hb f x.1 g4 (by omega)
      refine ⟨fun b hb' => ?_, ?_, i3⟩
      · rcases List.mem_cons.1 hb' with rfl | hb'
        · exact g1
        · exact i1 b hb'
      · show s.take (usedL s f x.1) = s.take p ++ vD (x.2 :: (xX s f x.1).map (·.2))
        rw [i2, catF_cons, ← List.append_assoc, ← g2]
        congr 1
        have := List.take_add (l := s) (i := p) (j := x.1 - p)
        rw [show p + (x.1 - p) = x.1 by omega] at this
        exact this
theorem used_all {s : List Int} (hb : yI s) : (∀ b ∈ rowsOf s, kV b) ∧ s.take (xS s) = vD (rowsOf s) ∧ xS s ≤ s.length := by
  have h := used_cat hb (s.length + 1) 0 (Nat.zero_le _) (by omega)
  rw [List.take_zero, List.nil_append] at h
  exact h
theorem framesL_more : ∀ (bs : List (List Int)) (pre t : List Int) (f : Nat), (∀ b ∈ bs, kV b) → bs.length ≤ f → xX (pre ++ (vD bs ++ t)) f pre.length = endsF pre.length bs ++ xX (pre ++ (vD bs ++ t)) (f - bs.length) (pre.length + (vD bs).length)
  | [], pre, t, f, _, _ => by simp [catF_nil, endsF]
  | b :: r, pre, t, f + 1, h, hf => by
    rw [catF_cons, xX]
    have e0 : pre ++ (xD b ++ vD r ++ t) = pre ++ (xD b ++ (vD r ++ t)) := by rw [List.append_assoc]
    rw [e0, frameAt_put pre (vD r ++ t) b (h b (by simp))]
    have ih := framesL_more r (pre ++ xD b) t f (fun c hc => h c (by simp [hc])) (by simpa using hf)
    rw [List.length_append, vE, List.append_assoc] at ih
    show _ :: xX _ f (pre.length + 6 + b.length) = _
    rw [show pre.length + 6 + b.length = pre.length + (6 + b.length) by omega, ih, endsF, List.length_append, vE]
    rw [show pre.length + 6 + b.length = pre.length + (6 + b.length) by omega, show pre.length + (6 + b.length) + (vD r).length = pre.length + (6 + b.length + (vD r).length) by omega]
    rw [List.length_cons, Nat.add_sub_add_right]
    rfl
  | b :: r, pre, t, 0, h, hf => by simp at hf
theorem rows_torn {bs : List (List Int)} (h : ∀ b ∈ bs, kV b) {d : List Int} (hd : kV d) {k : Nat} (hk : k < (xD d).length) : rowsOf (vD bs ++ (xD d).take k) = bs := by
  have hm := catF_many bs
  have h1 := framesL_more bs [] ((xD d).take k) ((vD bs ++ (xD d).take k).length + 1) h (by rw [List.length_append]; omega)
  simp only [List.nil_append, List.length_nil, Nat.zero_add] at h1
  unfold rowsOf yH
  rw [h1]
  have hn : yR (vD bs ++ (xD d).take k) (vD bs).length = none := by
    refine frameAt_none fun hc => ?_
    obtain ⟨c1, c2, c3, c4⟩ := hc
    have hlen : (vD bs ++ (xD d).take k).length = (vD bs).length + k := by rw [List.length_append, List.length_take]; omega
    rw [hlen] at c1 c3
    have hdr : (vD bs ++ (xD d).take k).drop (vD bs).length = (xD d).take k := by simp
    rw [hdr, List.take_take, Nat.min_eq_left (by omega)] at c3
    have e1 : (xD d).take 2 = bytesOf 2 (d.length : Nat) := by
      unfold xD
      rw [List.append_assoc, List.take_append_of_le_length (by rw [wJ]; omega), List.take_of_length_le (by rw [wJ]; omega)]
    rw [e1, numOf_bytes 2 _ (by omega) (by have := hd.2; simp; omega)] at c3
    rw [vE] at hk
    omega
  have e2 : xX (vD bs ++ (xD d).take k) ((vD bs ++ (xD d).take k).length + 1 - bs.length) (vD bs).length = [] := by
    generalize (vD bs ++ (xD d).take k).length + 1 - bs.length = f
    cases f with
    | zero => rfl
    | succ f => rw [xX, hn]
  rw [e2, List.append_nil, endsF_rows]
theorem rows_whole {bs : List (List Int)} (h : ∀ b ∈ bs, kV b) {d : List Int} (hd : kV d) : rowsOf (vD bs ++ xD d) = bs ++ [d] := by
  have e1 : vD bs ++ xD d = vD (bs ++ [d]) := by rw [catF_append]; simp [vD]
  rw [e1]
  exact rowsOf_cat _ fun b hb => by
    rcases List.mem_append.1 hb with hb | hb
    · exact h b hb
    · rw [List.mem_singleton] at hb; subst hb; exact hd
theorem ents_rows {s s' : List Int} (h : rowsOf s' = rowsOf s) (i : Nat) : yA i s' = yA i s := by
  unfold yA wL
  rw [h]
theorem gfrom_set {s s' : List Int} (h : rowsOf s' = rowsOf s) : ∀ (ss : List (List Int)) (g : GD) (i k : Nat), ss[k]? = some s → gfrom g i (ss.set k s') = gfrom g i ss
  | [], g, i, k, hk => by simp at hk
  | x :: r, g, i, 0, hk => by
    obtain rfl : x = s := by simpa using hk
    show gfrom (gstep g (yA i s')) (i + 1) r = _
    rw [ents_rows h]
    rfl
  | x :: r, g, i, k + 1, hk => gfrom_set h r _ (i + 1) k (by simpa using hk)
theorem torn_same {s s' : List Int} (h : rowsOf s' = rowsOf s) {ss : List (List Int)} {k : Nat} (hk : ss[k]? = some s) (c : Int) : wV (ss.set k s') c = wV ss c := by
  have : xB (ss.set k s') = xB ss := by
    unfold xB
    rw [List.length_set]
    exact gfrom_set h ss _ 0 k hk
  unfold wV
  rw [this]
theorem decs_snoc : ∀ (R : List (List Int)) {b : List Int} {e : zV}, decE b = some e → (decs R).2 = true → decs (R ++ [b]) = ((decs R).1 ++ [e], true)
  | [], b, e, h, _ => by simp [decs, h]
  | x :: r, b, e, h, h2 => by
    rw [List.cons_append]
    unfold decs at h2 ⊢
    cases hx : decE x with
    | none => rw [hx] at h2; cases h2
    | some y =>
      rw [hx] at h2
      simp only at h2 ⊢
      rw [decs_snoc r h h2]
      rfl
theorem stream_more {s s2 b : List Int} {e : zV} (hb : yI s) (hb2 : yI s2) (h : rowsOf s2 = rowsOf s ++ [b]) (hd : decE b = some e) (h3 : ¬ e.k = 3) {i : Nat} {l : List zV} (hl : streamR (i + 1) s = some l) : streamR (i + 1) s2 = some (l ++ [e]) := by
  rw [stream_eq _ hb] at hl
  rw [stream_eq _ hb2]
  have q : ∀ s, yA (i + 1) s = wL s := fun s => by
    unfold yA
    rw [if_neg (fun h => by have := h.1; omega)]
  rw [q] at hl
  rw [q]
  unfold wL at hl ⊢
  rw [h]
  have hs := decs_snoc (rowsOf s) hd
  generalize decs (rowsOf s) = D at hl hs
  obtain ⟨L, t⟩ := D
  cases t
  · simp at hl
  · have hs := hs rfl
    rw [hs]
    simp only [Bool.true_and] at hl ⊢
    split at hl
    · rename_i hn
      obtain rfl := Option.some.inj hl
      have hn2 : no3 (L ++ [e]) = true := by
        unfold no3 at hn ⊢
        rw [List.all_append, hn]
        simp [h3]
      rw [if_pos hn2]
    · cases hl
theorem all_set {s s2 b : List Int} {e : zV} (hb : yI s) (hb2 : yI s2) (h : rowsOf s2 = rowsOf s ++ [b]) (hd : decE b = some e) (h3 : ¬ e.k = 3) : ∀ (ss : List (List Int)) (i k : Nat) (P : List zV), ss[k]? = some s → 0 < i + k → allL i ss = some P →
    ∃ P', allL i (ss.set k s2) = some P' ∧ ∀ d, d ∈ P' ↔ d ∈ P ++ [e]
  | [], i, k, P, hk, _, _ => by simp at hk
  | x :: r, i, 0, P, hk, hi, hP => by
    obtain rfl : x = s := by simpa using hk
    obtain ⟨j, rfl⟩ : ∃ j, i = j + 1 := ⟨i - 1, by omega⟩
    rw [kK] at hP
    show ∃ P', allL (j + 1) (s2 :: r) = some P' ∧ _
    rw [kK]
    cases hs : streamR (j + 1) x with
    | none => rw [hs] at hP; cases hP
    | some l =>
      rw [hs] at hP
      obtain ⟨Q, hQ, rfl⟩ := Option.map_eq_some_iff.1 (show (allL (j + 1 + 1) r).map (l ++ ·) = some P from hP)
      rw [stream_more hb hb2 h hd h3 hs]
      refine ⟨(l ++ [e]) ++ Q, by show (allL (j + 1 + 1) r).map _ = _; rw [hQ]; rfl, fun d => ?_⟩
      simp only [List.mem_append, List.mem_singleton]
      by_cases h1 : d ∈ l <;> by_cases h2 : d ∈ Q <;> by_cases h4 : d = e <;> simp [h1, h2, h4]
  | x :: r, i, k + 1, P, hk, hi, hP => by
    rw [kK] at hP
    show ∃ P', allL i (x :: r.set k s2) = some P' ∧ _
    rw [kK]
    cases hs : streamR i x with
    | none => rw [hs] at hP; cases hP
    | some l =>
      rw [hs] at hP
      obtain ⟨Q, hQ, rfl⟩ := Option.map_eq_some_iff.1 (show (allL (i + 1) r).map (l ++ ·) = some P from hP)
      obtain ⟨Q', hQ', hm⟩ := all_set hb hb2 h hd h3 r (i + 1) k Q (by simpa using hk) (by omega) hQ
      refine ⟨l ++ Q', by show (allL (i + 1) (r.set k s2)).map _ = _; rw [hQ']; rfl, fun d => ?_⟩
      have := hm d
      simp only [List.mem_append, List.mem_singleton] at this ⊢
      rw [this]
      by_cases h1 : d ∈ l <;> by_cases h2 : d ∈ Q <;> by_cases h4 : d = e <;> simp [h1, h2, h4]
theorem may_birth_uv {e : zV} (hm : e.may = true) (h1 : e.k = 1) : e.y % 2147483648 = 0 → e.u = 0 ∧ e.v = 0 := fun h => by
  unfold zV.may qP at hm
  rw [if_pos h1, if_pos h] at hm
  simp only [Bool.and_eq_true, decide_eq_true_eq] at hm
  exact hm.2
def vP (z : Int) (e : zV) : Bool := !(decide (e.s = z) || decide (e.u = z) || decide (e.v = z))
def yS (z : Int) : zV := ⟨2, z, 0, 0, 0, 0⟩
theorem lives_more {P : List zV} {z : Int} (hz : 0 < z) {e : zV} (hm : e.may = true) (hk : e.k = 1) : kX (P ++ [yS z]) e = (kX P e && vP z e) := by
  have hd : ∀ j, vT (P ++ [yS z]) j = (vT P j || decide (z = j)) := fun j => by
    rw [deadR_append]
    congr 1
    show (decide ((2 : Int) = 2) && decide (z = j) || false) = decide (z = j)
    rw [decide_eq_true rfl, Bool.true_and, Bool.or_false]
  have hv : ∀ j w, vfind (P ++ [yS z]) j w = vfind P j w := fun j w => by
    rw [vfind_append]
    simp [vfind, yS]
  have hb := (may_birth_uv hm hk)
  unfold kX vertR vP
  rw [hd, hd, hd, hv, hv]
  have es : decide (z = e.s) = decide (e.s = z) := decide_eq_decide.2 eq_comm
  have eu : decide (z = e.u) = decide (e.u = z) := decide_eq_decide.2 eq_comm
  have ev : decide (z = e.v) = decide (e.v = z) := decide_eq_decide.2 eq_comm
  rw [es, eu, ev]
  by_cases hw : e.y % 2147483648 - 1 < 0
  · obtain ⟨h1, h2⟩ := hb (by omega)
    have u0 : decide (e.u = z) = false := decide_eq_false (by omega)
    have v0 : decide (e.v = z) = false := decide_eq_false (by omega)
    rw [decide_eq_true hw, u0, v0]
    cases decide (e.k = 1) <;> cases vT P e.s <;> cases decide (e.s = z) <;> rfl
  · rw [decide_eq_false hw]
    cases decide (e.k = 1) <;> cases vT P e.s <;> cases decide (e.s = z) <;> cases vT P e.u <;> cases decide (e.u = z) <;> cases vT P e.v <;> cases decide (e.v = z) <;> cases vfind P e.u (vkey (e.y / 2147483648)) <;> cases vfind P e.v (vkey (e.y % 2147483648 - 1)) <;> rfl
theorem torn_more {ss : List (List Int)} (hb : ∀ s ∈ ss, yI s) {k : Nat} (hk1 : 0 < k) {s s2 : List Int} (hk : ss[k]? = some s) (hb2 : yI s2) {z : Int} (hz : 0 < z) (h : rowsOf s2 = rowsOf s ++ [(yS z).enc]) (hd : decE (yS z).enc = some (yS z)) {c : Int} {L : List zV} (hL : wV ss c = (L, 0)) :
    wV (ss.set k s2) c = (L.filter (vP z), 0) := by
  have hne : ss.length ≠ 0 := by have := (List.getElem?_eq_some_iff.1 hk).1; omega
  have hP : ∃ P, allL 0 ss = some P := by
    have hg := gather_all ss hb
    unfold allR at hg
    rw [if_neg hne] at hg
    cases ha : allL 0 ss with
    | none =>
      rw [ha] at hg
      rw [live_bad c hg] at hL
      cases hL
    | some P => exact ⟨P, rfl⟩
  obtain ⟨P, hP⟩ := hP
  have hR : allR ss = some P := by unfold allR; rw [if_neg hne]; exact hP
  have hkinds := all_kinds ss 0 P hb hP
  obtain ⟨P', hP', hm⟩ := all_set (hb s (List.mem_of_getElem? hk)) hb2 h hd (show ¬ (2 : Int) = 3 by decide) ss 0 k P hk (by omega) hP
  have hR' : allR (ss.set k s2) = some P' := by unfold allR; rw [if_neg (by rw [List.length_set]; exact hne)]; exact hP'
  have hb' : ∀ x ∈ ss.set k s2, yI x := fun x hx => by
    rcases List.mem_or_eq_of_mem_set hx with hx | rfl
    · exact hb x hx
    · exact hb2
  rw [liveL_all c hb hR] at hL
  rw [liveL_all c hb' hR']
  have kP : ∀ e ∈ P, e.k = 1 ∨ e.k = 2 := fun e he => (hkinds.1 e he).1
  have mP : ∀ e ∈ P, e.may = true := fun e he => (hkinds.1 e he).2.2
  have kQ : ∀ e ∈ P ++ [yS z], e.k = 1 ∨ e.k = 2 := fun e he => by
    rcases List.mem_append.1 he with he | he
    · exact kP e he
    · rw [List.mem_singleton] at he; subst he; exact .inr rfl
  rw [liveM_congr (l := P') (l' := P ++ [yS z]) (fun e he => kQ e ((hm e).1 he)) hm c]
  have hN : NoClash P := Classical.byContradiction fun hN => by rw [liveM_clash kP hN] at hL; cases hL
  have hN' : NoClash (P ++ [yS z]) := fun a ha b hb ha1 hb1 hs => by
    have h2 : ¬ (yS z).k = 1 := by show ¬ (2 : Int) = 1; decide
    rcases List.mem_append.1 ha with ha | ha <;> rcases List.mem_append.1 hb with hb | hb
    · exact hN a ha b hb ha1 hb1 hs
    · rw [List.mem_singleton] at hb; subst hb; exact absurd hb1 h2
    · rw [List.mem_singleton] at ha; subst ha; exact absurd ha1 h2
    · rw [List.mem_singleton] at ha; subst ha; exact absurd ha1 h2
  obtain ⟨B, hB, e1⟩ := liveM_spec kP hN c
  obtain ⟨B', hB', e2⟩ := liveM_spec kQ hN' c
  have hp : B'.Perm B := by
    have n1 : B.Nodup := (List.pairwise_map.1 hB.once).imp fun h e => h (by rw [e])
    have n2 : B'.Nodup := (List.pairwise_map.1 hB'.once).imp fun h e => h (by rw [e])
    exact (List.perm_ext_iff_of_nodup n2 n1).2 fun e => by
      rw [hB.mem, hB'.mem, List.mem_append, List.mem_singleton]
      constructor
      · rintro ⟨h1 | rfl, h2⟩
        · exact ⟨h1, h2⟩
        · exact absurd h2 (by show ¬ (2 : Int) = 1; decide)
      · exact fun h => ⟨.inl h.1, h.2⟩
  have hf : B.filter (kX (P ++ [yS z])) = (B.filter (kX P)).filter (vP z) := by
    rw [List.filter_filter]
    refine List.filter_congr fun e he => ?_
    have h1 := (hB.mem e).1 he
    rw [lives_more hz (mP e h1.1) h1.2, Bool.and_comm]
  rw [e1] at hL
  rw [e2, liveF_perm (hp.filter _), hf]
  generalize B.filter (kX P) = F at hL
  unfold kG at hL
  split at hL
  · rename_i hc
    obtain ⟨c1, c2, c3⟩ := hc
    have hL : isort F = L := (Prod.mk.injEq _ _ _ _ ▸ hL).1
    subst hL
    have hs := sort_isort c3
    have hs2 : SortY ((isort F).filter (vP z)) := List.Pairwise.sublist List.filter_sublist hs
    have hp2 : ((isort F).filter (vP z)).Perm (F.filter (vP z)) := (qJ F).filter _
    have hl := List.length_filter_le (vP z) F
    rw [liveF_ok c1 (by omega) ((hp2.map (·.y)).nodup hs2.nodup), sort_uniq hs2 hp2]
  · cases hL
end Go.Proofs.YtomlhekjgagjaaaDoor
namespace Go.Proofs.YtomlhekjgagjaaaDoor
set_option maxRecDepth 100000
set_option maxHeartbeats 16000000
open Go Go.RowKit
attribute [local irreducible] zZ zY Step zA Sub zL z8 Fn zH zS
def fbS (ss : List (List Int)) (p : Nat × Int) : AS := { t := [(0, .p (strsW ss)), (3, .p (.val (.int .i64 p.2))), (4, .p (.val (.int .i64 (p.1 : Nat))))], s := [] }
theorem few_big_fn (ss : List (List Int)) (h8 : 8 < ss.length) (hn : ss.length ≤ 10000000000000) : Fn Tryd.prog 11 [strsW ss] (.p (.val (.bool false))) := by
 have hlen : (ss.map fun s => PV.sl (byts s)).length = ss.length := by rw [List.length_map]
 have hcells : ∀ e ∈ ss.map (fun s => PV.sl (byts s)), e.cells.length = 1 := fun e he => by
  obtain ⟨b, _, rfl⟩ := List.mem_map.1 he
  rfl
 refine qI Tryd.func11 rfl Tryd.ntmps11 (Nat.le_of_ble_eq_true rfl) ?_
 unfold strsW
 repeat' (first | (refine zY.is ?_; first | refine zY.seq ?_ | (refine zY.isR (id := 0) ?_; refine zY.zK [0] [] (by repeat' first | exact zX.nil | apply zX.p rfl) (by repeat' exact zW.nil) ?_; refine zZ.va rfl rfl rfl rfl (by decide) ?_; refine zZ.nil ?_) | (refine zY.isR (id := 1) ?_; refine zY.zK [0, 2] [] (by repeat' first | exact zX.nil | apply zX.p rfl) (by repeat' exact zW.nil) ?_; refine zZ.va rfl rfl rfl rfl (by decide) ?_; refine zZ.nil ?_) | (refine zY.isR (id := 2) ?_; refine zY.zK [0, 2, 3] [] (by repeat' first | exact zX.nil | apply zX.p rfl) (by repeat' exact zW.nil) ?_; refine zZ.va rfl rfl rfl rfl (by decide) ?_; refine zZ.nil ?_) | refine zY.block ?_) | refine zH.n ?_)
 refine zY.loop (fbS ss) (fun p => p.1 ≤ ss.length) (fun p => ss.length - p.1) (0, 0) ?h0 (Nat.zero_le _) ?rd
 case h0 =>
  unfold fbS strsW
  exact zD K_x []
 case rd =>
  rintro ⟨i, n⟩ hi
  simp only at hi
  have g3 : IntKind.i64.wrap (((i : Nat) : Int) + 1) = ((i + 1 : Nat) : Int) := by rw [wrap_i64 _ (by omega)]; omega
  unfold fbS strsW
  dsimp only
  by_cases hlt : i < ss.length
  case pos =>
   have g1 : decide (((i : Nat) : Int) < (((ss.map fun s => PV.sl (byts s)).length : Nat) : Int)) = true := decide_eq_true (by rw [hlen]; omega)
   obtain ⟨b, hbi⟩ : ∃ b, ss[i]? = some b := ⟨_, List.getElem?_eq_getElem hlt⟩
   have g2 : (ss.map fun b => PV.sl (byts b))[i]? = some (.sl (byts b)) := by rw [List.getElem?_map, hbi]; rfl
   obtain ⟨m, g4⟩ : ∃ m, IntKind.i64.wrap (n + (b.length : Nat)) = m := ⟨_, rfl⟩
   repeat' (first | (refine zY.is ?_; first | refine zY.seq ?_ | (refine zY.isR (id := 3) ?_; refine zY.zK [0, 2, 3, 4, 8] [] (by repeat' first | exact zX.nil | apply zX.p rfl | apply zX.skip) (by repeat' exact zW.nil) ?_; refine zZ.vm rfl rfl rfl rfl (by decide) ?_; refine zZ.vm rfl rfl rfl rfl (by decide) ?_; refine zZ.v rfl rfl (yL rfl rfl rfl (by decide)) ?_; refine zZ.v rfl rfl (yZ rfl rfl rfl g1 rfl (by decide)) ?_; refine zZ.nil ?_) | (refine zY.isR (id := 5) ?_; refine zY.zK [0, 2, 3, 4, 8] [] (by repeat' first | exact zX.nil | apply zX.p rfl | apply zX.skip) (by repeat' exact zW.nil) ?_; refine zZ.vm rfl rfl rfl rfl (by decide) ?_; refine zZ.vm rfl rfl rfl rfl (by decide) ?_; refine zZ.vm rfl rfl rfl rfl (by decide) ?_; refine zZ.v rfl rfl (yY rfl rfl rfl hcells g2 rfl (by decide)) ?_; refine zZ.v rfl rfl (zP rfl rfl rfl rfl (by decide)) ?_; refine zZ.v rfl rfl (xH rfl rfl rfl (by decide)) ?_; refine zZ.v rfl rfl (yX rfl rfl rfl g4 rfl (by decide)) ?_; refine zZ.va rfl rfl rfl rfl (by decide) ?_; refine zZ.nil ?_) | (refine zY.isR (id := 4) ?_; refine zY.zK [0, 2, 3, 4, 8] [] (by repeat' first | exact zX.nil | apply zX.p rfl | apply zX.skip) (by repeat' exact zW.nil) ?_; refine zZ.vm rfl rfl rfl rfl (by decide) ?_; refine zZ.v rfl rfl (yX rfl rfl rfl g3 rfl (by decide)) ?_; refine zZ.va rfl rfl rfl rfl (by decide) ?_; refine zZ.nil ?_) | refine zY.yC rfl (by first | assumption | with_reducible rfl) ?_ | refine zY.skip ?_ | refine zY.block ?_) | refine zH.n ?_ | refine zS.n ?_)
   all_goals
    refine ⟨(i + 1, m), ?_, hlt, by show ss.length - (i + 1) < ss.length - i; omega⟩
    try unfold fbS strsW
    exact zD K_x []
  case neg =>
   have hie : i = ss.length := by omega
   subst hie
   have g1 : decide (((ss.length : Nat) : Int) < (((ss.map fun s => PV.sl (byts s)).length : Nat) : Int)) = false := decide_eq_false (by rw [hlen]; omega)
   have k1 : decide ((((ss.map fun s => PV.sl (byts s)).length : Nat) : Int) ≤ 8) = false := decide_eq_false (by rw [hlen]; omega)
   repeat' (first | (refine zY.is ?_; first | refine zY.seq ?_ | (refine zY.isR (id := 3) ?_; refine zY.zK [0, 2, 3, 4, 8] [] (by repeat' first | exact zX.nil | apply zX.p rfl | apply zX.skip) (by repeat' exact zW.nil) ?_; refine zZ.vm rfl rfl rfl rfl (by decide) ?_; refine zZ.vm rfl rfl rfl rfl (by decide) ?_; refine zZ.v rfl rfl (yL rfl rfl rfl (by decide)) ?_; refine zZ.v rfl rfl (yZ rfl rfl rfl g1 rfl (by decide)) ?_; refine zZ.nil ?_) | (refine zY.isR (id := 6) ?_; refine zY.zK [0, 2, 3] [] (by repeat' first | exact zX.nil | apply zX.p rfl | apply zX.skip) (by repeat' exact zW.nil) ?_; all_goals (refine zZ.vm rfl rfl rfl rfl (by decide) ?_); all_goals (refine zZ.v rfl rfl (yL rfl rfl rfl (by decide)) ?_); all_goals (refine zZ.v rfl rfl (r_leq rfl rfl rfl k1 rfl (by decide)) ?_); all_goals (refine zZ.vm rfl rfl rfl rfl (by decide) ?_); all_goals (refine zZ.gnT rfl rfl (by decide) rfl (by rfl) rfl (by decide) ?_); all_goals (refine zZ.gnT rfl rfl (by decide) rfl (by rfl) rfl (by decide) ?_); all_goals (refine zZ.v rfl rfl (zM rfl rfl (by rfl) rfl rfl (by decide)) ?_); all_goals (refine zZ.va rfl rfl rfl rfl (by decide) ?_); all_goals (refine zZ.nil ?_)) | refine zY.yF rfl (by first | assumption | with_reducible rfl) ?_ | refine zY.exit ?_ | refine zY.ret ?_) | refine zH.n ?_ | refine zS.eY ?_ | refine zH.e ?_)
   all_goals exact ⟨.inl rfl, gives1 rfl rfl rfl⟩
end Go.Proofs.YtomlhekjgagjaaaDoor
namespace Go.Proofs.YtomlhekjgagjaaaDoor
set_option maxRecDepth 100000
set_option maxHeartbeats 16000000
open Go Go.RowKit
attribute [local irreducible] zZ zY Step zA Sub zL z8 Fn zH zS
theorem total_of2 : ∀ (ss : List (List Int)) (R : Nat), (∀ s ∈ ss, s.length ≤ R) → total ss ≤ ss.length * R
  | [], R, _ => by simp [total]
  | s :: r, R, h => by
    have h1 := h s (by simp)
    have h2 := total_of2 r R fun c hc => h c (by simp [hc])
    simp only [total, List.map_cons, List.sum_cons, List.length_cons] at *
    rw [Nat.add_mul]
    omega
theorem few_any2 (ss : List (List Int)) (hb : ∀ s ∈ ss, yI s ∧ s.length ≤ 140737488351232) (hn : ss.length * 24 ≤ 140737488351232) : Fn Tryd.prog 11 [strsW ss] (.p (.val (.bool (fewL ss)))) := by
  by_cases h8 : 8 < ss.length
  · have hf : fewL ss = false := by unfold fewL; rw [decide_eq_false (by omega)]; rfl
    rw [hf]
    exact few_big_fn ss h8 (by omega)
  · have ht := total_of2 ss 140737488351232 fun s hs => (hb s hs).2
    have h9 : ss.length * 140737488351232 ≤ 8 * 140737488351232 := Nat.mul_le_mul_right _ (by omega)
    exact few_fn ss (by omega) (by omega)
end Go.Proofs.YtomlhekjgagjaaaDoor
namespace Go.Proofs.YtomlhekjgagjaaaDoor
set_option maxRecDepth 100000
set_option maxHeartbeats 16000000
open Go Go.RowKit
def asSl : AV → PV
  | .p (.val (.slice none 0 0)) => .sl []
  | .p x => x
  | _ => .val undef
def pureB : AV → Bool
  | .p _ => true
  | _ => false
end Go.Proofs.YtomlhekjgagjaaaDoor
namespace Go.Proofs.YtomlhekjgagjaaaDoor
set_option maxRecDepth 100000
set_option maxHeartbeats 16000000
open Go Go.RowKit
def AnyC (P : Program) (n : Nat) (l : List Oper) (S : AS) (K : Exit → AS → Prop) : Prop :=
  ∀ (M : Nat → Nat → Prop) (w0 : Home) (ρ : Nat → Value) (a : Act) (w : World) (Q : Exit → Act → World → Prop), Sat M n w0 S ρ a w → (∀ e S' ρ' a' w', K (bare e) S' → Sat M n w0 S' ρ' a' w' → ExOK M S' ρ' w' e → Q e a' w') →
    wpAny P .any l.toArray Q l.length (Array.replicate l.length false) a { w with drawn := w.drawn + 1 }
def renO (ord : List Nat) (o : Oper) : Oper := { o with after := o.after.map (fun e => { e with on := ord.idxOf e.on }), guard := o.guard.map fun g => (ord.idxOf g.1, g.2) }
def kH (l : List Oper) : List Nat → List Nat → List Oper
  | _, [] => []
  | ord, i :: r => match l[i]? with
    | some o => renO ord o :: kH l ord r
    | none => []
def permB (n : Nat) (ord : List Nat) : Bool := decide (ord.length = n) && ord.all (fun i => decide (i < n)) && (List.range n).all fun i => decide (ord.idxOf i < n) && (ord[ord.idxOf i]? == some i) && (ord[i]?.map ord.idxOf == some i)
structure PermOf (n : Nat) (ord : List Nat) : Prop where
  len : ord.length = n
  lt : ∀ i ∈ ord, i < n
  at_ : ∀ i, i < n → ord.idxOf i < n ∧ ord[ord.idxOf i]? = some i
  back : ∀ j i, ord[j]? = some i → ord.idxOf i = j
theorem PermOf.of {n : Nat} {ord : List Nat} (h : permB n ord = true) : PermOf n ord := by
  unfold permB at h
  rw [Bool.and_eq_true, Bool.and_eq_true, decide_eq_true_eq] at h
  obtain ⟨⟨h1, h2⟩, h3⟩ := h
  have h4 : ∀ i, i < n → (ord.idxOf i < n ∧ ord[ord.idxOf i]? = some i) ∧ ord[i]?.map ord.idxOf = some i := fun i hi => by
    have := List.all_eq_true.1 h3 i (List.mem_range.2 hi)
    simp only [Bool.and_eq_true, decide_eq_true_eq, beq_iff_eq] at this
    exact this
  refine ⟨h1, fun i hi => of_decide_eq_true (List.all_eq_true.1 h2 i hi), fun i hi => (h4 i hi).1, fun j i hj => ?_⟩
  have hlt : j < n := by rw [← h1]; exact (List.getElem?_eq_some_iff.1 hj).1
  have := (h4 j hlt).2
  rw [hj] at this
  exact Option.some.inj this
theorem permL_at {l : List Oper} {ord : List Nat} : ∀ (r : List Nat), (∀ i ∈ r, i < l.length) → ∀ (j i : Nat), r[j]? = some i → ∃ o, l[i]? = some o ∧ (kH l ord r)[j]? = some (renO ord o)
  | [], _, j, i, h => by simp at h
  | x :: r, hr, j, i, h => by
    have hx := hr x (by simp)
    have e1 : l[x]? = some l[x] := List.getElem?_eq_getElem hx
    unfold kH
    rw [e1]
    match j with
    | 0 =>
      obtain rfl : x = i := by simpa using h
      exact ⟨_, e1, rfl⟩
    | j + 1 => exact permL_at r (fun i hi => hr i (by simp [hi])) j i (by simpa using h)
theorem permL_len {l : List Oper} {ord : List Nat} : ∀ (r : List Nat), (∀ i ∈ r, i < l.length) → (kH l ord r).length = r.length
  | [], _ => rfl
  | x :: r, hr => by
    have hx := hr x (by simp)
    have e1 : l[x]? = some l[x] := List.getElem?_eq_getElem hx
    unfold kH
    rw [e1, List.length_cons, List.length_cons, permL_len r fun i hi => hr i (by simp [hi])]
theorem renO_wp (P : Program) (ord : List Nat) (o : Oper) (a : Act) (w : World) (K : Act → World → Prop) (Q : Exit → Act → World → Prop) : (renO ord o).wp P a w K Q = o.wp P a w K Q := rfl
theorem renO_asks (P : Program) (ord : List Nat) (o : Oper) (a : Act) (w : World) : (renO ord o).asks P a w = o.asks P a w := rfl
section
variable {P : Program} {n : Nat} {S : AS}
theorem AnyC.code {id : Nat} {l : List Oper} {K : Exit → AS → Prop} (hm : P.follows .mixedOrders = true) (h : AnyC P n l S K) : zY P n (.region id l.toArray true) S K := fun M w0 ρ a w Q hs hK => wp_region_any hm (by
  have := h M w0 ρ a w Q hs hK
  simpa using this)
theorem AnyC.draw {l : List Oper} {K : Exit → AS → Prop} (xs : List AI) (hsch : schedB l xs.length (xs.map (·.bs)) = true) (hmade : madeB l xs S = true)
    (hch : AChain P n l S l xs) (ht : zL P n K (runA S l xs) (l.drop xs.length)) : AnyC P n l S K := by
  have hS := Sched.of hsch
  have hA := Apart.of hS hmade
  intro M w0 ρ a w Q hs hK
  have start : Agr l xs S (fun k => k < 0) S := ⟨fun i o x d _ _ h => by omega, fun _ _ => rfl, fun i o x d b _ _ h => by omega, fun _ _ => rfl⟩
  obtain ⟨hgs, hfin⟩ := runA_agr hS hA 0 S (by omega) start hch
  have main2 : ∀ (fuel t : Nat) (listed : Array Bool) (S2 : AS) (ρ : Nat → Value) (a : Act) (w : World), Closed l listed → (∀ i, i < l.length → (Done listed i ↔ i < t)) → xs.length ≤ t → left listed = fuel →
      Sat M n w0 S2 ρ a w → zL P n K S2 (l.drop t) → wpAny P .any l.toArray Q fuel listed a w := by
    intro fuel
    induction fuel with
    | zero =>
      intro t listed S2 ρ a w hc hd htm hl hsat htc
      have hall : ∀ i, i < l.length → Done listed i := by
        intro i hi
        apply Classical.byContradiction
        intro hn
        have := vL (listed := listed) (by rw [hc.size]; exact hi) hn
        omega
      have htl : l.length ≤ t := by
        apply Classical.byContradiction
        intro hn
        have := (hd t (by omega)).1 (hall t (by omega))
        omega
      rw [List.drop_eq_nil_of_le htl] at htc
      refine ⟨?_, hK .normal S2 ρ a w htc hsat trivial⟩
      rcases qB hS hc with h | _
      · exfalso
        obtain ⟨i, hi⟩ := List.exists_mem_of_ne_nil _ h
        exact (yQ hi).2.1 (hall i (yQ hi).1)
      · apply List.eq_nil_iff_forall_not_mem.2
        intro i hi
        exact (yQ hi).2.1 (hall i (yQ hi).1)
    | succ fuel ih =>
      intro t listed S2 ρ a w hc hd htm hl hsat htc
      refine ⟨fun hnil => ?_, fun i hi => ?_⟩
      · rcases qB hS hc with h | h
        · exact (h hnil).elim
        · exfalso
          unfold left at hl
          have : (List.range listed.size).countP (fun i => !(listed.getD i false)) = 0 := by
            rw [List.countP_eq_zero]
            intro k hk
            have := h k (by rw [← hc.size]; exact List.mem_range.1 hk)
            unfold Done at this
            simp [this]
          omega
      · obtain ⟨hil, hnd, o, hoi, hall⟩ := yQ hi
        have hti : t ≤ i := by
          apply Classical.byContradiction
          intro h
          exact hnd ((hd i hil).2 (by omega))
        have hit : i = t := by
          apply Classical.byContradiction
          intro h
          have := hc.wM hi (hS.tail i (by omega) hil t (by omega))
          have := (hd t (by omega)).1 this
          omega
        subst hit
        rw [List.drop_eq_getElem_cons hil] at htc
        obtain ⟨hg, hst⟩ := htc
        have ho : o = l[i] := by rw [List.getElem?_eq_getElem hil] at hoi; exact (Option.some.inj hoi).symm
        unfold wpOp
        simp only [List.getElem?_toArray, List.getElem?_eq_getElem hil]
        rw [if_pos (by simp [Region.wanted, hg])]
        refine .inl (hst M w0 ρ a w _ Q hsat (fun S1 ρ' a' w' htc hs' => ?_) hK)
        refine ih (i + 1) _ S1 ρ' a' w' (hc.set hi) (fun k hk => ?_) (by omega) ?_ hs' htc
        · rw [wW (by rw [hc.size]; exact hil), hd k hk]
          omega
        · have := vL (listed := listed) (by rw [hc.size]; exact hil) hnd
          omega
  have main1 : ∀ (fuel : Nat) (listed : Array Bool) (S2 : AS) (ρ : Nat → Value) (a : Act) (w : World), Closed l listed → (∀ i, xs.length ≤ i → i < l.length → ¬ Done listed i) → Agr l xs S (Done listed) S2 → left listed = fuel →
      Sat M n w0 S2 ρ a w → wpAny P .any l.toArray Q fuel listed a w := by
    intro fuel
    induction fuel with
    | zero =>
      intro listed S2 ρ a w hc htl hagr hl hsat
      have hall : ∀ i, i < l.length → Done listed i := by
        intro i hi
        apply Classical.byContradiction
        intro hn
        have := vL (listed := listed) (by rw [hc.size]; exact hi) hn
        omega
      refine main2 0 xs.length listed (runA S l xs) ρ a w hc (fun i hi => ⟨fun h => ?_, fun h => hall i hi⟩) (Nat.le_refl _) hl (hsat.same ?_) ht
      · apply Classical.byContradiction
        intro hn
        exact htl i (by omega) hi h
      · refine hagr.same ⟨fun i o x d h1 h2 h3 => hfin.t1 i o x d h1 h2 (List.getElem?_eq_some_iff.1 h2).1, fun t h => hfin.t2 t fun i o x h1 h2 _ => h i o x h1 h2 (hall i (List.getElem?_eq_some_iff.1 h1).1), fun i o x d b h1 h2 h3 => hfin.b1 i o x d b h1 h2 (List.getElem?_eq_some_iff.1 h2).1, fun t h => hfin.b2 t fun i o x h1 h2 _ => h i o x h1 h2 (hall i (List.getElem?_eq_some_iff.1 h1).1)⟩
    | succ fuel ih =>
      intro listed S2 ρ a w hc htl hagr hl hsat
      by_cases hallA : ∀ i, i < xs.length → Done listed i
      · refine main2 (fuel + 1) xs.length listed (runA S l xs) ρ a w hc (fun i hi => ⟨fun h => ?_, fun h => hallA i h⟩) (Nat.le_refl _) hl (hsat.same ?_) ht
        · apply Classical.byContradiction
          intro hn
          exact htl i (by omega) hi h
        · refine hagr.same ⟨fun i o x d h1 h2 h3 => hfin.t1 i o x d h1 h2 (List.getElem?_eq_some_iff.1 h2).1, fun t h => hfin.t2 t fun i o x h1 h2 h3 => h i o x h1 h2 (hallA i h3), fun i o x d b h1 h2 h3 => hfin.b1 i o x d b h1 h2 (List.getElem?_eq_some_iff.1 h2).1, fun t h => hfin.b2 t fun i o x h1 h2 h3 => h i o x h1 h2 (hallA i h3)⟩
      · refine ⟨fun hnil => ?_, fun i hi => ?_⟩
        · rcases qB hS hc with h | h
          · exact (h hnil).elim
          · exact (hallA fun i hi => h i (Nat.lt_of_lt_of_le hi hS.len)).elim
        · obtain ⟨hil, hnd, o, hoi, _⟩ := yQ hi
          have hix : i < xs.length := by
            apply Classical.byContradiction
            intro h
            exact hallA fun j hj => hc.wM hi (hS.tail i (by omega) hil j (by omega))
          have hx : xs[i]? = some xs[i] := List.getElem?_eq_getElem hix
          obtain ⟨Si, hagi, hgst⟩ := hgs i o xs[i] (by omega) hoi hx
          obtain ⟨hrt, hrb⟩ := Agr.reads hS hc hi hx hagr hagi
          have hget : ∀ y ∈ o.op.operands.toList, S2.get y = Si.get y := by
            intro y hy
            cases y with
            | tmp t => exact hrt t (vM hoi hy)
            | _ => rfl
          have hnext := hagr.step hA hoi hx hnd (fun k hk hok => hnd (hc.ord (k + 1) k i (by omega) (by
            apply Classical.byContradiction
            intro h
            unfold Done at hk
            simp [Array.getD_eq_getD_getElem?, Array.getElem?_eq_none (by rw [hc.size]; omega : listed.size ≤ k)] at hk) hk hok))
          have cont : ∀ ρ' a' w', Sat M n w0 (S2.out o.dst xs[i].av xs[i].nb) ρ' a' w' → wpAny P .any l.toArray Q fuel (listed.setIfInBounds i true) a' w' := by
            intro ρ' a' w' hs'
            refine ih _ _ ρ' a' w' (hc.set hi) (fun k hk hkl hdk => ?_) ?_ ?_ hs'
            · rw [wW (by rw [hc.size]; exact hil)] at hdk
              rcases hdk with h | h
              · omega
              · exact htl k hk hkl h
            · have e : (fun k => k = i ∨ Done listed k) = Done (listed.setIfInBounds i true) := by
                funext k
                apply propext
                rw [wW (by rw [hc.size]; exact hil)]
                constructor
                · rintro (h | h)
                  · exact .inl h.symm
                  · exact .inr h
                · rintro (h | h)
                  · exact .inl h.symm
                  · exact .inr h
              rw [← e]
              exact hnext
            · have := vL (listed := listed) (by rw [hc.size]; exact hil) hnd
              omega
          unfold wpOp
          simp only [List.getElem?_toArray, hoi]
          rcases hgst with ⟨hg, hast⟩ | ⟨j, want, t, b, hg, hdj, htn, hb, hcase⟩
          · rw [if_pos (by simp [Region.wanted, hg])]
            exact .inl (hast S2 hget hrb M w0 ρ a w _ Q hsat cont)
          · have hb2 : S2.tmp t = .p (.val b) := by rw [hrt t (readsOf_guard hoi hg hdj)]; exact hb
            have hw := hsat.wanted (ops := l.toArray) hg (by simpa [yO] using hdj) htn hb2
            rcases hcase with ⟨hbw, hast⟩ | ⟨hbw, hav, hnb, d, hd, hdn⟩
            · rw [if_pos (by rw [hw, hbw])]
              exact .inl (hast S2 hget hrb M w0 ρ a w _ Q hsat cont)
            · rw [if_neg (by rw [hw, hbw]; simp)]
              rw [hd]
              refine cont ρ _ w ?_
              rw [hd, hav, hnb]
              exact hsat.put_undef hdn
  refine main1 _ _ S ρ a _ ⟨by simp, fun i o hi hd => ?_⟩ (fun i _ _ hd => ?_) ⟨fun i o x d _ _ h => ?_, fun _ _ => rfl, fun i o x d b _ _ h => ?_, fun _ _ => rfl⟩ ?_ (hs.ext ((Below.refl _ _).drew))
  · unfold Done at hd; rw [getD_replicate_false] at hd; cases hd
  · unfold Done at hd; rw [getD_replicate_false] at hd; cases hd
  · unfold Done at h; rw [getD_replicate_false] at h; cases h
  · unfold Done at h; rw [getD_replicate_false] at h; cases h
  · unfold left
    simp only [Array.size_replicate, List.size_toArray]
    have : ∀ k ∈ List.range l.length, (!((Array.replicate l.length false).getD k false)) = true := fun k _ => by rw [getD_replicate_false]; rfl
    rw [List.countP_eq_length.2 this, List.length_range]
theorem wpAny_perm {l : List Oper} {ord : List Nat} (hp : PermOf l.length ord) {Q : Exit → Act → World → Prop} : ∀ (fuel : Nat) (listed listed' : Array Bool) (a : Act) (w : World), listed.size = l.length → listed'.size = l.length → (∀ i, i < l.length → listed'.getD (ord.idxOf i) false = listed.getD i false) →
    wpAny P .any (kH l ord ord).toArray Q fuel listed' a w → wpAny P .any l.toArray Q fuel listed a w := by
  intro fuel
  induction fuel using Nat.strongRecOn with
  | _ fuel ih =>
  intro listed listed' a w hs hs' hlist h
  have hl := permL_len (l := l) (ord := ord) ord hp.lt
  rw [hp.len] at hl
  have hat : ∀ i, i < l.length → ∃ o, l[i]? = some o ∧ (kH l ord ord)[ord.idxOf i]? = some (renO ord o) := fun i hi => permL_at ord hp.lt _ i (hp.at_ i hi).2
  have hedge : ∀ k : Nat, listed'.getD (ord.idxOf k) false = listed.getD k false := fun k => by
    rcases Nat.lt_or_ge k l.length with hk | hk
    · exact hlist k hk
    · have hn : k ∉ ord := fun hm => by have := hp.lt k hm; omega
      have e1 : ord.idxOf k = ord.length := List.idxOf_eq_length hn
      rw [e1, hp.len]
      simp [Array.getD_eq_getD_getElem?, Array.getElem?_eq_none (by omega : listed'.size ≤ l.length), Array.getElem?_eq_none (by omega : listed.size ≤ k)]
  have hready : ∀ i, i < l.length → (i ∈ Region.ready .any l.toArray listed ↔ ord.idxOf i ∈ Region.ready .any (kH l ord ord).toArray listed') := fun i hi => by
    obtain ⟨o, h1, h2⟩ := hat i hi
    unfold Region.ready
    simp only [List.size_toArray, List.mem_filter, List.mem_range, List.getElem?_toArray, h1, h2, hl, hi, (hp.at_ i hi).1, true_and, Option.map_some, Option.getD_some]
    have e1 : listed'.getD (ord.idxOf i) true = listed.getD i true := by
      have := hlist i hi
      simp only [Array.getD_eq_getD_getElem?, Array.getElem?_eq_getElem (show ord.idxOf i < listed'.size by rw [hs']; exact (hp.at_ i hi).1), Array.getElem?_eq_getElem (show i < listed.size by omega), Option.getD_some] at this ⊢
      exact this
    rw [e1]
    have e2 : ((renO ord o).after.all fun e => !Region.binds .any e || listed'.getD e.on false) = (o.after.all fun e => !Region.binds .any e || listed.getD e.on false) := by
      show ((o.after.map fun e => ({ e with on := ord.idxOf e.on } : Edge)).all _) = _
      rw [Array.all_map]
      congr 1
      funext e
      show (!Region.binds .any ({ e with on := ord.idxOf e.on } : Edge) || listed'.getD (ord.idxOf e.on) false) = _
      rw [hedge e.on]
      rfl
    rw [e2]
  have hnil : Region.ready .any l.toArray listed = [] → Region.ready .any (kH l ord ord).toArray listed' = [] := fun h0 => by
    refine List.eq_nil_iff_forall_not_mem.2 fun j hj => ?_
    have hjl : j < l.length := by
      have := (List.mem_filter.1 hj).1
      rw [List.size_toArray, List.mem_range, hl] at this
      exact this
    obtain ⟨i, hi⟩ : ∃ i, ord[j]? = some i := ⟨_, List.getElem?_eq_getElem (by rw [hp.len]; exact hjl)⟩
    have e1 := hp.back j i hi
    have hil := hp.lt i (List.mem_of_getElem? hi)
    have := (hready i hil).2 (by rw [e1]; exact hj)
    rw [h0] at this
    cases this
  have hnil2 : Region.ready .any (kH l ord ord).toArray listed' = [] → Region.ready .any l.toArray listed = [] := fun h0 => by
    refine List.eq_nil_iff_forall_not_mem.2 fun i hi => ?_
    have hil : i < l.length := by
      have := (List.mem_filter.1 hi).1
      rw [List.size_toArray, List.mem_range] at this
      exact this
    have := (hready i hil).1 hi
    rw [h0] at this
    cases this
  have hwant : ∀ (o : Oper) (tmps : Array Value), Region.wanted (renO ord o) (yielded (kH l ord ord).toArray tmps) = Region.wanted o (yielded l.toArray tmps) ∨ (∃ g b, o.guard = some (g, b) ∧ ¬ g < l.length) := fun o tmps => by
    cases hg : o.guard with
    | none =>
      left
      have hg' : (renO ord o).guard = none := by show o.guard.map _ = none; rw [hg]; rfl
      unfold Region.wanted
      rw [hg, hg']
    | some gb =>
      obtain ⟨g, b⟩ := gb
      by_cases hgl : g < l.length
      · left
        have hg' : (renO ord o).guard = some (ord.idxOf g, b) := by show o.guard.map _ = _; rw [hg]; rfl
        obtain ⟨o2, h1, h2⟩ := hat g hgl
        have hy : yielded (kH l ord ord).toArray tmps (ord.idxOf g) = yielded l.toArray tmps g := by
          unfold yielded
          rw [List.getElem?_toArray, List.getElem?_toArray, h1, h2]
          rfl
        unfold Region.wanted
        rw [hg, hg']
        simp only [hy]
      · exact .inr ⟨g, b, rfl, hgl⟩
  have hwant : ∀ (o : Oper) (tmps : Array Value), Region.wanted (renO ord o) (yielded (kH l ord ord).toArray tmps) = Region.wanted o (yielded l.toArray tmps) := fun o tmps => by
    rcases hwant o tmps with h | ⟨g, b, hg, hgl⟩
    · exact h
    · have hg' : (renO ord o).guard = some (ord.idxOf g, b) := by show o.guard.map _ = _; rw [hg]; rfl
      have hn : g ∉ ord := fun hm => by have := hp.lt g hm; omega
      have e1 : ord.idxOf g = ord.length := List.idxOf_eq_length hn
      have hy : yielded (kH l ord ord).toArray tmps (ord.idxOf g) = yielded l.toArray tmps g := by
        unfold yielded
        rw [List.getElem?_toArray, List.getElem?_toArray, e1, hp.len, List.getElem?_eq_none (by omega : (kH l ord ord).length ≤ l.length), List.getElem?_eq_none (by omega : l.length ≤ g)]
      unfold Region.wanted
      rw [hg, hg']
      simp only [hy]
  cases fuel with
  | zero => exact ⟨hnil2 h.1, h.2⟩
  | succ fuel =>
    refine ⟨fun h0 => h.1 (hnil h0), fun i hi => ?_⟩
    have hil : i < l.length := by
      have := (List.mem_filter.1 hi).1
      rw [List.size_toArray, List.mem_range] at this
      exact this
    obtain ⟨o, h1, h2⟩ := hat i hil
    have h3 := h.2 _ ((hready i hil).1 hi)
    unfold wpOp at h3 ⊢
    rw [List.getElem?_toArray, h2] at h3
    rw [List.getElem?_toArray, h1]
    simp only [hwant, renO_wp, renO_asks] at h3 ⊢
    have step : ∀ a w, wpAny P .any (kH l ord ord).toArray Q fuel (listed'.setIfInBounds (ord.idxOf i) true) a w → wpAny P .any l.toArray Q fuel (listed.setIfInBounds i true) a w := fun a w h4 => by
      refine ih fuel (Nat.lt_succ_self _) _ _ a w (by simpa using hs) (by simpa using hs') (fun k hk => ?_) h4
      have := hlist k hk
      have hk2 := (hp.at_ k hk)
      by_cases hki : k = i
      · subst hki
        simp [Array.getD_eq_getD_getElem?, hs, hs', hk, hk2.1]
      · have hne : ord.idxOf k ≠ ord.idxOf i := fun e => hki (by
          have h5 := hk2.2
          rw [e, (hp.at_ i hil).2] at h5
          exact (Option.some.inj h5).symm)
        simp only [Array.getD_eq_getD_getElem?, Array.getElem?_setIfInBounds, if_neg (Ne.symm hki), if_neg (Ne.symm hne)] at this ⊢
        exact this
    split at h3
    · rw [if_pos (by assumption)]
      exact h3.imp (Oper.wp_mono step) id
    · rw [if_neg (by assumption)]
      exact step _ _ h3
theorem AnyC.perm {l : List Oper} {K : Exit → AS → Prop} {ord : List Nat} (hp : permB l.length ord = true) (h : AnyC P n (kH l ord ord) S K) : AnyC P n l S K := fun M w0 ρ a w Q hs hK => by
  have hP := PermOf.of hp
  have hl := permL_len (l := l) (ord := ord) ord hP.lt
  rw [hP.len] at hl
  have h1 := h M w0 ρ a w Q hs hK
  rw [hl] at h1
  refine wpAny_perm hP l.length _ _ a _ (by simp) (by simp) (fun i hi => ?_) h1
  rw [getD_replicate_false, getD_replicate_false]
def yP (P : Program) (n : Nat) (l : List Oper) (S0 : AS) (K : Exit → AS → Prop) (rev : List AI) (S : AS) (os : List Oper) : Prop :=
  AC P n l S0 l rev.reverse S os → AnyC P n l S0 K
variable {l os : List Oper} {S0 : AS} {K : Exit → AS → Prop} {rev : List AI} {o : Oper} {d : Nat}
theorem zY.drawsP {id : Nat} (ord : List Nat) (hm : P.follows .mixedOrders = true) (hp : permB l.length ord = true) (h : yP P n (kH l ord ord) S K [] S (kH l ord ord)) : zY P n (.region id l.toArray true) S K :=
  AnyC.code hm (AnyC.perm hp (h (.done _ _)))
theorem yP.step {x : AI} (hg : GStep P n l S o x) (h : yP P n l S0 K (x :: rev) (S.out o.dst x.av x.nb) os) : yP P n l S0 K rev S (o :: os) := fun hc => h (by
  rw [List.reverse_cons]
  exact hc.snoc rfl hg)
theorem yP.v {bs : List Nat} {av : AV} (hg : o.guard = none) (hd : o.dst = some d) (ha : zA P n o S bs av none) (h : yP P n l S0 K (⟨bs, av, none⟩ :: rev) (S.put d av) os) : yP P n l S0 K rev S (o :: os) :=
  .step (.inl ⟨hg, ha⟩) (by rw [hd]; exact h)
theorem yP.m {bs : List Nat} {av : AV} {b : Blk} (hg : o.guard = none) (hd : o.dst = some d) (ha : zA P n o S bs av (some b)) (h : yP P n l S0 K (⟨bs, av, some b⟩ :: rev) ((S.create d b).put d av) os) : yP P n l S0 K rev S (o :: os) :=
  .step (.inl ⟨hg, ha⟩) (by rw [hd]; exact h)
theorem yP.done (hsch : schedB l rev.reverse.length (rev.reverse.map (·.bs)) = true) (hmade : madeB l rev.reverse S0 = true) (ht : zL P n K S os) : yP P n l S0 K rev S os := fun hc => by
  obtain ⟨h1, h2, h3⟩ := hc.chain
  exact AnyC.draw _ hsch hmade h1 (by rw [h2, h3]; exact ht)
end
attribute [irreducible] yP
end Go.Proofs.YtomlhekjgagjaaaDoor
