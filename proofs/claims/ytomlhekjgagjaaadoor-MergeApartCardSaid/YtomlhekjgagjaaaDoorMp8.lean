/- For every input MergeApart returns true, and leaves its arguments as they were. Conditions: none beyond the given statement. (Part 8 of 8.) -/
import Derived.Test.YtomlhekjgagjaaaDoorMp7
import Derived.ProofKit
import Derived.OpenShut
import Derived.Below
import Derived.LaidMore
import Derived.Deep.Fields
import Derived.Deep.Slices
import Derived.Test.YtomlhekjgagjaaaDoorRows
import Derived.LaidLaws
import Derived.ChangeSame
import Derived.ChangeVars
import Derived.JoinedOf
import Derived.Stop.Joined
import Derived.RowKitTokens
import Derived.Test.YtomlhekjgagjaaaDoorCards
import Derived.Test.YtomlhekjgagjaaaDoorTie
import Derived.SevenTiedAt
/- What merge.Live lays down is the document's answer; plain. -/
namespace Go.Proofs.YtomlhekjgagjaaaDoor
set_option maxRecDepth 100000
set_option maxHeartbeats 16000000
open Go Go.RowKit
set_option linter.unusedSimpArgs false
set_option linter.unusedVariables false
/-! one stream -/
def no3 (L : List zK) : Bool := L.all fun e => !decide (e.k = 3)
def all1 (L : List zK) : Bool := L.all fun e => decide (e.k = 1)
def scanR (i : Nat) : Nat → Int → List zK → Option (List zK × Int)
  | _, left, [] => some ([], left)
  | k, left, e :: r =>
      bif (decide (e.k = 3) != (decide ((i : Int) = 0) && decide ((k : Int) = 0))) then none
      else bif decide (e.k = 3) then scanR i (k + 1) e.s r
      else bif decide (left > 0) then (bif decide (e.k = 1) then (scanR i (k + 1) (left - 1) r).map (fun q => (e :: q.1, q.2)) else none)
      else (scanR i (k + 1) left r).map (fun q => (e :: q.1, q.2))
theorem rowsR_scan (i : Nat) : ∀ (rows : List (List Int)) (k : Nat) (left : Int), rowsR i k left rows = if (decs rows).2 = true then scanR i k left (decs rows).1 else none
  | [], k, left => rfl
  | b :: r, k, left => by
    rw [rowsR_cons]
    unfold decs
    cases hd : decE b with
    | none => rfl
    | some e =>
      simp only []
      rw [rowsR_scan i r, rowsR_scan i r, rowsR_scan i r]
      rw [scanR]
      cases (decs r).2
      · simp only [Bool.false_eq_true, if_false, Option.map_none]
        cases (decide (e.k = 3) != (decide ((i : Int) = 0) && decide ((k : Int) = 0))) <;> cases decide (e.k = 3) <;> cases decide (left > 0) <;> cases decide (e.k = 1) <;> rfl
      · simp only [if_true]
theorem scan_tail (i : Nat) : ∀ (L : List zK) (k : Nat) (left : Int), 0 ≤ left → ¬ (i = 0 ∧ k = 0) → scanR i k left L = if (no3 L && all1 (L.take left.toNat)) = true then some (L, left - (min left.toNat L.length : Nat)) else none
  | [], k, left, h, _ => by simp [scanR, no3, all1]
  | e :: r, k, left, h, hk => by
    have hf : (decide ((i : Int) = 0) && decide ((k : Int) = 0)) = false := by
      rw [Bool.and_eq_false_iff, decide_eq_false_iff_not, decide_eq_false_iff_not]
      omega
    rw [scanR, hf]
    by_cases h3 : e.k = 3
    · rw [decide_eq_true h3]
      simp [no3, h3]
    · rw [decide_eq_false h3]
      simp only [bne_self_eq_false, cond_false]
      by_cases hl : left > 0
      · rw [decide_eq_true hl, cond_true]
        have ht : left.toNat = (left - 1).toNat + 1 := by omega
        by_cases h1 : e.k = 1
        · rw [decide_eq_true h1, cond_true, scan_tail i r (k + 1) (left - 1) (by omega) (by omega), ht, List.take_succ_cons]
          have e1 : no3 (e :: r) = no3 r := by simp [no3, h3]
          have e2 : all1 (e :: r.take (left - 1).toNat) = all1 (r.take (left - 1).toNat) := by simp [all1, h1]
          rw [e1, e2]
          split
          · simp only [Option.map_some, List.length_cons, Option.some.injEq, Prod.mk.injEq, true_and]
            omega
          · rfl
        · rw [decide_eq_false h1, cond_false, ht, List.take_succ_cons]
          have e2 : all1 (e :: r.take (left - 1).toNat) = false := by simp [all1, h1]
          rw [e2, Bool.and_false]
          rfl
      · have h0 : left = 0 := by omega
        subst h0
        rw [decide_eq_false hl, cond_false, scan_tail i r (k + 1) 0 (by omega) (by omega)]
        have e1 : no3 (e :: r) = no3 r := by simp [no3, h3]
        rw [e1]
        simp only [Int.toNat_zero, List.take_zero, Nat.zero_min]
        cases no3 r && all1 [] <;> rfl
def streamR (i : Nat) (s : List Int) : Option (List zK) := match rowsR i 0 0 (rowsOf s) with
    | none => none
    | some (l, left) => bif decide (left > 0) || (decide ((i : Int) = 0) && decide (((rowsOf s).length : Int) = 0)) then none else some l
theorem allL_stream (i : Nat) (s : List Int) (r : List (List Int)) : allL i (s :: r) = match streamR i s with
    | none => none
    | some l => (allL (i + 1) r).map (l ++ ·) := by
  rw [allL_cons]
  unfold streamR
  rcases rowsR i 0 0 (rowsOf s) with _ | ⟨l, left⟩
  · rfl
  · simp only []
    cases decide (left > 0) || (decide ((i : Int) = 0) && decide (((rowsOf s).length : Int) = 0)) <;> rfl
theorem decs_len : ∀ (rows : List (List Int)), (decs rows).2 = true → (decs rows).1.length = rows.length
  | [], _ => rfl
  | b :: r, h => by
    unfold decs at h ⊢
    cases hd : decE b with
    | none => rw [hd] at h; cases h
    | some e =>
      rw [hd] at h
      simp only [List.length_cons]
      rw [decs_len r h]
theorem stream_eq (i : Nat) {s : List Int} (hb : xR s) : streamR i s = if ((yQ i s).2 && no3 (yQ i s).1) = true then some (yQ i s).1 else none := by
  have hok := entsOf_ok hb
  have hln := decs_len (rowsOf s)
  unfold streamR yQ
  rw [rowsR_scan]
  unfold wD at *
  generalize decs (rowsOf s) = D at *
  obtain ⟨L, b⟩ := D
  cases b
  case false =>
    simp
  case true =>
    simp only [if_true] at *
    have hln := hln trivial
    by_cases hi : i = 0
    · subst hi
      simp only [and_true, if_true]
      cases L with
      | nil =>
        rw [← hln]
        rfl
      | cons h r =>
        have h0 : 0 ≤ h.s := (hok.1 h (by simp)).1.s.1
        have hle : decide (((rowsOf s).length : Int) = 0) = false := decide_eq_false (by rw [← hln, List.length_cons]; omega)
        rw [hle]
        have hh : headOf (h :: r) = if h.k = 3 then if (r.length : Int) < h.s then ([], false) else (r, (r.take h.s.toNat).all fun e => decide (e.k = 1)) else ([], false) := rfl
        rw [hh, scanR]
        by_cases h3 : h.k = 3
        · rw [if_pos h3, decide_eq_true h3, scan_tail 0 r 1 h.s h0 (by omega)]
          have e0 : (true != (decide (((0 : Nat) : Int) = 0) && decide (((0 : Nat) : Int) = 0))) = false := rfl
          rw [e0, cond_false, cond_true]
          by_cases hlt : (r.length : Int) < h.s
          · rw [if_pos hlt]
            split
            · rename_i heq
              split at heq
              · cases heq
              · rfl
            · rename_i heq
              split at heq
              · cases heq
                rw [decide_eq_true (by omega)]
                rfl
              · cases heq
          · rw [if_neg hlt]
            show (match (if (no3 r && all1 (r.take h.s.toNat)) = true then some (r, h.s - (min h.s.toNat r.length : Nat)) else none) with | none => none | some (l, left) => _) = if (all1 (r.take h.s.toNat) && no3 r) = true then some r else none
            rw [Bool.and_comm (all1 _)]
            cases no3 r && all1 (r.take h.s.toNat)
            · rfl
            · simp only [if_true]
              rw [decide_eq_false (by omega)]
              rfl
        · rw [if_neg h3, decide_eq_false h3]
          rfl
    · have e3 : (if i = 0 ∧ True then headOf L else (L, true)) = (L, true) := if_neg (fun e => hi e.1)
      rw [e3, scan_tail i L 0 0 (by omega) (by omega)]
      have e1 : decide ((i : Int) = 0) = false := decide_eq_false (by omega)
      rw [e1]
      simp only [Int.toNat_zero, List.take_zero, Nat.zero_min, Bool.true_and]
      have e2 : all1 [] = true := rfl
      rw [e2, Bool.and_true]
      cases no3 L
      · rfl
      · simp
/-! gathering -/
theorem gput_stays {g : GD} (e : zK) (h : g.bad = true) : (gput g e).bad = true := by
  unfold gput
  split
  · simp [h]
  · split
    · exact h
    · rfl
theorem gputs_bad : ∀ (L : List zK) {g : GD}, g.bad = true → (L.foldl gput g).bad = true
  | [], g, h => h
  | e :: r, g, h => gputs_bad r (gput_stays e h)
theorem gputs_three : ∀ (L : List zK) (g : GD), no3 L = false → (L.foldl gput g).bad = true
  | [], g, h => by cases h
  | e :: r, g, h => by
    by_cases h3 : e.k = 3
    · refine gputs_bad r ?_
      unfold gput
      rw [if_neg (by omega), if_neg (by omega)]
    · refine gputs_three r _ ?_
      simpa [no3, h3] using h
theorem gfrom_bad : ∀ (ss : List (List Int)) {g : GD} (i : Nat), g.bad = true → (gfrom g i ss).bad = true
  | [], g, i, h => h
  | s :: r, g, i, h => gfrom_bad r (i + 1) (gputs_bad _ (by simp [h]))
theorem gfrom_all : ∀ (ss : List (List Int)) (g : GD) (i : Nat), (∀ s ∈ ss, xR s) → match allL i ss with
    | none => (gfrom g i ss).bad = true
    | some l => gfrom g i ss = l.foldl gput g ∨ ((gfrom g i ss).bad = true ∧ (l.foldl gput g).bad = true)
  | [], g, i, _ => .inl rfl
  | s :: r, g, i, hb => by
    rw [allL_stream, stream_eq i (hb s (by simp))]
    unfold gfrom
    have ih := fun g' => gfrom_all r g' (i + 1) fun c hc => hb c (by simp [hc])
    unfold gstep
    obtain ⟨L, b⟩ := yQ i s
    cases b
    · exact gfrom_bad r _ (gputs_bad _ (by simp))
    · cases h3 : no3 L
      · exact gfrom_bad r _ (gputs_three _ _ h3)
      · simp only [Bool.true_and, if_true]
        have e1 : ({ g with bad := g.bad || !true } : GD) = g := by simp
        rw [e1]
        have h := ih (L.foldl gput g)
        generalize allL (i + 1) r = A at h ⊢
        cases A with
        | none => exact h
        | some l =>
          show _ ∨ _
          rw [List.foldl_append]
          exact h
def G0 : GD := ⟨[], [], false⟩
theorem gather_all (ss : List (List Int)) (hb : ∀ s ∈ ss, xR s) : match allR ss with
    | none => (xL ss).bad = true
    | some l => xL ss = l.foldl gput G0 ∨ ((xL ss).bad = true ∧ (l.foldl gput G0).bad = true) := by
  unfold xL allR
  by_cases hz : ss.length = 0
  · rw [if_pos hz]
    exact gfrom_bad ss 0 (by simp [hz])
  · rw [if_neg hz]
    have e1 : (⟨[], [], decide (ss.length = 0)⟩ : GD) = G0 := by rw [decide_eq_false hz]; rfl
    rw [e1]
    exact gfrom_all ss G0 0 hb
/-! what all entries say -/
theorem bget_put (e : zK) : ∀ (B : List zK), bget B e.s = some e → bput B e = B
  | [], h => by cases h
  | x :: r, h => by
    unfold bget at h
    unfold bput
    split
    · rename_i hs
      rw [if_pos hs] at h
      rw [Option.some.inj h]
    · rename_i hs
      rw [if_neg hs] at h
      rw [bget_put e r h]
theorem bget_new (e : zK) : ∀ (B : List zK), bget B e.s = none → bput B e = B ++ [e]
  | [], h => rfl
  | x :: r, h => by
    unfold bget at h
    unfold bput
    split
    · rename_i hs
      rw [if_pos hs] at h
      cases h
    · rename_i hs
      rw [if_neg hs] at h
      rw [bget_new e r h]
      rfl
theorem bget_append : ∀ (A B : List zK) (j : Int), bget (A ++ B) j = (bget A j).or (bget B j)
  | [], B, j => by simp [bget]
  | x :: r, B, j => by
    simp only [List.cons_append, bget]
    split
    · rfl
    · exact bget_append r B j
theorem hadP_append : ∀ (A B : List zK) (e : zK), hadP (A ++ B) e = (hadP A e || hadP B e)
  | [], B, e => by simp [hadP]
  | x :: r, B, e => by simp only [List.cons_append, hadP]; rw [hadP_append r B e, Bool.or_assoc]
theorem clashP_append : ∀ (A B : List zK) (e : zK), vT (A ++ B) e = (vT A e || vT B e)
  | [], B, e => by simp [vT]
  | x :: r, B, e => by simp only [List.cons_append, vT]; rw [clashP_append r B e, Bool.or_assoc]
theorem x9 : ∀ (A B : List zK) (j : Int), qJ (A ++ B) j = (qJ A j || qJ B j)
  | [], B, e => by simp [qJ]
  | x :: r, B, e => by simp only [List.cons_append, qJ]; rw [x9 r B e, Bool.or_assoc]
theorem vZ : ∀ (A B : List zK) (j w : Int), vfind (A ++ B) j w = (vfind A j w || vfind B j w)
  | [], B, j, w => by simp [vfind]
  | x :: r, B, j, w => by simp only [List.cons_append, vfind]; rw [vZ r B j w, Bool.or_assoc]
/-- what a gathering of entries P knows -/
structure Knows (P : List zK) (g : GD) : Prop where
  had : ∀ e : zK, e.k = 1 → hadP P e = (bget g.born e.s).isSome
  clash : ∀ e : zK, e.k = 1 → vT P e = g.clash e
  dead : ∀ j, 0 ≤ (dget g.dead j).getD 0 ∧ (qJ P j = decide ((dget g.dead j).getD 0 > 0))
  vert : ∀ j w, vfind P j w = match bget g.born j with
    | some x => decide (x.y = w)
    | none => false
  one : ∀ e ∈ g.born, e.k = 1
theorem Knows.start : Knows [] G0 := ⟨fun e _ => rfl, fun e _ => rfl, fun j => ⟨Int.le_refl 0, rfl⟩, fun j w => rfl, fun e he => by cases he⟩
theorem hadP_one (x e : zK) (hk : e.k = 1) (hx : x.k = 1) : hadP [x] e = decide (x.s = e.s) := by
  simp [hadP, hk, hx]
theorem clashP_one (x e : zK) (hk : e.k = 1) (hx : x.k = 1) : vT [x] e = (decide (x.s = e.s) && !decide (x = e)) := by
  simp [vT, hk, hx]
theorem Knows.birth {P : List zK} {g : GD} (h : Knows P g) {e : zK} (hk : e.k = 1) (hc : vT P e = false) : Knows (P ++ [e]) (gput g e) ∧ (gput g e).bad = g.bad ∧ (gput g e).born = if hadP P e = true then g.born else g.born ++ [e] := by
  have hgc := h.clash e hk
  rw [hc] at hgc
  have hb : (gput g e).bad = g.bad := by unfold gput; rw [if_pos hk]; simp [← hgc]
  have hd : (gput g e).dead = g.dead := by unfold gput; rw [if_pos hk]
  have hbo : (gput g e).born = if hadP P e = true then g.born else g.born ++ [e] := by
    unfold gput
    rw [if_pos hk, h.had e hk]
    unfold GD.clash at hgc
    cases hbg : bget g.born e.s with
    | none => simpa using bget_new e _ hbg
    | some x =>
      rw [hbg] at hgc
      simp only [Bool.false_eq, Bool.not_eq_false', decide_eq_true_eq] at hgc
      subst hgc
      simpa using bget_put x _ hbg
  have hget : ∀ j, bget (gput g e).born j = (bget g.born j).or (if e.s = j then some e else none) := fun j => by
    rw [hbo, h.had e hk]
    cases hbg : bget g.born e.s with
    | none =>
      simp only [Option.isSome_none, Bool.false_eq_true, if_false]
      rw [bget_append]
      rfl
    | some x =>
      simp only [Option.isSome_some, if_true]
      by_cases hj : e.s = j
      · subst hj
        rw [hbg]
        rfl
      · rw [if_neg hj, Option.or_none]
  refine ⟨⟨fun d hdk => ?_, fun d hdk => ?_, fun j => ?_, fun j w => ?_, ?_⟩, hb, hbo⟩
  · rw [hadP_append, h.had d hdk, hget, hadP_one e d hdk hk]
    by_cases hs : e.s = d.s
    · rw [if_pos hs, decide_eq_true hs]; cases bget g.born d.s <;> rfl
    · rw [if_neg hs, decide_eq_false hs]; cases bget g.born d.s <;> rfl
  · rw [clashP_append, h.clash d hdk, clashP_one e d hdk hk]
    unfold GD.clash
    rw [hget]
    by_cases hs : e.s = d.s
    · rw [if_pos hs, decide_eq_true hs]
      have hge := hgc
      unfold GD.clash at hge
      rw [hs] at hge
      cases hbg : bget g.born d.s with
      | none => simp
      | some x =>
        rw [hbg] at hge
        simp only [Bool.false_eq, Bool.not_eq_false', decide_eq_true_eq] at hge
        subst hge
        simp
    · rw [if_neg hs, decide_eq_false hs]; cases bget g.born d.s <;> simp
  · rw [hd, x9]
    refine ⟨(h.dead j).1, ?_⟩
    rw [(h.dead j).2]
    simp [qJ, hk]
  · rw [vZ, h.vert j w, hget]
    have hv1 : vfind [e] j w = (decide (e.s = j) && decide (e.y = w)) := by simp [vfind, hk]
    rw [hv1]
    by_cases hs : e.s = j
    · rw [if_pos hs, decide_eq_true hs]
      have hge := hgc
      unfold GD.clash at hge
      rw [hs] at hge
      cases hbg : bget g.born j with
      | none => simp
      | some x =>
        rw [hbg] at hge
        simp only [Bool.false_eq, Bool.not_eq_false', decide_eq_true_eq] at hge
        subst hge
        simp
    · rw [if_neg hs, decide_eq_false hs]; cases bget g.born j <;> simp
  · rw [hbo]
    intro d hd'
    split at hd'
    · exact h.one d hd'
    · rcases List.mem_append.1 hd' with hd' | hd'
      · exact h.one d hd'
      · rw [List.mem_singleton] at hd'; subst hd'; exact hk
theorem Knows.death {P : List zK} {g : GD} (h : Knows P g) {e : zK} (hk : e.k = 2) : Knows (P ++ [e]) (gput g e) ∧ (gput g e).bad = g.bad ∧ (gput g e).born = g.born := by
  have hn1 : ¬ e.k = 1 := by omega
  have hg : gput g e = { g with dead := dset g.dead e.s ((dget g.dead e.s).getD 0 + 1) } := by unfold gput; rw [if_neg hn1, if_pos hk]
  rw [hg]
  refine ⟨⟨fun d hdk => ?_, fun d hdk => ?_, fun j => ?_, fun j w => ?_, h.one⟩, rfl, rfl⟩
  · rw [hadP_append, h.had d hdk]; simp [hadP, hn1]
  · rw [clashP_append, h.clash d hdk]; simp [vT, hn1, GD.clash]
  · show 0 ≤ (dget (dset g.dead e.s ((dget g.dead e.s).getD 0 + 1)) j).getD 0 ∧ qJ (P ++ [e]) j = decide ((dget (dset g.dead e.s ((dget g.dead e.s).getD 0 + 1)) j).getD 0 > 0)
    have hj := h.dead j
    have hs := h.dead e.s
    rw [dget_set, x9]
    have hd1 : qJ [e] j = decide (e.s = j) := by simp [qJ, hk]
    rw [hd1]
    by_cases hsj : e.s = j
    · rw [if_pos hsj, decide_eq_true hsj, Bool.or_true]
      refine ⟨?_, ?_⟩
      · show 0 ≤ (dget g.dead e.s).getD 0 + 1
        omega
      · show true = decide ((dget g.dead e.s).getD 0 + 1 > 0)
        rw [decide_eq_true (by omega)]
    · rw [if_neg hsj, decide_eq_false hsj, Bool.or_false]
      exact hj
  · rw [vZ, h.vert j w]; simp [vfind, hn1]
theorem lives_eq {l : List zK} {g : GD} (h : Knows l g) {e : zK} (he : e.k = 1) : wN l e = g.live e := by
  have hv : ∀ j u, vertR l j u = g.vert j u := fun j u => by
    unfold vertR GD.vert
    rw [h.vert j, (h.dead j).2]
    have h0 := (h.dead j).1
    cases bget g.born j with
    | none => simp
    | some x =>
      simp only []
      congr 1
      by_cases hz : (dget g.dead j).getD 0 = 0
      · rw [decide_eq_true hz, decide_eq_false (by omega)]; rfl
      · rw [decide_eq_false hz, decide_eq_true (by omega)]; rfl
  unfold wN GD.live
  rw [hv, hv, (h.dead e.s).2, decide_eq_true he, Bool.true_and]
end Go.Proofs.YtomlhekjgagjaaaDoor
/- The document's answer: Few and Same; contracts. -/
namespace Go.Proofs.YtomlhekjgagjaaaDoor
set_option maxRecDepth 100000
set_option maxHeartbeats 16000000
open Go Go.RowKit
set_option linter.unusedSimpArgs false
set_option linter.unusedVariables false
attribute [local irreducible] zZ zY Step zB Sub zP z8 Fn
def strsW (ss : List (List Int)) : PV := .sl (ss.map fun s => .sl (byts s))
def fewL (ss : List (List Int)) : Bool := decide (ss.length ≤ 8) && decide (total ss ≤ 3000)
def fwS (ss : List (List Int)) (i : Nat) : AS := { t := [(0, .p (strsW ss)), (3, .p (.val (.int .i64 (total (ss.take i) : Nat)))), (4, .p (.val (.int .i64 (i : Nat))))], s := [] }
def smS (A B : List zK) (i : Nat) : AS := { t := [(0, .p (.sl (A.map zK.V))), (1, .p (.sl (B.map zK.V))), (5, .p (.val (.int .i64 (i : Nat))))], s := [] }
theorem entV_inj {a b : zK} (h : a.V = b.V) : a = b := by
  obtain ⟨k, s, y, u, v, x⟩ := a
  obtain ⟨k', s', y', u', v', x'⟩ := b
  simp only [zK.V, entV, PV.agg.injEq, List.cons.injEq, PV.val.injEq, Value.int.injEq, true_and, and_true] at h
  simp [h]
theorem same_fn (A B : List zK) (hA : A.length ≤ 1000000) (hB : B.length ≤ 1000000) (r : Bool) (hr : r = true ↔ A = B) : Fn Tryd.prog 14 [.sl (A.map zK.V), .sl (B.map zK.V)] (.p (.val (.bool r))) := by
 have hlA : (A.map zK.V).length = A.length := by rw [List.length_map]
 have hlB : (B.map zK.V).length = B.length := by rw [List.length_map]
 have hcA := yL A
 have hcB := yL B
 refine qV Tryd.func14 rfl Tryd.ntmps14 (Nat.le_of_ble_eq_true rfl) ?_
 by_cases hl : A.length = B.length
 case neg =>
  have c1 : (!decide ((((A.map zK.V).length : Nat) : Int) = (((B.map zK.V).length : Nat) : Int))) = true := by rw [decide_eq_false (by rw [hlA, hlB]; omega)]; rfl
  have hr' : r = false := Bool.eq_false_iff.2 fun h => hl (by rw [hr.1 h])
  subst hr'
  repeat' (first | (refine zY.is ?_; first | refine zY.seq ?_ | (refine zY.isR (id := 0) ?_; refine zY.zJ [0, 1] [] (by repeat' first | exact zV.nil | apply zV.p rfl) (by repeat' exact zQ.nil) ?_; (refine zZ.v rfl rfl (zW rfl rfl rfl (by decide)) ?_); refine zZ.nil ?_) | (refine zY.isR (id := 1) ?_; refine zY.zJ [0, 1, 4] [] (by repeat' first | exact zV.nil | apply zV.p rfl) (by repeat' exact zQ.nil) ?_; (refine zZ.v rfl rfl (zX rfl rfl rfl (by decide)) ?_); (refine zZ.v rfl rfl (yN rfl rfl rfl (by decide)) ?_); (refine zZ.v rfl rfl (zX rfl rfl rfl (by decide)) ?_); (refine zZ.v rfl rfl (yN rfl rfl rfl (by decide)) ?_); (refine zZ.v rfl rfl (by exact vX rfl rfl rfl (by exact c1) rfl (by decide)) ?_); refine zZ.nil ?_) | (refine zY.isR (id := 2) ?_; refine zY.zJ [0, 1, 4] [] (by repeat' first | exact zV.nil | apply zV.p rfl) (by repeat' exact zQ.nil) ?_; (refine zZ.v rfl rfl (zW rfl rfl rfl (by decide)) ?_); refine zZ.nil ?_) | refine zY.yC rfl (by first | assumption | with_reducible rfl) ?_ | refine zY.ret ?_) | refine zI.r ?_)
  all_goals exact ⟨.inl rfl, gives1 rfl rfl rfl⟩
 case pos =>
  have c1 : (!decide ((((A.map zK.V).length : Nat) : Int) = (((B.map zK.V).length : Nat) : Int))) = false := by rw [decide_eq_true (by rw [hlA, hlB]; omega)]; rfl
  repeat' ((refine zY.is ?_; first | refine zY.seq ?_ | (refine zY.isR (id := 0) ?_; refine zY.zJ [0, 1] [] (by repeat' first | exact zV.nil | apply zV.p rfl) (by repeat' exact zQ.nil) ?_; (refine zZ.v rfl rfl (zW rfl rfl rfl (by decide)) ?_); refine zZ.nil ?_) | (refine zY.isR (id := 1) ?_; refine zY.zJ [0, 1, 4] [] (by repeat' first | exact zV.nil | apply zV.p rfl) (by repeat' exact zQ.nil) ?_; (refine zZ.v rfl rfl (zX rfl rfl rfl (by decide)) ?_); (refine zZ.v rfl rfl (yN rfl rfl rfl (by decide)) ?_); (refine zZ.v rfl rfl (zX rfl rfl rfl (by decide)) ?_); (refine zZ.v rfl rfl (yN rfl rfl rfl (by decide)) ?_); (refine zZ.v rfl rfl (by exact vX rfl rfl rfl (by exact c1) rfl (by decide)) ?_); refine zZ.nil ?_) | (refine zY.isR (id := 3) ?_; refine zY.zJ [0, 1, 4] [] (by repeat' first | exact zV.nil | apply zV.p rfl) (by repeat' exact zQ.nil) ?_; (refine zZ.v rfl rfl (zW rfl rfl rfl (by decide)) ?_); refine zZ.nil ?_) | refine zY.yE rfl (by first | assumption | with_reducible rfl) ?_ | refine zY.skip ?_ | refine zY.block ?_))
  refine zY.loop (smS A B) (fun i => i ≤ A.length ∧ A.take i = B.take i) (fun i => A.length - i) 0 ?h0 ⟨Nat.zero_le _, rfl⟩ ?rd
  case h0 =>
   unfold smS
   exact zF K_24 []
  case rd =>
   intro i ⟨hi, htk⟩
   have g3 : IntKind.i64.wrap (((i : Nat) : Int) + 1) = ((i + 1 : Nat) : Int) := by rw [wrap_i64 _ (by omega)]; omega
   unfold smS
   by_cases hlt : i < A.length
   case pos =>
    have g1 : decide (((i : Nat) : Int) < (((A.map zK.V).length : Nat) : Int)) = true := decide_eq_true (by rw [hlA]; omega)
    obtain ⟨a, ha⟩ : ∃ a, A[i]? = some a := ⟨_, List.getElem?_eq_getElem hlt⟩
    obtain ⟨b, hb⟩ : ∃ b, B[i]? = some b := ⟨_, List.getElem?_eq_getElem (by omega)⟩
    have g2 : (A.map zK.V)[i]? = some a.V := by rw [List.getElem?_map, ha]; rfl
    have g4 : (B.map zK.V)[i]? = some b.V := by rw [List.getElem?_map, hb]; rfl
    obtain ⟨ak, as', ay, au, av, ax⟩ := a
    obtain ⟨bk', bs, by', bu, bv, bx⟩ := b
    by_cases hab : (⟨ak, as', ay, au, av, ax⟩ : zK) = ⟨bk', bs, by', bu, bv, bx⟩
    case pos =>
     have htk' : A.take (i + 1) = B.take (i + 1) := by rw [List.take_add_one, List.take_add_one, ha, hb, htk, hab]
     clear ha hb
     cases hab
     have c7 : (!decide ([(IntKind.i64, ak), (IntKind.u64, as'), (IntKind.u64, ay), (IntKind.u64, au), (IntKind.u64, av), (IntKind.u64, ax)] = [(IntKind.i64, ak), (IntKind.u64, as'), (IntKind.u64, ay), (IntKind.u64, au), (IntKind.u64, av), (IntKind.u64, ax)])) = false := by rw [decide_eq_true rfl]; rfl
     repeat' (first | (refine zY.is ?_; first | refine zY.seq ?_ | (refine zY.isR (id := 4) ?_; refine zY.zJ [0, 1, 4, 5, 14, 25] [] (by repeat' first | exact zV.nil | apply zV.p rfl | apply zV.skip) (by repeat' exact zQ.nil) ?_; (refine zZ.v rfl rfl (zX rfl rfl rfl (by decide)) ?_); (refine zZ.v rfl rfl (zX rfl rfl rfl (by decide)) ?_); (refine zZ.v rfl rfl (yN rfl rfl rfl (by decide)) ?_); (refine zZ.v rfl rfl (by exact yZ rfl rfl rfl (by exact g1) rfl (by decide)) ?_); refine zZ.nil ?_) | (refine zY.isR (id := 6) ?_; refine zY.xC [0, 1, 4, 5, 14, 25] [] (by repeat' first | exact zV.nil | apply zV.p rfl | apply zV.skip) (by repeat' exact zQ.nil) (zY.draws ?_); all_goals (refine Draws.v rfl rfl (zX rfl rfl rfl (by decide)) ?_); all_goals (refine Draws.v rfl rfl (zX rfl rfl rfl (by decide)) ?_); all_goals (refine Draws.v rfl rfl (by exact zN rfl rfl rfl (by exact hcA) (by exact g2) rfl (by decide)) ?_); all_goals (refine Draws.v rfl rfl (by exact xH rfl rfl (by exact Nat.le_of_ble_eq_true rfl) rfl (by decide)) ?_); all_goals (refine Draws.v rfl rfl (zX rfl rfl rfl (by decide)) ?_); all_goals (refine Draws.v rfl rfl (zX rfl rfl rfl (by decide)) ?_); all_goals (refine Draws.v rfl rfl (by exact zN rfl rfl rfl (by exact hcB) (by exact g4) rfl (by decide)) ?_); all_goals (refine Draws.v rfl rfl (by exact xH rfl rfl (by exact Nat.le_of_ble_eq_true rfl) rfl (by decide)) ?_); all_goals (refine Draws.v rfl rfl (by exact r_neqT rfl rfl rfl rfl rfl rfl (by rfl) (by exact c7) rfl (by decide)) ?_); all_goals ((refine Draws.done (by kernel_rfl) (by kernel_rfl) (by kernel_rfl) ?_; refine zP.nil ?_))) | (refine zY.isR (id := 5) ?_; refine zY.zJ [0, 1, 4, 5, 14, 25] [] (by repeat' first | exact zV.nil | apply zV.p rfl | apply zV.skip) (by repeat' exact zQ.nil) ?_; (refine zZ.v rfl rfl (zX rfl rfl rfl (by decide)) ?_); (refine zZ.v rfl rfl (by exact yM rfl rfl rfl (by exact g3) rfl (by decide)) ?_); (refine zZ.v rfl rfl (zW rfl rfl rfl (by decide)) ?_); refine zZ.nil ?_) | refine zY.yC rfl (by first | assumption | with_reducible rfl) ?_ | refine zY.yE rfl (by first | assumption | with_reducible rfl) ?_ | refine zY.skip ?_ | refine zY.block ?_) | refine zI.n ?_)
     all_goals
      refine ⟨i + 1, ?_, ⟨hlt, htk'⟩, by omega⟩
      try unfold smS
      exact zF K_24 []
    case neg =>
     have c7 : (!decide ([(IntKind.i64, ak), (IntKind.u64, as'), (IntKind.u64, ay), (IntKind.u64, au), (IntKind.u64, av), (IntKind.u64, ax)] = [(IntKind.i64, bk'), (IntKind.u64, bs), (IntKind.u64, by'), (IntKind.u64, bu), (IntKind.u64, bv), (IntKind.u64, bx)])) = true := by
      rw [decide_eq_false (fun h => hab (by simp only [List.cons.injEq, Prod.mk.injEq, true_and, and_true] at h; simp only [zK.mk.injEq]; exact h))]; rfl
     have hr' : r = false := Bool.eq_false_iff.2 fun h => hab (by
      have e := hr.1 h
      subst e
      rw [ha] at hb
      exact Option.some.inj hb)
     subst hr'
     repeat' (first | (refine zY.is ?_; first | refine zY.seq ?_ | (refine zY.isR (id := 4) ?_; refine zY.zJ [0, 1, 4, 5, 14, 25] [] (by repeat' first | exact zV.nil | apply zV.p rfl | apply zV.skip) (by repeat' exact zQ.nil) ?_; (refine zZ.v rfl rfl (zX rfl rfl rfl (by decide)) ?_); (refine zZ.v rfl rfl (zX rfl rfl rfl (by decide)) ?_); (refine zZ.v rfl rfl (yN rfl rfl rfl (by decide)) ?_); (refine zZ.v rfl rfl (by exact yZ rfl rfl rfl (by exact g1) rfl (by decide)) ?_); refine zZ.nil ?_) | (refine zY.isR (id := 6) ?_; refine zY.xC [0, 1, 4, 5, 14, 25] [] (by repeat' first | exact zV.nil | apply zV.p rfl | apply zV.skip) (by repeat' exact zQ.nil) (zY.draws ?_); all_goals (refine Draws.v rfl rfl (zX rfl rfl rfl (by decide)) ?_); all_goals (refine Draws.v rfl rfl (zX rfl rfl rfl (by decide)) ?_); all_goals (refine Draws.v rfl rfl (by exact zN rfl rfl rfl (by exact hcA) (by exact g2) rfl (by decide)) ?_); all_goals (refine Draws.v rfl rfl (by exact xH rfl rfl (by exact Nat.le_of_ble_eq_true rfl) rfl (by decide)) ?_); all_goals (refine Draws.v rfl rfl (zX rfl rfl rfl (by decide)) ?_); all_goals (refine Draws.v rfl rfl (zX rfl rfl rfl (by decide)) ?_); all_goals (refine Draws.v rfl rfl (by exact zN rfl rfl rfl (by exact hcB) (by exact g4) rfl (by decide)) ?_); all_goals (refine Draws.v rfl rfl (by exact xH rfl rfl (by exact Nat.le_of_ble_eq_true rfl) rfl (by decide)) ?_); all_goals (refine Draws.v rfl rfl (by exact r_neqT rfl rfl rfl rfl rfl rfl (by rfl) (by exact c7) rfl (by decide)) ?_); all_goals ((refine Draws.done (by kernel_rfl) (by kernel_rfl) (by kernel_rfl) ?_; refine zP.nil ?_))) | (refine zY.isR (id := 7) ?_; refine zY.zJ [0, 1, 4, 5, 14, 25] [] (by repeat' first | exact zV.nil | apply zV.p rfl | apply zV.skip) (by repeat' exact zQ.nil) ?_; (refine zZ.v rfl rfl (zW rfl rfl rfl (by decide)) ?_); refine zZ.nil ?_) | refine zY.yC rfl (by first | assumption | with_reducible rfl) ?_ | refine zY.skip ?_ | refine zY.block ?_ | refine zY.ret ?_) | refine zI.r ?_ | refine zS.r ?_)
     all_goals exact ⟨.inl rfl, gives1 rfl rfl rfl⟩
   case neg =>
    have g1 : decide (((i : Nat) : Int) < (((A.map zK.V).length : Nat) : Int)) = false := decide_eq_false (by rw [hlA]; omega)
    have hr' : r = true := hr.2 (by rw [List.take_of_length_le (by omega), List.take_of_length_le (by omega)] at htk; exact htk)
    subst hr'
    repeat' ((refine zY.is ?_; first | refine zY.seq ?_ | (refine zY.isR (id := 4) ?_; refine zY.zJ [0, 1, 4, 5, 14, 25] [] (by repeat' first | exact zV.nil | apply zV.p rfl | apply zV.skip) (by repeat' exact zQ.nil) ?_; (refine zZ.v rfl rfl (zX rfl rfl rfl (by decide)) ?_); (refine zZ.v rfl rfl (zX rfl rfl rfl (by decide)) ?_); (refine zZ.v rfl rfl (yN rfl rfl rfl (by decide)) ?_); (refine zZ.v rfl rfl (by exact yZ rfl rfl rfl (by exact g1) rfl (by decide)) ?_); refine zZ.nil ?_) | (refine zY.isR (id := 8) ?_; refine zY.zJ [4] [] (by repeat' first | exact zV.nil | apply zV.skip) (by repeat' exact zQ.nil) ?_; (refine zZ.v rfl rfl (zW rfl rfl rfl (by decide)) ?_); refine zZ.nil ?_) | refine zY.yE rfl (by first | assumption | with_reducible rfl) ?_ | refine zY.exit ?_ | refine zY.ret ?_))
    all_goals exact ⟨.inl rfl, gives1 rfl rfl rfl⟩
end Go.Proofs.YtomlhekjgagjaaaDoor
/- Streams of entries' frames, told again; heads that stand wrong; plain. -/
namespace Go.Proofs.YtomlhekjgagjaaaDoor
set_option maxRecDepth 100000
set_option maxHeartbeats 16000000
open Go Go.RowKit
set_option linter.unusedSimpArgs false
set_option linter.unusedVariables false
theorem decE_enc {e : zK} (ho : e.ok) (hm : e.may = true) : decE e.enc = some e := by
  have h := dec_enc ho.s.1 ho.s.2 ho.y.1 ho.y.2 ho.u.1 ho.u.2 ho.v.1 ho.v.2 ho.x.1 ho.x.2 hm
  have h : decR e.enc = [e.V, .val (.int .i64 0)] := h
  cases hd : decE e.enc with
  | none =>
    rw [decR_none hd] at h
    unfold decBad at h
    simp at h
  | some x =>
    rw [decR_some hd] at h
    have h1 : x.V = e.V := by
      injection h
    rw [entV_inj h1]
theorem rowsOf_cat (bs : List (List Int)) (h : ∀ b ∈ bs, putOk b) : rowsOf (catF bs) = bs := by
  unfold rowsOf
  rw [framesOf_cat bs h, endsF_rows]
theorem catE_may : ∀ (L : List zK), (∀ e ∈ L, e.may = true) → xZ L = catF (L.map zK.enc)
  | [], _ => rfl
  | e :: r, h => by
    rw [catE_cons, List.map_cons, catF_cons, catE_may r fun x hx => h x (by simp [hx]), entF_may, if_pos (h e (by simp))]
theorem decs_enc : ∀ (L : List zK), (∀ e ∈ L, e.ok ∧ e.may = true) → decs (L.map zK.enc) = (L, true)
  | [], _ => rfl
  | e :: r, h => by
    have h1 := h e (by simp)
    rw [List.map_cons]
    unfold decs
    rw [decE_enc h1.1 h1.2]
    simp only []
    rw [decs_enc r fun x hx => h x (by simp [hx])]
theorem enc_put (e : zK) : putOk e.enc := by
  have := enc_len e
  constructor <;> (rw [this]; split <;> omega)
theorem entsOf_cat (L : List zK) (h : ∀ e ∈ L, e.ok ∧ e.may = true) : wD (xZ L) = (L, true) := by
  unfold wD
  rw [catE_may L fun e he => (h e he).2, rowsOf_cat _ (fun b hb => by obtain ⟨e, _, rfl⟩ := List.mem_map.1 hb; exact enc_put e), decs_enc L h]
theorem stream0 (L : List zK) (h : ∀ e ∈ L, e.ok ∧ e.may = true) : yQ 0 (xZ L) = headOf L := by
  unfold yQ
  rw [entsOf_cat L h]
  rfl
theorem streamN (i : Nat) (L : List zK) (h : ∀ e ∈ L, e.ok ∧ e.may = true) : yQ (i + 1) (xZ L) = (L, true) := by
  unfold yQ
  rw [entsOf_cat L h, if_neg (fun e => by have := e.1; omega)]
theorem catE_range {L : List zK} (h : ∀ e ∈ L, e.ok) : xR (xZ L) := fun x hx => by
  obtain ⟨e, he, hx⟩ := List.mem_flatMap.1 hx
  rw [entF_may] at hx
  split at hx
  · exact putF_range (enc_bytes (h e he)) x hx
  · cases hx
/-- how many births stand ahead -/
def leads : List zK → Nat
  | [] => 0
  | e :: r => if e.k = 1 then leads r + 1 else 0
end Go.Proofs.YtomlhekjgagjaaaDoor
/- What lives hangs on which entries there are, not on their order; plain. -/
namespace Go.Proofs.YtomlhekjgagjaaaDoor
set_option maxRecDepth 100000
set_option maxHeartbeats 16000000
open Go Go.RowKit
set_option linter.unusedSimpArgs false
set_option linter.unusedVariables false
theorem hadP_iff : ∀ (P : List zK) (e : zK), hadP P e = true ↔ e.k = 1 ∧ ∃ x ∈ P, x.k = 1 ∧ x.s = e.s
  | [], e => by simp [hadP]
  | x :: r, e => by
    unfold hadP
    rw [Bool.or_eq_true, hadP_iff r e]
    simp only [Bool.and_eq_true, decide_eq_true_eq, List.mem_cons, exists_eq_or_imp]
    constructor
    · rintro (⟨⟨a, b⟩, c⟩ | ⟨a, b⟩)
      · exact ⟨a, .inl ⟨b, c⟩⟩
      · exact ⟨a, .inr b⟩
    · rintro ⟨a, b | b⟩
      · exact .inl ⟨⟨a, b.1⟩, b.2⟩
      · exact .inr ⟨a, b⟩
theorem clashP_iff : ∀ (P : List zK) (e : zK), vT P e = true ↔ e.k = 1 ∧ ∃ x ∈ P, x.k = 1 ∧ x.s = e.s ∧ x ≠ e
  | [], e => by simp [vT]
  | x :: r, e => by
    unfold vT
    rw [Bool.or_eq_true, clashP_iff r e]
    simp only [Bool.and_eq_true, decide_eq_true_eq, List.mem_cons, exists_eq_or_imp, Bool.not_eq_true', decide_eq_false_iff_not]
    constructor
    · rintro (⟨⟨⟨a, b⟩, c⟩, d⟩ | ⟨a, b⟩)
      · exact ⟨a, .inl ⟨b, c, d⟩⟩
      · exact ⟨a, .inr b⟩
    · rintro ⟨a, b | b⟩
      · exact .inl ⟨⟨⟨a, b.1⟩, b.2.1⟩, b.2.2⟩
      · exact .inr ⟨a, b⟩
theorem deadR_iff : ∀ (P : List zK) (j : Int), qJ P j = true ↔ ∃ x ∈ P, x.k = 2 ∧ x.s = j
  | [], j => by simp [qJ]
  | x :: r, j => by
    unfold qJ
    rw [Bool.or_eq_true, deadR_iff r j]
    simp only [Bool.and_eq_true, decide_eq_true_eq, List.mem_cons, exists_eq_or_imp]
theorem vfind_iff : ∀ (P : List zK) (j w : Int), vfind P j w = true ↔ ∃ x ∈ P, x.k = 1 ∧ x.s = j ∧ x.y = w
  | [], j, w => by simp [vfind]
  | x :: r, j, w => by
    unfold vfind
    rw [Bool.or_eq_true, vfind_iff r j w]
    simp only [Bool.and_eq_true, decide_eq_true_eq, List.mem_cons, exists_eq_or_imp, and_assoc]
def NoClash (P : List zK) : Prop := ∀ a ∈ P, ∀ b ∈ P, a.k = 1 → b.k = 1 → a.s = b.s → a = b
structure Births (P B : List zK) : Prop where
  mem : ∀ e, e ∈ B ↔ e ∈ P ∧ e.k = 1
  once : (B.map (·.s)).Nodup
theorem Births.start : Births [] [] := ⟨by simp, by simp⟩
/-- the gathering's way along entries -/
theorem says_way : ∀ (r P : List zK) (g : GD), Knows P g → Births P g.born → NoClash P → g.bad = false → (∀ e ∈ r, e.k = 1 ∨ e.k = 2) →
    ((r.foldl gput g).bad = false → Knows (P ++ r) (r.foldl gput g) ∧ Births (P ++ r) (r.foldl gput g).born ∧ NoClash (P ++ r)) ∧ ((r.foldl gput g).bad = true → ¬ NoClash (P ++ r))
  | [], P, g, h, hB, hN, hb, _ => by
    rw [List.append_nil]
    exact ⟨fun _ => ⟨h, hB, hN⟩, fun h2 => by rw [List.foldl_nil, hb] at h2; cases h2⟩
  | e :: r, P, g, h, hB, hN, hb, hk => by
    have hk2 : ∀ d ∈ r, d.k = 1 ∨ d.k = 2 := fun d hd => hk d (by simp [hd])
    have e0 : P ++ e :: r = (P ++ [e]) ++ r := by simp
    rw [List.foldl_cons, e0]
    rcases hk e (by simp) with h1 | h2
    · cases hc : vT P e
      · obtain ⟨hk', hb', hbo⟩ := h.birth h1 hc
        have hnc : ∀ x ∈ P, x.k = 1 → x.s = e.s → x = e := fun x hx hx1 hxs => Classical.byContradiction fun hne => by
          have := (clashP_iff P e).2 ⟨h1, x, hx, hx1, hxs, hne⟩
          rw [hc] at this
          cases this
        refine says_way r (P ++ [e]) (gput g e) hk' ?_ ?_ (by rw [hb', hb]) hk2
        · rw [hbo]
          cases hh : hadP P e
          · have hno : ∀ x ∈ P, x.k = 1 → x.s ≠ e.s := fun x hx hx1 hxs => by
              have := (hadP_iff P e).2 ⟨h1, x, hx, hx1, hxs⟩
              rw [hh] at this
              cases this
            rw [if_neg (by decide)]
            refine ⟨fun d => ?_, ?_⟩
            · rw [List.mem_append, List.mem_append, hB.mem d, List.mem_singleton]
              constructor
              · rintro (h | rfl)
                · exact ⟨.inl h.1, h.2⟩
                · exact ⟨.inr rfl, h1⟩
              · rintro ⟨h | h, hd⟩
                · exact .inl ⟨h, hd⟩
                · exact .inr h
            · rw [List.map_append]
              refine List.pairwise_append.2 ⟨hB.once, by simp, fun a ha b hb2 => ?_⟩
              obtain ⟨x, hx, rfl⟩ := List.mem_map.1 ha
              simp only [List.map_cons, List.map_nil, List.mem_singleton] at hb2
              subst hb2
              have hx2 := (hB.mem x).1 hx
              exact hno x hx2.1 hx2.2
          · obtain ⟨_, x, hx, hx1, hxs⟩ := (hadP_iff P e).1 hh
            have hxe := hnc x hx hx1 hxs
            subst hxe
            rw [if_pos rfl]
            refine ⟨fun d => ?_, hB.once⟩
            rw [hB.mem d, List.mem_append, List.mem_singleton]
            constructor
            · exact fun h => ⟨.inl h.1, h.2⟩
            · rintro ⟨h | rfl, hd⟩
              · exact ⟨h, hd⟩
              · exact ⟨hx, hd⟩
        · intro a ha b hb2 ha1 hb1 hs
          rcases List.mem_append.1 ha with ha' | ha' <;> rcases List.mem_append.1 hb2 with hb' | hb'
          · exact hN a ha' b hb' ha1 hb1 hs
          · have := List.mem_singleton.1 hb'
            rw [this] at hs ⊢
            exact hnc a ha' ha1 hs
          · have := List.mem_singleton.1 ha'
            rw [this] at hs ⊢
            exact (hnc b hb' hb1 hs.symm).symm
          · rw [List.mem_singleton.1 ha', List.mem_singleton.1 hb']
      · have hgc := h.clash e h1
        rw [hc] at hgc
        have hbad : (gput g e).bad = true := by unfold gput; rw [if_pos h1]; simp [← hgc]
        rw [gputs_bad r hbad]
        refine ⟨fun h => (by cases h), fun _ hno => ?_⟩
        obtain ⟨_, x, hx, hx1, hxs, hne⟩ := (clashP_iff P e).1 hc
        exact hne (hno x (by simp [hx]) e (by simp) hx1 h1 hxs)
    · obtain ⟨hk', hb', hbo⟩ := h.death h2
      refine says_way r (P ++ [e]) (gput g e) hk' ?_ ?_ (by rw [hb', hb]) hk2
      · rw [hbo]
        refine ⟨fun d => ?_, hB.once⟩
        rw [hB.mem d, List.mem_append, List.mem_singleton]
        constructor
        · exact fun h => ⟨.inl h.1, h.2⟩
        · rintro ⟨h | rfl, hd⟩
          · exact ⟨h, hd⟩
          · omega
      · intro a ha b hb2 ha1 hb1 hs
        rcases List.mem_append.1 ha with ha' | ha' <;> rcases List.mem_append.1 hb2 with hb' | hb'
        · exact hN a ha' b hb' ha1 hb1 hs
        · have := List.mem_singleton.1 hb'
          rw [this] at hb1
          omega
        · have := List.mem_singleton.1 ha'
          rw [this] at ha1
          omega
        · have := List.mem_singleton.1 ha'
          rw [this] at ha1
          omega
/-- what lives, of entries that are births and deaths -/
def wP (l : List zK) (c : Int) : List zK × Int := if (l.foldl gput G0).bad = true then ([], 8) else qG (l.foldl gput G0).lives c
theorem liveL_all {ss : List (List Int)} {l : List zK} (c : Int) (hb : ∀ s ∈ ss, xR s) (h : allR ss = some l) : liveL ss c = wP l c := by
  have hg := gather_all ss hb
  rw [h] at hg
  unfold liveL wP
  rcases hg with hg | ⟨h1, h2⟩
  · rw [hg]
  · rw [h1, h2, if_pos rfl, if_pos rfl]
theorem liveF_perm {F F' : List zK} (h : F.Perm F') (c : Int) : qG F c = qG F' c := by
  have hn : (F.map (·.y)).Nodup ↔ (F'.map (·.y)).Nodup := (h.map (·.y)).nodup_iff
  unfold qG
  by_cases hc : 0 ≤ c ∧ (F.length : Int) ≤ c ∧ (F.map (·.y)).Nodup
  · rw [if_pos hc, if_pos ⟨hc.1, by rw [← h.length_eq]; exact hc.2.1, hn.1 hc.2.2⟩]
    have hs : SortY (isort F) := by
      have h1 := List.pairwise_map.1 (((wV F).symm.map (·.y)).nodup hc.2.2)
      exact (h1.and (isort_sorted F)).imp fun h => by have := h.1; have := h.2; omega
    rw [sort_uniq hs ((wV F).trans h)]
  · rw [if_neg hc, if_neg (fun h2 => hc ⟨h2.1, by rw [h.length_eq]; exact h2.2.1, hn.2 h2.2.2⟩)]
theorem liveM_spec {l : List zK} (hk : ∀ e ∈ l, e.k = 1 ∨ e.k = 2) (hN : NoClash l) (c : Int) : ∃ B, Births l B ∧ wP l c = qG (B.filter (wN l)) c := by
  have hw := says_way l [] G0 .start .start (fun a ha => by cases ha) rfl hk
  rw [List.nil_append] at hw
  cases hb : (l.foldl gput G0).bad
  · obtain ⟨hK, hB, _⟩ := hw.1 hb
    refine ⟨_, hB, ?_⟩
    unfold wP GD.lives
    rw [hb, if_neg (by decide)]
    congr 1
    exact List.filter_congr fun e he => (lives_eq hK ((hB.mem e).1 he).2).symm
  · exact absurd hN (hw.2 hb)
theorem liveM_clash {l : List zK} (hk : ∀ e ∈ l, e.k = 1 ∨ e.k = 2) (hN : ¬ NoClash l) (c : Int) : wP l c = ([], 8) := by
  have hw := says_way l [] G0 .start .start (fun a ha => by cases ha) rfl hk
  rw [List.nil_append] at hw
  cases hb : (l.foldl gput G0).bad
  · exact absurd (hw.1 hb).2.2 hN
  · unfold wP
    rw [hb, if_pos rfl]
end Go.Proofs.YtomlhekjgagjaaaDoor
/- Streams behind a head of none: what they say; plain. -/
namespace Go.Proofs.YtomlhekjgagjaaaDoor
set_option maxRecDepth 100000
set_option maxHeartbeats 16000000
open Go Go.RowKit
set_option linter.unusedSimpArgs false
set_option linter.unusedVariables false
/-- entries that may be, births and deaths -/
def BD (L : List zK) : Prop := ∀ e ∈ L, e.ok ∧ e.may = true ∧ ¬ e.k = 3
theorem BD.no3 {L : List zK} (h : BD L) : no3 L = true := List.all_eq_true.2 fun e he => by simp [(h e he).2.2]
theorem BD.may {L : List zK} (h : BD L) : ∀ e ∈ L, e.ok ∧ e.may = true := fun e he => ⟨(h e he).1, (h e he).2.1⟩
theorem may_kind {e : zK} (h : e.may = true) : e.k = 1 ∨ e.k = 2 ∨ e.k = 3 := by
  unfold zK.may qD at h
  by_cases h1 : e.k = 1
  · exact .inl h1
  · by_cases h2 : e.k = 2
    · exact .inr (.inl h2)
    · by_cases h3 : e.k = 3
      · exact .inr (.inr h3)
      · rw [if_neg h1, if_neg h2, if_neg h3] at h
        cases h
theorem BD.kinds {L : List zK} (h : BD L) : ∀ e ∈ L, e.k = 1 ∨ e.k = 2 := fun e he => by
  have h1 := h e he
  rcases may_kind h1.2.1 with h2 | h2 | h2
  · exact .inl h2
  · exact .inr h2
  · exact absurd h2 h1.2.2
theorem head0_ok : (xS 0).ok ∧ (xS 0).may = true := by
  have z : U 0 := ⟨by decide, by decide⟩
  exact ⟨⟨z, z, z, z, z⟩, rfl⟩
theorem BD.head {L : List zK} (h : BD L) : ∀ e ∈ xS 0 :: L, e.ok ∧ e.may = true := fun e he => by
  rcases List.mem_cons.1 he with rfl | he
  · exact head0_ok
  · exact h.may e he
theorem BD.bytes {L : List zK} (h : BD L) : xR (xZ L) := catE_range fun e he => (h e he).1
theorem headBytes {L : List zK} (h : BD L) : xR (xZ (xS 0 :: L)) := catE_range fun e he => (h.head e he).1
theorem stream_one {L : List zK} (i : Nat) (h : BD L) : streamR (i + 1) (xZ L) = some L := by
  rw [stream_eq _ h.bytes, streamN i L h.may, h.no3]
  rfl
theorem stream_head {L : List zK} (h : BD L) : streamR 0 (xZ (xS 0 :: L)) = some L := by
  rw [stream_eq _ (headBytes h), stream0 _ h.head]
  have e1 : headOf (xS 0 :: L) = (L, true) := by
    show (if (3 : Int) = 3 then if (L.length : Int) < ((0 : Nat) : Int) then (([] : List zK), false) else (L, (L.take (((0 : Nat) : Int)).toNat).all fun e => decide (e.k = 1)) else ([], false)) = _
    rw [if_pos rfl, if_neg (by omega)]
    rfl
  rw [e1, h.no3]
  rfl
theorem allL_cats : ∀ (Ls : List (List zK)) (i : Nat), (∀ L ∈ Ls, BD L) → allL (i + 1) (Ls.map xZ) = some Ls.flatten
  | [], i, _ => rfl
  | L :: r, i, h => by
    rw [List.map_cons, allL_stream, stream_one i (h L (by simp))]
    show (allL (i + 1 + 1) (r.map xZ)).map (L ++ ·) = _
    rw [allL_cats r (i + 1) fun K hK => h K (by simp [hK])]
    rfl
theorem allR_head {L0 : List zK} {Ls : List (List zK)} (h0 : BD L0) (h : ∀ L ∈ Ls, BD L) : allR (xZ (xS 0 :: L0) :: Ls.map xZ) = some (L0 ++ Ls.flatten) := by
  unfold allR
  rw [if_neg (by simp), allL_stream, stream_head h0]
  show (allL (0 + 1) (Ls.map xZ)).map (L0 ++ ·) = _
  rw [allL_cats Ls 0 h]
  rfl
theorem liveL_head {L0 : List zK} {Ls : List (List zK)} (c : Int) (h0 : BD L0) (h : ∀ L ∈ Ls, BD L) : liveL (xZ (xS 0 :: L0) :: Ls.map xZ) c = wP (L0 ++ Ls.flatten) c := by
  refine liveL_all c (fun s hs => ?_) (allR_head h0 h)
  rcases List.mem_cons.1 hs with rfl | hs
  · exact headBytes h0
  · obtain ⟨L, hL, rfl⟩ := List.mem_map.1 hs
    exact (h L hL).bytes
theorem bput_len : ∀ (l : List zK) (e : zK), (bput l e).length ≤ l.length + 1
  | [], e => Nat.le_refl _
  | x :: r, e => by
    unfold bput
    have := bput_len r e
    split <;> simp only [List.length_cons] <;> omega
theorem gputs_len : ∀ (L : List zK) (g : GD), (L.foldl gput g).born.length ≤ g.born.length + L.length
  | [], g => Nat.le_refl _
  | e :: r, g => by
    have h1 := gputs_len r (gput g e)
    have h2 : (gput g e).born.length ≤ g.born.length + 1 := by
      unfold gput
      split
      · exact bput_len g.born e
      · split <;> exact Nat.le_succ _
    rw [List.foldl_cons, List.length_cons]
    omega
theorem liveM_len (l : List zK) (c : Int) (h : l.length ≤ 1000000) : (wP l c).1.length ≤ 1000000 := by
  have h1 := gputs_len l G0
  have h2 : (l.foldl gput G0).lives.length ≤ (l.foldl gput G0).born.length := List.length_filter_le _ _
  have h3 : G0.born.length = 0 := rfl
  unfold wP
  split
  · exact Nat.zero_le _
  · unfold qG
    split
    · rw [(wV _).length_eq]
      omega
    · exact Nat.zero_le _
end Go.Proofs.YtomlhekjgagjaaaDoor
/- Two stores apart, in one: plain. -/
namespace Go.Proofs.YtomlhekjgagjaaaDoor
set_option maxRecDepth 100000
set_option maxHeartbeats 16000000
open Go Go.RowKit
set_option linter.unusedSimpArgs false
set_option linter.unusedVariables false
/-- the first store's entries -/
def NearE (e : zK) : Prop := e.s ≤ 1000 ∧ e.u ≤ 1000 ∧ e.v ≤ 1000 ∧ e.y / 2147483648 ≤ 99
/-- the second store's entries -/
def FarE (e : zK) : Prop := 1000 < e.s ∧ (e.k = 1 → 99 < e.y / 2147483648 ∧ (0 ≤ e.y % 2147483648 - 1 → 1000 < e.u ∧ 1000 < e.v))
theorem no_dead {P : List zK} {j : Int} (h : ∀ e ∈ P, e.s ≠ j) : qJ P j = false := by
  cases hd : qJ P j
  · rfl
  · obtain ⟨x, hx, _, hs⟩ := (deadR_iff P j).1 hd
    exact absurd hs (h x hx)
theorem no_vert {P : List zK} {j w : Int} (h : ∀ e ∈ P, e.s ≠ j) : vfind P j w = false := by
  cases hd : vfind P j w
  · rfl
  · obtain ⟨x, hx, _, hs, _⟩ := (vfind_iff P j w).1 hd
    exact absurd hs (h x hx)
theorem lives_near {A B : List zK} (hB : ∀ e ∈ B, FarE e) {e : zK} (he : NearE e) : wN (A ++ B) e = wN A e := by
  have hd : ∀ j : Int, j ≤ 1000 → qJ B j = false := fun j hj => no_dead fun x hx => by have := (hB x hx).1; omega
  have hv : ∀ j w : Int, j ≤ 1000 → vfind B j w = false := fun j w hj => no_vert fun x hx => by have := (hB x hx).1; omega
  unfold wN vertR
  rw [x9, x9, x9, vZ, vZ, hd _ he.1, hd _ he.2.1, hd _ he.2.2.1, hv _ _ he.2.1, hv _ _ he.2.2.1]
  simp only [Bool.or_false]
theorem lives_far {A B : List zK} (hA : ∀ e ∈ A, NearE e) {e : zK} (he : FarE e) (h1 : e.k = 1) : wN (A ++ B) e = wN B e := by
  have hd : ∀ j : Int, 1000 < j → qJ A j = false := fun j hj => no_dead fun x hx => by have := (hA x hx).1; omega
  have hv : ∀ j w : Int, 1000 < j → vfind A j w = false := fun j w hj => no_vert fun x hx => by have := (hA x hx).1; omega
  unfold wN vertR
  rw [x9, hd _ he.1, Bool.false_or]
  by_cases hw : e.y % 2147483648 - 1 < 0
  · rw [decide_eq_true hw]
    simp only [Bool.true_or]
  · obtain ⟨h2, h3⟩ := (he.2 h1).2 (by omega)
    rw [x9, x9, vZ, vZ, hd _ h2, hd _ h3, hv _ _ h2, hv _ _ h3]
    simp only [Bool.false_or]
theorem nodupE_le : ∀ (sn l : List zK), sn.Nodup → (∀ n ∈ sn, n ∈ l) → sn.length ≤ l.length
  | [], _, _, _ => Nat.zero_le _
  | a :: r, l, h, hs => by
    have h1 := List.nodup_cons.1 h
    have ha := hs a (by simp)
    have := nodupE_le r (l.erase a) h1.2 fun n hn => (List.mem_erase_of_ne (fun e => h1.1 (by rw [← e]; exact hn))).2 (hs n (by simp [hn]))
    rw [List.length_erase_of_mem ha] at this
    have := List.length_pos_of_mem ha
    simp only [List.length_cons]
    omega
theorem births_len {P B : List zK} (h : Births P B) : B.length ≤ P.length := by
  have n1 : B.Nodup := (List.pairwise_map.1 h.once).imp fun h e => h (by rw [e])
  exact nodupE_le B P n1 fun e he => ((h.mem e).1 he).1
theorem liveF_ok {F : List zK} {c : Int} (h0 : 0 ≤ c) (hl : (F.length : Int) ≤ c) (hn : (F.map (·.y)).Nodup) : qG F c = (isort F, 0) := by unfold qG; rw [if_pos ⟨h0, hl, hn⟩]
theorem liveF_no {F : List zK} {c : Int} (hn : ¬ (F.map (·.y)).Nodup) : qG F c = ([], 8) := by unfold qG; rw [if_neg fun h => hn h.2.2]
theorem sort_isort {F : List zK} (hn : (F.map (·.y)).Nodup) : SortY (isort F) := by
  have h1 := List.pairwise_map.1 (((wV F).symm.map (·.y)).nodup hn)
  exact (h1.and (isort_sorted F)).imp fun h => by have := h.1; have := h.2; omega
theorem isort_append {F G : List zK} (hF : (F.map (·.y)).Nodup) (hG : (G.map (·.y)).Nodup) (h : ∀ a ∈ F, ∀ b ∈ G, a.y < b.y) : isort (F ++ G) = isort F ++ isort G := by
  refine sort_uniq ?_ ((wV F).append (wV G))
  refine List.pairwise_append.2 ⟨sort_isort hF, sort_isort hG, fun a ha b hb => h a ((wV F).mem_iff.1 ha) b ((wV G).mem_iff.1 hb)⟩
theorem apart_law {A B : List zK} (hA : BD A) (hB : BD B) (nA : ∀ e ∈ A, NearE e) (nB : ∀ e ∈ B, FarE e) (lA : A.length ≤ 6) (lB : B.length ≤ 6) :
    (∃ P Q, wP A 20 = (P, 0) ∧ wP B 20 = (Q, 0) ∧ wP (A ++ B) 20 = (P ++ Q, 0)) ∨ (wP A 20 = ([], 8) ∧ wP (A ++ B) 20 = ([], 8)) ∨ (∃ P, wP A 20 = (P, 0) ∧ wP B 20 = ([], 8) ∧ wP (A ++ B) 20 = ([], 8)) := by
  have kA := hA.kinds
  have kB := hB.kinds
  have kAB : ∀ e ∈ A ++ B, e.k = 1 ∨ e.k = 2 := fun e he => (List.mem_append.1 he).elim (kA e) (kB e)
  have hC : NoClash (A ++ B) ↔ NoClash A ∧ NoClash B := by
    constructor
    · exact fun h => ⟨fun a ha b hb => h a (by simp [ha]) b (by simp [hb]), fun a ha b hb => h a (by simp [ha]) b (by simp [hb])⟩
    · rintro ⟨h1, h2⟩ a ha b hb ha1 hb1 hs
      rcases List.mem_append.1 ha with ha | ha <;> rcases List.mem_append.1 hb with hb | hb
      · exact h1 a ha b hb ha1 hb1 hs
      · have := (nA a ha).1; have := (nB b hb).1; omega
      · have := (nA b hb).1; have := (nB a ha).1; omega
      · exact h2 a ha b hb ha1 hb1 hs
  by_cases cA : NoClash A
  case neg => exact .inr (.inl ⟨liveM_clash kA cA _, liveM_clash kAB (fun h => cA (hC.1 h).1) _⟩)
  obtain ⟨bA, sA, eA⟩ := liveM_spec kA cA 20
  have lFA : (bA.filter (wN A)).length ≤ 6 := Nat.le_trans (List.length_filter_le _ _) (Nat.le_trans (births_len sA) lA)
  by_cases cB : NoClash B
  case neg =>
    have h2 := liveM_clash kAB (fun h => cB (hC.1 h).2) 20
    by_cases nF : ((bA.filter (wN A)).map (·.y)).Nodup
    · exact .inr (.inr ⟨_, eA.trans (liveF_ok (by omega) (by omega) nF), liveM_clash kB cB _, h2⟩)
    · exact .inr (.inl ⟨eA.trans (liveF_no nF), h2⟩)
  obtain ⟨bB, sB, eB⟩ := liveM_spec kB cB 20
  have lFB : (bB.filter (wN B)).length ≤ 6 := Nat.le_trans (List.length_filter_le _ _) (Nat.le_trans (births_len sB) lB)
  obtain ⟨bC, sC, eC⟩ := liveM_spec kAB (hC.2 ⟨cA, cB⟩) 20
  have hp : bC.Perm (bA ++ bB) := by
    have n1 : bC.Nodup := (List.pairwise_map.1 sC.once).imp fun h e => h (by rw [e])
    have nA1 : bA.Nodup := (List.pairwise_map.1 sA.once).imp fun h e => h (by rw [e])
    have nB1 : bB.Nodup := (List.pairwise_map.1 sB.once).imp fun h e => h (by rw [e])
    have n2 : (bA ++ bB).Nodup := List.nodup_append.2 ⟨nA1, nB1, fun a ha b hb e => by
      subst e
      have h1 := (nA a ((sA.mem a).1 ha).1).1
      have h2 := (nB a ((sB.mem a).1 hb).1).1
      omega⟩
    refine (List.perm_ext_iff_of_nodup n1 n2).2 fun e => ?_
    rw [sC.mem, List.mem_append, List.mem_append, sA.mem, sB.mem, or_and_right]
  have hf : (bA ++ bB).filter (wN (A ++ B)) = bA.filter (wN A) ++ bB.filter (wN B) := by
    rw [List.filter_append]
    congr 1
    · exact List.filter_congr fun e he => lives_near nB (nA e ((sA.mem e).1 he).1)
    · exact List.filter_congr fun e he => lives_far nA (nB e ((sB.mem e).1 he).1) ((sB.mem e).1 he).2
  rw [liveF_perm (hp.filter _), hf] at eC
  have hlt : ∀ a ∈ bA.filter (wN A), ∀ b ∈ bB.filter (wN B), a.y < b.y := fun a ha b hb => by
    have h1 := (nA a ((sA.mem a).1 (List.mem_filter.1 ha).1).1).2.2.2
    have h2 := (sB.mem b).1 (List.mem_filter.1 hb).1
    have h3 := ((nB b h2.1).2 h2.2).1
    omega
  generalize bA.filter (wN A) = F at *
  generalize bB.filter (wN B) = G at *
  have hN : ((F ++ G).map (·.y)).Nodup ↔ (F.map (·.y)).Nodup ∧ (G.map (·.y)).Nodup := by
    rw [List.map_append, List.nodup_append]
    constructor
    · exact fun h => ⟨h.1, h.2.1⟩
    · refine fun h => ⟨h.1, h.2, fun x hx z hz => ?_⟩
      obtain ⟨a, ha, rfl⟩ := List.mem_map.1 hx
      obtain ⟨b, hb, rfl⟩ := List.mem_map.1 hz
      have := hlt a ha b hb
      omega
  by_cases nF : (F.map (·.y)).Nodup
  · by_cases nG : (G.map (·.y)).Nodup
    · refine .inl ⟨_, _, eA.trans (liveF_ok (by omega) (by omega) nF), eB.trans (liveF_ok (by omega) (by omega) nG), eC.trans ?_⟩
      rw [liveF_ok (by omega) (by rw [List.length_append]; omega) (hN.2 ⟨nF, nG⟩), isort_append nF nG hlt]
    · exact .inr (.inr ⟨_, eA.trans (liveF_ok (by omega) (by omega) nF), eB.trans (liveF_no nG), eC.trans (liveF_no fun h => nG (hN.1 h).2)⟩)
  · exact .inr (.inl ⟨eA.trans (liveF_no nF), eC.trans (liveF_no fun h => nF (hN.1 h).1)⟩)
end Go.Proofs.YtomlhekjgagjaaaDoor
/- Guarded operations that make a block, or turn the frame. Generic over the program. -/
namespace Go.Proofs.YtomlhekjgagjaaaDoor
set_option maxRecDepth 100000
set_option maxHeartbeats 16000000
open Go Go.RowKit
section
variable {P : Program} {n : Nat} {ops : Array Oper} {o : Oper} {rest : List Oper} {S S1 : AS} {d : Nat} {K : Exit → AS → Prop}
theorem zZ.gM {j t : Nat} {want b : Bool} {bs : List Nat} {av : AV} {bl : Blk} (hg : o.guard = some (j, want)) (ht : (ops[j]?).bind (·.dst) = some t) (htn : t < n) (hb : S.tmp t = .p (.val (.bool b))) (hbw : b = want) (hd : o.dst = some d)
    (h : zB P n o S bs av (some bl)) (hr : zZ P n ops rest ((S.create d bl).put d av) K) : zZ P n ops (o :: rest) S K := by
  refine zZ.ofTg hg ht htn hb hbw (Step.t h.step ?_)
  rw [hd]
  exact hr
theorem zZ.gW {j t : Nat} {want b : Bool} (hg : o.guard = some (j, want)) (ht : (ops[j]?).bind (·.dst) = some t) (htn : t < n) (hb : S.tmp t = .p (.val (.bool b))) (hbw : b = want)
    (h : Step P n o S S1) (hr : zZ P n ops rest S1 K) : zZ P n ops (o :: rest) S K := zZ.ofTg hg ht htn hb hbw (Step.t h hr)
end
end Go.Proofs.YtomlhekjgagjaaaDoor
/- MergeApart: the law's function is true. -/
namespace Go.Proofs.YtomlhekjgagjaaaDoor
set_option maxRecDepth 100000
set_option maxHeartbeats 16000000
open Go Go.RowKit
set_option linter.unusedSimpArgs false
set_option linter.unusedVariables false
attribute [local irreducible] zZ zY Step zB Sub zP z8 Fn zI zS
def mpS (A B : List zK) (i : Nat) : AS := { t := [(0, .p (.sl (A.map zK.V))), (1, .p (.sl (B.map zK.V))), (5, .p (.val (.bool true))), (6, .p (.sl (byts (xS 0).F))), (7, .own 41), (8, .p (.val (.slice none 0 0))), (9, .p (.val (.int .i64 (i : Nat))))], s := [(41, wF 5 (xZ (A.take i)))] }
def mpT (A B : List zK) (j : Nat) : AS := { t := [(1, .p (.sl (B.map zK.V))), (5, .p (.val (.bool true))), (6, .p (.sl (byts (xS 0).F))), (7, .p (.sl (byts (xZ A)))), (8, .own 42), (12, .p (.val (.int .i64 (j : Nat))))], s := [(42, wF 5 (xZ (B.take j)))] }
theorem pick7 (b1 b2 b3 b4 b5 b6 b7 : Bool) : b1 = false ∨ (b1 = true ∧ b2 = true) ∨ (b1 = true ∧ b2 = false ∧ b3 = true) ∨ (b1 = true ∧ b2 = false ∧ b3 = false ∧ b4 = true) ∨ (b1 = true ∧ b2 = false ∧ b3 = false ∧ b4 = false ∧ b5 = true) ∨ (b1 = true ∧ b2 = false ∧ b3 = false ∧ b4 = false ∧ b5 = false ∧ b6 = true) ∨ (b1 = true ∧ b2 = false ∧ b3 = false ∧ b4 = false ∧ b5 = false ∧ b6 = false ∧ b7 = true) ∨ (b1 = true ∧ b2 = false ∧ b3 = false ∧ b4 = false ∧ b5 = false ∧ b6 = false ∧ b7 = false) := by
  cases b1 <;> cases b2 <;> cases b3 <;> cases b4 <;> cases b5 <;> cases b6 <;> cases b7 <;> simp
theorem pick8 (b1 b2 b3 b4 b5 b6 b7 b8 b9 : Bool) :
    (b1 = false ∨ (b1 = true ∧ b2 = true) ∨ (b1 = true ∧ b2 = false ∧ b3 = true) ∨ (b1 = true ∧ b2 = false ∧ b3 = false ∧ b4 = true ∧ b5 = true) ∨ (b1 = true ∧ b2 = false ∧ b3 = false ∧ b4 = true ∧ b5 = false ∧ b6 = true ∧ b7 = true) ∨ (b1 = true ∧ b2 = false ∧ b3 = false ∧ b4 = true ∧ b5 = false ∧ b6 = true ∧ b7 = false ∧ b8 = true) ∨ (b1 = true ∧ b2 = false ∧ b3 = false ∧ b4 = true ∧ b5 = false ∧ b6 = true ∧ b7 = false ∧ b8 = false ∧ b9 = true)) ∨
    (b1 = true ∧ b2 = false ∧ b3 = false ∧ (b4 = false ∨ (b4 = true ∧ b5 = false ∧ b6 = false) ∨ (b4 = true ∧ b5 = false ∧ b6 = true ∧ b7 = false ∧ b8 = false ∧ b9 = false))) := by
  cases b1 <;> cases b2 <;> cases b3 <;> cases b4 <;> cases b5 <;> cases b6 <;> cases b7 <;> cases b8 <;> cases b9 <;> simp
theorem mapart_fn (A B : List zK) (hokA : ∀ e ∈ A, e.ok) (hmA : A.length ≤ maxLen) (hokB : ∀ e ∈ B, e.ok) (hmB : B.length ≤ maxLen) : Fn Tryd.prog 8 [.sl (A.map zK.V), .sl (B.map zK.V)] (.p (.val (.bool true))) := by
  have sh := shown22_fn
  have hlA : (A.map zK.V).length = A.length := by rw [List.length_map]
  have hlB : (B.map zK.V).length = B.length := by rw [List.length_map]
  have hcA := yL A
  have hcB := yL B
  refine wT Tryd.func8 rfl Tryd.ntmps8 (Nat.le_of_ble_eq_true rfl) ?_
  by_cases h6 : A.length ≤ 6 ∧ B.length ≤ 6
  case neg =>
    have key : decide ((((A.map zK.V).length : Nat) : Int) > 6) = true ∨ (decide ((((A.map zK.V).length : Nat) : Int) > 6) = false ∧ decide ((((B.map zK.V).length : Nat) : Int) > 6) = true) := by
      rw [hlA, hlB]
      by_cases h : A.length ≤ 6
      · exact .inr ⟨decide_eq_false (by omega), decide_eq_true (by omega)⟩
      · exact .inl (decide_eq_true (by omega))
    rcases key with c1 | ⟨c1, c2⟩
    ·
      repeat' (first | (refine zY.is ?_; first | refine zY.seq ?_ | (refine zY.iq 0 ?_; refine zY.rqa _ K_b K_i ?_; (refine zZ.v rfl rfl (zW rfl rfl rfl (by decide)) ?_); refine zZ.nil ?_) | (refine zY.iq 1 ?_; refine zY.rqa _ K_1h K_i ?_; (refine zZ.v rfl rfl (by exact yB (sh) rfl rfl rfl (by decide)) ?_); (refine zZ.v rfl rfl (zW rfl rfl rfl (by decide)) ?_); refine zZ.nil ?_) | (refine zY.iq 2 ?_; refine zY.rqa _ K_1d K_i ?_; all_goals (refine zZ.v rfl rfl (zX rfl rfl rfl (by decide)) ?_); all_goals (refine zZ.v rfl rfl (yN rfl rfl rfl (by decide)) ?_); all_goals (refine zZ.v rfl rfl (by exact xI rfl rfl rfl (by exact c1) rfl (by decide)) ?_); all_goals (refine zZ.v rfl rfl (zX rfl rfl rfl (by decide)) ?_); all_goals (refine zZ.gnF rfl rfl (by decide) rfl (by with_reducible rfl) rfl (by decide) ?_); all_goals (refine zZ.gnF rfl rfl (by decide) rfl (by with_reducible rfl) rfl (by decide) ?_); all_goals (refine zZ.gnF rfl rfl (by decide) rfl (by with_reducible rfl) rfl (by decide) ?_); all_goals (refine zZ.v rfl rfl (by exact zM rfl rfl (by with_reducible rfl) rfl rfl (by decide)) ?_); all_goals (refine zZ.nil ?_)) | (refine zY.iq 3 ?_; refine zY.rqa _ K_1d K_i ?_; (refine zZ.v rfl rfl (zX rfl rfl rfl (by decide)) ?_); (refine zZ.v rfl rfl (zW rfl rfl rfl (by decide)) ?_); refine zZ.nil ?_) | refine zY.yC rfl (by first | assumption | with_reducible rfl) ?_ | refine zY.ret ?_) | refine zI.n ?_ | refine zI.r ?_)
      all_goals exact ⟨.inl rfl, _, Sub.refl _, xV.p rfl (.tmp rfl)⟩
    ·
      repeat' (first | (refine zY.is ?_; first | refine zY.seq ?_ | (refine zY.iq 0 ?_; refine zY.rqa _ K_b K_i ?_; (refine zZ.v rfl rfl (zW rfl rfl rfl (by decide)) ?_); refine zZ.nil ?_) | (refine zY.iq 1 ?_; refine zY.rqa _ K_1h K_i ?_; (refine zZ.v rfl rfl (by exact yB (sh) rfl rfl rfl (by decide)) ?_); (refine zZ.v rfl rfl (zW rfl rfl rfl (by decide)) ?_); refine zZ.nil ?_) | (refine zY.iq 2 ?_; refine zY.rqa _ K_1d K_i ?_; all_goals (refine zZ.v rfl rfl (zX rfl rfl rfl (by decide)) ?_); all_goals (refine zZ.v rfl rfl (yN rfl rfl rfl (by decide)) ?_); all_goals (refine zZ.v rfl rfl (by exact xI rfl rfl rfl (by exact c1) rfl (by decide)) ?_); all_goals (refine zZ.v rfl rfl (zX rfl rfl rfl (by decide)) ?_); all_goals (refine zZ.gY rfl rfl (by decide) rfl (by with_reducible rfl) rfl (by decide) (zX rfl rfl rfl (by decide)) ?_); all_goals (refine zZ.gY rfl rfl (by decide) rfl (by with_reducible rfl) rfl (by decide) (yN rfl rfl rfl (by decide)) ?_); all_goals (refine zZ.gY rfl rfl (by decide) rfl (by with_reducible rfl) rfl (by decide) (by exact xI rfl rfl rfl (by exact c2) rfl (by decide)) ?_); all_goals (refine zZ.v rfl rfl (by exact zH rfl rfl (by with_reducible rfl) rfl rfl (by decide)) ?_); all_goals (refine zZ.nil ?_)) | (refine zY.iq 3 ?_; refine zY.rqa _ K_1d K_i ?_; (refine zZ.v rfl rfl (zX rfl rfl rfl (by decide)) ?_); (refine zZ.v rfl rfl (zW rfl rfl rfl (by decide)) ?_); refine zZ.nil ?_) | refine zY.yC rfl (by first | assumption | with_reducible rfl) ?_ | refine zY.ret ?_) | refine zI.n ?_ | refine zI.r ?_)
      all_goals exact ⟨.inl rfl, _, Sub.refl _, xV.p rfl (.tmp rfl)⟩
  case pos =>
    obtain ⟨l6A, l6B⟩ := h6
    have c1 : decide ((((A.map zK.V).length : Nat) : Int) > 6) = false := decide_eq_false (by rw [hlA]; omega)
    have c2 : decide ((((B.map zK.V).length : Nat) : Int) > 6) = false := decide_eq_false (by rw [hlB]; omega)
    have z : U 0 := ⟨by decide, by decide⟩
    have b0 := vH 3 0 0 0 0 0 z z z z z
    have b0 : Fn Tryd.prog 24 [entV 3 0 0 0 0 0] (.p (.sl (byts (xS 0).F))) := b0
    repeat' (first | (refine zY.is ?_; first | refine zY.seq ?_ | (refine zY.iq 0 ?_; refine zY.rqa _ K_b K_i ?_; (refine zZ.v rfl rfl (zW rfl rfl rfl (by decide)) ?_); refine zZ.nil ?_) | (refine zY.iq 1 ?_; refine zY.rqa _ K_1h K_i ?_; (refine zZ.v rfl rfl (by exact yB (sh) rfl rfl rfl (by decide)) ?_); (refine zZ.v rfl rfl (zW rfl rfl rfl (by decide)) ?_); refine zZ.nil ?_) | (refine zY.iq 2 ?_; refine zY.rqa _ K_1d K_i ?_; all_goals (refine zZ.v rfl rfl (zX rfl rfl rfl (by decide)) ?_); all_goals (refine zZ.v rfl rfl (yN rfl rfl rfl (by decide)) ?_); all_goals (refine zZ.v rfl rfl (by exact xI rfl rfl rfl (by exact c1) rfl (by decide)) ?_); all_goals (refine zZ.v rfl rfl (zX rfl rfl rfl (by decide)) ?_); all_goals (refine zZ.gY rfl rfl (by decide) rfl (by with_reducible rfl) rfl (by decide) (zX rfl rfl rfl (by decide)) ?_); all_goals (refine zZ.gY rfl rfl (by decide) rfl (by with_reducible rfl) rfl (by decide) (yN rfl rfl rfl (by decide)) ?_); all_goals (refine zZ.gY rfl rfl (by decide) rfl (by with_reducible rfl) rfl (by decide) (by exact xI rfl rfl rfl (by exact c2) rfl (by decide)) ?_); all_goals (refine zZ.v rfl rfl (by exact zH rfl rfl (by with_reducible rfl) rfl rfl (by decide)) ?_); all_goals (refine zZ.nil ?_)) | (refine zY.iq 4 ?_; refine zY.rqa _ K_1d K_i ?_; (refine zZ.v rfl rfl (wR rfl (by rfl) (by rfl) (by rfl) (by rfl) rfl (by decide)) ?_); (refine zZ.v rfl rfl (by exact yB (b0) rfl rfl rfl (by decide)) ?_); (refine zZ.v rfl rfl (zW rfl rfl rfl (by decide)) ?_); refine zZ.nil ?_) | (refine zY.iq 5 ?_; refine zY.rqa _ K_3u K_i ?_; (refine zZ.v rfl rfl (zW rfl rfl rfl (by decide)) ?_); refine zZ.nil ?_) | (refine zY.iq 6 ?_; refine zY.rqa _ K_3v K_i ?_; (refine zZ.v rfl rfl (zW rfl rfl rfl (by decide)) ?_); refine zZ.nil ?_) | (refine zY.iq 7 ?_; refine zY.rqa _ K_3w K_i ?_; (refine zZ.v rfl rfl (zW rfl rfl rfl (by decide)) ?_); refine zZ.nil ?_) | refine zY.yE rfl (by first | assumption | with_reducible rfl) ?_ | refine zY.skip ?_ | refine zY.block ?_) | refine zI.n ?_)
    clear c1 c2
    refine zY.loop (mpS A B) (fun i => i ≤ A.length ∧ BD (A.take i) ∧ ∀ e ∈ A.take i, NearE e) (fun i => A.length - i) 0 ?h0 ⟨Nat.zero_le _, (fun e he => by simp at he), (fun e he => by simp at he)⟩ ?rd
    case h0 =>
      refine (qW (d := 7) (id := 41) (ty := 5) (sz := 1) (by decide) rfl).trans ?_
      unfold mpS
      rw [List.take_zero]
      exact zF K_36 K_37
    case rd =>
      rintro i ⟨hi, hBD, hN⟩
      have g3 : IntKind.i64.wrap (((i : Nat) : Int) + 1) = ((i + 1 : Nat) : Int) := by rw [wrap_i64 _ (by omega)]; omega
      have hl1 := catE_len (A.take i)
      have htl : (A.take i).length = i := by rw [List.length_take]; omega
      have hX1 : (xZ (A.take i)).length ≤ 1000 := by rw [htl] at hl1; omega
      clear hl1
      unfold mpS
      by_cases hlt : i < A.length
      case pos =>
        have g1 : decide (((i : Nat) : Int) < (((A.map zK.V).length : Nat) : Int)) = true := decide_eq_true (by rw [hlA]; omega)
        obtain ⟨e, he⟩ : ∃ e, A[i]? = some e := ⟨_, List.getElem?_eq_getElem hlt⟩
        have g2 : (A.map zK.V)[i]? = some e.V := by rw [List.getElem?_map, he]; rfl
        have ho := hokA e (List.mem_of_getElem? he)
        have m1 := mayRef_fn e.k e.s e.y e.u e.v e.x ho.y.1 ho.y.2
        have m1 : Fn Tryd.prog 25 [e.V] (.p (.val (.bool e.may))) := m1
        have s1 := splitKRef_fn e.y ho.y.1 ho.y.2
        have be := vH e.k e.s e.y e.u e.v e.x ho.s ho.y ho.u ho.v ho.x
        have be : Fn Tryd.prog 24 [e.V] (.p (.sl (byts e.F))) := be
        have htake : A.take (i + 1) = A.take i ++ [e] := by rw [List.take_add_one, he]; rfl
        have hFe := entF_len e
        have t1 : xZ (A.take (i + 1)) = xZ (A.take i) ++ e.F := by rw [htake, catE_append]; simp [xZ]
        have q1 : (xZ (A.take i)).length + e.F.length ≤ 140737488355328 := Nat.le_trans (Nat.add_le_add hX1 hFe) (by decide)
        have hok2 : e.may = true → ¬ e.k = 3 → NearE e → BD (A.take (i + 1)) ∧ ∀ d ∈ A.take (i + 1), NearE d := fun hm h3 hne => by
          rw [htake]
          refine ⟨fun d hd => ?_, fun d hd => ?_⟩ <;> rcases List.mem_append.1 hd with hd | hd
          · exact hBD d hd
          · rw [List.mem_singleton] at hd; subst hd; exact ⟨ho, hm, h3⟩
          · exact hN d hd
          · rw [List.mem_singleton] at hd; subst hd; exact hne
        clear hFe htl hX1 hN hBD htake
        generalize e.F = Be at *
        generalize xZ (A.take i) = X1 at *
        obtain ⟨b1, hb1⟩ : ∃ b, e.may = b := ⟨_, rfl⟩
        obtain ⟨b2, hb2⟩ : ∃ b, decide (e.k = 3) = b := ⟨_, rfl⟩
        obtain ⟨b3, hb3⟩ : ∃ b, decide (e.s > 1000) = b := ⟨_, rfl⟩
        obtain ⟨b4, hb4⟩ : ∃ b, decide (e.u > 1000) = b := ⟨_, rfl⟩
        obtain ⟨b5, hb5⟩ : ∃ b, decide (e.v > 1000) = b := ⟨_, rfl⟩
        obtain ⟨b6, hb6⟩ : ∃ b, decide (e.y / 2147483648 > 99) = b := ⟨_, rfl⟩
        obtain ⟨b7, hb7⟩ : ∃ b, decide (e.y % 2147483648 - 1 > 99) = b := ⟨_, rfl⟩
        have hok2 : b1 = true → b2 = false → b3 = false → b4 = false → b5 = false → b6 = false → BD (A.take (i + 1)) ∧ ∀ d ∈ A.take (i + 1), NearE d := fun e1 e2 e3 e4 e5 e6 => by
          subst e1 e2 e3 e4 e5 e6
          exact hok2 hb1 (of_decide_eq_false hb2) ⟨by have := of_decide_eq_false hb3; omega, by have := of_decide_eq_false hb4; omega, by have := of_decide_eq_false hb5; omega, by have := of_decide_eq_false hb6; omega⟩
        rw [hb1] at m1
        clear he ho hb1
        obtain ⟨ek, es, ey, eu, ev, ex⟩ := e
        dsimp only at hb2 hb3 hb4 hb5 hb6 hb7 s1
        have key := pick7 b1 b2 b3 b4 b5 b6 b7
        rw [← or_assoc, ← or_assoc, ← or_assoc, ← or_assoc, ← or_assoc, ← or_assoc] at key
        rcases key with key | ⟨rfl, rfl, rfl, rfl, rfl, rfl, rfl⟩
        · clear hok2 t1
          rcases key with (((((rfl | ⟨rfl, rfl⟩) | ⟨rfl, rfl, rfl⟩) | ⟨rfl, rfl, rfl, rfl⟩) | ⟨rfl, rfl, rfl, rfl, rfl⟩) | ⟨rfl, rfl, rfl, rfl, rfl, rfl⟩) | ⟨rfl, rfl, rfl, rfl, rfl, rfl, rfl⟩
          all_goals
            repeat' (first | (refine zY.is ?_; first | refine zY.seq ?_ | (refine zY.iq 8 ?_; refine zY.rqf _ K_11 K_y ?_; (refine zZ.v rfl rfl (zX rfl rfl rfl (by decide)) ?_); (refine zZ.v rfl rfl (zX rfl rfl rfl (by decide)) ?_); (refine zZ.v rfl rfl (yN rfl rfl rfl (by decide)) ?_); (refine zZ.v rfl rfl (by exact yZ rfl rfl rfl (by exact g1) rfl (by decide)) ?_); refine zZ.nil ?_) | (refine zY.iq 10 ?_; refine zY.rqf _ K_11 K_y ?_; (refine zZ.v rfl rfl (zX rfl rfl rfl (by decide)) ?_); (refine zZ.v rfl rfl (zX rfl rfl rfl (by decide)) ?_); (refine zZ.v rfl rfl (by exact zN rfl rfl rfl (by exact hcA) (by exact g2) rfl (by decide)) ?_); (refine zZ.v rfl rfl (yD rfl rfl rfl (by decide)) ?_); (refine zZ.v rfl rfl (zR rfl rfl rfl rfl (by decide)) ?_); (refine zZ.v rfl rfl (by exact yI (s1) rfl rfl rfl (by decide)) ?_); (refine zZ.v rfl rfl (yJ rfl rfl rfl (by decide)) ?_); (refine zZ.v rfl rfl (zC rfl rfl rfl rfl (by decide)) ?_); (refine zZ.v rfl rfl (zC rfl rfl rfl rfl (by decide)) ?_); (refine zZ.v rfl rfl (zW rfl rfl rfl (by decide)) ?_); (refine zZ.v rfl rfl (zW rfl rfl rfl (by decide)) ?_); refine zZ.nil ?_) | (refine zY.iq 11 ?_; refine zY.rqf _ K_11 K_y ?_; all_goals (refine zZ.v rfl rfl (zX rfl rfl rfl (by decide)) ?_); all_goals (refine zZ.v rfl rfl (zX rfl rfl rfl (by decide)) ?_); all_goals (refine zZ.v rfl rfl (by exact zN rfl rfl rfl (by exact hcA) (by exact g2) rfl (by decide)) ?_); all_goals (refine zZ.v rfl rfl (by exact xH rfl rfl (by exact Nat.le_of_ble_eq_true rfl) rfl (by decide)) ?_); all_goals (refine zZ.v rfl rfl (by exact yB (m1) rfl rfl rfl (by decide)) ?_); all_goals (refine zZ.v rfl rfl (by exact xP rfl rfl (by first | exact bT (by decide) | exact bF (by decide)) rfl (by decide)) ?_); all_goals (refine zZ.v rfl rfl (zX rfl rfl rfl (by decide)) ?_); all_goals (first | refine zZ.gY rfl rfl (by decide) rfl (by with_reducible rfl) rfl (by decide) (zX rfl rfl rfl (by decide)) ?_ | refine zZ.gnF rfl rfl (by decide) rfl (by with_reducible rfl) rfl (by decide) ?_); all_goals (first | refine zZ.gY rfl rfl (by decide) rfl (by with_reducible rfl) rfl (by decide) (zX rfl rfl rfl (by decide)) ?_ | refine zZ.gnF rfl rfl (by decide) rfl (by with_reducible rfl) rfl (by decide) ?_); all_goals (first | refine zZ.gY rfl rfl (by decide) rfl (by with_reducible rfl) rfl (by decide) (by exact zN rfl rfl rfl (by exact hcA) (by exact g2) rfl (by decide)) ?_ | refine zZ.gnF rfl rfl (by decide) rfl (by with_reducible rfl) rfl (by decide) ?_); all_goals (first | refine zZ.gY rfl rfl (by decide) rfl (by with_reducible rfl) rfl (by decide) (yD rfl rfl rfl (by decide)) ?_ | refine zZ.gnF rfl rfl (by decide) rfl (by with_reducible rfl) rfl (by decide) ?_); all_goals (first | refine zZ.gY rfl rfl (by decide) rfl (by with_reducible rfl) rfl (by decide) (zR rfl rfl rfl rfl (by decide)) ?_ | refine zZ.gnF rfl rfl (by decide) rfl (by with_reducible rfl) rfl (by decide) ?_); all_goals (first | refine zZ.gY rfl rfl (by decide) rfl (by with_reducible rfl) rfl (by decide) (by exact yG rfl rfl rfl (by exact hb2) rfl (by decide)) ?_ | refine zZ.gnF rfl rfl (by decide) rfl (by with_reducible rfl) rfl (by decide) ?_); all_goals (refine zZ.v rfl rfl (by first | exact zM rfl rfl (by with_reducible rfl) rfl rfl (by decide) | exact zH rfl rfl (by with_reducible rfl) rfl rfl (by decide)) ?_); all_goals (refine zZ.v rfl rfl (zX rfl rfl rfl (by decide)) ?_); all_goals (first | refine zZ.gY rfl rfl (by decide) rfl (by with_reducible rfl) rfl (by decide) (zX rfl rfl rfl (by decide)) ?_ | refine zZ.gnF rfl rfl (by decide) rfl (by with_reducible rfl) rfl (by decide) ?_); all_goals (first | refine zZ.gY rfl rfl (by decide) rfl (by with_reducible rfl) rfl (by decide) (zX rfl rfl rfl (by decide)) ?_ | refine zZ.gnF rfl rfl (by decide) rfl (by with_reducible rfl) rfl (by decide) ?_); all_goals (first | refine zZ.gY rfl rfl (by decide) rfl (by with_reducible rfl) rfl (by decide) (by exact zN rfl rfl rfl (by exact hcA) (by exact g2) rfl (by decide)) ?_ | refine zZ.gnF rfl rfl (by decide) rfl (by with_reducible rfl) rfl (by decide) ?_); all_goals (first | refine zZ.gY rfl rfl (by decide) rfl (by with_reducible rfl) rfl (by decide) (yD rfl rfl rfl (by decide)) ?_ | refine zZ.gnF rfl rfl (by decide) rfl (by with_reducible rfl) rfl (by decide) ?_); all_goals (first | refine zZ.gY rfl rfl (by decide) rfl (by with_reducible rfl) rfl (by decide) (zR rfl rfl rfl rfl (by decide)) ?_ | refine zZ.gnF rfl rfl (by decide) rfl (by with_reducible rfl) rfl (by decide) ?_); all_goals (first | refine zZ.gY rfl rfl (by decide) rfl (by with_reducible rfl) rfl (by decide) (by exact xI rfl rfl rfl (by exact hb3) rfl (by decide)) ?_ | refine zZ.gnF rfl rfl (by decide) rfl (by with_reducible rfl) rfl (by decide) ?_); all_goals (refine zZ.v rfl rfl (by first | exact zM rfl rfl (by with_reducible rfl) rfl rfl (by decide) | exact zH rfl rfl (by with_reducible rfl) rfl rfl (by decide)) ?_); all_goals (refine zZ.v rfl rfl (zX rfl rfl rfl (by decide)) ?_); all_goals (first | refine zZ.gY rfl rfl (by decide) rfl (by with_reducible rfl) rfl (by decide) (zX rfl rfl rfl (by decide)) ?_ | refine zZ.gnF rfl rfl (by decide) rfl (by with_reducible rfl) rfl (by decide) ?_); all_goals (first | refine zZ.gY rfl rfl (by decide) rfl (by with_reducible rfl) rfl (by decide) (zX rfl rfl rfl (by decide)) ?_ | refine zZ.gnF rfl rfl (by decide) rfl (by with_reducible rfl) rfl (by decide) ?_); all_goals (first | refine zZ.gY rfl rfl (by decide) rfl (by with_reducible rfl) rfl (by decide) (by exact zN rfl rfl rfl (by exact hcA) (by exact g2) rfl (by decide)) ?_ | refine zZ.gnF rfl rfl (by decide) rfl (by with_reducible rfl) rfl (by decide) ?_); all_goals (first | refine zZ.gY rfl rfl (by decide) rfl (by with_reducible rfl) rfl (by decide) (yD rfl rfl rfl (by decide)) ?_ | refine zZ.gnF rfl rfl (by decide) rfl (by with_reducible rfl) rfl (by decide) ?_); all_goals (first | refine zZ.gY rfl rfl (by decide) rfl (by with_reducible rfl) rfl (by decide) (zR rfl rfl rfl rfl (by decide)) ?_ | refine zZ.gnF rfl rfl (by decide) rfl (by with_reducible rfl) rfl (by decide) ?_); all_goals (first | refine zZ.gY rfl rfl (by decide) rfl (by with_reducible rfl) rfl (by decide) (by exact xI rfl rfl rfl (by exact hb4) rfl (by decide)) ?_ | refine zZ.gnF rfl rfl (by decide) rfl (by with_reducible rfl) rfl (by decide) ?_); all_goals (refine zZ.v rfl rfl (by first | exact zM rfl rfl (by with_reducible rfl) rfl rfl (by decide) | exact zH rfl rfl (by with_reducible rfl) rfl rfl (by decide)) ?_); all_goals (refine zZ.v rfl rfl (zX rfl rfl rfl (by decide)) ?_); all_goals (first | refine zZ.gY rfl rfl (by decide) rfl (by with_reducible rfl) rfl (by decide) (zX rfl rfl rfl (by decide)) ?_ | refine zZ.gnF rfl rfl (by decide) rfl (by with_reducible rfl) rfl (by decide) ?_); all_goals (first | refine zZ.gY rfl rfl (by decide) rfl (by with_reducible rfl) rfl (by decide) (zX rfl rfl rfl (by decide)) ?_ | refine zZ.gnF rfl rfl (by decide) rfl (by with_reducible rfl) rfl (by decide) ?_); all_goals (first | refine zZ.gY rfl rfl (by decide) rfl (by with_reducible rfl) rfl (by decide) (by exact zN rfl rfl rfl (by exact hcA) (by exact g2) rfl (by decide)) ?_ | refine zZ.gnF rfl rfl (by decide) rfl (by with_reducible rfl) rfl (by decide) ?_); all_goals (first | refine zZ.gY rfl rfl (by decide) rfl (by with_reducible rfl) rfl (by decide) (yD rfl rfl rfl (by decide)) ?_ | refine zZ.gnF rfl rfl (by decide) rfl (by with_reducible rfl) rfl (by decide) ?_); all_goals (first | refine zZ.gY rfl rfl (by decide) rfl (by with_reducible rfl) rfl (by decide) (zR rfl rfl rfl rfl (by decide)) ?_ | refine zZ.gnF rfl rfl (by decide) rfl (by with_reducible rfl) rfl (by decide) ?_); all_goals (first | refine zZ.gY rfl rfl (by decide) rfl (by with_reducible rfl) rfl (by decide) (by exact xI rfl rfl rfl (by exact hb5) rfl (by decide)) ?_ | refine zZ.gnF rfl rfl (by decide) rfl (by with_reducible rfl) rfl (by decide) ?_); all_goals (refine zZ.v rfl rfl (by first | exact zM rfl rfl (by with_reducible rfl) rfl rfl (by decide) | exact zH rfl rfl (by with_reducible rfl) rfl rfl (by decide)) ?_); all_goals (refine zZ.v rfl rfl (zX rfl rfl rfl (by decide)) ?_); all_goals (first | refine zZ.gY rfl rfl (by decide) rfl (by with_reducible rfl) rfl (by decide) (zX rfl rfl rfl (by decide)) ?_ | refine zZ.gnF rfl rfl (by decide) rfl (by with_reducible rfl) rfl (by decide) ?_); all_goals (first | refine zZ.gY rfl rfl (by decide) rfl (by with_reducible rfl) rfl (by decide) (by exact xI rfl rfl rfl (by exact hb6) rfl (by decide)) ?_ | refine zZ.gnF rfl rfl (by decide) rfl (by with_reducible rfl) rfl (by decide) ?_); all_goals (refine zZ.v rfl rfl (by first | exact zM rfl rfl (by with_reducible rfl) rfl rfl (by decide) | exact zH rfl rfl (by with_reducible rfl) rfl rfl (by decide)) ?_); all_goals (refine zZ.v rfl rfl (zX rfl rfl rfl (by decide)) ?_); all_goals (first | refine zZ.gY rfl rfl (by decide) rfl (by with_reducible rfl) rfl (by decide) (zX rfl rfl rfl (by decide)) ?_ | refine zZ.gnF rfl rfl (by decide) rfl (by with_reducible rfl) rfl (by decide) ?_); all_goals (first | refine zZ.gY rfl rfl (by decide) rfl (by with_reducible rfl) rfl (by decide) (by exact xI rfl rfl rfl (by exact hb7) rfl (by decide)) ?_ | refine zZ.gnF rfl rfl (by decide) rfl (by with_reducible rfl) rfl (by decide) ?_); all_goals (refine zZ.v rfl rfl (by first | exact zM rfl rfl (by with_reducible rfl) rfl rfl (by decide) | exact zH rfl rfl (by with_reducible rfl) rfl rfl (by decide)) ?_); all_goals (refine zZ.nil ?_)) | (refine zY.iq 12 ?_; refine zY.rqf _ K_11 K_y ?_; (refine zZ.v rfl rfl (zX rfl rfl rfl (by decide)) ?_); (refine zZ.v rfl rfl (zW rfl rfl rfl (by decide)) ?_); refine zZ.nil ?_) | refine zY.yC rfl (by first | assumption | with_reducible rfl) ?_ | refine zY.skip ?_ | refine zY.block ?_ | refine zY.ret ?_) | refine zI.n ?_ | refine zI.r ?_ | refine zS.r ?_)
          all_goals exact ⟨.inl rfl, _, Sub.refl _, xV.p rfl (.tmp rfl)⟩
        · have hok2 := hok2 rfl rfl rfl rfl rfl rfl
          repeat' (first | (refine zY.is ?_; first | refine zY.seq ?_ | (refine zY.iq 8 ?_; refine zY.rqf _ K_11 K_y ?_; (refine zZ.v rfl rfl (zX rfl rfl rfl (by decide)) ?_); (refine zZ.v rfl rfl (zX rfl rfl rfl (by decide)) ?_); (refine zZ.v rfl rfl (yN rfl rfl rfl (by decide)) ?_); (refine zZ.v rfl rfl (by exact yZ rfl rfl rfl (by exact g1) rfl (by decide)) ?_); refine zZ.nil ?_) | (refine zY.iq 10 ?_; refine zY.rqf _ K_11 K_y ?_; (refine zZ.v rfl rfl (zX rfl rfl rfl (by decide)) ?_); (refine zZ.v rfl rfl (zX rfl rfl rfl (by decide)) ?_); (refine zZ.v rfl rfl (by exact zN rfl rfl rfl (by exact hcA) (by exact g2) rfl (by decide)) ?_); (refine zZ.v rfl rfl (yD rfl rfl rfl (by decide)) ?_); (refine zZ.v rfl rfl (zR rfl rfl rfl rfl (by decide)) ?_); (refine zZ.v rfl rfl (by exact yI (s1) rfl rfl rfl (by decide)) ?_); (refine zZ.v rfl rfl (yJ rfl rfl rfl (by decide)) ?_); (refine zZ.v rfl rfl (zC rfl rfl rfl rfl (by decide)) ?_); (refine zZ.v rfl rfl (zC rfl rfl rfl rfl (by decide)) ?_); (refine zZ.v rfl rfl (zW rfl rfl rfl (by decide)) ?_); (refine zZ.v rfl rfl (zW rfl rfl rfl (by decide)) ?_); refine zZ.nil ?_) | (refine zY.iq 11 ?_; refine zY.rqf _ K_11 K_y ?_; all_goals (refine zZ.v rfl rfl (zX rfl rfl rfl (by decide)) ?_); all_goals (refine zZ.v rfl rfl (zX rfl rfl rfl (by decide)) ?_); all_goals (refine zZ.v rfl rfl (by exact zN rfl rfl rfl (by exact hcA) (by exact g2) rfl (by decide)) ?_); all_goals (refine zZ.v rfl rfl (by exact xH rfl rfl (by exact Nat.le_of_ble_eq_true rfl) rfl (by decide)) ?_); all_goals (refine zZ.v rfl rfl (by exact yB (m1) rfl rfl rfl (by decide)) ?_); all_goals (refine zZ.v rfl rfl (by exact xP rfl rfl (by exact bF (by decide)) rfl (by decide)) ?_); all_goals (refine zZ.v rfl rfl (zX rfl rfl rfl (by decide)) ?_); all_goals (refine zZ.gY rfl rfl (by decide) rfl (by with_reducible rfl) rfl (by decide) (zX rfl rfl rfl (by decide)) ?_); all_goals (refine zZ.gY rfl rfl (by decide) rfl (by with_reducible rfl) rfl (by decide) (zX rfl rfl rfl (by decide)) ?_); all_goals (refine zZ.gY rfl rfl (by decide) rfl (by with_reducible rfl) rfl (by decide) (by exact zN rfl rfl rfl (by exact hcA) (by exact g2) rfl (by decide)) ?_); all_goals (refine zZ.gY rfl rfl (by decide) rfl (by with_reducible rfl) rfl (by decide) (yD rfl rfl rfl (by decide)) ?_); all_goals (refine zZ.gY rfl rfl (by decide) rfl (by with_reducible rfl) rfl (by decide) (zR rfl rfl rfl rfl (by decide)) ?_); all_goals (refine zZ.gY rfl rfl (by decide) rfl (by with_reducible rfl) rfl (by decide) (by exact yG rfl rfl rfl (by exact hb2) rfl (by decide)) ?_); all_goals (refine zZ.v rfl rfl (by exact zH rfl rfl (by with_reducible rfl) rfl rfl (by decide)) ?_); all_goals (refine zZ.v rfl rfl (zX rfl rfl rfl (by decide)) ?_); all_goals (refine zZ.gY rfl rfl (by decide) rfl (by with_reducible rfl) rfl (by decide) (zX rfl rfl rfl (by decide)) ?_); all_goals (refine zZ.gY rfl rfl (by decide) rfl (by with_reducible rfl) rfl (by decide) (zX rfl rfl rfl (by decide)) ?_); all_goals (refine zZ.gY rfl rfl (by decide) rfl (by with_reducible rfl) rfl (by decide) (by exact zN rfl rfl rfl (by exact hcA) (by exact g2) rfl (by decide)) ?_); all_goals (refine zZ.gY rfl rfl (by decide) rfl (by with_reducible rfl) rfl (by decide) (yD rfl rfl rfl (by decide)) ?_); all_goals (refine zZ.gY rfl rfl (by decide) rfl (by with_reducible rfl) rfl (by decide) (zR rfl rfl rfl rfl (by decide)) ?_); all_goals (refine zZ.gY rfl rfl (by decide) rfl (by with_reducible rfl) rfl (by decide) (by exact xI rfl rfl rfl (by exact hb3) rfl (by decide)) ?_); all_goals (refine zZ.v rfl rfl (by exact zH rfl rfl (by with_reducible rfl) rfl rfl (by decide)) ?_); all_goals (refine zZ.v rfl rfl (zX rfl rfl rfl (by decide)) ?_); all_goals (refine zZ.gY rfl rfl (by decide) rfl (by with_reducible rfl) rfl (by decide) (zX rfl rfl rfl (by decide)) ?_); all_goals (refine zZ.gY rfl rfl (by decide) rfl (by with_reducible rfl) rfl (by decide) (zX rfl rfl rfl (by decide)) ?_); all_goals (refine zZ.gY rfl rfl (by decide) rfl (by with_reducible rfl) rfl (by decide) (by exact zN rfl rfl rfl (by exact hcA) (by exact g2) rfl (by decide)) ?_); all_goals (refine zZ.gY rfl rfl (by decide) rfl (by with_reducible rfl) rfl (by decide) (yD rfl rfl rfl (by decide)) ?_); all_goals (refine zZ.gY rfl rfl (by decide) rfl (by with_reducible rfl) rfl (by decide) (zR rfl rfl rfl rfl (by decide)) ?_); all_goals (refine zZ.gY rfl rfl (by decide) rfl (by with_reducible rfl) rfl (by decide) (by exact xI rfl rfl rfl (by exact hb4) rfl (by decide)) ?_); all_goals (refine zZ.v rfl rfl (by exact zH rfl rfl (by with_reducible rfl) rfl rfl (by decide)) ?_); all_goals (refine zZ.v rfl rfl (zX rfl rfl rfl (by decide)) ?_); all_goals (refine zZ.gY rfl rfl (by decide) rfl (by with_reducible rfl) rfl (by decide) (zX rfl rfl rfl (by decide)) ?_); all_goals (refine zZ.gY rfl rfl (by decide) rfl (by with_reducible rfl) rfl (by decide) (zX rfl rfl rfl (by decide)) ?_); all_goals (refine zZ.gY rfl rfl (by decide) rfl (by with_reducible rfl) rfl (by decide) (by exact zN rfl rfl rfl (by exact hcA) (by exact g2) rfl (by decide)) ?_); all_goals (refine zZ.gY rfl rfl (by decide) rfl (by with_reducible rfl) rfl (by decide) (yD rfl rfl rfl (by decide)) ?_); all_goals (refine zZ.gY rfl rfl (by decide) rfl (by with_reducible rfl) rfl (by decide) (zR rfl rfl rfl rfl (by decide)) ?_); all_goals (refine zZ.gY rfl rfl (by decide) rfl (by with_reducible rfl) rfl (by decide) (by exact xI rfl rfl rfl (by exact hb5) rfl (by decide)) ?_); all_goals (refine zZ.v rfl rfl (by exact zH rfl rfl (by with_reducible rfl) rfl rfl (by decide)) ?_); all_goals (refine zZ.v rfl rfl (zX rfl rfl rfl (by decide)) ?_); all_goals (refine zZ.gY rfl rfl (by decide) rfl (by with_reducible rfl) rfl (by decide) (zX rfl rfl rfl (by decide)) ?_); all_goals (refine zZ.gY rfl rfl (by decide) rfl (by with_reducible rfl) rfl (by decide) (by exact xI rfl rfl rfl (by exact hb6) rfl (by decide)) ?_); all_goals (refine zZ.v rfl rfl (by exact zH rfl rfl (by with_reducible rfl) rfl rfl (by decide)) ?_); all_goals (refine zZ.v rfl rfl (zX rfl rfl rfl (by decide)) ?_); all_goals (refine zZ.gY rfl rfl (by decide) rfl (by with_reducible rfl) rfl (by decide) (zX rfl rfl rfl (by decide)) ?_); all_goals (refine zZ.gY rfl rfl (by decide) rfl (by with_reducible rfl) rfl (by decide) (by exact xI rfl rfl rfl (by exact hb7) rfl (by decide)) ?_); all_goals (refine zZ.v rfl rfl (by exact zH rfl rfl (by with_reducible rfl) rfl rfl (by decide)) ?_); all_goals (refine zZ.nil ?_)) | (refine zY.iq 13 ?_; refine zY.rqf _ K_11 K_y ?_; (refine zZ.v rfl rfl (yK rfl rfl rfl (by decide)) ?_); (refine zZ.v rfl rfl (zX rfl rfl rfl (by decide)) ?_); (refine zZ.v rfl rfl (zX rfl rfl rfl (by decide)) ?_); (refine zZ.v rfl rfl (by exact zN rfl rfl rfl (by exact hcA) (by exact g2) rfl (by decide)) ?_); (refine zZ.v rfl rfl (by exact xH rfl rfl (by exact Nat.le_of_ble_eq_true rfl) rfl (by decide)) ?_); (refine zZ.v rfl rfl (by exact yB (be) rfl rfl rfl (by decide)) ?_); (refine zZ.w rfl (by exact w_appB rfl rfl rfl rfl (by exact q1) rfl rfl (by decide)) ?_); (refine zZ.v rfl rfl (zU rfl rfl rfl (by decide)) ?_); refine zZ.nil ?_) | (refine zY.iq 9 ?_; refine zY.rqf _ K_11 K_y ?_; (refine zZ.v rfl rfl (zX rfl rfl rfl (by decide)) ?_); (refine zZ.v rfl rfl (by exact yM rfl rfl rfl (by exact g3) rfl (by decide)) ?_); (refine zZ.v rfl rfl (zW rfl rfl rfl (by decide)) ?_); refine zZ.nil ?_) | refine zY.yC rfl (by first | assumption | with_reducible rfl) ?_ | refine zY.yE rfl (by first | assumption | with_reducible rfl) ?_ | refine zY.skip ?_ | refine zY.block ?_) | refine zI.n ?_ | refine zS.n ?_)
          all_goals
            refine ⟨i + 1, ?_, ⟨hlt, hok2⟩, by omega⟩
            rw [t1]
            exact zF K_36 K_37
      case neg =>
        have hie : i = A.length := by omega
        subst hie
        have g1 : decide (((A.length : Nat) : Int) < (((A.map zK.V).length : Nat) : Int)) = false := decide_eq_false (by rw [hlA]; omega)
        rw [List.take_length] at *
        clear g3 hlt hi
        repeat' (first | (refine zY.is ?_; first | refine zY.seq ?_ | (refine zY.iq 8 ?_; refine zY.rqf _ K_11 K_y ?_; (refine zZ.v rfl rfl (zX rfl rfl rfl (by decide)) ?_); (refine zZ.v rfl rfl (zX rfl rfl rfl (by decide)) ?_); (refine zZ.v rfl rfl (yN rfl rfl rfl (by decide)) ?_); (refine zZ.v rfl rfl (by exact yZ rfl rfl rfl (by exact g1) rfl (by decide)) ?_); refine zZ.nil ?_) | (refine zY.iq 14 ?_; refine zY.rqf _ K_3x K_y ?_; (refine zZ.v rfl rfl (zW rfl rfl rfl (by decide)) ?_); refine zZ.nil ?_) | refine zY.yE rfl (by first | assumption | with_reducible rfl) ?_ | refine zY.block ?_ | refine zY.exit ?_) | refine zI.n ?_ | refine zS.eY ?_ | refine zI.e ?_)
        refine zY.loop (mpT A B) (fun j => j ≤ B.length ∧ BD (B.take j) ∧ ∀ e ∈ B.take j, FarE e) (fun j => B.length - j) 0 ?i0 ⟨Nat.zero_le _, (fun e he => by simp at he), (fun e he => by simp at he)⟩ ?ir
        case i0 =>
          refine (sub_frzB 41 rfl).trans ?_
          refine (qW (d := 8) (id := 42) (ty := 5) (sz := 1) (by decide) rfl).trans ?_
          unfold mpT
          rw [List.take_zero]
          exact zF K_38 K_10
        case ir =>
          rintro j ⟨hj, hBB, hF⟩
          have g3 : IntKind.i64.wrap (((j : Nat) : Int) + 1) = ((j + 1 : Nat) : Int) := by rw [wrap_i64 _ (by omega)]; omega
          have hl1 := catE_len (B.take j)
          have htlB : (B.take j).length = j := by rw [List.length_take]; omega
          have hX2 : (xZ (B.take j)).length ≤ 1000 := by rw [htlB] at hl1; omega
          clear hl1
          unfold mpT
          by_cases hlt : j < B.length
          case pos =>
            have g1 : decide (((j : Nat) : Int) < (((B.map zK.V).length : Nat) : Int)) = true := decide_eq_true (by rw [hlB]; omega)
            obtain ⟨e, he⟩ : ∃ e, B[j]? = some e := ⟨_, List.getElem?_eq_getElem hlt⟩
            have g2 : (B.map zK.V)[j]? = some e.V := by rw [List.getElem?_map, he]; rfl
            have ho := hokB e (List.mem_of_getElem? he)
            have m1 := mayRef_fn e.k e.s e.y e.u e.v e.x ho.y.1 ho.y.2
            have m1 : Fn Tryd.prog 25 [e.V] (.p (.val (.bool e.may))) := m1
            have s1 := splitKRef_fn e.y ho.y.1 ho.y.2
            have be := vH e.k e.s e.y e.u e.v e.x ho.s ho.y ho.u ho.v ho.x
            have be : Fn Tryd.prog 24 [e.V] (.p (.sl (byts e.F))) := be
            have htake : B.take (j + 1) = B.take j ++ [e] := by rw [List.take_add_one, he]; rfl
            have hFe := entF_len e
            have t1 : xZ (B.take (j + 1)) = xZ (B.take j) ++ e.F := by rw [htake, catE_append]; simp [xZ]
            have q1 : (xZ (B.take j)).length + e.F.length ≤ 140737488355328 := Nat.le_trans (Nat.add_le_add hX2 hFe) (by decide)
            have hok2 : e.may = true → ¬ e.k = 3 → FarE e → BD (B.take (j + 1)) ∧ ∀ d ∈ B.take (j + 1), FarE d := fun hm h3 hne => by
              rw [htake]
              refine ⟨fun d hd => ?_, fun d hd => ?_⟩ <;> rcases List.mem_append.1 hd with hd | hd
              · exact hBB d hd
              · rw [List.mem_singleton] at hd; subst hd; exact ⟨ho, hm, h3⟩
              · exact hF d hd
              · rw [List.mem_singleton] at hd; subst hd; exact hne
            clear hFe htlB hX2 hF hBB htake htl hX1 hBD hN
            generalize e.F = Be at *
            generalize xZ (B.take j) = X2 at *
            generalize xZ A = X1 at *
            obtain ⟨b1, hb1⟩ : ∃ b, e.may = b := ⟨_, rfl⟩
            obtain ⟨b2, hb2⟩ : ∃ b, decide (e.k = 3) = b := ⟨_, rfl⟩
            obtain ⟨b3, hb3⟩ : ∃ b, decide (e.s ≤ 1000) = b := ⟨_, rfl⟩
            obtain ⟨b4, hb4⟩ : ∃ b, decide (e.k = 1) = b := ⟨_, rfl⟩
            obtain ⟨b5, hb5⟩ : ∃ b, decide (e.y / 2147483648 ≤ 99) = b := ⟨_, rfl⟩
            obtain ⟨b6, hb6⟩ : ∃ b, decide (e.y % 2147483648 - 1 ≥ 0) = b := ⟨_, rfl⟩
            obtain ⟨b7, hb7⟩ : ∃ b, decide (e.y % 2147483648 - 1 ≤ 99) = b := ⟨_, rfl⟩
            obtain ⟨b8, hb8⟩ : ∃ b, decide (e.u ≤ 1000) = b := ⟨_, rfl⟩
            obtain ⟨b9, hb9⟩ : ∃ b, decide (e.v ≤ 1000) = b := ⟨_, rfl⟩
            have hok2 : b1 = true → b2 = false → b3 = false → (b4 = true → b5 = false ∧ (b6 = true → b8 = false ∧ b9 = false)) → BD (B.take (j + 1)) ∧ ∀ d ∈ B.take (j + 1), FarE d := fun e1 e2 e3 e4 => by
              subst e1 e2 e3
              refine hok2 hb1 (of_decide_eq_false hb2) ⟨by have := of_decide_eq_false hb3; omega, fun hk => ?_⟩
              have h4 := e4 (by rw [← hb4]; exact decide_eq_true hk)
              refine ⟨by have := of_decide_eq_false (hb5.trans h4.1); omega, fun hv => ?_⟩
              have h5 := h4.2 (by rw [← hb6]; exact decide_eq_true hv)
              exact ⟨by have := of_decide_eq_false (hb8.trans h5.1); omega, by have := of_decide_eq_false (hb9.trans h5.2); omega⟩
            rw [hb1] at m1
            clear he ho hb1
            obtain ⟨ek, es, ey, eu, ev, ex⟩ := e
            dsimp only at hb2 hb3 hb4 hb5 hb6 hb7 hb8 hb9 s1
            rcases pick8 b1 b2 b3 b4 b5 b6 b7 b8 b9 with key | ⟨rfl, rfl, rfl, key⟩
            · clear hok2 t1
              rcases key with rfl | ⟨rfl, rfl⟩ | ⟨rfl, rfl, rfl⟩ | ⟨rfl, rfl, rfl, rfl, rfl⟩ | ⟨rfl, rfl, rfl, rfl, rfl, rfl, rfl⟩ | ⟨rfl, rfl, rfl, rfl, rfl, rfl, rfl, rfl⟩ | ⟨rfl, rfl, rfl, rfl, rfl, rfl, rfl, rfl, rfl⟩
              all_goals
                repeat' (first | (refine zY.is ?_; first | refine zY.seq ?_ | (refine zY.iq 15 ?_; refine zY.rqf _ K_u K_5 ?_; (refine zZ.v rfl rfl (zX rfl rfl rfl (by decide)) ?_); (refine zZ.v rfl rfl (zX rfl rfl rfl (by decide)) ?_); (refine zZ.v rfl rfl (yN rfl rfl rfl (by decide)) ?_); (refine zZ.v rfl rfl (by exact yZ rfl rfl rfl (by exact g1) rfl (by decide)) ?_); refine zZ.nil ?_) | (refine zY.iq 17 ?_; refine zY.rqf _ K_u K_5 ?_; (refine zZ.v rfl rfl (zX rfl rfl rfl (by decide)) ?_); (refine zZ.v rfl rfl (zX rfl rfl rfl (by decide)) ?_); (refine zZ.v rfl rfl (by exact zN rfl rfl rfl (by exact hcB) (by exact g2) rfl (by decide)) ?_); (refine zZ.v rfl rfl (yD rfl rfl rfl (by decide)) ?_); (refine zZ.v rfl rfl (zR rfl rfl rfl rfl (by decide)) ?_); (refine zZ.v rfl rfl (by exact yI (s1) rfl rfl rfl (by decide)) ?_); (refine zZ.v rfl rfl (yJ rfl rfl rfl (by decide)) ?_); (refine zZ.v rfl rfl (zC rfl rfl rfl rfl (by decide)) ?_); (refine zZ.v rfl rfl (zC rfl rfl rfl rfl (by decide)) ?_); (refine zZ.v rfl rfl (zW rfl rfl rfl (by decide)) ?_); (refine zZ.v rfl rfl (zW rfl rfl rfl (by decide)) ?_); refine zZ.nil ?_) | (refine zY.iq 18 ?_; refine zY.rqf _ K_u K_5 ?_; all_goals (refine zZ.v rfl rfl (zX rfl rfl rfl (by decide)) ?_); all_goals (refine zZ.v rfl rfl (zX rfl rfl rfl (by decide)) ?_); all_goals (refine zZ.v rfl rfl (by exact zN rfl rfl rfl (by exact hcB) (by exact g2) rfl (by decide)) ?_); all_goals (refine zZ.v rfl rfl (by exact xH rfl rfl (by exact Nat.le_of_ble_eq_true rfl) rfl (by decide)) ?_); all_goals (refine zZ.v rfl rfl (by exact yB (m1) rfl rfl rfl (by decide)) ?_); all_goals (refine zZ.v rfl rfl (by exact xP rfl rfl (by first | exact bT (by decide) | exact bF (by decide)) rfl (by decide)) ?_); all_goals (refine zZ.v rfl rfl (zX rfl rfl rfl (by decide)) ?_); all_goals (first | refine zZ.gY rfl rfl (by decide) rfl (by with_reducible rfl) rfl (by decide) (zX rfl rfl rfl (by decide)) ?_ | refine zZ.gnF rfl rfl (by decide) rfl (by with_reducible rfl) rfl (by decide) ?_); all_goals (first | refine zZ.gY rfl rfl (by decide) rfl (by with_reducible rfl) rfl (by decide) (zX rfl rfl rfl (by decide)) ?_ | refine zZ.gnF rfl rfl (by decide) rfl (by with_reducible rfl) rfl (by decide) ?_); all_goals (first | refine zZ.gY rfl rfl (by decide) rfl (by with_reducible rfl) rfl (by decide) (by exact zN rfl rfl rfl (by exact hcB) (by exact g2) rfl (by decide)) ?_ | refine zZ.gnF rfl rfl (by decide) rfl (by with_reducible rfl) rfl (by decide) ?_); all_goals (first | refine zZ.gY rfl rfl (by decide) rfl (by with_reducible rfl) rfl (by decide) (yD rfl rfl rfl (by decide)) ?_ | refine zZ.gnF rfl rfl (by decide) rfl (by with_reducible rfl) rfl (by decide) ?_); all_goals (first | refine zZ.gY rfl rfl (by decide) rfl (by with_reducible rfl) rfl (by decide) (zR rfl rfl rfl rfl (by decide)) ?_ | refine zZ.gnF rfl rfl (by decide) rfl (by with_reducible rfl) rfl (by decide) ?_); all_goals (first | refine zZ.gY rfl rfl (by decide) rfl (by with_reducible rfl) rfl (by decide) (by exact yG rfl rfl rfl (by exact hb2) rfl (by decide)) ?_ | refine zZ.gnF rfl rfl (by decide) rfl (by with_reducible rfl) rfl (by decide) ?_); all_goals (refine zZ.v rfl rfl (by first | exact zM rfl rfl (by with_reducible rfl) rfl rfl (by decide) | exact zH rfl rfl (by with_reducible rfl) rfl rfl (by decide)) ?_); all_goals (refine zZ.v rfl rfl (zX rfl rfl rfl (by decide)) ?_); all_goals (first | refine zZ.gY rfl rfl (by decide) rfl (by with_reducible rfl) rfl (by decide) (zX rfl rfl rfl (by decide)) ?_ | refine zZ.gnF rfl rfl (by decide) rfl (by with_reducible rfl) rfl (by decide) ?_); all_goals (first | refine zZ.gY rfl rfl (by decide) rfl (by with_reducible rfl) rfl (by decide) (zX rfl rfl rfl (by decide)) ?_ | refine zZ.gnF rfl rfl (by decide) rfl (by with_reducible rfl) rfl (by decide) ?_); all_goals (first | refine zZ.gY rfl rfl (by decide) rfl (by with_reducible rfl) rfl (by decide) (by exact zN rfl rfl rfl (by exact hcB) (by exact g2) rfl (by decide)) ?_ | refine zZ.gnF rfl rfl (by decide) rfl (by with_reducible rfl) rfl (by decide) ?_); all_goals (first | refine zZ.gY rfl rfl (by decide) rfl (by with_reducible rfl) rfl (by decide) (yD rfl rfl rfl (by decide)) ?_ | refine zZ.gnF rfl rfl (by decide) rfl (by with_reducible rfl) rfl (by decide) ?_); all_goals (first | refine zZ.gY rfl rfl (by decide) rfl (by with_reducible rfl) rfl (by decide) (zR rfl rfl rfl rfl (by decide)) ?_ | refine zZ.gnF rfl rfl (by decide) rfl (by with_reducible rfl) rfl (by decide) ?_); all_goals (first | refine zZ.gY rfl rfl (by decide) rfl (by with_reducible rfl) rfl (by decide) (by exact r_leq rfl rfl rfl (by exact hb3) rfl (by decide)) ?_ | refine zZ.gnF rfl rfl (by decide) rfl (by with_reducible rfl) rfl (by decide) ?_); all_goals (refine zZ.v rfl rfl (by first | exact zM rfl rfl (by with_reducible rfl) rfl rfl (by decide) | exact zH rfl rfl (by with_reducible rfl) rfl rfl (by decide)) ?_); all_goals (refine zZ.v rfl rfl (zX rfl rfl rfl (by decide)) ?_); all_goals (first | refine zZ.gY rfl rfl (by decide) rfl (by with_reducible rfl) rfl (by decide) (zX rfl rfl rfl (by decide)) ?_ | refine zZ.gnF rfl rfl (by decide) rfl (by with_reducible rfl) rfl (by decide) ?_); all_goals (first | refine zZ.gY rfl rfl (by decide) rfl (by with_reducible rfl) rfl (by decide) (zX rfl rfl rfl (by decide)) ?_ | refine zZ.gnF rfl rfl (by decide) rfl (by with_reducible rfl) rfl (by decide) ?_); all_goals (first | refine zZ.gY rfl rfl (by decide) rfl (by with_reducible rfl) rfl (by decide) (by exact zN rfl rfl rfl (by exact hcB) (by exact g2) rfl (by decide)) ?_ | refine zZ.gnF rfl rfl (by decide) rfl (by with_reducible rfl) rfl (by decide) ?_); all_goals (first | refine zZ.gY rfl rfl (by decide) rfl (by with_reducible rfl) rfl (by decide) (yD rfl rfl rfl (by decide)) ?_ | refine zZ.gnF rfl rfl (by decide) rfl (by with_reducible rfl) rfl (by decide) ?_); all_goals (first | refine zZ.gY rfl rfl (by decide) rfl (by with_reducible rfl) rfl (by decide) (zR rfl rfl rfl rfl (by decide)) ?_ | refine zZ.gnF rfl rfl (by decide) rfl (by with_reducible rfl) rfl (by decide) ?_); all_goals (first | refine zZ.gY rfl rfl (by decide) rfl (by with_reducible rfl) rfl (by decide) (by exact yG rfl rfl rfl (by exact hb4) rfl (by decide)) ?_ | refine zZ.gnF rfl rfl (by decide) rfl (by with_reducible rfl) rfl (by decide) ?_); all_goals (first | refine zZ.gY rfl rfl (by decide) rfl (by with_reducible rfl) rfl (by decide) (zX rfl rfl rfl (by decide)) ?_ | refine zZ.gnF rfl rfl (by decide) rfl (by with_reducible rfl) rfl (by decide) ?_); all_goals (first | refine zZ.gU rfl rfl (by decide) (by rfl) rfl (by decide) ?_ | refine zZ.gY rfl rfl (by decide) rfl (by with_reducible rfl) rfl (by decide) (zX rfl rfl rfl (by decide)) ?_); all_goals (first | refine zZ.gU rfl rfl (by decide) (by rfl) rfl (by decide) ?_ | refine zZ.gY rfl rfl (by decide) rfl (by with_reducible rfl) rfl (by decide) (by exact r_leq rfl rfl rfl (by exact hb5) rfl (by decide)) ?_); all_goals (first | refine zZ.gU rfl rfl (by decide) (by rfl) rfl (by decide) ?_ | refine zZ.gY rfl rfl (by decide) rfl (by with_reducible rfl) rfl (by decide) (zX rfl rfl rfl (by decide)) ?_); all_goals (first | refine zZ.gU rfl rfl (by decide) (by rfl) rfl (by decide) ?_ | refine zZ.gY rfl rfl (by decide) rfl (by with_reducible rfl) rfl (by decide) (zX rfl rfl rfl (by decide)) ?_ | refine zZ.gnF rfl rfl (by decide) rfl (by with_reducible rfl) rfl (by decide) ?_); all_goals (first | refine zZ.gU rfl rfl (by decide) (by rfl) rfl (by decide) ?_ | refine zZ.gY rfl rfl (by decide) rfl (by with_reducible rfl) rfl (by decide) (by exact vN rfl rfl rfl (by exact hb6) rfl (by decide)) ?_ | refine zZ.gnF rfl rfl (by decide) rfl (by with_reducible rfl) rfl (by decide) ?_); all_goals (first | refine zZ.gU rfl rfl (by decide) (by rfl) rfl (by decide) ?_ | refine zZ.gY rfl rfl (by decide) rfl (by with_reducible rfl) rfl (by decide) (zX rfl rfl rfl (by decide)) ?_ | refine zZ.gnF rfl rfl (by decide) rfl (by with_reducible rfl) rfl (by decide) ?_); all_goals (first | refine zZ.gU rfl rfl (by decide) (by rfl) rfl (by decide) ?_ | refine zZ.gY rfl rfl (by decide) rfl (by with_reducible rfl) rfl (by decide) (zX rfl rfl rfl (by decide)) ?_); all_goals (first | refine zZ.gU rfl rfl (by decide) (by rfl) rfl (by decide) ?_ | refine zZ.gY rfl rfl (by decide) rfl (by with_reducible rfl) rfl (by decide) (by exact r_leq rfl rfl rfl (by exact hb7) rfl (by decide)) ?_); all_goals (first | refine zZ.gU rfl rfl (by decide) (by rfl) rfl (by decide) ?_ | refine zZ.gY rfl rfl (by decide) rfl (by with_reducible rfl) rfl (by decide) (zX rfl rfl rfl (by decide)) ?_); all_goals (first | refine zZ.gU rfl rfl (by decide) (by rfl) rfl (by decide) ?_ | refine zZ.gY rfl rfl (by decide) rfl (by with_reducible rfl) rfl (by decide) (zX rfl rfl rfl (by decide)) ?_ | refine zZ.gnF rfl rfl (by decide) rfl (by with_reducible rfl) rfl (by decide) ?_); all_goals (first | refine zZ.gU rfl rfl (by decide) (by rfl) rfl (by decide) ?_ | refine zZ.gY rfl rfl (by decide) rfl (by with_reducible rfl) rfl (by decide) (zX rfl rfl rfl (by decide)) ?_ | refine zZ.gnF rfl rfl (by decide) rfl (by with_reducible rfl) rfl (by decide) ?_); all_goals (first | refine zZ.gU rfl rfl (by decide) (by rfl) rfl (by decide) ?_ | refine zZ.gY rfl rfl (by decide) rfl (by with_reducible rfl) rfl (by decide) (by exact zN rfl rfl rfl (by exact hcB) (by exact g2) rfl (by decide)) ?_ | refine zZ.gnF rfl rfl (by decide) rfl (by with_reducible rfl) rfl (by decide) ?_); all_goals (first | refine zZ.gU rfl rfl (by decide) (by rfl) rfl (by decide) ?_ | refine zZ.gY rfl rfl (by decide) rfl (by with_reducible rfl) rfl (by decide) (yD rfl rfl rfl (by decide)) ?_ | refine zZ.gnF rfl rfl (by decide) rfl (by with_reducible rfl) rfl (by decide) ?_); all_goals (first | refine zZ.gU rfl rfl (by decide) (by rfl) rfl (by decide) ?_ | refine zZ.gY rfl rfl (by decide) rfl (by with_reducible rfl) rfl (by decide) (zR rfl rfl rfl rfl (by decide)) ?_ | refine zZ.gnF rfl rfl (by decide) rfl (by with_reducible rfl) rfl (by decide) ?_); all_goals (first | refine zZ.gU rfl rfl (by decide) (by rfl) rfl (by decide) ?_ | refine zZ.gY rfl rfl (by decide) rfl (by with_reducible rfl) rfl (by decide) (by exact r_leq rfl rfl rfl (by exact hb8) rfl (by decide)) ?_ | refine zZ.gnF rfl rfl (by decide) rfl (by with_reducible rfl) rfl (by decide) ?_); all_goals (first | refine zZ.gU rfl rfl (by decide) (by rfl) rfl (by decide) ?_ | refine zZ.gY rfl rfl (by decide) rfl (by with_reducible rfl) rfl (by decide) (by first | exact zM rfl rfl (by with_reducible rfl) rfl rfl (by decide) | exact zH rfl rfl (by with_reducible rfl) rfl rfl (by decide)) ?_); all_goals (first | refine zZ.gU rfl rfl (by decide) (by rfl) rfl (by decide) ?_ | refine zZ.gY rfl rfl (by decide) rfl (by with_reducible rfl) rfl (by decide) (zX rfl rfl rfl (by decide)) ?_); all_goals (first | refine zZ.gU rfl rfl (by decide) (by rfl) rfl (by decide) ?_ | refine zZ.gY rfl rfl (by decide) rfl (by with_reducible rfl) rfl (by decide) (zX rfl rfl rfl (by decide)) ?_ | refine zZ.gnF rfl rfl (by decide) rfl (by with_reducible rfl) rfl (by decide) ?_); all_goals (first | refine zZ.gU rfl rfl (by decide) (by rfl) rfl (by decide) ?_ | refine zZ.gY rfl rfl (by decide) rfl (by with_reducible rfl) rfl (by decide) (zX rfl rfl rfl (by decide)) ?_ | refine zZ.gnF rfl rfl (by decide) rfl (by with_reducible rfl) rfl (by decide) ?_); all_goals (first | refine zZ.gU rfl rfl (by decide) (by rfl) rfl (by decide) ?_ | refine zZ.gY rfl rfl (by decide) rfl (by with_reducible rfl) rfl (by decide) (by exact zN rfl rfl rfl (by exact hcB) (by exact g2) rfl (by decide)) ?_ | refine zZ.gnF rfl rfl (by decide) rfl (by with_reducible rfl) rfl (by decide) ?_); all_goals (first | refine zZ.gU rfl rfl (by decide) (by rfl) rfl (by decide) ?_ | refine zZ.gY rfl rfl (by decide) rfl (by with_reducible rfl) rfl (by decide) (yD rfl rfl rfl (by decide)) ?_ | refine zZ.gnF rfl rfl (by decide) rfl (by with_reducible rfl) rfl (by decide) ?_); all_goals (first | refine zZ.gU rfl rfl (by decide) (by rfl) rfl (by decide) ?_ | refine zZ.gY rfl rfl (by decide) rfl (by with_reducible rfl) rfl (by decide) (zR rfl rfl rfl rfl (by decide)) ?_ | refine zZ.gnF rfl rfl (by decide) rfl (by with_reducible rfl) rfl (by decide) ?_); all_goals (first | refine zZ.gU rfl rfl (by decide) (by rfl) rfl (by decide) ?_ | refine zZ.gY rfl rfl (by decide) rfl (by with_reducible rfl) rfl (by decide) (by exact r_leq rfl rfl rfl (by exact hb9) rfl (by decide)) ?_ | refine zZ.gnF rfl rfl (by decide) rfl (by with_reducible rfl) rfl (by decide) ?_); all_goals (first | refine zZ.gU rfl rfl (by decide) (by rfl) rfl (by decide) ?_ | refine zZ.gY rfl rfl (by decide) rfl (by with_reducible rfl) rfl (by decide) (by first | exact zM rfl rfl (by with_reducible rfl) rfl rfl (by decide) | exact zH rfl rfl (by with_reducible rfl) rfl rfl (by decide)) ?_); all_goals (first | refine zZ.gU rfl rfl (by decide) (by rfl) rfl (by decide) ?_ | refine zZ.gY rfl rfl (by decide) rfl (by with_reducible rfl) rfl (by decide) (by exact zM rfl rfl (by with_reducible rfl) rfl rfl (by decide)) ?_ | refine zZ.gnF rfl rfl (by decide) rfl (by with_reducible rfl) rfl (by decide) ?_); all_goals (first | refine zZ.gU rfl rfl (by decide) (by rfl) rfl (by decide) ?_ | refine zZ.gY rfl rfl (by decide) rfl (by with_reducible rfl) rfl (by decide) (by first | exact zM rfl rfl (by with_reducible rfl) rfl rfl (by decide) | exact zH rfl rfl (by with_reducible rfl) rfl rfl (by decide)) ?_); all_goals (first | refine zZ.gY rfl rfl (by decide) rfl (by with_reducible rfl) rfl (by decide) (by exact zM rfl rfl (by with_reducible rfl) rfl rfl (by decide)) ?_ | refine zZ.gnF rfl rfl (by decide) rfl (by with_reducible rfl) rfl (by decide) ?_); all_goals (refine zZ.v rfl rfl (by first | exact zM rfl rfl (by with_reducible rfl) rfl rfl (by decide) | exact zH rfl rfl (by with_reducible rfl) rfl rfl (by decide)) ?_); all_goals (refine zZ.nil ?_)) | (refine zY.iq 19 ?_; refine zY.rqf _ K_u K_5 ?_; (refine zZ.v rfl rfl (zX rfl rfl rfl (by decide)) ?_); (refine zZ.v rfl rfl (zW rfl rfl rfl (by decide)) ?_); refine zZ.nil ?_) | refine zY.yC rfl (by first | assumption | with_reducible rfl) ?_ | refine zY.skip ?_ | refine zY.block ?_ | refine zY.ret ?_) | refine zI.n ?_ | refine zI.r ?_ | refine zS.r ?_)
              all_goals exact ⟨.inl rfl, _, Sub.refl _, xV.p rfl (.tmp rfl)⟩
            · have hok3 := hok2 rfl rfl rfl (by rcases key with rfl | ⟨rfl, rfl, rfl⟩ | ⟨rfl, rfl, rfl, rfl, rfl, rfl⟩ <;> simp)
              clear hok2
              rcases key with rfl | ⟨rfl, rfl, rfl⟩ | ⟨rfl, rfl, rfl, rfl, rfl, rfl⟩
              all_goals
                repeat' (first | (refine zY.is ?_; first | refine zY.seq ?_ | (refine zY.iq 15 ?_; refine zY.rqf _ K_u K_5 ?_; (refine zZ.v rfl rfl (zX rfl rfl rfl (by decide)) ?_); (refine zZ.v rfl rfl (zX rfl rfl rfl (by decide)) ?_); (refine zZ.v rfl rfl (yN rfl rfl rfl (by decide)) ?_); (refine zZ.v rfl rfl (by exact yZ rfl rfl rfl (by exact g1) rfl (by decide)) ?_); refine zZ.nil ?_) | (refine zY.iq 17 ?_; refine zY.rqf _ K_u K_5 ?_; (refine zZ.v rfl rfl (zX rfl rfl rfl (by decide)) ?_); (refine zZ.v rfl rfl (zX rfl rfl rfl (by decide)) ?_); (refine zZ.v rfl rfl (by exact zN rfl rfl rfl (by exact hcB) (by exact g2) rfl (by decide)) ?_); (refine zZ.v rfl rfl (yD rfl rfl rfl (by decide)) ?_); (refine zZ.v rfl rfl (zR rfl rfl rfl rfl (by decide)) ?_); (refine zZ.v rfl rfl (by exact yI (s1) rfl rfl rfl (by decide)) ?_); (refine zZ.v rfl rfl (yJ rfl rfl rfl (by decide)) ?_); (refine zZ.v rfl rfl (zC rfl rfl rfl rfl (by decide)) ?_); (refine zZ.v rfl rfl (zC rfl rfl rfl rfl (by decide)) ?_); (refine zZ.v rfl rfl (zW rfl rfl rfl (by decide)) ?_); (refine zZ.v rfl rfl (zW rfl rfl rfl (by decide)) ?_); refine zZ.nil ?_) | (refine zY.iq 18 ?_; refine zY.rqf _ K_u K_5 ?_; all_goals (refine zZ.v rfl rfl (zX rfl rfl rfl (by decide)) ?_); all_goals (refine zZ.v rfl rfl (zX rfl rfl rfl (by decide)) ?_); all_goals (refine zZ.v rfl rfl (by exact zN rfl rfl rfl (by exact hcB) (by exact g2) rfl (by decide)) ?_); all_goals (refine zZ.v rfl rfl (by exact xH rfl rfl (by exact Nat.le_of_ble_eq_true rfl) rfl (by decide)) ?_); all_goals (refine zZ.v rfl rfl (by exact yB (m1) rfl rfl rfl (by decide)) ?_); all_goals (refine zZ.v rfl rfl (by exact xP rfl rfl (by exact bF (by decide)) rfl (by decide)) ?_); all_goals (refine zZ.v rfl rfl (zX rfl rfl rfl (by decide)) ?_); all_goals (refine zZ.gY rfl rfl (by decide) rfl (by with_reducible rfl) rfl (by decide) (zX rfl rfl rfl (by decide)) ?_); all_goals (refine zZ.gY rfl rfl (by decide) rfl (by with_reducible rfl) rfl (by decide) (zX rfl rfl rfl (by decide)) ?_); all_goals (refine zZ.gY rfl rfl (by decide) rfl (by with_reducible rfl) rfl (by decide) (by exact zN rfl rfl rfl (by exact hcB) (by exact g2) rfl (by decide)) ?_); all_goals (refine zZ.gY rfl rfl (by decide) rfl (by with_reducible rfl) rfl (by decide) (yD rfl rfl rfl (by decide)) ?_); all_goals (refine zZ.gY rfl rfl (by decide) rfl (by with_reducible rfl) rfl (by decide) (zR rfl rfl rfl rfl (by decide)) ?_); all_goals (refine zZ.gY rfl rfl (by decide) rfl (by with_reducible rfl) rfl (by decide) (by exact yG rfl rfl rfl (by exact hb2) rfl (by decide)) ?_); all_goals (refine zZ.v rfl rfl (by exact zH rfl rfl (by with_reducible rfl) rfl rfl (by decide)) ?_); all_goals (refine zZ.v rfl rfl (zX rfl rfl rfl (by decide)) ?_); all_goals (refine zZ.gY rfl rfl (by decide) rfl (by with_reducible rfl) rfl (by decide) (zX rfl rfl rfl (by decide)) ?_); all_goals (refine zZ.gY rfl rfl (by decide) rfl (by with_reducible rfl) rfl (by decide) (zX rfl rfl rfl (by decide)) ?_); all_goals (refine zZ.gY rfl rfl (by decide) rfl (by with_reducible rfl) rfl (by decide) (by exact zN rfl rfl rfl (by exact hcB) (by exact g2) rfl (by decide)) ?_); all_goals (refine zZ.gY rfl rfl (by decide) rfl (by with_reducible rfl) rfl (by decide) (yD rfl rfl rfl (by decide)) ?_); all_goals (refine zZ.gY rfl rfl (by decide) rfl (by with_reducible rfl) rfl (by decide) (zR rfl rfl rfl rfl (by decide)) ?_); all_goals (refine zZ.gY rfl rfl (by decide) rfl (by with_reducible rfl) rfl (by decide) (by exact r_leq rfl rfl rfl (by exact hb3) rfl (by decide)) ?_); all_goals (refine zZ.v rfl rfl (by exact zH rfl rfl (by with_reducible rfl) rfl rfl (by decide)) ?_); all_goals (refine zZ.v rfl rfl (zX rfl rfl rfl (by decide)) ?_); all_goals (refine zZ.gY rfl rfl (by decide) rfl (by with_reducible rfl) rfl (by decide) (zX rfl rfl rfl (by decide)) ?_); all_goals (refine zZ.gY rfl rfl (by decide) rfl (by with_reducible rfl) rfl (by decide) (zX rfl rfl rfl (by decide)) ?_); all_goals (refine zZ.gY rfl rfl (by decide) rfl (by with_reducible rfl) rfl (by decide) (by exact zN rfl rfl rfl (by exact hcB) (by exact g2) rfl (by decide)) ?_); all_goals (refine zZ.gY rfl rfl (by decide) rfl (by with_reducible rfl) rfl (by decide) (yD rfl rfl rfl (by decide)) ?_); all_goals (refine zZ.gY rfl rfl (by decide) rfl (by with_reducible rfl) rfl (by decide) (zR rfl rfl rfl rfl (by decide)) ?_); all_goals (refine zZ.gY rfl rfl (by decide) rfl (by with_reducible rfl) rfl (by decide) (by exact yG rfl rfl rfl (by exact hb4) rfl (by decide)) ?_); all_goals (refine zZ.gY rfl rfl (by decide) rfl (by with_reducible rfl) rfl (by decide) (zX rfl rfl rfl (by decide)) ?_); all_goals (first | refine zZ.gY rfl rfl (by decide) rfl (by with_reducible rfl) rfl (by decide) (zX rfl rfl rfl (by decide)) ?_ | refine zZ.gnT rfl rfl (by decide) rfl (by with_reducible rfl) rfl (by decide) ?_); all_goals (first | refine zZ.gY rfl rfl (by decide) rfl (by with_reducible rfl) rfl (by decide) (by exact r_leq rfl rfl rfl (by exact hb5) rfl (by decide)) ?_ | refine zZ.gnT rfl rfl (by decide) rfl (by with_reducible rfl) rfl (by decide) ?_); all_goals (first | refine zZ.gY rfl rfl (by decide) rfl (by with_reducible rfl) rfl (by decide) (zX rfl rfl rfl (by decide)) ?_ | refine zZ.gnT rfl rfl (by decide) rfl (by with_reducible rfl) rfl (by decide) ?_); all_goals (first | refine zZ.gU rfl rfl (by decide) (by rfl) rfl (by decide) ?_ | refine zZ.gY rfl rfl (by decide) rfl (by with_reducible rfl) rfl (by decide) (zX rfl rfl rfl (by decide)) ?_); all_goals (first | refine zZ.gU rfl rfl (by decide) (by rfl) rfl (by decide) ?_ | refine zZ.gY rfl rfl (by decide) rfl (by with_reducible rfl) rfl (by decide) (by exact vN rfl rfl rfl (by exact hb6) rfl (by decide)) ?_); all_goals (first | refine zZ.gU rfl rfl (by decide) (by rfl) rfl (by decide) ?_ | refine zZ.gY rfl rfl (by decide) rfl (by with_reducible rfl) rfl (by decide) (zX rfl rfl rfl (by decide)) ?_); all_goals (first | refine zZ.gU rfl rfl (by decide) (by rfl) rfl (by decide) ?_ | refine zZ.gY rfl rfl (by decide) rfl (by with_reducible rfl) rfl (by decide) (zX rfl rfl rfl (by decide)) ?_ | refine zZ.gnT rfl rfl (by decide) rfl (by with_reducible rfl) rfl (by decide) ?_); all_goals (first | refine zZ.gU rfl rfl (by decide) (by rfl) rfl (by decide) ?_ | refine zZ.gY rfl rfl (by decide) rfl (by with_reducible rfl) rfl (by decide) (by exact r_leq rfl rfl rfl (by exact hb7) rfl (by decide)) ?_ | refine zZ.gnT rfl rfl (by decide) rfl (by with_reducible rfl) rfl (by decide) ?_); all_goals (first | refine zZ.gU rfl rfl (by decide) (by rfl) rfl (by decide) ?_ | refine zZ.gY rfl rfl (by decide) rfl (by with_reducible rfl) rfl (by decide) (zX rfl rfl rfl (by decide)) ?_ | refine zZ.gnT rfl rfl (by decide) rfl (by with_reducible rfl) rfl (by decide) ?_); all_goals (first | refine zZ.gU rfl rfl (by decide) (by rfl) rfl (by decide) ?_ | refine zZ.gY rfl rfl (by decide) rfl (by with_reducible rfl) rfl (by decide) (zX rfl rfl rfl (by decide)) ?_); all_goals (first | refine zZ.gU rfl rfl (by decide) (by rfl) rfl (by decide) ?_ | refine zZ.gY rfl rfl (by decide) rfl (by with_reducible rfl) rfl (by decide) (zX rfl rfl rfl (by decide)) ?_); all_goals (first | refine zZ.gU rfl rfl (by decide) (by rfl) rfl (by decide) ?_ | refine zZ.gY rfl rfl (by decide) rfl (by with_reducible rfl) rfl (by decide) (by exact zN rfl rfl rfl (by exact hcB) (by exact g2) rfl (by decide)) ?_); all_goals (first | refine zZ.gU rfl rfl (by decide) (by rfl) rfl (by decide) ?_ | refine zZ.gY rfl rfl (by decide) rfl (by with_reducible rfl) rfl (by decide) (yD rfl rfl rfl (by decide)) ?_); all_goals (first | refine zZ.gU rfl rfl (by decide) (by rfl) rfl (by decide) ?_ | refine zZ.gY rfl rfl (by decide) rfl (by with_reducible rfl) rfl (by decide) (zR rfl rfl rfl rfl (by decide)) ?_); all_goals (first | refine zZ.gU rfl rfl (by decide) (by rfl) rfl (by decide) ?_ | refine zZ.gY rfl rfl (by decide) rfl (by with_reducible rfl) rfl (by decide) (by exact r_leq rfl rfl rfl (by exact hb8) rfl (by decide)) ?_); all_goals (first | refine zZ.gU rfl rfl (by decide) (by rfl) rfl (by decide) ?_ | refine zZ.gY rfl rfl (by decide) rfl (by with_reducible rfl) rfl (by decide) (by exact zH rfl rfl (by with_reducible rfl) rfl rfl (by decide)) ?_ | refine zZ.gnT rfl rfl (by decide) rfl (by with_reducible rfl) rfl (by decide) ?_); all_goals (first | refine zZ.gU rfl rfl (by decide) (by rfl) rfl (by decide) ?_ | refine zZ.gY rfl rfl (by decide) rfl (by with_reducible rfl) rfl (by decide) (zX rfl rfl rfl (by decide)) ?_ | refine zZ.gnT rfl rfl (by decide) rfl (by with_reducible rfl) rfl (by decide) ?_); all_goals (first | refine zZ.gU rfl rfl (by decide) (by rfl) rfl (by decide) ?_ | refine zZ.gY rfl rfl (by decide) rfl (by with_reducible rfl) rfl (by decide) (zX rfl rfl rfl (by decide)) ?_); all_goals (first | refine zZ.gU rfl rfl (by decide) (by rfl) rfl (by decide) ?_ | refine zZ.gY rfl rfl (by decide) rfl (by with_reducible rfl) rfl (by decide) (zX rfl rfl rfl (by decide)) ?_); all_goals (first | refine zZ.gU rfl rfl (by decide) (by rfl) rfl (by decide) ?_ | refine zZ.gY rfl rfl (by decide) rfl (by with_reducible rfl) rfl (by decide) (by exact zN rfl rfl rfl (by exact hcB) (by exact g2) rfl (by decide)) ?_); all_goals (first | refine zZ.gU rfl rfl (by decide) (by rfl) rfl (by decide) ?_ | refine zZ.gY rfl rfl (by decide) rfl (by with_reducible rfl) rfl (by decide) (yD rfl rfl rfl (by decide)) ?_); all_goals (first | refine zZ.gU rfl rfl (by decide) (by rfl) rfl (by decide) ?_ | refine zZ.gY rfl rfl (by decide) rfl (by with_reducible rfl) rfl (by decide) (zR rfl rfl rfl rfl (by decide)) ?_); all_goals (first | refine zZ.gU rfl rfl (by decide) (by rfl) rfl (by decide) ?_ | refine zZ.gY rfl rfl (by decide) rfl (by with_reducible rfl) rfl (by decide) (by exact r_leq rfl rfl rfl (by exact hb9) rfl (by decide)) ?_); all_goals (first | refine zZ.gU rfl rfl (by decide) (by rfl) rfl (by decide) ?_ | refine zZ.gY rfl rfl (by decide) rfl (by with_reducible rfl) rfl (by decide) (by exact zH rfl rfl (by with_reducible rfl) rfl rfl (by decide)) ?_ | refine zZ.gnT rfl rfl (by decide) rfl (by with_reducible rfl) rfl (by decide) ?_); all_goals (first | refine zZ.gU rfl rfl (by decide) (by rfl) rfl (by decide) ?_ | refine zZ.gY rfl rfl (by decide) rfl (by with_reducible rfl) rfl (by decide) (by first | exact zM rfl rfl (by with_reducible rfl) rfl rfl (by decide) | exact zH rfl rfl (by with_reducible rfl) rfl rfl (by decide)) ?_); all_goals (first | refine zZ.gY rfl rfl (by decide) rfl (by with_reducible rfl) rfl (by decide) (by exact zH rfl rfl (by with_reducible rfl) rfl rfl (by decide)) ?_ | refine zZ.gnT rfl rfl (by decide) rfl (by with_reducible rfl) rfl (by decide) ?_); all_goals (refine zZ.gY rfl rfl (by decide) rfl (by with_reducible rfl) rfl (by decide) (by first | exact zM rfl rfl (by with_reducible rfl) rfl rfl (by decide) | exact zH rfl rfl (by with_reducible rfl) rfl rfl (by decide)) ?_); all_goals (refine zZ.v rfl rfl (by exact zH rfl rfl (by with_reducible rfl) rfl rfl (by decide)) ?_); all_goals (refine zZ.nil ?_)) | (refine zY.iq 20 ?_; refine zY.rqf _ K_u K_5 ?_; (refine zZ.v rfl rfl (yK rfl rfl rfl (by decide)) ?_); (refine zZ.v rfl rfl (zX rfl rfl rfl (by decide)) ?_); (refine zZ.v rfl rfl (zX rfl rfl rfl (by decide)) ?_); (refine zZ.v rfl rfl (by exact zN rfl rfl rfl (by exact hcB) (by exact g2) rfl (by decide)) ?_); (refine zZ.v rfl rfl (by exact xH rfl rfl (by exact Nat.le_of_ble_eq_true rfl) rfl (by decide)) ?_); (refine zZ.v rfl rfl (by exact yB (be) rfl rfl rfl (by decide)) ?_); (refine zZ.w rfl (by exact w_appB rfl rfl rfl rfl (by exact q1) rfl rfl (by decide)) ?_); (refine zZ.v rfl rfl (zU rfl rfl rfl (by decide)) ?_); refine zZ.nil ?_) | (refine zY.iq 16 ?_; refine zY.rqf _ K_u K_5 ?_; (refine zZ.v rfl rfl (zX rfl rfl rfl (by decide)) ?_); (refine zZ.v rfl rfl (by exact yM rfl rfl rfl (by exact g3) rfl (by decide)) ?_); (refine zZ.v rfl rfl (zW rfl rfl rfl (by decide)) ?_); refine zZ.nil ?_) | refine zY.yC rfl (by first | assumption | with_reducible rfl) ?_ | refine zY.yE rfl (by first | assumption | with_reducible rfl) ?_ | refine zY.skip ?_ | refine zY.block ?_) | refine zI.n ?_ | refine zS.n ?_)
              all_goals
                refine ⟨j + 1, ?_, ⟨hlt, hok3⟩, by omega⟩
                rw [t1]
                exact zF K_38 K_10
          case neg =>
            have hje : j = B.length := by omega
            subst hje
            have g1 : decide (((B.length : Nat) : Int) < (((B.map zK.V).length : Nat) : Int)) = false := decide_eq_false (by rw [hlB]; omega)
            rw [List.take_length] at *
            have hlaw := apart_law hBD hBB hN hF l6A l6B
            have hFh := entF_len (xS 0)
            have e0 : xZ [xS 0] = (xS 0).F := by simp [xZ]
            have y1 := liveL_head (L0 := []) (Ls := [A]) 20 (fun e he => by cases he) (fun L hL => by rw [List.mem_singleton] at hL; subst hL; exact hBD)
            have y2 := liveL_head (L0 := []) (Ls := [B]) 20 (fun e he => by cases he) (fun L hL => by rw [List.mem_singleton] at hL; subst hL; exact hBB)
            have y3 := liveL_head (L0 := []) (Ls := [A, B]) 20 (fun e he => by cases he) (fun L hL => by
              simp only [List.mem_cons, List.not_mem_nil, or_false] at hL
              rcases hL with rfl | rfl
              · exact hBD
              · exact hBB)
            have hH := headBytes (L := []) (fun e he => by cases he)
            have la := mLive_fn [xZ [xS 0], xZ A] 20 (fun s hs => by
              simp only [List.mem_cons, List.not_mem_nil, or_false] at hs
              rcases hs with rfl | rfl
              · exact hH
              · exact hBD.bytes) (by simp) (by rw [e0]; simp only [total, List.map_cons, List.map_nil, List.sum_cons, List.sum_nil]; omega)
            have lb := mLive_fn [xZ [xS 0], xZ B] 20 (fun s hs => by
              simp only [List.mem_cons, List.not_mem_nil, or_false] at hs
              rcases hs with rfl | rfl
              · exact hH
              · exact hBB.bytes) (by simp) (by rw [e0]; simp only [total, List.map_cons, List.map_nil, List.sum_cons, List.sum_nil]; omega)
            have lc := mLive_fn [xZ [xS 0], xZ A, xZ B] 20 (fun s hs => by
              simp only [List.mem_cons, List.not_mem_nil, or_false] at hs
              rcases hs with rfl | rfl | rfl
              · exact hH
              · exact hBD.bytes
              · exact hBB.bytes) (by simp) (by rw [e0]; simp only [total, List.map_cons, List.map_nil, List.sum_cons, List.sum_nil]; omega)
            have y1 : liveL [xZ [xS 0], xZ A] 20 = wP A 20 := by simpa using y1
            have y2 : liveL [xZ [xS 0], xZ B] 20 = wP B 20 := by simpa using y2
            have y3 : liveL [xZ [xS 0], xZ A, xZ B] 20 = wP (A ++ B) 20 := by simpa using y3
            rw [y1, e0] at la
            rw [y2, e0] at lb
            rw [y3, e0] at lc
            have hlen3 := liveM_len (A ++ B) 20 (by rw [List.length_append]; omega)
            clear y1 y2 y3 hH hBD hBB hN hF hFh hX1 hX2 e0 hokA hokB htl htlB hj hlt g3 b0
            have la : Fn Tryd.prog 12 [.sl [.sl (byts (xS 0).F), .sl (byts (xZ A))], .val (.int .i64 20)] (.tup [.sl ((wP A 20).1.map zK.V), .val (.int .i64 (wP A 20).2)]) := la
            have lb : Fn Tryd.prog 12 [.sl [.sl (byts (xS 0).F), .sl (byts (xZ B))], .val (.int .i64 20)] (.tup [.sl ((wP B 20).1.map zK.V), .val (.int .i64 (wP B 20).2)]) := lb
            have lc : Fn Tryd.prog 12 [.sl [.sl (byts (xS 0).F), .sl (byts (xZ A)), .sl (byts (xZ B))], .val (.int .i64 20)] (.tup [.sl ((wP (A ++ B) 20).1.map zK.V), .val (.int .i64 (wP (A ++ B) 20).2)]) := lc
            generalize (xS 0).F = H0 at *
            generalize xZ A = X1 at *
            generalize xZ B = X2 at *
            rcases hlaw with ⟨P, Q, e1, e2, e3⟩ | ⟨e1, e3⟩ | ⟨P, e1, e2, e3⟩
            · rw [e1] at la
              rw [e2] at lb
              rw [e3] at lc hlen3
              have s1 := same_fn (P ++ Q) (P ++ Q) hlen3 hlen3 true (by simp)
              rw [List.map_append] at lc s1
              have hcP := yL P
              have hcQ := yL Q
              have k1 : ((([] : List PV).length + (P.map zK.V).length) * 48 ≤ 140737488355328 ∧ ([] : List PV).length + (P.map zK.V).length ≤ maxLen) := by
                rw [List.length_append] at hlen3
                rw [List.length_map]
                simp only [List.length_nil]
                exact ⟨by omega, Nat.le_trans (show 0 + P.length ≤ 1000000 by omega) (by decide)⟩
              have k2 : ((([] ++ P.map zK.V).length + (Q.map zK.V).length) * 48 ≤ 140737488355328 ∧ ([] ++ P.map zK.V).length + (Q.map zK.V).length ≤ maxLen) := by
                rw [List.length_append] at hlen3
                rw [List.nil_append, List.length_map, List.length_map]
                exact ⟨by omega, Nat.le_trans (show P.length + Q.length ≤ 1000000 by omega) (by decide)⟩
              have s1 : Fn Tryd.prog 14 [.sl (P.map zK.V ++ Q.map zK.V), .sl ([] ++ P.map zK.V ++ Q.map zK.V)] (.p (.val (.bool true))) := s1
              have la : Fn Tryd.prog 12 [.sl [.sl (byts H0), .sl (byts X1)], .val (.int .i64 20)] (.tup [.sl (P.map zK.V), .val (.int .i64 0)]) := la
              have lb : Fn Tryd.prog 12 [.sl [.sl (byts H0), .sl (byts X2)], .val (.int .i64 20)] (.tup [.sl (Q.map zK.V), .val (.int .i64 0)]) := lb
              have lc : Fn Tryd.prog 12 [.sl [.sl (byts H0), .sl (byts X1), .sl (byts X2)], .val (.int .i64 20)] (.tup [.sl (P.map zK.V ++ Q.map zK.V), .val (.int .i64 0)]) := lc
              clear e1 e2 e3 hlen3
              repeat' (first | refine zZ.sub (sub_frzE 223 46 6 ([] ++ P.map zK.V ++ Q.map zK.V) rfl) ?_ | (refine zZ.is ?_; first | refine zZ.nil ?_ | refine zZ.v rfl rfl (by first | exact zW rfl rfl rfl (by decide) | exact zM rfl rfl (by with_reducible rfl) rfl rfl (by decide) | exact yB (s1) rfl rfl rfl (by decide)) ?_ | refine zZ.gY rfl rfl (by decide) rfl (by with_reducible rfl) rfl (by decide) (by exact yB (s1) rfl rfl rfl (by decide)) ?_) | (refine zY.is ?_; first | refine zY.seq ?_ | (refine zY.iq 15 ?_; refine zY.rqf _ K_u K_5 ?_; (refine zZ.v rfl rfl (zX rfl rfl rfl (by decide)) ?_); (refine zZ.v rfl rfl (zX rfl rfl rfl (by decide)) ?_); (refine zZ.v rfl rfl (yN rfl rfl rfl (by decide)) ?_); (refine zZ.v rfl rfl (by exact yZ rfl rfl rfl (by exact g1) rfl (by decide)) ?_); refine zZ.nil ?_) | (refine zY.isR (id := 21) ?_; refine zY.sub ((sub_frzB 42 rfl)) ?_; refine zY.rqg _ K_2g K_5 ?_; (refine zZ.v rfl rfl (zX rfl rfl rfl (by decide)) ?_); (refine zZ.v rfl rfl (zX rfl rfl rfl (by decide)) ?_); (refine zZ.v rfl rfl (y7 rfl (by decide) (by decide) (by decide) (by decide) (by rfl) (by rfl) (by rfl) (by rfl) (by rfl) (by rfl) (by rfl) rfl (by decide)) ?_); (refine zZ.v rfl rfl (by exact yI (la) rfl rfl rfl (by decide)) ?_); (refine zZ.v rfl rfl (yJ rfl rfl rfl (by decide)) ?_); (refine zZ.v rfl rfl (zC rfl rfl rfl rfl (by decide)) ?_); (refine zZ.v rfl rfl (zC rfl rfl rfl rfl (by decide)) ?_); (refine zZ.v rfl rfl (zW rfl rfl rfl (by decide)) ?_); (refine zZ.v rfl rfl (zW rfl rfl rfl (by decide)) ?_); refine zZ.nil ?_) | (refine zY.iq 22 ?_; refine zY.rqg _ K_2h K_5 ?_; (refine zZ.v rfl rfl (zX rfl rfl rfl (by decide)) ?_); (refine zZ.v rfl rfl (zX rfl rfl rfl (by decide)) ?_); (refine zZ.v rfl rfl (y7 rfl (by decide) (by decide) (by decide) (by decide) (by rfl) (by rfl) (by rfl) (by rfl) (by rfl) (by rfl) (by rfl) rfl (by decide)) ?_); (refine zZ.v rfl rfl (by exact yI (lb) rfl rfl rfl (by decide)) ?_); (refine zZ.v rfl rfl (yJ rfl rfl rfl (by decide)) ?_); (refine zZ.v rfl rfl (zC rfl rfl rfl rfl (by decide)) ?_); (refine zZ.v rfl rfl (zC rfl rfl rfl rfl (by decide)) ?_); (refine zZ.v rfl rfl (zW rfl rfl rfl (by decide)) ?_); (refine zZ.v rfl rfl (zW rfl rfl rfl (by decide)) ?_); refine zZ.nil ?_) | (refine zY.iq 23 ?_; refine zY.rqg _ K_2i K_5 ?_; (refine zZ.v rfl rfl (zX rfl rfl rfl (by decide)) ?_); (refine zZ.v rfl rfl (zX rfl rfl rfl (by decide)) ?_); (refine zZ.v rfl rfl (zX rfl rfl rfl (by decide)) ?_); (refine zZ.v rfl rfl (y7 rfl (by decide) (by decide) (by decide) (by decide) (by rfl) (by rfl) (by rfl) (by rfl) (by rfl) (by rfl) (by rfl) rfl (by decide)) ?_); (refine zZ.v rfl rfl (by exact yI (lc) rfl rfl rfl (by decide)) ?_); (refine zZ.v rfl rfl (yJ rfl rfl rfl (by decide)) ?_); (refine zZ.v rfl rfl (zC rfl rfl rfl rfl (by decide)) ?_); (refine zZ.v rfl rfl (zC rfl rfl rfl rfl (by decide)) ?_); (refine zZ.v rfl rfl (zW rfl rfl rfl (by decide)) ?_); (refine zZ.v rfl rfl (zW rfl rfl rfl (by decide)) ?_); refine zZ.nil ?_) | (refine zY.iq 24 ?_; refine zY.rqg _ K_2j K_5 ?_; all_goals (refine zZ.v rfl rfl (zX rfl rfl rfl (by decide)) ?_); all_goals (refine zZ.v rfl rfl (by exact vX rfl rfl rfl (by exact bF (by decide)) rfl (by decide)) ?_); all_goals (refine zZ.v rfl rfl (zX rfl rfl rfl (by decide)) ?_); all_goals (refine zZ.gY rfl rfl (by decide) rfl (by with_reducible rfl) rfl (by decide) (zX rfl rfl rfl (by decide)) ?_); all_goals (refine zZ.gY rfl rfl (by decide) rfl (by with_reducible rfl) rfl (by decide) (by exact vX rfl rfl rfl (by exact bF (by decide)) rfl (by decide)) ?_); all_goals (refine zZ.v rfl rfl (by exact zH rfl rfl (by with_reducible rfl) rfl rfl (by decide)) ?_); all_goals (refine zZ.nil ?_)) | (refine zY.iq 26 ?_; refine zY.rqg _ K_2k K_5 ?_; all_goals (refine zZ.v rfl rfl (zX rfl rfl rfl (by decide)) ?_); all_goals (refine zZ.v rfl rfl (zX rfl rfl rfl (by decide)) ?_); all_goals (refine zZ.gY rfl rfl (by decide) rfl (by with_reducible rfl) rfl (by decide) (zX rfl rfl rfl (by decide)) ?_); all_goals (refine zZ.gY rfl rfl (by decide) rfl (by with_reducible rfl) rfl (by decide) (by exact yG rfl rfl rfl (by exact bT (by decide)) rfl (by decide)) ?_); all_goals (refine zZ.v rfl rfl (by exact zM rfl rfl (by with_reducible rfl) rfl rfl (by decide)) ?_); all_goals (refine zZ.v rfl rfl (zX rfl rfl rfl (by decide)) ?_); all_goals (refine zZ.gY rfl rfl (by decide) rfl (by with_reducible rfl) rfl (by decide) (zX rfl rfl rfl (by decide)) ?_); all_goals (refine zZ.gM rfl rfl (by decide) rfl (by with_reducible rfl) rfl (w_build0V rfl rfl (by decide)) ?_); all_goals (refine zZ.gY rfl rfl (by decide) rfl (by with_reducible rfl) rfl (by decide) (zX rfl rfl rfl (by decide)) ?_); all_goals (refine zZ.gW rfl rfl (by decide) rfl (by with_reducible rfl) (by exact w_appV rfl rfl rfl rfl (by exact hcP) (by exact k1) rfl (by decide) rfl (by decide)) ?_); all_goals (refine zZ.gY rfl rfl (by decide) rfl (by with_reducible rfl) rfl (by decide) (zX rfl rfl rfl (by decide)) ?_); all_goals (refine zZ.gW rfl rfl (by decide) rfl (by with_reducible rfl) (by exact w_appV rfl rfl rfl rfl (by exact hcQ) (by exact k2) rfl (by decide) rfl (by decide)) ?_); all_goals (skip); all_goals (skip); all_goals (skip); all_goals (skip)) | refine zY.yE rfl (by first | assumption | with_reducible rfl) ?_ | refine zY.skip ?_ | refine zY.exit ?_ | refine zY.ret ?_) | refine zI.n ?_ | refine zS.eY ?_ | refine zI.e ?_)
              all_goals exact ⟨.inl rfl, _, Sub.refl _, xV.p rfl (.tmp rfl)⟩
            · rw [e1] at la
              rw [e3] at lc
              have la : Fn Tryd.prog 12 [.sl [.sl (byts H0), .sl (byts X1)], .val (.int .i64 20)] (.tup [.sl [], .val (.int .i64 8)]) := la
              have lc : Fn Tryd.prog 12 [.sl [.sl (byts H0), .sl (byts X1), .sl (byts X2)], .val (.int .i64 20)] (.tup [.sl [], .val (.int .i64 8)]) := lc
              clear e1 e3 hlen3
              repeat' (first | (refine zY.is ?_; first | refine zY.seq ?_ | (refine zY.iq 15 ?_; refine zY.rqf _ K_u K_5 ?_; (refine zZ.v rfl rfl (zX rfl rfl rfl (by decide)) ?_); (refine zZ.v rfl rfl (zX rfl rfl rfl (by decide)) ?_); (refine zZ.v rfl rfl (yN rfl rfl rfl (by decide)) ?_); (refine zZ.v rfl rfl (by exact yZ rfl rfl rfl (by exact g1) rfl (by decide)) ?_); refine zZ.nil ?_) | (refine zY.isR (id := 21) ?_; refine zY.sub ((sub_frzB 42 rfl)) ?_; refine zY.rqg _ K_2g K_5 ?_; (refine zZ.v rfl rfl (zX rfl rfl rfl (by decide)) ?_); (refine zZ.v rfl rfl (zX rfl rfl rfl (by decide)) ?_); (refine zZ.v rfl rfl (y7 rfl (by decide) (by decide) (by decide) (by decide) (by rfl) (by rfl) (by rfl) (by rfl) (by rfl) (by rfl) (by rfl) rfl (by decide)) ?_); (refine zZ.v rfl rfl (by exact yI (la) rfl rfl rfl (by decide)) ?_); (refine zZ.v rfl rfl (yJ rfl rfl rfl (by decide)) ?_); (refine zZ.v rfl rfl (zC rfl rfl rfl rfl (by decide)) ?_); (refine zZ.v rfl rfl (zC rfl rfl rfl rfl (by decide)) ?_); (refine zZ.v rfl rfl (zW rfl rfl rfl (by decide)) ?_); (refine zZ.v rfl rfl (zW rfl rfl rfl (by decide)) ?_); refine zZ.nil ?_) | (refine zY.iq 22 ?_; refine zY.rqg _ K_2h K_5 ?_; (refine zZ.v rfl rfl (zX rfl rfl rfl (by decide)) ?_); (refine zZ.v rfl rfl (zX rfl rfl rfl (by decide)) ?_); (refine zZ.v rfl rfl (y7 rfl (by decide) (by decide) (by decide) (by decide) (by rfl) (by rfl) (by rfl) (by rfl) (by rfl) (by rfl) (by rfl) rfl (by decide)) ?_); (refine zZ.v rfl rfl (by exact yI (lb) rfl rfl rfl (by decide)) ?_); (refine zZ.v rfl rfl (yJ rfl rfl rfl (by decide)) ?_); (refine zZ.v rfl rfl (zC rfl rfl rfl rfl (by decide)) ?_); (refine zZ.v rfl rfl (zC rfl rfl rfl rfl (by decide)) ?_); (refine zZ.v rfl rfl (zW rfl rfl rfl (by decide)) ?_); (refine zZ.v rfl rfl (zW rfl rfl rfl (by decide)) ?_); refine zZ.nil ?_) | (refine zY.iq 23 ?_; refine zY.rqg _ K_2i K_5 ?_; (refine zZ.v rfl rfl (zX rfl rfl rfl (by decide)) ?_); (refine zZ.v rfl rfl (zX rfl rfl rfl (by decide)) ?_); (refine zZ.v rfl rfl (zX rfl rfl rfl (by decide)) ?_); (refine zZ.v rfl rfl (y7 rfl (by decide) (by decide) (by decide) (by decide) (by rfl) (by rfl) (by rfl) (by rfl) (by rfl) (by rfl) (by rfl) rfl (by decide)) ?_); (refine zZ.v rfl rfl (by exact yI (lc) rfl rfl rfl (by decide)) ?_); (refine zZ.v rfl rfl (yJ rfl rfl rfl (by decide)) ?_); (refine zZ.v rfl rfl (zC rfl rfl rfl rfl (by decide)) ?_); (refine zZ.v rfl rfl (zC rfl rfl rfl rfl (by decide)) ?_); (refine zZ.v rfl rfl (zW rfl rfl rfl (by decide)) ?_); (refine zZ.v rfl rfl (zW rfl rfl rfl (by decide)) ?_); refine zZ.nil ?_) | (refine zY.iq 24 ?_; refine zY.rqg _ K_2j K_5 ?_; all_goals (refine zZ.v rfl rfl (zX rfl rfl rfl (by decide)) ?_); all_goals (refine zZ.v rfl rfl (by exact vX rfl rfl rfl (by exact bT (by decide)) rfl (by decide)) ?_); all_goals (refine zZ.v rfl rfl (zX rfl rfl rfl (by decide)) ?_); all_goals (refine zZ.gnF rfl rfl (by decide) rfl (by with_reducible rfl) rfl (by decide) ?_); all_goals (refine zZ.gnF rfl rfl (by decide) rfl (by with_reducible rfl) rfl (by decide) ?_); all_goals (refine zZ.v rfl rfl (by exact zM rfl rfl (by with_reducible rfl) rfl rfl (by decide)) ?_); all_goals (refine zZ.nil ?_)) | (refine zY.iq 25 ?_; refine zY.rqg _ K_2k K_5 ?_; all_goals (refine zZ.v rfl rfl (zX rfl rfl rfl (by decide)) ?_); all_goals (refine zZ.v rfl rfl (zX rfl rfl rfl (by decide)) ?_); all_goals (refine zZ.gY rfl rfl (by decide) rfl (by with_reducible rfl) rfl (by decide) (zX rfl rfl rfl (by decide)) ?_); all_goals (refine zZ.gY rfl rfl (by decide) rfl (by with_reducible rfl) rfl (by decide) (by exact yG rfl rfl rfl (by exact bT (by decide)) rfl (by decide)) ?_); all_goals (refine zZ.v rfl rfl (by exact zM rfl rfl (by with_reducible rfl) rfl rfl (by decide)) ?_); all_goals (refine zZ.v rfl rfl (zW rfl rfl rfl (by decide)) ?_); all_goals (refine zZ.nil ?_)) | refine zY.yC rfl (by with_reducible rfl) ?_ | refine zY.yE rfl (by first | assumption | with_reducible rfl) ?_ | refine zY.exit ?_ | refine zY.ret ?_) | refine zI.n ?_ | refine zI.r ?_ | refine zS.eY ?_ | refine zI.e ?_)
              all_goals exact ⟨.inl rfl, _, Sub.refl _, xV.p rfl (.tmp rfl)⟩
            · rw [e1] at la
              rw [e2] at lb
              rw [e3] at lc
              have la : Fn Tryd.prog 12 [.sl [.sl (byts H0), .sl (byts X1)], .val (.int .i64 20)] (.tup [.sl (P.map zK.V), .val (.int .i64 0)]) := la
              have lb : Fn Tryd.prog 12 [.sl [.sl (byts H0), .sl (byts X2)], .val (.int .i64 20)] (.tup [.sl [], .val (.int .i64 8)]) := lb
              have lc : Fn Tryd.prog 12 [.sl [.sl (byts H0), .sl (byts X1), .sl (byts X2)], .val (.int .i64 20)] (.tup [.sl [], .val (.int .i64 8)]) := lc
              clear e1 e2 e3 hlen3
              repeat' (first | (refine zY.is ?_; first | refine zY.seq ?_ | (refine zY.iq 15 ?_; refine zY.rqf _ K_u K_5 ?_; (refine zZ.v rfl rfl (zX rfl rfl rfl (by decide)) ?_); (refine zZ.v rfl rfl (zX rfl rfl rfl (by decide)) ?_); (refine zZ.v rfl rfl (yN rfl rfl rfl (by decide)) ?_); (refine zZ.v rfl rfl (by exact yZ rfl rfl rfl (by exact g1) rfl (by decide)) ?_); refine zZ.nil ?_) | (refine zY.isR (id := 21) ?_; refine zY.sub ((sub_frzB 42 rfl)) ?_; refine zY.rqg _ K_2g K_5 ?_; (refine zZ.v rfl rfl (zX rfl rfl rfl (by decide)) ?_); (refine zZ.v rfl rfl (zX rfl rfl rfl (by decide)) ?_); (refine zZ.v rfl rfl (y7 rfl (by decide) (by decide) (by decide) (by decide) (by rfl) (by rfl) (by rfl) (by rfl) (by rfl) (by rfl) (by rfl) rfl (by decide)) ?_); (refine zZ.v rfl rfl (by exact yI (la) rfl rfl rfl (by decide)) ?_); (refine zZ.v rfl rfl (yJ rfl rfl rfl (by decide)) ?_); (refine zZ.v rfl rfl (zC rfl rfl rfl rfl (by decide)) ?_); (refine zZ.v rfl rfl (zC rfl rfl rfl rfl (by decide)) ?_); (refine zZ.v rfl rfl (zW rfl rfl rfl (by decide)) ?_); (refine zZ.v rfl rfl (zW rfl rfl rfl (by decide)) ?_); refine zZ.nil ?_) | (refine zY.iq 22 ?_; refine zY.rqg _ K_2h K_5 ?_; (refine zZ.v rfl rfl (zX rfl rfl rfl (by decide)) ?_); (refine zZ.v rfl rfl (zX rfl rfl rfl (by decide)) ?_); (refine zZ.v rfl rfl (y7 rfl (by decide) (by decide) (by decide) (by decide) (by rfl) (by rfl) (by rfl) (by rfl) (by rfl) (by rfl) (by rfl) rfl (by decide)) ?_); (refine zZ.v rfl rfl (by exact yI (lb) rfl rfl rfl (by decide)) ?_); (refine zZ.v rfl rfl (yJ rfl rfl rfl (by decide)) ?_); (refine zZ.v rfl rfl (zC rfl rfl rfl rfl (by decide)) ?_); (refine zZ.v rfl rfl (zC rfl rfl rfl rfl (by decide)) ?_); (refine zZ.v rfl rfl (zW rfl rfl rfl (by decide)) ?_); (refine zZ.v rfl rfl (zW rfl rfl rfl (by decide)) ?_); refine zZ.nil ?_) | (refine zY.iq 23 ?_; refine zY.rqg _ K_2i K_5 ?_; (refine zZ.v rfl rfl (zX rfl rfl rfl (by decide)) ?_); (refine zZ.v rfl rfl (zX rfl rfl rfl (by decide)) ?_); (refine zZ.v rfl rfl (zX rfl rfl rfl (by decide)) ?_); (refine zZ.v rfl rfl (y7 rfl (by decide) (by decide) (by decide) (by decide) (by rfl) (by rfl) (by rfl) (by rfl) (by rfl) (by rfl) (by rfl) rfl (by decide)) ?_); (refine zZ.v rfl rfl (by exact yI (lc) rfl rfl rfl (by decide)) ?_); (refine zZ.v rfl rfl (yJ rfl rfl rfl (by decide)) ?_); (refine zZ.v rfl rfl (zC rfl rfl rfl rfl (by decide)) ?_); (refine zZ.v rfl rfl (zC rfl rfl rfl rfl (by decide)) ?_); (refine zZ.v rfl rfl (zW rfl rfl rfl (by decide)) ?_); (refine zZ.v rfl rfl (zW rfl rfl rfl (by decide)) ?_); refine zZ.nil ?_) | (refine zY.iq 24 ?_; refine zY.rqg _ K_2j K_5 ?_; all_goals (refine zZ.v rfl rfl (zX rfl rfl rfl (by decide)) ?_); all_goals (refine zZ.v rfl rfl (by exact vX rfl rfl rfl (by exact bF (by decide)) rfl (by decide)) ?_); all_goals (refine zZ.v rfl rfl (zX rfl rfl rfl (by decide)) ?_); all_goals (refine zZ.gY rfl rfl (by decide) rfl (by with_reducible rfl) rfl (by decide) (zX rfl rfl rfl (by decide)) ?_); all_goals (refine zZ.gY rfl rfl (by decide) rfl (by with_reducible rfl) rfl (by decide) (by exact vX rfl rfl rfl (by exact bT (by decide)) rfl (by decide)) ?_); all_goals (refine zZ.v rfl rfl (by exact zH rfl rfl (by with_reducible rfl) rfl rfl (by decide)) ?_); all_goals (refine zZ.nil ?_)) | (refine zY.iq 25 ?_; refine zY.rqg _ K_2k K_5 ?_; all_goals (refine zZ.v rfl rfl (zX rfl rfl rfl (by decide)) ?_); all_goals (refine zZ.v rfl rfl (zX rfl rfl rfl (by decide)) ?_); all_goals (refine zZ.gY rfl rfl (by decide) rfl (by with_reducible rfl) rfl (by decide) (zX rfl rfl rfl (by decide)) ?_); all_goals (refine zZ.gY rfl rfl (by decide) rfl (by with_reducible rfl) rfl (by decide) (by exact yG rfl rfl rfl (by exact bT (by decide)) rfl (by decide)) ?_); all_goals (refine zZ.v rfl rfl (by exact zM rfl rfl (by with_reducible rfl) rfl rfl (by decide)) ?_); all_goals (refine zZ.v rfl rfl (zW rfl rfl rfl (by decide)) ?_); all_goals (refine zZ.nil ?_)) | refine zY.yC rfl (by with_reducible rfl) ?_ | refine zY.yE rfl (by first | assumption | with_reducible rfl) ?_ | refine zY.exit ?_ | refine zY.ret ?_) | refine zI.n ?_ | refine zI.r ?_ | refine zS.eY ?_ | refine zI.e ?_)
              all_goals exact ⟨.inl rfl, _, Sub.refl _, xV.p rfl (.tmp rfl)⟩
end Go.Proofs.YtomlhekjgagjaaaDoor
/- Contracts made weaker: nil is an empty slice. Generic over the program. -/
namespace Go.Proofs.YtomlhekjgagjaaaDoor
set_option maxRecDepth 100000
set_option maxHeartbeats 16000000
open Go Go.RowKit
/-- y says no more than x -/
inductive PLe0 : PV → PV → Prop
  | refl (x : PV) : PLe0 x x
  | nil : PLe0 (.val (.slice none 0 0)) (.sl [])
inductive PL0s : List PV → List PV → Prop
  | nil : PL0s [] []
  | cons {x y : PV} {xs ys : List PV} (h : PLe0 x y) (hs : PL0s xs ys) : PL0s (x :: xs) (y :: ys)
inductive PLe1 : PV → PV → Prop
  | refl (x : PV) : PLe1 x x
  | nil : PLe1 (.val (.slice none 0 0)) (.sl [])
  | sl {xs ys : List PV} (hl : xs.length = ys.length) (h : PL0s (flat xs) (flat ys)) : PLe1 (.sl xs) (.sl ys)
inductive PLes : List PV → List PV → Prop
  | nil : PLes [] []
  | cons {x y : PV} {xs ys : List PV} (h : PLe1 x y) (hs : PLes xs ys) : PLes (x :: xs) (y :: ys)
inductive PLe : PV → PV → Prop
  | one {x y : PV} (h : PLe1 x y) : PLe x y
  | agg {xs ys : List PV} (h : PLes xs ys) : PLe (.agg xs) (.agg ys)
inductive PLet : List PV → List PV → Prop
  | nil : PLet [] []
  | cons {x y : PV} {xs ys : List PV} (h : PLe x y) (hs : PLet xs ys) : PLet (x :: xs) (y :: ys)
theorem PLe0.rep {x y : PV} (h : PLe0 x y) {M : Nat → Nat → Prop} {w : World} {v : Value} (hr : Rep M w x v) : Rep M w y v := by
  cases h with
  | refl => exact hr
  | nil => cases hr; exact .nil
theorem PL0s.at_ {xs ys : List PV} (h : PL0s xs ys) : xs.length = ys.length ∧ ∀ (i : Nat) y, ys[i]? = some y → ∃ x, xs[i]? = some x ∧ PLe0 x y := by
  induction h with
  | nil => exact ⟨rfl, fun i y h => by simp at h⟩
  | cons h hs ih =>
    refine ⟨by simp [ih.1], fun i y hy => ?_⟩
    cases i with
    | zero => simp at hy; subst hy; exact ⟨_, rfl, h⟩
    | succ i => exact ih.2 i y hy
theorem PL0s.append {xs ys xs' ys' : List PV} (h : PL0s xs ys) (h' : PL0s xs' ys') : PL0s (xs ++ xs') (ys ++ ys') := by
  induction h with
  | nil => exact h'
  | cons h _ ih => exact .cons h ih
theorem PLe1.rep {x y : PV} (h : PLe1 x y) {M : Nat → Nat → Prop} {w : World} {v : Value} (hr : Rep M w x v) : Rep M w y v := by
  cases h with
  | refl => exact hr
  | nil => cases hr; exact .nil
  | sl hl h =>
    obtain ⟨hfl, hat⟩ := h.at_
    rcases rep_sl hr with ⟨⟨b, rfl⟩, h0⟩ | ⟨g, off, cap, us, rfl, hl2, hcell, hM, hg, hcap, hm⟩
    · subst h0
      have : _ = [] := List.eq_nil_of_length_eq_zero hl.symm
      subst this
      exact .nil
    · rw [hl] at hcap ⊢
      exact .sl _ g off _ cap us rfl (hl2.len.trans hfl) hcell (fun j c y hc hy => by
        obtain ⟨x, hx, hle⟩ := hat j c hc
        exact hle.rep (hl2.each j x y hx hy)) hl2.one hM hg hcap hm
theorem PLes.refl : ∀ xs : List PV, PLes xs xs
  | [] => .nil
  | x :: xs => .cons (.refl x) (PLes.refl xs)
theorem PLes.at_ {xs ys : List PV} (h : PLes xs ys) : xs.length = ys.length ∧ ∀ (i : Nat) y, ys[i]? = some y → ∃ x, xs[i]? = some x ∧ PLe1 x y := by
  induction h with
  | nil => exact ⟨rfl, fun i y h => by simp at h⟩
  | cons h hs ih =>
    refine ⟨by simp [ih.1], fun i y hy => ?_⟩
    cases i with
    | zero => simp at hy; subst hy; exact ⟨_, rfl, h⟩
    | succ i => exact ih.2 i y hy
theorem PLe.rep {x y : PV} (h : PLe x y) {M : Nat → Nat → Prop} {w : World} {v : Value} (hr : Rep M w x v) : Rep M w y v := by
  cases h with
  | one h => exact h.rep hr
  | agg h =>
    obtain ⟨hl, hat⟩ := h.at_
    cases hr with
    | agg cs vs hl2 h2 h1 => exact .agg _ vs (hl2.trans hl) (fun i c u hc hu => by
        obtain ⟨x, hx, hxy⟩ := hat i c hc
        exact hxy.rep (h2 i x u hx hu)) h1
theorem PLet.at_ {xs ys : List PV} (h : PLet xs ys) : xs.length = ys.length ∧ ∀ (i : Nat) y, ys[i]? = some y → ∃ x, xs[i]? = some x ∧ PLe x y := by
  induction h with
  | nil => exact ⟨rfl, fun i y h => by simp at h⟩
  | cons h hs ih =>
    refine ⟨by simp [ih.1], fun i y hy => ?_⟩
    cases i with
    | zero => simp at hy; subst hy; exact ⟨_, rfl, h⟩
    | succ i => exact ih.2 i y hy
theorem PLe.refl (x : PV) : PLe x x := .one (.refl x)
section
variable {P : Program} {f : FuncId}
end
end Go.Proofs.YtomlhekjgagjaaaDoor
/- A law's arguments, as they come in, by their shapes. Generic over the program. -/
namespace Go.Proofs.YtomlhekjgagjaaaDoor
set_option maxRecDepth 100000
set_option maxHeartbeats 16000000
open Go Go.RowKit Go.ChangeShapes Go.WideShapes Go.ChangeAt
def NoM : Nat → Nat → Prop := fun _ _ => False
/-- what a cell may hold -/
inductive Leaf where
  | int (k : IntKind)
  | bool
  | any
deriving DecidableEq
def leafOK : Leaf → Value → Prop
  | .int k, v => ∃ n, v = .int k n ∧ (Lit.int k n).wf = true
  | .bool, v => ∃ b, v = .bool b
  | .any, v => v.oneCell' = true
/-- type t's cells, one behind the other, are of these kinds (any: a slice) -/
def flatB (P : Program) : Nat → TypeId → List Leaf → Bool
  | 0, _, _ => false
  | d + 1, t, ls => match P.underlying t with
    | some (.int k) => decide (ls = [.int k])
    | some .bool => decide (ls = [.bool])
    | some (.slice _) => decide (ls = [.any])
    | some (.struct fs) => (ls.length == P.cellsOf t) && (fs.toList.all fun f => flatB P d f.type ((ls.drop f.offset).take (P.cellsOf f.type)) && (((ls.drop f.offset).take (P.cellsOf f.type)).length == P.cellsOf f.type)) &&
      (List.range ls.length).all fun c => fs.toList.any fun f => decide (f.offset ≤ c) && decide (c < f.offset + P.cellsOf f.type)
    | _ => false
section
variable {H : Type} {enc : TypeId × Value → H} {P : Program} {W : World} {base : Nat} {spare : Nat → Bool} {held : Bool}
theorem flat_trod : ∀ (d : Nat) {t : TypeId} {ls : List Leaf}, flatB P d t ls = true → ∀ {fuel : Nat} {cs : List Value} {x : DataW H × List MemPlace}, DataW.trod enc P W base spare held fuel t cs = some x →
    cs.length = ls.length ∧ ∀ (i : Nat) l v, ls[i]? = some l → cs[i]? = some v → leafOK l v
  | 0, _, _, h, _, _, _, _ => by cases h
  | d + 1, t, ls, h, fuel, cs, x, hx => by
    unfold flatB at h
    cases hu : P.underlying t with
    | none => rw [hu] at h; cases h
    | some ds =>
      rw [hu] at h
      cases ds with
      | int k =>
        obtain rfl : ls = [.int k] := of_decide_eq_true h
        obtain ⟨n, rfl, _, hw⟩ := DataW.trod_int hu hx
        refine ⟨rfl, fun i l v hl hv => ?_⟩
        match i with
        | 0 => simp at hl hv; subst hl hv; exact ⟨n, rfl, hw⟩
        | i + 1 => simp at hl
      | bool =>
        obtain rfl : ls = [.bool] := of_decide_eq_true h
        obtain ⟨b, rfl, _⟩ := DataW.trod_bool hu hx
        refine ⟨rfl, fun i l v hl hv => ?_⟩
        match i with
        | 0 => simp at hl hv; subst hl hv; exact ⟨b, rfl⟩
        | i + 1 => simp at hl
      | slice e =>
        obtain rfl : ls = [.any] := of_decide_eq_true h
        have key : ∀ w : Value, w.oneCell' = true → cs = [w] → cs.length = [Leaf.any].length ∧ ∀ (i : Nat) l v, [Leaf.any][i]? = some l → cs[i]? = some v → leafOK l v := fun w hw e => by
          subst e
          refine ⟨rfl, fun i l v hl hv => ?_⟩
          match i with
          | 0 => simp at hl hv; subst hl hv; exact hw
          | i + 1 => simp at hl
        rcases DataW.trod_slice hu hx with ⟨e, _⟩ | ⟨a, len, cap, _, _, _, _, e, _⟩
        · exact key _ rfl e
        · exact key _ rfl e
      | struct fs =>
        simp only [Bool.and_eq_true, beq_iff_eq, List.all_eq_true, List.mem_range, List.any_eq_true, decide_eq_true_eq] at h
        obtain ⟨⟨hlen, hfs⟩, hcov⟩ := h
        obtain ⟨xs, n, _, _, hcl, hxl, hg⟩ := DataW.trod_struct hu hx
        refine ⟨by omega, fun i l v hl hv => ?_⟩
        have hil : i < ls.length := (List.getElem?_eq_some_iff.1 hl).1
        obtain ⟨f, hf, hf1, hf2⟩ := hcov i hil
        obtain ⟨hfl, hfn⟩ := hfs f hf
        obtain ⟨j, hj, hfj⟩ := List.getElem_of_mem hf
        have hfj2 : fs[j]? = some f := by
          rw [← hfj, Array.getElem_toList]
          exact Array.getElem?_eq_getElem _
        have h2 := hg j f hfj2
        have hjx : j < xs.length := by rw [hxl]; simpa using hj
        rw [List.getElem?_eq_getElem hjx] at h2
        obtain ⟨_, h3⟩ := flat_trod d hfl h2
        refine h3 (i - f.offset) l v ?_ ?_
        · rw [List.getElem?_take_of_lt (by omega), List.getElem?_drop, show f.offset + (i - f.offset) = i by omega]
          exact hl
        · rw [List.getElem?_take_of_lt (by omega), List.getElem?_drop, show f.offset + (i - f.offset) = i by omega]
          exact hv
      | _ => cases h
theorem has_block {r : Reach} {a : Addr} {e : TypeId} {n : Nat} (h : W.has P r base a e n) : a.spot = none ∧ a.block < W.heap.size := by
  obtain ⟨_, h1, row, cells, h2, _⟩ := h
  refine ⟨h1, ?_⟩
  unfold World.shape? at h2
  cases hb : W.heap[a.block]? with
  | none => rw [hb] at h2; cases h2
  | some o => exact (Array.getElem?_eq_some_iff.1 hb).1
theorem cell_slice {t e : TypeId} {a : Addr} {len cap : Nat} (ht : P.underlying t = some (.slice e)) (h : Cell.okWide P W .any base t (.slice (some a) len cap)) : a.spot = none ∧ a.block < W.heap.size ∧ len ≤ cap := by
  simp only [Cell.okWide, ht, Cell.ok] at h
  exact ⟨(has_block h.2.2).1, (has_block h.2.2).2, h.1⟩
theorem wide_slice {t e : TypeId} {a : Addr} {len cap : Nat} (ht : P.underlying t = some (.slice e)) (h : Value.okWide P W .any base t (.slice (some a) len cap)) : a.spot = none ∧ a.block < W.heap.size ∧ len ≤ cap :=
  cell_slice ht (by simpa only [Value.okWide, ht] using h)
theorem leaf_one {l : Leaf} {v : Value} (h : leafOK l v) : v.oneCell' = true := by
  cases l with
  | int k => obtain ⟨n, rfl, _⟩ := h; rfl
  | bool => obtain ⟨b, rfl⟩ := h; rfl
  | any => exact h
theorem flatten_len {n : Nat} : ∀ {rs : List (List Value)}, (∀ r ∈ rs, r.length = n) → rs.flatten.length = rs.length * n
  | [], _ => by simp
  | r :: rs, h => by
    rw [List.flatten_cons, List.length_append, h r (by simp), flatten_len fun x hx => h x (by simp [hx]), List.length_cons, Nat.add_mul]
    omega
theorem flatten_get {n : Nat} : ∀ {rs : List (List Value)}, (∀ r ∈ rs, r.length = n) → ∀ (i c : Nat), c < n → rs.flatten[i * n + c]? = (rs[i]?).bind (·[c]?)
  | [], _, i, c, _ => by simp
  | r :: rs, h, 0, c, hc => by
    rw [List.flatten_cons, Nat.zero_mul, Nat.zero_add, List.getElem?_append_left (by rw [h r (by simp)]; exact hc)]
    rfl
  | r :: rs, h, i + 1, c, hc => by
    have hr := h r (by simp)
    rw [List.flatten_cons, List.getElem?_append_right (by rw [hr, Nat.add_mul]; omega), hr]
    have e : (i + 1) * n + c - n = i * n + c := by rw [Nat.add_mul]; omega
    rw [e, flatten_get (fun x hx => h x (by simp [hx])) i c hc]
    rfl
/-- a slice of plain structs (of slices, as they are) that came in -/
theorem arg_rows {t e : TypeId} {ls : List Leaf} {dep : Nat} {v : Value} {fuel : Nat} {x : DataW H × List MemPlace} (ht : P.underlying t = some (.slice e)) (hfl : flatB P dep e ls = true) (hn : P.cellsOf e = ls.length)
    (hok : ∀ a len cap, v = .slice (some a) len cap → a.spot = none ∧ a.block < W.heap.size) (h : DataW.trod enc P W base (fun _ => true) held fuel t [v] = some x) :
    ∃ rows : List (List Value), (∀ r ∈ rows, r.length = ls.length ∧ ∀ (i : Nat) l u, ls[i]? = some l → r[i]? = some u → leafOK l u) ∧ rows.length ≤ maxLen ∧
      ∀ es : List PV, es.map PV.cells = rows.map (fun r => r.map PV.val) → Rep NoM W (.sl es) v := by
  rcases DataW.trod_slice ht h with ⟨hv, _⟩ | ⟨a, len, cap, elems, rest, n, _, hv, _, hb, hlc, hm, hlen, hel, _⟩
  · simp only [List.cons.injEq, and_true] at hv
    subst hv
    refine ⟨[], fun r hr => by simp at hr, Nat.zero_le _, fun es he => ?_⟩
    have : es = [] := by simpa using he
    subst this
    exact .nil
  · simp only [List.cons.injEq, and_true] at hv
    subst hv
    obtain ⟨hs, hbk⟩ := hok a len cap rfl
    obtain ⟨g, off, spot⟩ := a
    simp only at hs hbk
    subst hs
    have row : ∀ i, i < len → ∃ r : List Value, W.cells? base (Addr.add ⟨g, off, none⟩ (i * P.cellsOf e)) (P.cellsOf e) = some r ∧ r.length = ls.length ∧ ∀ (j : Nat) l u, ls[j]? = some l → r[j]? = some u → leafOK l u := by
      intro i hi
      have h1 := hel i hi
      rw [List.getElem?_eq_getElem (by omega : i < elems.length)] at h1
      obtain ⟨r, hr, h2⟩ := Option.bind_eq_some_iff.1 h1
      obtain ⟨h3, h4⟩ := flat_trod dep hfl h2
      exact ⟨r, hr, h3, h4⟩
    have rows : ∀ m, m ≤ len → ∃ rs : List (List Value), rs.length = m ∧ ∀ (i : Nat) r, rs[i]? = some r → W.cells? base (Addr.add ⟨g, off, none⟩ (i * P.cellsOf e)) (P.cellsOf e) = some r ∧ r.length = ls.length ∧ ∀ (j : Nat) l u, ls[j]? = some l → r[j]? = some u → leafOK l u := by
      intro m
      induction m with
      | zero => exact fun _ => ⟨[], rfl, fun i r h => by simp at h⟩
      | succ m ih =>
        intro hm2
        obtain ⟨rs, h1, h2⟩ := ih (by omega)
        obtain ⟨r, hr⟩ := row m (by omega)
        refine ⟨rs ++ [r], by simp [h1], fun i r' hi => ?_⟩
        rcases Nat.lt_or_ge i rs.length with h3 | h3
        · rw [List.getElem?_append_left h3] at hi
          exact h2 i r' hi
        · rw [List.getElem?_append_right h3] at hi
          have e0 : i - rs.length = 0 := by
            rcases Nat.eq_zero_or_pos (i - rs.length) with h | h
            · exact h
            · rw [List.getElem?_eq_none (by simp; omega)] at hi; cases hi
          rw [e0] at hi
          simp at hi
          subst hi
          rw [show i = m by omega]
          exact hr
    obtain ⟨rs, hrl, hrs⟩ := rows len (Nat.le_refl _)
    refine ⟨rs, fun r hr => ?_, by omega, fun es he => ?_⟩
    · obtain ⟨i, hi, rfl⟩ := List.getElem_of_mem hr
      exact (hrs i _ (List.getElem?_eq_getElem hi)).2
    · have hn0 : P.cellsOf e = ls.length := hn
      have hesl : es.length = rs.length := by simpa using congrArg List.length he
      have hflat : flat es = rs.flatten.map PV.val := by
        show es.flatMap PV.cells = _
        rw [List.flatMap_def, he, List.map_flatten]
      have hrn : ∀ r ∈ rs, r.length = ls.length := fun r hr => by
        obtain ⟨i, hi, rfl⟩ := List.getElem_of_mem hr
        exact (hrs i _ (List.getElem?_eq_getElem hi)).2.1
      have hyl : rs.flatten.length = rs.length * ls.length := flatten_len hrn
      have at_ : ∀ (j : Nat) y, rs.flatten[j]? = some y → ∃ i c r, j = i * ls.length + c ∧ rs[i]? = some r ∧ r[c]? = some y := fun j y hy => by
        have hj : j < rs.length * ls.length := by rw [← hyl]; exact (List.getElem?_eq_some_iff.1 hy).1
        have hpos : 0 < ls.length := by
          rcases Nat.eq_zero_or_pos ls.length with h | h
          · rw [h] at hj; omega
          · exact h
        have e1 : j = (j / ls.length) * ls.length + j % ls.length := by
          have := Nat.div_add_mod j ls.length
          rw [Nat.mul_comm] at this
          omega
        have hi : j / ls.length < rs.length := (Nat.div_lt_iff_lt_mul hpos).2 hj
        have hc : j % ls.length < ls.length := Nat.mod_lt _ hpos
        have h1 := flatten_get hrn (j / ls.length) (j % ls.length) hc
        rw [← e1, hy, List.getElem?_eq_getElem hi] at h1
        exact ⟨_, _, _, e1, List.getElem?_eq_getElem hi, h1.symm⟩
      refine .sl es g off len cap rs.flatten (by omega) (by rw [hflat, List.length_map]) (fun j y hy => ?_) (fun j c y hc hy => ?_) (fun y hy => ?_) (fun _ _ h => h) hbk hlc hm
      · obtain ⟨i, c, r, rfl, hr, hc⟩ := at_ j y hy
        have h1 := World.cells?_some (hrs i r hr).1
        have hcl : c < P.cellsOf e := by
          rw [hn0, ← (hrs i r hr).2.1]
          exact (List.getElem?_eq_some_iff.1 hc).1
        have h2 := h1.2.2 c hcl
        rw [hc, add_lit, add_lit, hn0, Nat.add_assoc] at h2
        exact h2
      · rw [hflat, List.getElem?_map, hy] at hc
        simp only [Option.map_some, Option.some.injEq] at hc
        subst hc
        exact .val _
      · obtain ⟨j, hj, rfl⟩ := List.getElem_of_mem hy
        obtain ⟨i, c, r, _, hr, hc⟩ := at_ j _ (List.getElem?_eq_getElem hj)
        have hcl : c < ls.length := by
          rw [← (hrs i r hr).2.1]
          exact (List.getElem?_eq_some_iff.1 hc).1
        exact leaf_one ((hrs i r hr).2.2 c _ _ (List.getElem?_eq_getElem hcl) hc)
end
end Go.Proofs.YtomlhekjgagjaaaDoor
/- A law's call, by its contract; the table that the row lists; a world that fits. -/
namespace Go.Proofs.YtomlhekjgagjaaaDoor
set_option maxRecDepth 100000
set_option maxHeartbeats 16000000
open Go Go.RowKit Go.ChangeShapes Go.WideShapes Go.ChangeAt
set_option linter.unusedVariables false
theorem ownT : ownKnob Tryd.prog.godebug = none := by kernel_rfl
theorem laidOutT : laidOutB Tryd.prog = true := by kernel_rfl
section
variable {P : Program} {W : World}
/-- A law's call, by its contract. -/
theorem Fn.law {f : FuncId} {args : List PV} (h : Fn P f args (.p (.val (.bool true)))) (hlay : Lays W) {vs : List Value} (hl : vs.length = args.length) (hr : ∀ (i : Nat) x v, args[i]? = some x → vs[i]? = some v → Rep NoM W x v) :
    Calls P f vs.toArray W fun e W' => e = .returned (.bool true) ∧ Below W.heap.size W W' :=
  (h NoM W vs ⟨hlay, fun _ _ _ h => h⟩ (fun _ _ h => h.elim) hl hr).mono fun e W' ⟨v, he, hv, hb⟩ => by
    cases hv
    exact ⟨he, hb⟩
theorem reps1 {M : Nat → Nat → Prop} {x0 : PV} {v0 : Value} (h0 : Rep M W x0 v0) : ∀ (i : Nat) x v, [x0][i]? = some x → [v0][i]? = some v → Rep M W x v := by
  intro i x v hx hv
  match i with
  | 0 => simp at hx hv; subst hx; subst hv; exact h0
  | i + 1 => simp at hx
theorem repsC {M : Nat → Nat → Prop} {x0 : PV} {v0 : Value} {xs : List PV} {vs : List Value} (h0 : Rep M W x0 v0) (h : ∀ (i : Nat) x v, xs[i]? = some x → vs[i]? = some v → Rep M W x v) : ∀ (i : Nat) x v, (x0 :: xs)[i]? = some x → (v0 :: vs)[i]? = some v → Rep M W x v := by
  intro i x v hx hv
  match i with
  | 0 => simp at hx hv; subst hx; subst hv; exact h0
  | i + 1 => exact h i x v (by simpa using hx) (by simpa using hv)
end
/-! ### The listed table -/
theorem gTbl : Tryd.prog.globalNamed "weald/crc.halves" = some 0 := by kernel_rfl
theorem tTbl : (Tryd.prog.globals[0]?).map (·.type) = some 132 := by kernel_rfl
def laidL : List (String × DataW Unit) := [("weald/crc.halves", Rows.laid_weald_crc_halves)]
theorem lays_of_laid {W : World} (h : laidMetH Tryd.prog laidL W) : Lays W := by
  rw [MakeChecks.laidMetH_plain _ _ _ (by kernel_rfl)] at h
  obtain ⟨ps, ⟨g0, t0, cs0, f0, p0, q0, hg0, ht0, hv0, hd0, _, _⟩, _⟩ := h
  obtain rfl := Option.some.inj (gTbl.symm.trans hg0)
  obtain rfl := Option.some.inj (tTbl.symm.trans ht0)
  have hcell := World.var?_cell hg0 hv0
  obtain ⟨xs, m1, _, hx1, hlen, hn, hel⟩ := DataW.trod_array Tryd.underlying132 hd0
  have c1 : Tryd.prog.cellsOf 109 = 1 := by kernel_rfl
  have c16 : Tryd.prog.cellsOf 132 = 16 := by kernel_rfl
  rw [c16] at hlen
  have hdat : Rows.laid_weald_crc_halves (H := Unit) = .agg (tbl0.map fun p => .lit (.int p.1 p.2)) := by kernel_rfl
  simp only [Prod.mk.injEq] at hx1
  have hxs : xs.map (·.1) = tbl0.map fun p => .lit (.int p.1 p.2) := by
    have := hx1.1
    rw [hdat] at this
    simpa using this.symm
  have hk : ∀ p ∈ tbl0, p.1 = .u32 := by decide +kernel
  intro g ys hg
  have hgy : g = 0 ∧ ys = tbl0 := by
    unfold seatTbl at hg
    split at hg
    · next h => exact ⟨h, (Option.some.inj hg).symm⟩
    · cases hg
  obtain ⟨rfl, rfl⟩ := hgy
  have at_ : ∀ (j : Nat) p, tbl0[j]? = some p → W.cell? ⟨0, j, none⟩ = some (.int p.1 p.2) := by
    intro j p hp
    have hj : j < 16 := (List.getElem?_eq_some_iff.1 hp).1
    have h1 := hel j hj
    have hxj : xs[j]? = some xs[j] := List.getElem?_eq_getElem (by omega)
    rw [hxj, c1, Nat.mul_one] at h1
    obtain ⟨k, e1, e2, _⟩ := DataW.trod_int Tryd.underlying109 h1
    have h3 : (xs.map (·.1))[j]? = some (.lit (.int .u32 k)) := by rw [List.getElem?_map, hxj, e2]; rfl
    rw [hxs, List.getElem?_map, hp] at h3
    simp only [Option.map_some, Option.some.injEq, DataW.lit.injEq, Lit.int.injEq] at h3
    obtain ⟨h4, h5⟩ := h3
    have h6 : cs0[j]? = some (.int .u32 k) := by
      have : (cs0.toList.drop j).take 1 = [cs0.toList[j]'(by rw [hlen]; exact hj)] := by
        rw [List.drop_eq_getElem_cons (by rw [hlen]; exact hj)]
        rfl
      rw [this] at e1
      simp only [List.cons.injEq, and_true] at e1
      rw [← e1]
      simp [Array.getElem?_eq_getElem (show j < cs0.size by simpa using (by rw [hlen]; exact hj : j < cs0.toList.length))]
    rw [hcell j, h6, h4, h5]
  refine ⟨?_, at_⟩
  have h0 := at_ 0 _ rfl
  unfold World.cell? at h0
  cases hh : W.heap[0]? with
  | none => rw [hh] at h0; cases h0
  | some o => exact (Array.getElem?_eq_some_iff.1 hh).1
/-- The door's own heap fits. -/
theorem door_met (os : Os) (args : Array Value) : laidMetH Tryd.prog laidL ((World.doorLaid Tryd.prog 400 os).forCall (fun _ _ => 0) ⟨#[], args, []⟩).memory :=
  laidMetH_of_parts3 (fuel := 8) (laidMet_of_run' 8 (by kernel_rfl) (by kernel_rfl)) (by kernel_rfl) (by kernel_rfl)
end Go.Proofs.YtomlhekjgagjaaaDoor
/- Arguments: rows of truth values, and of bytes. Generic over the program. -/
namespace Go.Proofs.YtomlhekjgagjaaaDoor
set_option maxRecDepth 100000
set_option maxHeartbeats 16000000
open Go Go.RowKit Go.ChangeShapes Go.WideShapes Go.ChangeAt
set_option linter.unusedVariables false
section
variable {P : Program} {W : World} {H : Type} {enc : TypeId × Value → H}
end
end Go.Proofs.YtomlhekjgagjaaaDoor
/- Arguments: rows of entries. -/
namespace Go.Proofs.YtomlhekjgagjaaaDoor
set_option maxRecDepth 100000
set_option maxHeartbeats 16000000
open Go Go.RowKit Go.ChangeShapes Go.WideShapes Go.ChangeAt
set_option linter.unusedVariables false
def entOf (r : List Value) : zK := match r with
  | [.int _ k, .int _ s, .int _ y, .int _ u, .int _ v, .int _ x] => ⟨k, s, y, u, v, x⟩
  | _ => ⟨0, 0, 0, 0, 0, 0⟩
theorem wfU {n : Int} (h : (Lit.int .u64 n).wf = true) : U n := by
  have h1 := bounds_u64 h
  unfold U
  omega
theorem entOf_cells {r : List Value} (hl : r.length = 6) (h : ∀ (i : Nat) l u, [Leaf.int .i64, .int .u64, .int .u64, .int .u64, .int .u64, .int .u64][i]? = some l → r[i]? = some u → leafOK l u) : (entOf r).V.cells = r.map PV.val ∧ (entOf r).ok := by
  match r, hl with
  | [a, b, c, d, e, f], _ =>
    obtain ⟨n0, rfl, h0⟩ := h 0 _ a rfl rfl
    obtain ⟨n1, rfl, h1⟩ := h 1 _ b rfl rfl
    obtain ⟨n2, rfl, h2⟩ := h 2 _ c rfl rfl
    obtain ⟨n3, rfl, h3⟩ := h 3 _ d rfl rfl
    obtain ⟨n4, rfl, h4⟩ := h 4 _ e rfl rfl
    obtain ⟨n5, rfl, h5⟩ := h 5 _ f rfl rfl
    exact ⟨rfl, wfU h1, wfU h2, wfU h3, wfU h4, wfU h5⟩
theorem arg_ents {H : Type} {enc : TypeId × Value → H} {W : World} {v : Value} {d : DataW H} {p : List MemPlace} {base : Nat} (hv : Value.okWide Tryd.prog W .any base 25 v) (h : DataW.Trod enc Tryd.prog W 0 (fun _ => true) true 25 v d p) :
    ∃ L : List zK, Rep NoM W (.sl (L.map zK.V)) v ∧ (∀ e ∈ L, e.ok) ∧ L.length ≤ maxLen := by
  have ht : Tryd.prog.underlying 25 = some (.slice 46) := Tryd.underlying25
  obtain ⟨a, len, cap, rfl⟩ := okWide_slice ht hv
  obtain ⟨fuel, hf⟩ := h
  have hf' : DataW.trod enc Tryd.prog W 0 (fun _ => true) true fuel 25 [Value.slice a len cap] = some (d, p) := hf
  obtain ⟨rows, h1, h2, h3⟩ := arg_rows (ls := [Leaf.int .i64, .int .u64, .int .u64, .int .u64, .int .u64, .int .u64]) (dep := 8) ht (by kernel_rfl) (by kernel_rfl) (fun a' len' cap' e' => by
    injection e' with e1 e2 e3
    subst e1 e2 e3
    have := wide_slice ht hv
    exact ⟨this.1, this.2.1⟩) hf'
  refine ⟨rows.map entOf, h3 _ ?_, fun e he => ?_, by simpa using h2⟩
  · rw [List.map_map, List.map_map]
    exact List.map_congr_left fun r hr => (entOf_cells (h1 r hr).1 (h1 r hr).2).1
  · obtain ⟨r, hr, rfl⟩ := List.mem_map.1 he
    exact (entOf_cells (h1 r hr).1 (h1 r hr).2).2
end Go.Proofs.YtomlhekjgagjaaaDoor
/- For every input MergeApart returns true, and leaves its arguments as they were; tied: Rows.MergeApartCardSaid. Conditions: none beyond the given statement's own. -/
namespace Go.Proofs.YtomlhekjgagjaaaDoor
set_option maxRecDepth 100000
set_option maxHeartbeats 16000000
open Go Go.RowKit Go.ChangeShapes Go.WideShapes Go.ChangeAt
set_option linter.unusedVariables false
theorem mergeApart_lifted (os : Os) (started : os.Started) (H : Type) (enc : TypeId × Value → H) :
    ReturnsInHanded {} Tryd.checked os 8 .any (fun w args => (Rows.mergeApartSpec.pre enc Tryd.prog Tryd.f8 [] false w args ∧ laidMetH Tryd.prog laidL w) ∧ sizedMet enc Tryd.prog Tryd.f8 (OpenSpec.ofChange Rows.mergeApartSpec) false w args)
      (Rows.mergeApartSpec.post enc Tryd.prog Tryd.f8 false true false false) := by
  refine returnsInHanded_of_change_and (C := Tryd.checked) (X := fun w _ => laidMetH Tryd.prog laidL w) (fun _ _ _ hh h => h.of_heap hh) ownT started (by kernel_rfl) Tryd.func8
    (ChangeSpec.witness_shaped (enc := enc) (C := Tryd.checked) (os := os) (X := fun w _ => laidMetH Tryd.prog laidL w) false (World.doorLaid Tryd.prog 400 os) #[.slice none 0 0, .slice none 0 0] 8 rfl (World.shaped_of_RefB (by kernel_rfl) (by kernel_rfl)) (by kernel_rfl) (by kernel_rfl) (by kernel_rfl) (door_met os _)) ?_
  intro W base args ds gs before hval0 hW hcnd hwt hL _
  have hval : ∀ (j : Nat) t v, Tryd.f8.params[j]? = some t → args[j]? = some v → Value.okWide Tryd.prog W .any base t v := hval0
  have hW' := hW
  obtain ⟨p, q, hA0, hV, rfl, hfz, hnd⟩ := hW
  have hA : DataW.TrodAll enc Tryd.prog W 0 (fun _ => true) true Tryd.f8.params.toList args.toList ds p := hA0
  rw [Tryd.params8] at hA hval
  obtain ⟨v0, vs0, d0, ds0, p0, q0, hargs, rfl, rfl, h0, r0⟩ := trodAll_cons hA
  obtain ⟨v1, vs1, d1, ds1, p1, q1, rfl, rfl, rfl, h1, r1⟩ := trodAll_cons r0
  obtain ⟨rfl, rfl, rfl⟩ := trodAll_nil r1
  obtain rfl : args = #[v0, v1] := by cases args; simp_all
  obtain ⟨rfl, rfl⟩ := trodVars_none hV
  have lt0 : ∀ x ∈ p0, x.block < W.heap.size := by obtain ⟨m, hm⟩ := h0; exact DataW.trod_lt m _ _ _ hm
  have lt1 : ∀ x ∈ p1, x.block < W.heap.size := by obtain ⟨m, hm⟩ := h1; exact DataW.trod_lt m _ _ _ hm
  have o0 := hval 0 25 v0 rfl rfl
  obtain ⟨a0, rp0, g0, l0⟩ := arg_ents o0 h0
  have o1 := hval 1 25 v1 rfl rfl
  obtain ⟨a1, rp1, g1, l1⟩ := arg_ents o1 h1
  clear hA0 hval0
  refine ((mapart_fn a0 a1 g0 l0 g1 l1).law (lays_of_laid hL) (vs := [v0, v1]) rfl (repsC rp0 (reps1 rp1))).mono fun e W' ⟨he, bel⟩ => ?_
  subst he
  exact ⟨_, rfl, _, _, _, [], _, [], hW', trodAll_mk1 (shut_bool Tryd.underlying4 _), (trodAll_cons_mk (Below.trod laidOutT (by kernel_rfl) (of_decide_eq_true (by kernel_rfl)) h0 bel lt0) (trodAll_cons_mk (Below.trod laidOutT (by kernel_rfl) (of_decide_eq_true (by kernel_rfl)) h1 bel lt1) trodAll_mk0)), rfl, bel.frame _, fun h => by cases h⟩
theorem mergeApart_holds : Rows.MergeApartSaid :=
  OpenClaim.holds_of_wide 8 Tryd.f8 rfl rfl rfl rfl rfl rfl rfl ⟨rfl, rfl, rfl, rfl, rfl⟩ rfl rfl rfl rfl rfl (by kernel_rfl) Tryd.func8 (by kernel_rfl)
    (of_decide_eq_true (by kernel_rfl)) (by unfold Func.isWrapper; first | (rw [if_pos (by decide +kernel)]; kernel_rfl) | (rw [if_neg (by decide +kernel)]; exact ⟨rfl, rfl⟩))
    (fun os started H enc _ => mergeApart_lifted os started H enc)
theorem mergeApartCard_holds : Rows.MergeApartCardSaid :=
  Claim7.holds_tied_plain_at .later [] [.data] true _ true
    mergeApart_holds (fun _ h => by cases h) (by kernel_rfl) (fun _ h => by cases h) mergeApart_row_tie rfl ⟨rfl, rfl⟩ (by kernel_rfl) rfl
    (fun f fn hf hfn => by
      obtain rfl : f = 8 := Option.some.inj ((show Tryd.prog.funcNamed "weald/wealdlaw22.MergeApart" = some 8 by kernel_rfl).symm.trans hf) |>.symm
      obtain rfl : fn = Tryd.f8 := (Option.some.inj (Tryd.func8.symm.trans hfn)).symm
      exact ⟨by kernel_rfl, fun j t ht => by
        rw [Tryd.params8] at ht
        have hm : t ∈ [25, 25] := by simpa using Array.mem_of_getElem? ht
        have hall : ([25, 25].all fun u => !Tryd.prog.wantsStandIn u) = true := by kernel_rfl
        exact (show Tryd.prog.wantsStandIn t = false by simpa using List.all_eq_true.1 hall t hm)⟩)
    (by kernel_rfl)
#print axioms mergeApartCard_holds
end Go.Proofs.YtomlhekjgagjaaaDoor
