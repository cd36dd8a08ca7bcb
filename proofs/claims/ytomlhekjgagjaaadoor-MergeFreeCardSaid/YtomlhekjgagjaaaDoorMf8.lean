/- For every input MergeFree returns true, and leaves its argument as it was. Conditions: none beyond the given statement. (Part 8 of 8.) -/
import Derived.Test.YtomlhekjgagjaaaDoorMf7
import Derived.ProofKit
import Derived.OpenShut
import Derived.Below
import Derived.LaidMore
import Derived.Deep.Fields
import Derived.Deep.Slices
import Derived.Test.YtomlhekjgagjaaaDoorRows
import Derived.LaidLaws
import Derived.ChangeSame
import Derived.ChangeVars
import Derived.JoinedOf
import Derived.Stop.Joined
import Derived.RowKitTokens
import Derived.Test.YtomlhekjgagjaaaDoorCards
import Derived.Test.YtomlhekjgagjaaaDoorTie
import Derived.SevenTiedAt
/- What merge.Live lays down is the document's answer; plain. -/
namespace Go.Proofs.YtomlhekjgagjaaaDoor
set_option maxRecDepth 100000
set_option maxHeartbeats 16000000
open Go Go.RowKit
set_option linter.unusedSimpArgs false
set_option linter.unusedVariables false
/-! one stream -/
def no3 (L : List zK) : Bool := L.all fun e => !decide (e.k = 3)
def all1 (L : List zK) : Bool := L.all fun e => decide (e.k = 1)
def scanR (i : Nat) : Nat → Int → List zK → Option (List zK × Int)
  | _, left, [] => some ([], left)
  | k, left, e :: r =>
      bif (decide (e.k = 3) != (decide ((i : Int) = 0) && decide ((k : Int) = 0))) then none
      else bif decide (e.k = 3) then scanR i (k + 1) e.s r
      else bif decide (left > 0) then (bif decide (e.k = 1) then (scanR i (k + 1) (left - 1) r).map (fun q => (e :: q.1, q.2)) else none)
      else (scanR i (k + 1) left r).map (fun q => (e :: q.1, q.2))
theorem rowsR_scan (i : Nat) : ∀ (rows : List (List Int)) (k : Nat) (left : Int), rowsR i k left rows = if (decs rows).2 = true then scanR i k left (decs rows).1 else none
  | [], k, left => rfl
  | b :: r, k, left => by
    rw [rowsR_cons]
    unfold decs
    cases hd : decE b with
    | none => rfl
    | some e =>
      simp only []
      rw [rowsR_scan i r, rowsR_scan i r, rowsR_scan i r]
      rw [scanR]
      cases (decs r).2
      · simp only [Bool.false_eq_true, if_false, Option.map_none]
        cases (decide (e.k = 3) != (decide ((i : Int) = 0) && decide ((k : Int) = 0))) <;> cases decide (e.k = 3) <;> cases decide (left > 0) <;> cases decide (e.k = 1) <;> rfl
      · simp only [if_true]
theorem scan_tail (i : Nat) : ∀ (L : List zK) (k : Nat) (left : Int), 0 ≤ left → ¬ (i = 0 ∧ k = 0) → scanR i k left L = if (no3 L && all1 (L.take left.toNat)) = true then some (L, left - (min left.toNat L.length : Nat)) else none
  | [], k, left, h, _ => by simp [scanR, no3, all1]
  | e :: r, k, left, h, hk => by
    have hf : (decide ((i : Int) = 0) && decide ((k : Int) = 0)) = false := by
      rw [Bool.and_eq_false_iff, decide_eq_false_iff_not, decide_eq_false_iff_not]
      omega
    rw [scanR, hf]
    by_cases h3 : e.k = 3
    · rw [decide_eq_true h3]
      simp [no3, h3]
    · rw [decide_eq_false h3]
      simp only [bne_self_eq_false, cond_false]
      by_cases hl : left > 0
      · rw [decide_eq_true hl, cond_true]
        have ht : left.toNat = (left - 1).toNat + 1 := by omega
        by_cases h1 : e.k = 1
        · rw [decide_eq_true h1, cond_true, scan_tail i r (k + 1) (left - 1) (by omega) (by omega), ht, List.take_succ_cons]
          have e1 : no3 (e :: r) = no3 r := by simp [no3, h3]
          have e2 : all1 (e :: r.take (left - 1).toNat) = all1 (r.take (left - 1).toNat) := by simp [all1, h1]
          rw [e1, e2]
          split
          · simp only [Option.map_some, List.length_cons, Option.some.injEq, Prod.mk.injEq, true_and]
            omega
          · rfl
        · rw [decide_eq_false h1, cond_false, ht, List.take_succ_cons]
          have e2 : all1 (e :: r.take (left - 1).toNat) = false := by simp [all1, h1]
          rw [e2, Bool.and_false]
          rfl
      · have h0 : left = 0 := by omega
        subst h0
        rw [decide_eq_false hl, cond_false, scan_tail i r (k + 1) 0 (by omega) (by omega)]
        have e1 : no3 (e :: r) = no3 r := by simp [no3, h3]
        rw [e1]
        simp only [Int.toNat_zero, List.take_zero, Nat.zero_min]
        cases no3 r && all1 [] <;> rfl
def streamR (i : Nat) (s : List Int) : Option (List zK) := match rowsR i 0 0 (rowsOf s) with
    | none => none
    | some (l, left) => bif decide (left > 0) || (decide ((i : Int) = 0) && decide (((rowsOf s).length : Int) = 0)) then none else some l
theorem allL_stream (i : Nat) (s : List Int) (r : List (List Int)) : allL i (s :: r) = match streamR i s with
    | none => none
    | some l => (allL (i + 1) r).map (l ++ ·) := by
  rw [allL_cons]
  unfold streamR
  rcases rowsR i 0 0 (rowsOf s) with _ | ⟨l, left⟩
  · rfl
  · simp only []
    cases decide (left > 0) || (decide ((i : Int) = 0) && decide (((rowsOf s).length : Int) = 0)) <;> rfl
theorem decs_len : ∀ (rows : List (List Int)), (decs rows).2 = true → (decs rows).1.length = rows.length
  | [], _ => rfl
  | b :: r, h => by
    unfold decs at h ⊢
    cases hd : decE b with
    | none => rw [hd] at h; cases h
    | some e =>
      rw [hd] at h
      simp only [List.length_cons]
      rw [decs_len r h]
theorem stream_eq (i : Nat) {s : List Int} (hb : xX s) : streamR i s = if ((yQ i s).2 && no3 (yQ i s).1) = true then some (yQ i s).1 else none := by
  have hok := entsOf_ok hb
  have hln := decs_len (rowsOf s)
  unfold streamR yQ
  rw [rowsR_scan]
  unfold wC at *
  generalize decs (rowsOf s) = D at *
  obtain ⟨L, b⟩ := D
  cases b
  case false =>
    simp
  case true =>
    simp only [if_true] at *
    have hln := hln trivial
    by_cases hi : i = 0
    · subst hi
      simp only [and_true, if_true]
      cases L with
      | nil =>
        rw [← hln]
        rfl
      | cons h r =>
        have h0 : 0 ≤ h.s := (hok.1 h (by simp)).1.s.1
        have hle : decide (((rowsOf s).length : Int) = 0) = false := decide_eq_false (by rw [← hln, List.length_cons]; omega)
        rw [hle]
        have hh : headOf (h :: r) = if h.k = 3 then if (r.length : Int) < h.s then ([], false) else (r, (r.take h.s.toNat).all fun e => decide (e.k = 1)) else ([], false) := rfl
        rw [hh, scanR]
        by_cases h3 : h.k = 3
        · rw [if_pos h3, decide_eq_true h3, scan_tail 0 r 1 h.s h0 (by omega)]
          have e0 : (true != (decide (((0 : Nat) : Int) = 0) && decide (((0 : Nat) : Int) = 0))) = false := rfl
          rw [e0, cond_false, cond_true]
          by_cases hlt : (r.length : Int) < h.s
          · rw [if_pos hlt]
            split
            · rename_i heq
              split at heq
              · cases heq
              · rfl
            · rename_i heq
              split at heq
              · cases heq
                rw [decide_eq_true (by omega)]
                rfl
              · cases heq
          · rw [if_neg hlt]
            show (match (if (no3 r && all1 (r.take h.s.toNat)) = true then some (r, h.s - (min h.s.toNat r.length : Nat)) else none) with | none => none | some (l, left) => _) = if (all1 (r.take h.s.toNat) && no3 r) = true then some r else none
            rw [Bool.and_comm (all1 _)]
            cases no3 r && all1 (r.take h.s.toNat)
            · rfl
            · simp only [if_true]
              rw [decide_eq_false (by omega)]
              rfl
        · rw [if_neg h3, decide_eq_false h3]
          rfl
    · have e3 : (if i = 0 ∧ True then headOf L else (L, true)) = (L, true) := if_neg (fun e => hi e.1)
      rw [e3, scan_tail i L 0 0 (by omega) (by omega)]
      have e1 : decide ((i : Int) = 0) = false := decide_eq_false (by omega)
      rw [e1]
      simp only [Int.toNat_zero, List.take_zero, Nat.zero_min, Bool.true_and]
      have e2 : all1 [] = true := rfl
      rw [e2, Bool.and_true]
      cases no3 L
      · rfl
      · simp
/-! gathering -/
theorem gput_stays {g : GD} (e : zK) (h : g.bad = true) : (gput g e).bad = true := by
  unfold gput
  split
  · simp [h]
  · split
    · exact h
    · rfl
theorem gputs_bad : ∀ (L : List zK) {g : GD}, g.bad = true → (L.foldl gput g).bad = true
  | [], g, h => h
  | e :: r, g, h => gputs_bad r (gput_stays e h)
theorem gputs_three : ∀ (L : List zK) (g : GD), no3 L = false → (L.foldl gput g).bad = true
  | [], g, h => by cases h
  | e :: r, g, h => by
    by_cases h3 : e.k = 3
    · refine gputs_bad r ?_
      unfold gput
      rw [if_neg (by omega), if_neg (by omega)]
    · refine gputs_three r _ ?_
      simpa [no3, h3] using h
theorem gfrom_bad : ∀ (ss : List (List Int)) {g : GD} (i : Nat), g.bad = true → (gfrom g i ss).bad = true
  | [], g, i, h => h
  | s :: r, g, i, h => gfrom_bad r (i + 1) (gputs_bad _ (by simp [h]))
theorem gfrom_all : ∀ (ss : List (List Int)) (g : GD) (i : Nat), (∀ s ∈ ss, xX s) → match allL i ss with
    | none => (gfrom g i ss).bad = true
    | some l => gfrom g i ss = l.foldl gput g ∨ ((gfrom g i ss).bad = true ∧ (l.foldl gput g).bad = true)
  | [], g, i, _ => .inl rfl
  | s :: r, g, i, hb => by
    rw [allL_stream, stream_eq i (hb s (by simp))]
    unfold gfrom
    have ih := fun g' => gfrom_all r g' (i + 1) fun c hc => hb c (by simp [hc])
    unfold gstep
    obtain ⟨L, b⟩ := yQ i s
    cases b
    · exact gfrom_bad r _ (gputs_bad _ (by simp))
    · cases h3 : no3 L
      · exact gfrom_bad r _ (gputs_three _ _ h3)
      · simp only [Bool.true_and, if_true]
        have e1 : ({ g with bad := g.bad || !true } : GD) = g := by simp
        rw [e1]
        have h := ih (L.foldl gput g)
        generalize allL (i + 1) r = A at h ⊢
        cases A with
        | none => exact h
        | some l =>
          show _ ∨ _
          rw [List.foldl_append]
          exact h
def G0 : GD := ⟨[], [], false⟩
theorem gather_all (ss : List (List Int)) (hb : ∀ s ∈ ss, xX s) : match allR ss with
    | none => (xP ss).bad = true
    | some l => xP ss = l.foldl gput G0 ∨ ((xP ss).bad = true ∧ (l.foldl gput G0).bad = true) := by
  unfold xP allR
  by_cases hz : ss.length = 0
  · rw [if_pos hz]
    exact gfrom_bad ss 0 (by simp [hz])
  · rw [if_neg hz]
    have e1 : (⟨[], [], decide (ss.length = 0)⟩ : GD) = G0 := by rw [decide_eq_false hz]; rfl
    rw [e1]
    exact gfrom_all ss G0 0 hb
/-! what all entries say -/
theorem bget_put (e : zK) : ∀ (B : List zK), bget B e.s = some e → bput B e = B
  | [], h => by cases h
  | x :: r, h => by
    unfold bget at h
    unfold bput
    split
    · rename_i hs
      rw [if_pos hs] at h
      rw [Option.some.inj h]
    · rename_i hs
      rw [if_neg hs] at h
      rw [bget_put e r h]
theorem bget_new (e : zK) : ∀ (B : List zK), bget B e.s = none → bput B e = B ++ [e]
  | [], h => rfl
  | x :: r, h => by
    unfold bget at h
    unfold bput
    split
    · rename_i hs
      rw [if_pos hs] at h
      cases h
    · rename_i hs
      rw [if_neg hs] at h
      rw [bget_new e r h]
      rfl
theorem bget_append : ∀ (A B : List zK) (j : Int), bget (A ++ B) j = (bget A j).or (bget B j)
  | [], B, j => by simp [bget]
  | x :: r, B, j => by
    simp only [List.cons_append, bget]
    split
    · rfl
    · exact bget_append r B j
theorem hadP_append : ∀ (A B : List zK) (e : zK), hadP (A ++ B) e = (hadP A e || hadP B e)
  | [], B, e => by simp [hadP]
  | x :: r, B, e => by simp only [List.cons_append, hadP]; rw [hadP_append r B e, Bool.or_assoc]
theorem clashP_append : ∀ (A B : List zK) (e : zK), vN (A ++ B) e = (vN A e || vN B e)
  | [], B, e => by simp [vN]
  | x :: r, B, e => by simp only [List.cons_append, vN]; rw [clashP_append r B e, Bool.or_assoc]
theorem deadR_append : ∀ (A B : List zK) (j : Int), deadR (A ++ B) j = (deadR A j || deadR B j)
  | [], B, e => by simp [deadR]
  | x :: r, B, e => by simp only [List.cons_append, deadR]; rw [deadR_append r B e, Bool.or_assoc]
theorem vfind_append : ∀ (A B : List zK) (j w : Int), vfind (A ++ B) j w = (vfind A j w || vfind B j w)
  | [], B, j, w => by simp [vfind]
  | x :: r, B, j, w => by simp only [List.cons_append, vfind]; rw [vfind_append r B j w, Bool.or_assoc]
/-- what a gathering of entries P knows -/
structure Knows (P : List zK) (g : GD) : Prop where
  had : ∀ e : zK, e.k = 1 → hadP P e = (bget g.born e.s).isSome
  clash : ∀ e : zK, e.k = 1 → vN P e = g.clash e
  dead : ∀ j, 0 ≤ (dget g.dead j).getD 0 ∧ (deadR P j = decide ((dget g.dead j).getD 0 > 0))
  vert : ∀ j w, vfind P j w = match bget g.born j with
    | some x => decide (x.y = w)
    | none => false
  one : ∀ e ∈ g.born, e.k = 1
theorem Knows.start : Knows [] G0 := ⟨fun e _ => rfl, fun e _ => rfl, fun j => ⟨Int.le_refl 0, rfl⟩, fun j w => rfl, fun e he => by cases he⟩
theorem hadP_one (x e : zK) (hk : e.k = 1) (hx : x.k = 1) : hadP [x] e = decide (x.s = e.s) := by
  simp [hadP, hk, hx]
theorem clashP_one (x e : zK) (hk : e.k = 1) (hx : x.k = 1) : vN [x] e = (decide (x.s = e.s) && !decide (x = e)) := by
  simp [vN, hk, hx]
theorem Knows.birth {P : List zK} {g : GD} (h : Knows P g) {e : zK} (hk : e.k = 1) (hc : vN P e = false) : Knows (P ++ [e]) (gput g e) ∧ (gput g e).bad = g.bad ∧ (gput g e).born = if hadP P e = true then g.born else g.born ++ [e] := by
  have hgc := h.clash e hk
  rw [hc] at hgc
  have hb : (gput g e).bad = g.bad := by unfold gput; rw [if_pos hk]; simp [← hgc]
  have hd : (gput g e).dead = g.dead := by unfold gput; rw [if_pos hk]
  have hbo : (gput g e).born = if hadP P e = true then g.born else g.born ++ [e] := by
    unfold gput
    rw [if_pos hk, h.had e hk]
    unfold GD.clash at hgc
    cases hbg : bget g.born e.s with
    | none => simpa using bget_new e _ hbg
    | some x =>
      rw [hbg] at hgc
      simp only [Bool.false_eq, Bool.not_eq_false', decide_eq_true_eq] at hgc
      subst hgc
      simpa using bget_put x _ hbg
  have hget : ∀ j, bget (gput g e).born j = (bget g.born j).or (if e.s = j then some e else none) := fun j => by
    rw [hbo, h.had e hk]
    cases hbg : bget g.born e.s with
    | none =>
      simp only [Option.isSome_none, Bool.false_eq_true, if_false]
      rw [bget_append]
      rfl
    | some x =>
      simp only [Option.isSome_some, if_true]
      by_cases hj : e.s = j
      · subst hj
        rw [hbg]
        rfl
      · rw [if_neg hj, Option.or_none]
  refine ⟨⟨fun d hdk => ?_, fun d hdk => ?_, fun j => ?_, fun j w => ?_, ?_⟩, hb, hbo⟩
  · rw [hadP_append, h.had d hdk, hget, hadP_one e d hdk hk]
    by_cases hs : e.s = d.s
    · rw [if_pos hs, decide_eq_true hs]; cases bget g.born d.s <;> rfl
    · rw [if_neg hs, decide_eq_false hs]; cases bget g.born d.s <;> rfl
  · rw [clashP_append, h.clash d hdk, clashP_one e d hdk hk]
    unfold GD.clash
    rw [hget]
    by_cases hs : e.s = d.s
    · rw [if_pos hs, decide_eq_true hs]
      have hge := hgc
      unfold GD.clash at hge
      rw [hs] at hge
      cases hbg : bget g.born d.s with
      | none => simp
      | some x =>
        rw [hbg] at hge
        simp only [Bool.false_eq, Bool.not_eq_false', decide_eq_true_eq] at hge
        subst hge
        simp
    · rw [if_neg hs, decide_eq_false hs]; cases bget g.born d.s <;> simp
  · rw [hd, deadR_append]
    refine ⟨(h.dead j).1, ?_⟩
    rw [(h.dead j).2]
    simp [deadR, hk]
  · rw [vfind_append, h.vert j w, hget]
    have hv1 : vfind [e] j w = (decide (e.s = j) && decide (e.y = w)) := by simp [vfind, hk]
    rw [hv1]
    by_cases hs : e.s = j
    · rw [if_pos hs, decide_eq_true hs]
      have hge := hgc
      unfold GD.clash at hge
      rw [hs] at hge
      cases hbg : bget g.born j with
      | none => simp
      | some x =>
        rw [hbg] at hge
        simp only [Bool.false_eq, Bool.not_eq_false', decide_eq_true_eq] at hge
        subst hge
        simp
    · rw [if_neg hs, decide_eq_false hs]; cases bget g.born j <;> simp
  · rw [hbo]
    intro d hd'
    split at hd'
    · exact h.one d hd'
    · rcases List.mem_append.1 hd' with hd' | hd'
      · exact h.one d hd'
      · rw [List.mem_singleton] at hd'; subst hd'; exact hk
theorem Knows.death {P : List zK} {g : GD} (h : Knows P g) {e : zK} (hk : e.k = 2) : Knows (P ++ [e]) (gput g e) ∧ (gput g e).bad = g.bad ∧ (gput g e).born = g.born := by
  have hn1 : ¬ e.k = 1 := by omega
  have hg : gput g e = { g with dead := dset g.dead e.s ((dget g.dead e.s).getD 0 + 1) } := by unfold gput; rw [if_neg hn1, if_pos hk]
  rw [hg]
  refine ⟨⟨fun d hdk => ?_, fun d hdk => ?_, fun j => ?_, fun j w => ?_, h.one⟩, rfl, rfl⟩
  · rw [hadP_append, h.had d hdk]; simp [hadP, hn1]
  · rw [clashP_append, h.clash d hdk]; simp [vN, hn1, GD.clash]
  · show 0 ≤ (dget (dset g.dead e.s ((dget g.dead e.s).getD 0 + 1)) j).getD 0 ∧ deadR (P ++ [e]) j = decide ((dget (dset g.dead e.s ((dget g.dead e.s).getD 0 + 1)) j).getD 0 > 0)
    have hj := h.dead j
    have hs := h.dead e.s
    rw [dget_set, deadR_append]
    have hd1 : deadR [e] j = decide (e.s = j) := by simp [deadR, hk]
    rw [hd1]
    by_cases hsj : e.s = j
    · rw [if_pos hsj, decide_eq_true hsj, Bool.or_true]
      refine ⟨?_, ?_⟩
      · show 0 ≤ (dget g.dead e.s).getD 0 + 1
        omega
      · show true = decide ((dget g.dead e.s).getD 0 + 1 > 0)
        rw [decide_eq_true (by omega)]
    · rw [if_neg hsj, decide_eq_false hsj, Bool.or_false]
      exact hj
  · rw [vfind_append, h.vert j w]; simp [vfind, hn1]
theorem lives_eq {l : List zK} {g : GD} (h : Knows l g) {e : zK} (he : e.k = 1) : livesR l e = g.live e := by
  have hv : ∀ j u, vertR l j u = g.vert j u := fun j u => by
    unfold vertR GD.vert
    rw [h.vert j, (h.dead j).2]
    have h0 := (h.dead j).1
    cases bget g.born j with
    | none => simp
    | some x =>
      simp only []
      congr 1
      by_cases hz : (dget g.dead j).getD 0 = 0
      · rw [decide_eq_true hz, decide_eq_false (by omega)]; rfl
      · rw [decide_eq_false hz, decide_eq_true (by omega)]; rfl
  unfold livesR GD.live
  rw [hv, hv, (h.dead e.s).2, decide_eq_true he, Bool.true_and]
end Go.Proofs.YtomlhekjgagjaaaDoor
/- The document's answer: Few and Same; contracts. -/
namespace Go.Proofs.YtomlhekjgagjaaaDoor
set_option maxRecDepth 100000
set_option maxHeartbeats 16000000
open Go Go.RowKit
set_option linter.unusedSimpArgs false
set_option linter.unusedVariables false
attribute [local irreducible] zZ zY Step zB Sub zN zU Fn
def strsW (ss : List (List Int)) : PV := .sl (ss.map fun s => .sl (byts s))
def fewL (ss : List (List Int)) : Bool := decide (ss.length ≤ 8) && decide (total ss ≤ 3000)
def fwS (ss : List (List Int)) (i : Nat) : AS := { t := [(0, .p (strsW ss)), (3, .p (.val (.int .i64 (total (ss.take i) : Nat)))), (4, .p (.val (.int .i64 (i : Nat))))], s := [] }
def smS (A B : List zK) (i : Nat) : AS := { t := [(0, .p (.sl (A.map zK.V))), (1, .p (.sl (B.map zK.V))), (5, .p (.val (.int .i64 (i : Nat))))], s := [] }
theorem entV_inj {a b : zK} (h : a.V = b.V) : a = b := by
  obtain ⟨k, s, y, u, v, x⟩ := a
  obtain ⟨k', s', y', u', v', x'⟩ := b
  simp only [zK.V, entV, PV.agg.injEq, List.cons.injEq, PV.val.injEq, Value.int.injEq, true_and, and_true] at h
  simp [h]
theorem same_fn (A B : List zK) (hA : A.length ≤ 1000000) (hB : B.length ≤ 1000000) (r : Bool) (hr : r = true ↔ A = B) : Fn Tryd.prog 14 [.sl (A.map zK.V), .sl (B.map zK.V)] (.p (.val (.bool r))) := by
 have hlA : (A.map zK.V).length = A.length := by rw [List.length_map]
 have hlB : (B.map zK.V).length = B.length := by rw [List.length_map]
 have hcA := yR A
 have hcB := yR B
 refine qX Tryd.func14 rfl Tryd.ntmps14 (Nat.le_of_ble_eq_true rfl) ?_
 by_cases hl : A.length = B.length
 case neg =>
  have c1 : (!decide ((((A.map zK.V).length : Nat) : Int) = (((B.map zK.V).length : Nat) : Int))) = true := by rw [decide_eq_false (by rw [hlA, hlB]; omega)]; rfl
  have hr' : r = false := Bool.eq_false_iff.2 fun h => hl (by rw [hr.1 h])
  subst hr'
  repeat' (first | (refine zY.is ?_; first | refine zY.seq ?_ | (refine zY.isR (id := 0) ?_; refine zY.zJ [0, 1] [] (by repeat' first | exact zV.nil | apply zV.p rfl) (by repeat' exact zQ.nil) ?_; (refine zZ.v rfl rfl (zW rfl rfl rfl (by decide)) ?_); refine zZ.nil ?_) | (refine zY.isR (id := 1) ?_; refine zY.zJ [0, 1, 4] [] (by repeat' first | exact zV.nil | apply zV.p rfl) (by repeat' exact zQ.nil) ?_; (refine zZ.v rfl rfl (zX rfl rfl rfl (by decide)) ?_); (refine zZ.v rfl rfl (y5 rfl rfl rfl (by decide)) ?_); (refine zZ.v rfl rfl (zX rfl rfl rfl (by decide)) ?_); (refine zZ.v rfl rfl (y5 rfl rfl rfl (by decide)) ?_); (refine zZ.v rfl rfl (by exact vT rfl rfl rfl (by exact c1) rfl (by decide)) ?_); refine zZ.nil ?_) | (refine zY.isR (id := 2) ?_; refine zY.zJ [0, 1, 4] [] (by repeat' first | exact zV.nil | apply zV.p rfl) (by repeat' exact zQ.nil) ?_; (refine zZ.v rfl rfl (zW rfl rfl rfl (by decide)) ?_); refine zZ.nil ?_) | refine zY.yA rfl (by first | assumption | with_reducible rfl) ?_ | refine zY.ret ?_) | refine zH.r ?_)
  all_goals exact ⟨.inl rfl, gives1 rfl rfl rfl⟩
 case pos =>
  have c1 : (!decide ((((A.map zK.V).length : Nat) : Int) = (((B.map zK.V).length : Nat) : Int))) = false := by rw [decide_eq_true (by rw [hlA, hlB]; omega)]; rfl
  repeat' ((refine zY.is ?_; first | refine zY.seq ?_ | (refine zY.isR (id := 0) ?_; refine zY.zJ [0, 1] [] (by repeat' first | exact zV.nil | apply zV.p rfl) (by repeat' exact zQ.nil) ?_; (refine zZ.v rfl rfl (zW rfl rfl rfl (by decide)) ?_); refine zZ.nil ?_) | (refine zY.isR (id := 1) ?_; refine zY.zJ [0, 1, 4] [] (by repeat' first | exact zV.nil | apply zV.p rfl) (by repeat' exact zQ.nil) ?_; (refine zZ.v rfl rfl (zX rfl rfl rfl (by decide)) ?_); (refine zZ.v rfl rfl (y5 rfl rfl rfl (by decide)) ?_); (refine zZ.v rfl rfl (zX rfl rfl rfl (by decide)) ?_); (refine zZ.v rfl rfl (y5 rfl rfl rfl (by decide)) ?_); (refine zZ.v rfl rfl (by exact vT rfl rfl rfl (by exact c1) rfl (by decide)) ?_); refine zZ.nil ?_) | (refine zY.isR (id := 3) ?_; refine zY.zJ [0, 1, 4] [] (by repeat' first | exact zV.nil | apply zV.p rfl) (by repeat' exact zQ.nil) ?_; (refine zZ.v rfl rfl (zW rfl rfl rfl (by decide)) ?_); refine zZ.nil ?_) | refine zY.yC rfl (by first | assumption | with_reducible rfl) ?_ | refine zY.skip ?_ | refine zY.block ?_))
  refine zY.loop (smS A B) (fun i => i ≤ A.length ∧ A.take i = B.take i) (fun i => A.length - i) 0 ?h0 ⟨Nat.zero_le _, rfl⟩ ?rd
  case h0 =>
   unfold smS
   exact zD K_22 []
  case rd =>
   intro i ⟨hi, htk⟩
   have g3 : IntKind.i64.wrap (((i : Nat) : Int) + 1) = ((i + 1 : Nat) : Int) := by rw [wrap_i64 _ (by omega)]; omega
   unfold smS
   by_cases hlt : i < A.length
   case pos =>
    have g1 : decide (((i : Nat) : Int) < (((A.map zK.V).length : Nat) : Int)) = true := decide_eq_true (by rw [hlA]; omega)
    obtain ⟨a, ha⟩ : ∃ a, A[i]? = some a := ⟨_, List.getElem?_eq_getElem hlt⟩
    obtain ⟨b, hb⟩ : ∃ b, B[i]? = some b := ⟨_, List.getElem?_eq_getElem (by omega)⟩
    have g2 : (A.map zK.V)[i]? = some a.V := by rw [List.getElem?_map, ha]; rfl
    have g4 : (B.map zK.V)[i]? = some b.V := by rw [List.getElem?_map, hb]; rfl
    obtain ⟨ak, as', ay, au, av, ax⟩ := a
    obtain ⟨bk', bs, by', bu, bv, bx⟩ := b
    by_cases hab : (⟨ak, as', ay, au, av, ax⟩ : zK) = ⟨bk', bs, by', bu, bv, bx⟩
    case pos =>
     have htk' : A.take (i + 1) = B.take (i + 1) := by rw [List.take_add_one, List.take_add_one, ha, hb, htk, hab]
     clear ha hb
     cases hab
     have c7 : (!decide ([(IntKind.i64, ak), (IntKind.u64, as'), (IntKind.u64, ay), (IntKind.u64, au), (IntKind.u64, av), (IntKind.u64, ax)] = [(IntKind.i64, ak), (IntKind.u64, as'), (IntKind.u64, ay), (IntKind.u64, au), (IntKind.u64, av), (IntKind.u64, ax)])) = false := by rw [decide_eq_true rfl]; rfl
     repeat' (first | (refine zY.is ?_; first | refine zY.seq ?_ | (refine zY.isR (id := 4) ?_; refine zY.zJ [0, 1, 4, 5, 14, 25] [] (by repeat' first | exact zV.nil | apply zV.p rfl | apply zV.skip) (by repeat' exact zQ.nil) ?_; (refine zZ.v rfl rfl (zX rfl rfl rfl (by decide)) ?_); (refine zZ.v rfl rfl (zX rfl rfl rfl (by decide)) ?_); (refine zZ.v rfl rfl (y5 rfl rfl rfl (by decide)) ?_); (refine zZ.v rfl rfl (by exact zT rfl rfl rfl (by exact g1) rfl (by decide)) ?_); refine zZ.nil ?_) | (refine zY.isR (id := 6) ?_; refine zY.xG [0, 1, 4, 5, 14, 25] [] (by repeat' first | exact zV.nil | apply zV.p rfl | apply zV.skip) (by repeat' exact zQ.nil) (zY.draws ?_); all_goals (refine Draws.v rfl rfl (zX rfl rfl rfl (by decide)) ?_); all_goals (refine Draws.v rfl rfl (zX rfl rfl rfl (by decide)) ?_); all_goals (refine Draws.v rfl rfl (by exact yZ rfl rfl rfl (by exact hcA) (by exact g2) rfl (by decide)) ?_); all_goals (refine Draws.v rfl rfl (by exact xK rfl rfl (by exact Nat.le_of_ble_eq_true rfl) rfl (by decide)) ?_); all_goals (refine Draws.v rfl rfl (zX rfl rfl rfl (by decide)) ?_); all_goals (refine Draws.v rfl rfl (zX rfl rfl rfl (by decide)) ?_); all_goals (refine Draws.v rfl rfl (by exact yZ rfl rfl rfl (by exact hcB) (by exact g4) rfl (by decide)) ?_); all_goals (refine Draws.v rfl rfl (by exact xK rfl rfl (by exact Nat.le_of_ble_eq_true rfl) rfl (by decide)) ?_); all_goals (refine Draws.v rfl rfl (by exact r_neqT rfl rfl rfl rfl rfl rfl (by rfl) (by exact c7) rfl (by decide)) ?_); all_goals ((refine Draws.done (by kernel_rfl) (by kernel_rfl) (by kernel_rfl) ?_; refine zN.nil ?_))) | (refine zY.isR (id := 5) ?_; refine zY.zJ [0, 1, 4, 5, 14, 25] [] (by repeat' first | exact zV.nil | apply zV.p rfl | apply zV.skip) (by repeat' exact zQ.nil) ?_; (refine zZ.v rfl rfl (zX rfl rfl rfl (by decide)) ?_); (refine zZ.v rfl rfl (by exact yF rfl rfl rfl (by exact g3) rfl (by decide)) ?_); (refine zZ.v rfl rfl (zW rfl rfl rfl (by decide)) ?_); refine zZ.nil ?_) | refine zY.yA rfl (by first | assumption | with_reducible rfl) ?_ | refine zY.yC rfl (by first | assumption | with_reducible rfl) ?_ | refine zY.skip ?_ | refine zY.block ?_) | refine zH.n ?_)
     all_goals
      refine ⟨i + 1, ?_, ⟨hlt, htk'⟩, by omega⟩
      try unfold smS
      exact zD K_22 []
    case neg =>
     have c7 : (!decide ([(IntKind.i64, ak), (IntKind.u64, as'), (IntKind.u64, ay), (IntKind.u64, au), (IntKind.u64, av), (IntKind.u64, ax)] = [(IntKind.i64, bk'), (IntKind.u64, bs), (IntKind.u64, by'), (IntKind.u64, bu), (IntKind.u64, bv), (IntKind.u64, bx)])) = true := by
      rw [decide_eq_false (fun h => hab (by simp only [List.cons.injEq, Prod.mk.injEq, true_and, and_true] at h; simp only [zK.mk.injEq]; exact h))]; rfl
     have hr' : r = false := Bool.eq_false_iff.2 fun h => hab (by
      have e := hr.1 h
      subst e
      rw [ha] at hb
      exact Option.some.inj hb)
     subst hr'
     repeat' (first | (refine zY.is ?_; first | refine zY.seq ?_ | (refine zY.isR (id := 4) ?_; refine zY.zJ [0, 1, 4, 5, 14, 25] [] (by repeat' first | exact zV.nil | apply zV.p rfl | apply zV.skip) (by repeat' exact zQ.nil) ?_; (refine zZ.v rfl rfl (zX rfl rfl rfl (by decide)) ?_); (refine zZ.v rfl rfl (zX rfl rfl rfl (by decide)) ?_); (refine zZ.v rfl rfl (y5 rfl rfl rfl (by decide)) ?_); (refine zZ.v rfl rfl (by exact zT rfl rfl rfl (by exact g1) rfl (by decide)) ?_); refine zZ.nil ?_) | (refine zY.isR (id := 6) ?_; refine zY.xG [0, 1, 4, 5, 14, 25] [] (by repeat' first | exact zV.nil | apply zV.p rfl | apply zV.skip) (by repeat' exact zQ.nil) (zY.draws ?_); all_goals (refine Draws.v rfl rfl (zX rfl rfl rfl (by decide)) ?_); all_goals (refine Draws.v rfl rfl (zX rfl rfl rfl (by decide)) ?_); all_goals (refine Draws.v rfl rfl (by exact yZ rfl rfl rfl (by exact hcA) (by exact g2) rfl (by decide)) ?_); all_goals (refine Draws.v rfl rfl (by exact xK rfl rfl (by exact Nat.le_of_ble_eq_true rfl) rfl (by decide)) ?_); all_goals (refine Draws.v rfl rfl (zX rfl rfl rfl (by decide)) ?_); all_goals (refine Draws.v rfl rfl (zX rfl rfl rfl (by decide)) ?_); all_goals (refine Draws.v rfl rfl (by exact yZ rfl rfl rfl (by exact hcB) (by exact g4) rfl (by decide)) ?_); all_goals (refine Draws.v rfl rfl (by exact xK rfl rfl (by exact Nat.le_of_ble_eq_true rfl) rfl (by decide)) ?_); all_goals (refine Draws.v rfl rfl (by exact r_neqT rfl rfl rfl rfl rfl rfl (by rfl) (by exact c7) rfl (by decide)) ?_); all_goals ((refine Draws.done (by kernel_rfl) (by kernel_rfl) (by kernel_rfl) ?_; refine zN.nil ?_))) | (refine zY.isR (id := 7) ?_; refine zY.zJ [0, 1, 4, 5, 14, 25] [] (by repeat' first | exact zV.nil | apply zV.p rfl | apply zV.skip) (by repeat' exact zQ.nil) ?_; (refine zZ.v rfl rfl (zW rfl rfl rfl (by decide)) ?_); refine zZ.nil ?_) | refine zY.yA rfl (by first | assumption | with_reducible rfl) ?_ | refine zY.skip ?_ | refine zY.block ?_ | refine zY.ret ?_) | refine zH.r ?_ | refine zR.r ?_)
     all_goals exact ⟨.inl rfl, gives1 rfl rfl rfl⟩
   case neg =>
    have g1 : decide (((i : Nat) : Int) < (((A.map zK.V).length : Nat) : Int)) = false := decide_eq_false (by rw [hlA]; omega)
    have hr' : r = true := hr.2 (by rw [List.take_of_length_le (by omega), List.take_of_length_le (by omega)] at htk; exact htk)
    subst hr'
    repeat' ((refine zY.is ?_; first | refine zY.seq ?_ | (refine zY.isR (id := 4) ?_; refine zY.zJ [0, 1, 4, 5, 14, 25] [] (by repeat' first | exact zV.nil | apply zV.p rfl | apply zV.skip) (by repeat' exact zQ.nil) ?_; (refine zZ.v rfl rfl (zX rfl rfl rfl (by decide)) ?_); (refine zZ.v rfl rfl (zX rfl rfl rfl (by decide)) ?_); (refine zZ.v rfl rfl (y5 rfl rfl rfl (by decide)) ?_); (refine zZ.v rfl rfl (by exact zT rfl rfl rfl (by exact g1) rfl (by decide)) ?_); refine zZ.nil ?_) | (refine zY.isR (id := 8) ?_; refine zY.zJ [4] [] (by repeat' first | exact zV.nil | apply zV.skip) (by repeat' exact zQ.nil) ?_; (refine zZ.v rfl rfl (zW rfl rfl rfl (by decide)) ?_); refine zZ.nil ?_) | refine zY.yC rfl (by first | assumption | with_reducible rfl) ?_ | refine zY.exit ?_ | refine zY.ret ?_))
    all_goals exact ⟨.inl rfl, gives1 rfl rfl rfl⟩
end Go.Proofs.YtomlhekjgagjaaaDoor
/- Streams of entries' frames, told again; heads that stand wrong; plain. -/
namespace Go.Proofs.YtomlhekjgagjaaaDoor
set_option maxRecDepth 100000
set_option maxHeartbeats 16000000
open Go Go.RowKit
set_option linter.unusedSimpArgs false
set_option linter.unusedVariables false
theorem decE_enc {e : zK} (ho : e.ok) (hm : e.may = true) : decE e.enc = some e := by
  have h := dec_enc ho.s.1 ho.s.2 ho.y.1 ho.y.2 ho.u.1 ho.u.2 ho.v.1 ho.v.2 ho.x.1 ho.x.2 hm
  have h : decR e.enc = [e.V, .val (.int .i64 0)] := h
  cases hd : decE e.enc with
  | none =>
    rw [decR_none hd] at h
    unfold decBad at h
    simp at h
  | some x =>
    rw [decR_some hd] at h
    have h1 : x.V = e.V := by
      injection h
    rw [entV_inj h1]
theorem rowsOf_cat (bs : List (List Int)) (h : ∀ b ∈ bs, putOk b) : rowsOf (catF bs) = bs := by
  unfold rowsOf
  rw [framesOf_cat bs h, endsF_rows]
theorem catE_may : ∀ (L : List zK), (∀ e ∈ L, e.may = true) → xV L = catF (L.map zK.enc)
  | [], _ => rfl
  | e :: r, h => by
    rw [catE_cons, List.map_cons, catF_cons, catE_may r fun x hx => h x (by simp [hx]), entF_may, if_pos (h e (by simp))]
theorem decs_enc : ∀ (L : List zK), (∀ e ∈ L, e.ok ∧ e.may = true) → decs (L.map zK.enc) = (L, true)
  | [], _ => rfl
  | e :: r, h => by
    have h1 := h e (by simp)
    rw [List.map_cons]
    unfold decs
    rw [decE_enc h1.1 h1.2]
    simp only []
    rw [decs_enc r fun x hx => h x (by simp [hx])]
theorem enc_put (e : zK) : putOk e.enc := by
  have := enc_len e
  constructor <;> (rw [this]; split <;> omega)
theorem entsOf_cat (L : List zK) (h : ∀ e ∈ L, e.ok ∧ e.may = true) : wC (xV L) = (L, true) := by
  unfold wC
  rw [catE_may L fun e he => (h e he).2, rowsOf_cat _ (fun b hb => by obtain ⟨e, _, rfl⟩ := List.mem_map.1 hb; exact enc_put e), decs_enc L h]
theorem stream0 (L : List zK) (h : ∀ e ∈ L, e.ok ∧ e.may = true) : yQ 0 (xV L) = headOf L := by
  unfold yQ
  rw [entsOf_cat L h]
  rfl
theorem streamN (i : Nat) (L : List zK) (h : ∀ e ∈ L, e.ok ∧ e.may = true) : yQ (i + 1) (xV L) = (L, true) := by
  unfold yQ
  rw [entsOf_cat L h, if_neg (fun e => by have := e.1; omega)]
theorem catE_range {L : List zK} (h : ∀ e ∈ L, e.ok) : xX (xV L) := fun x hx => by
  obtain ⟨e, he, hx⟩ := List.mem_flatMap.1 hx
  rw [entF_may] at hx
  split at hx
  · exact putF_range (enc_bytes (h e he)) x hx
  · cases hx
/-- how many births stand ahead -/
def leads : List zK → Nat
  | [] => 0
  | e :: r => if e.k = 1 then leads r + 1 else 0
end Go.Proofs.YtomlhekjgagjaaaDoor
/- What lives hangs on which entries there are, not on their order; plain. -/
namespace Go.Proofs.YtomlhekjgagjaaaDoor
set_option maxRecDepth 100000
set_option maxHeartbeats 16000000
open Go Go.RowKit
set_option linter.unusedSimpArgs false
set_option linter.unusedVariables false
theorem hadP_iff : ∀ (P : List zK) (e : zK), hadP P e = true ↔ e.k = 1 ∧ ∃ x ∈ P, x.k = 1 ∧ x.s = e.s
  | [], e => by simp [hadP]
  | x :: r, e => by
    unfold hadP
    rw [Bool.or_eq_true, hadP_iff r e]
    simp only [Bool.and_eq_true, decide_eq_true_eq, List.mem_cons, exists_eq_or_imp]
    constructor
    · rintro (⟨⟨a, b⟩, c⟩ | ⟨a, b⟩)
      · exact ⟨a, .inl ⟨b, c⟩⟩
      · exact ⟨a, .inr b⟩
    · rintro ⟨a, b | b⟩
      · exact .inl ⟨⟨a, b.1⟩, b.2⟩
      · exact .inr ⟨a, b⟩
theorem clashP_iff : ∀ (P : List zK) (e : zK), vN P e = true ↔ e.k = 1 ∧ ∃ x ∈ P, x.k = 1 ∧ x.s = e.s ∧ x ≠ e
  | [], e => by simp [vN]
  | x :: r, e => by
    unfold vN
    rw [Bool.or_eq_true, clashP_iff r e]
    simp only [Bool.and_eq_true, decide_eq_true_eq, List.mem_cons, exists_eq_or_imp, Bool.not_eq_true', decide_eq_false_iff_not]
    constructor
    · rintro (⟨⟨⟨a, b⟩, c⟩, d⟩ | ⟨a, b⟩)
      · exact ⟨a, .inl ⟨b, c, d⟩⟩
      · exact ⟨a, .inr b⟩
    · rintro ⟨a, b | b⟩
      · exact .inl ⟨⟨⟨a, b.1⟩, b.2.1⟩, b.2.2⟩
      · exact .inr ⟨a, b⟩
theorem deadR_iff : ∀ (P : List zK) (j : Int), deadR P j = true ↔ ∃ x ∈ P, x.k = 2 ∧ x.s = j
  | [], j => by simp [deadR]
  | x :: r, j => by
    unfold deadR
    rw [Bool.or_eq_true, deadR_iff r j]
    simp only [Bool.and_eq_true, decide_eq_true_eq, List.mem_cons, exists_eq_or_imp]
theorem vfind_iff : ∀ (P : List zK) (j w : Int), vfind P j w = true ↔ ∃ x ∈ P, x.k = 1 ∧ x.s = j ∧ x.y = w
  | [], j, w => by simp [vfind]
  | x :: r, j, w => by
    unfold vfind
    rw [Bool.or_eq_true, vfind_iff r j w]
    simp only [Bool.and_eq_true, decide_eq_true_eq, List.mem_cons, exists_eq_or_imp, and_assoc]
def NoClash (P : List zK) : Prop := ∀ a ∈ P, ∀ b ∈ P, a.k = 1 → b.k = 1 → a.s = b.s → a = b
structure Births (P B : List zK) : Prop where
  mem : ∀ e, e ∈ B ↔ e ∈ P ∧ e.k = 1
  once : (B.map (·.s)).Nodup
theorem Births.start : Births [] [] := ⟨by simp, by simp⟩
/-- the gathering's way along entries -/
theorem says_way : ∀ (r P : List zK) (g : GD), Knows P g → Births P g.born → NoClash P → g.bad = false → (∀ e ∈ r, e.k = 1 ∨ e.k = 2) →
    ((r.foldl gput g).bad = false → Knows (P ++ r) (r.foldl gput g) ∧ Births (P ++ r) (r.foldl gput g).born ∧ NoClash (P ++ r)) ∧ ((r.foldl gput g).bad = true → ¬ NoClash (P ++ r))
  | [], P, g, h, hB, hN, hb, _ => by
    rw [List.append_nil]
    exact ⟨fun _ => ⟨h, hB, hN⟩, fun h2 => by rw [List.foldl_nil, hb] at h2; cases h2⟩
  | e :: r, P, g, h, hB, hN, hb, hk => by
    have hk2 : ∀ d ∈ r, d.k = 1 ∨ d.k = 2 := fun d hd => hk d (by simp [hd])
    have e0 : P ++ e :: r = (P ++ [e]) ++ r := by simp
    rw [List.foldl_cons, e0]
    rcases hk e (by simp) with h1 | h2
    · cases hc : vN P e
      · obtain ⟨hk', hb', hbo⟩ := h.birth h1 hc
        have hnc : ∀ x ∈ P, x.k = 1 → x.s = e.s → x = e := fun x hx hx1 hxs => Classical.byContradiction fun hne => by
          have := (clashP_iff P e).2 ⟨h1, x, hx, hx1, hxs, hne⟩
          rw [hc] at this
          cases this
        refine says_way r (P ++ [e]) (gput g e) hk' ?_ ?_ (by rw [hb', hb]) hk2
        · rw [hbo]
          cases hh : hadP P e
          · have hno : ∀ x ∈ P, x.k = 1 → x.s ≠ e.s := fun x hx hx1 hxs => by
              have := (hadP_iff P e).2 ⟨h1, x, hx, hx1, hxs⟩
              rw [hh] at this
              cases this
            rw [if_neg (by decide)]
            refine ⟨fun d => ?_, ?_⟩
            · rw [List.mem_append, List.mem_append, hB.mem d, List.mem_singleton]
              constructor
              · rintro (h | rfl)
                · exact ⟨.inl h.1, h.2⟩
                · exact ⟨.inr rfl, h1⟩
              · rintro ⟨h | h, hd⟩
                · exact .inl ⟨h, hd⟩
                · exact .inr h
            · rw [List.map_append]
              refine List.pairwise_append.2 ⟨hB.once, by simp, fun a ha b hb2 => ?_⟩
              obtain ⟨x, hx, rfl⟩ := List.mem_map.1 ha
              simp only [List.map_cons, List.map_nil, List.mem_singleton] at hb2
              subst hb2
              have hx2 := (hB.mem x).1 hx
              exact hno x hx2.1 hx2.2
          · obtain ⟨_, x, hx, hx1, hxs⟩ := (hadP_iff P e).1 hh
            have hxe := hnc x hx hx1 hxs
            subst hxe
            rw [if_pos rfl]
            refine ⟨fun d => ?_, hB.once⟩
            rw [hB.mem d, List.mem_append, List.mem_singleton]
            constructor
            · exact fun h => ⟨.inl h.1, h.2⟩
            · rintro ⟨h | rfl, hd⟩
              · exact ⟨h, hd⟩
              · exact ⟨hx, hd⟩
        · intro a ha b hb2 ha1 hb1 hs
          rcases List.mem_append.1 ha with ha' | ha' <;> rcases List.mem_append.1 hb2 with hb' | hb'
          · exact hN a ha' b hb' ha1 hb1 hs
          · have := List.mem_singleton.1 hb'
            rw [this] at hs ⊢
            exact hnc a ha' ha1 hs
          · have := List.mem_singleton.1 ha'
            rw [this] at hs ⊢
            exact (hnc b hb' hb1 hs.symm).symm
          · rw [List.mem_singleton.1 ha', List.mem_singleton.1 hb']
      · have hgc := h.clash e h1
        rw [hc] at hgc
        have hbad : (gput g e).bad = true := by unfold gput; rw [if_pos h1]; simp [← hgc]
        rw [gputs_bad r hbad]
        refine ⟨fun h => (by cases h), fun _ hno => ?_⟩
        obtain ⟨_, x, hx, hx1, hxs, hne⟩ := (clashP_iff P e).1 hc
        exact hne (hno x (by simp [hx]) e (by simp) hx1 h1 hxs)
    · obtain ⟨hk', hb', hbo⟩ := h.death h2
      refine says_way r (P ++ [e]) (gput g e) hk' ?_ ?_ (by rw [hb', hb]) hk2
      · rw [hbo]
        refine ⟨fun d => ?_, hB.once⟩
        rw [hB.mem d, List.mem_append, List.mem_singleton]
        constructor
        · exact fun h => ⟨.inl h.1, h.2⟩
        · rintro ⟨h | rfl, hd⟩
          · exact ⟨h, hd⟩
          · omega
      · intro a ha b hb2 ha1 hb1 hs
        rcases List.mem_append.1 ha with ha' | ha' <;> rcases List.mem_append.1 hb2 with hb' | hb'
        · exact hN a ha' b hb' ha1 hb1 hs
        · have := List.mem_singleton.1 hb'
          rw [this] at hb1
          omega
        · have := List.mem_singleton.1 ha'
          rw [this] at ha1
          omega
        · have := List.mem_singleton.1 ha'
          rw [this] at ha1
          omega
/-- what lives, of entries that are births and deaths -/
def liveM (l : List zK) (c : Int) : List zK × Int := if (l.foldl gput G0).bad = true then ([], 8) else liveF (l.foldl gput G0).lives c
theorem liveL_all {ss : List (List Int)} {l : List zK} (c : Int) (hb : ∀ s ∈ ss, xX s) (h : allR ss = some l) : liveL ss c = liveM l c := by
  have hg := gather_all ss hb
  rw [h] at hg
  unfold liveL liveM
  rcases hg with hg | ⟨h1, h2⟩
  · rw [hg]
  · rw [h1, h2, if_pos rfl, if_pos rfl]
theorem livesR_congr {l l' : List zK} (h : ∀ e, e ∈ l ↔ e ∈ l') (e : zK) : livesR l e = livesR l' e := by
  have hd : ∀ j, deadR l j = deadR l' j := fun j => Bool.eq_iff_iff.2 (by rw [deadR_iff, deadR_iff]; simp only [h])
  have hv : ∀ j w, vfind l j w = vfind l' j w := fun j w => Bool.eq_iff_iff.2 (by rw [vfind_iff, vfind_iff]; simp only [h])
  unfold livesR vertR
  rw [hd, hd, hd, hv, hv]
theorem liveF_perm {F F' : List zK} (h : F.Perm F') (c : Int) : liveF F c = liveF F' c := by
  have hn : (F.map (·.y)).Nodup ↔ (F'.map (·.y)).Nodup := (h.map (·.y)).nodup_iff
  unfold liveF
  by_cases hc : 0 ≤ c ∧ (F.length : Int) ≤ c ∧ (F.map (·.y)).Nodup
  · rw [if_pos hc, if_pos ⟨hc.1, by rw [← h.length_eq]; exact hc.2.1, hn.1 hc.2.2⟩]
    have hs : SortY (isort F) := by
      have h1 := List.pairwise_map.1 (((isort_perm F).symm.map (·.y)).nodup hc.2.2)
      exact (h1.and (isort_sorted F)).imp fun h => by have := h.1; have := h.2; omega
    rw [sort_uniq hs ((isort_perm F).trans h)]
  · rw [if_neg hc, if_neg (fun h2 => hc ⟨h2.1, by rw [h.length_eq]; exact h2.2.1, hn.2 h2.2.2⟩)]
theorem liveM_spec {l : List zK} (hk : ∀ e ∈ l, e.k = 1 ∨ e.k = 2) (hN : NoClash l) (c : Int) : ∃ B, Births l B ∧ liveM l c = liveF (B.filter (livesR l)) c := by
  have hw := says_way l [] G0 .start .start (fun a ha => by cases ha) rfl hk
  rw [List.nil_append] at hw
  cases hb : (l.foldl gput G0).bad
  · obtain ⟨hK, hB, _⟩ := hw.1 hb
    refine ⟨_, hB, ?_⟩
    unfold liveM GD.lives
    rw [hb, if_neg (by decide)]
    congr 1
    exact List.filter_congr fun e he => (lives_eq hK ((hB.mem e).1 he).2).symm
  · exact absurd hN (hw.2 hb)
theorem liveM_clash {l : List zK} (hk : ∀ e ∈ l, e.k = 1 ∨ e.k = 2) (hN : ¬ NoClash l) (c : Int) : liveM l c = ([], 8) := by
  have hw := says_way l [] G0 .start .start (fun a ha => by cases ha) rfl hk
  rw [List.nil_append] at hw
  cases hb : (l.foldl gput G0).bad
  · exact absurd (hw.1 hb).2.2 hN
  · unfold liveM
    rw [hb, if_pos rfl]
theorem liveM_congr {l l' : List zK} (hk : ∀ e ∈ l, e.k = 1 ∨ e.k = 2) (h : ∀ e, e ∈ l ↔ e ∈ l') (c : Int) : liveM l c = liveM l' c := by
  have hk' : ∀ e ∈ l', e.k = 1 ∨ e.k = 2 := fun e he => hk e ((h e).2 he)
  by_cases hN : NoClash l
  · have hN' : NoClash l' := fun a ha b hb => hN a ((h a).2 ha) b ((h b).2 hb)
    obtain ⟨B, hB, e1⟩ := liveM_spec hk hN c
    obtain ⟨B', hB', e2⟩ := liveM_spec hk' hN' c
    rw [e1, e2]
    have hp : B.Perm B' := by
      have n1 : B.Nodup := (List.pairwise_map.1 hB.once).imp fun h e => h (by rw [e])
      have n2 : B'.Nodup := (List.pairwise_map.1 hB'.once).imp fun h e => h (by rw [e])
      exact (List.perm_ext_iff_of_nodup n1 n2).2 fun e => by rw [hB.mem, hB'.mem, h]
    have hf : B'.filter (livesR l') = B'.filter (livesR l) := List.filter_congr fun e _ => (livesR_congr h e).symm
    rw [hf]
    exact liveF_perm (hp.filter _) c
  · have hN' : ¬ NoClash l' := fun h2 => hN fun a ha b hb => h2 a ((h a).1 ha) b ((h b).1 hb)
    rw [liveM_clash hk hN, liveM_clash hk' hN']
end Go.Proofs.YtomlhekjgagjaaaDoor
/- Streams behind a head of none: what they say; plain. -/
namespace Go.Proofs.YtomlhekjgagjaaaDoor
set_option maxRecDepth 100000
set_option maxHeartbeats 16000000
open Go Go.RowKit
set_option linter.unusedSimpArgs false
set_option linter.unusedVariables false
/-- entries that may be, births and deaths -/
def BD (L : List zK) : Prop := ∀ e ∈ L, e.ok ∧ e.may = true ∧ ¬ e.k = 3
theorem BD.no3 {L : List zK} (h : BD L) : no3 L = true := List.all_eq_true.2 fun e he => by simp [(h e he).2.2]
theorem BD.may {L : List zK} (h : BD L) : ∀ e ∈ L, e.ok ∧ e.may = true := fun e he => ⟨(h e he).1, (h e he).2.1⟩
theorem may_kind {e : zK} (h : e.may = true) : e.k = 1 ∨ e.k = 2 ∨ e.k = 3 := by
  unfold zK.may qA at h
  by_cases h1 : e.k = 1
  · exact .inl h1
  · by_cases h2 : e.k = 2
    · exact .inr (.inl h2)
    · by_cases h3 : e.k = 3
      · exact .inr (.inr h3)
      · rw [if_neg h1, if_neg h2, if_neg h3] at h
        cases h
theorem BD.kinds {L : List zK} (h : BD L) : ∀ e ∈ L, e.k = 1 ∨ e.k = 2 := fun e he => by
  have h1 := h e he
  rcases may_kind h1.2.1 with h2 | h2 | h2
  · exact .inl h2
  · exact .inr h2
  · exact absurd h2 h1.2.2
theorem head0_ok : (wQ 0).ok ∧ (wQ 0).may = true := by
  have z : U 0 := ⟨by decide, by decide⟩
  exact ⟨⟨z, z, z, z, z⟩, rfl⟩
theorem BD.head {L : List zK} (h : BD L) : ∀ e ∈ wQ 0 :: L, e.ok ∧ e.may = true := fun e he => by
  rcases List.mem_cons.1 he with rfl | he
  · exact head0_ok
  · exact h.may e he
theorem BD.bytes {L : List zK} (h : BD L) : xX (xV L) := catE_range fun e he => (h e he).1
theorem headBytes {L : List zK} (h : BD L) : xX (xV (wQ 0 :: L)) := catE_range fun e he => (h.head e he).1
theorem stream_one {L : List zK} (i : Nat) (h : BD L) : streamR (i + 1) (xV L) = some L := by
  rw [stream_eq _ h.bytes, streamN i L h.may, h.no3]
  rfl
theorem stream_head {L : List zK} (h : BD L) : streamR 0 (xV (wQ 0 :: L)) = some L := by
  rw [stream_eq _ (headBytes h), stream0 _ h.head]
  have e1 : headOf (wQ 0 :: L) = (L, true) := by
    show (if (3 : Int) = 3 then if (L.length : Int) < ((0 : Nat) : Int) then (([] : List zK), false) else (L, (L.take (((0 : Nat) : Int)).toNat).all fun e => decide (e.k = 1)) else ([], false)) = _
    rw [if_pos rfl, if_neg (by omega)]
    rfl
  rw [e1, h.no3]
  rfl
theorem allL_cats : ∀ (Ls : List (List zK)) (i : Nat), (∀ L ∈ Ls, BD L) → allL (i + 1) (Ls.map xV) = some Ls.flatten
  | [], i, _ => rfl
  | L :: r, i, h => by
    rw [List.map_cons, allL_stream, stream_one i (h L (by simp))]
    show (allL (i + 1 + 1) (r.map xV)).map (L ++ ·) = _
    rw [allL_cats r (i + 1) fun K hK => h K (by simp [hK])]
    rfl
theorem allR_head {L0 : List zK} {Ls : List (List zK)} (h0 : BD L0) (h : ∀ L ∈ Ls, BD L) : allR (xV (wQ 0 :: L0) :: Ls.map xV) = some (L0 ++ Ls.flatten) := by
  unfold allR
  rw [if_neg (by simp), allL_stream, stream_head h0]
  show (allL (0 + 1) (Ls.map xV)).map (L0 ++ ·) = _
  rw [allL_cats Ls 0 h]
  rfl
theorem liveL_head {L0 : List zK} {Ls : List (List zK)} (c : Int) (h0 : BD L0) (h : ∀ L ∈ Ls, BD L) : liveL (xV (wQ 0 :: L0) :: Ls.map xV) c = liveM (L0 ++ Ls.flatten) c := by
  refine liveL_all c (fun s hs => ?_) (allR_head h0 h)
  rcases List.mem_cons.1 hs with rfl | hs
  · exact headBytes h0
  · obtain ⟨L, hL, rfl⟩ := List.mem_map.1 hs
    exact (h L hL).bytes
theorem bput_len : ∀ (l : List zK) (e : zK), (bput l e).length ≤ l.length + 1
  | [], e => Nat.le_refl _
  | x :: r, e => by
    unfold bput
    have := bput_len r e
    split <;> simp only [List.length_cons] <;> omega
theorem gputs_len : ∀ (L : List zK) (g : GD), (L.foldl gput g).born.length ≤ g.born.length + L.length
  | [], g => Nat.le_refl _
  | e :: r, g => by
    have h1 := gputs_len r (gput g e)
    have h2 : (gput g e).born.length ≤ g.born.length + 1 := by
      unfold gput
      split
      · exact bput_len g.born e
      · split <;> exact Nat.le_succ _
    rw [List.foldl_cons, List.length_cons]
    omega
theorem liveM_len (l : List zK) (c : Int) (h : l.length ≤ 1000000) : (liveM l c).1.length ≤ 1000000 := by
  have h1 := gputs_len l G0
  have h2 : (l.foldl gput G0).lives.length ≤ (l.foldl gput G0).born.length := List.length_filter_le _ _
  have h3 : G0.born.length = 0 := rfl
  unfold liveM
  split
  · exact Nat.zero_le _
  · unfold liveF
    split
    · rw [(isort_perm _).length_eq]
      omega
    · exact Nat.zero_le _
end Go.Proofs.YtomlhekjgagjaaaDoor
/- Entries laid into four streams: plain. -/
namespace Go.Proofs.YtomlhekjgagjaaaDoor
set_option maxRecDepth 100000
set_option maxHeartbeats 16000000
open Go Go.RowKit
set_option linter.unusedSimpArgs false
set_option linter.unusedVariables false
/-- four streams behind a head of none, with these entries -/
structure Str (X : List (List zK)) (m : Nat) (Q : List zK) : Prop where
  shape : ∃ L0 r1 r2 r3, X = [wQ 0 :: L0, r1, r2, r3] ∧ ∀ e, e ∈ L0 ++ (r1 ++ (r2 ++ r3)) ↔ e ∈ Q
  few : ∀ s ∈ X, s.length ≤ m
def strs0 : List (List zK) := [[wQ 0], [], [], []]
theorem Str.start : Str strs0 1 [] := ⟨⟨[], [], [], [], rfl, fun e => Iff.rfl⟩, fun s hs => by
  simp only [strs0, List.mem_cons, List.not_mem_nil, or_false] at hs
  rcases hs with rfl | rfl | rfl | rfl <;> simp⟩
theorem Str.len {X : List (List zK)} {m : Nat} {Q : List zK} (h : Str X m Q) : X.length = 4 := by
  obtain ⟨L0, r1, r2, r3, rfl, _⟩ := h.shape
  rfl
theorem Str.congr {X : List (List zK)} {m : Nat} {Q Q' : List zK} (h : Str X m Q) (hq : ∀ e, e ∈ Q ↔ e ∈ Q') : Str X m Q' := by
  obtain ⟨L0, r1, r2, r3, e1, e2⟩ := h.shape
  exact ⟨⟨L0, r1, r2, r3, e1, fun e => (e2 e).trans (hq e)⟩, h.few⟩
theorem or_put0 (a b c d z : Prop) : (a ∨ z) ∨ b ∨ c ∨ d ↔ (a ∨ b ∨ c ∨ d) ∨ z := by
  by_cases ha : a <;> by_cases hb : b <;> by_cases hc : c <;> by_cases hd : d <;> by_cases hz : z <;> simp [ha, hb, hc, hd, hz]
theorem or_put1 (a b c d z : Prop) : a ∨ (b ∨ z) ∨ c ∨ d ↔ (a ∨ b ∨ c ∨ d) ∨ z := by
  by_cases ha : a <;> by_cases hb : b <;> by_cases hc : c <;> by_cases hd : d <;> by_cases hz : z <;> simp [ha, hb, hc, hd, hz]
theorem or_put2 (a b c d z : Prop) : a ∨ b ∨ (c ∨ z) ∨ d ↔ (a ∨ b ∨ c ∨ d) ∨ z := by
  by_cases ha : a <;> by_cases hb : b <;> by_cases hc : c <;> by_cases hd : d <;> by_cases hz : z <;> simp [ha, hb, hc, hd, hz]
theorem or_put3 (a b c d z : Prop) : a ∨ b ∨ c ∨ (d ∨ z) ↔ (a ∨ b ∨ c ∨ d) ∨ z := by
  by_cases ha : a <;> by_cases hb : b <;> by_cases hc : c <;> by_cases hd : d <;> by_cases hz : z <;> simp [ha, hb, hc, hd, hz]
theorem Str.put {X : List (List zK)} {m k : Nat} {Q x : List zK} (h : Str X m Q) (hx : X[k]? = some x) (e : zK) : Str (X.set k (x ++ [e])) (m + 1) (Q ++ [e]) := by
  refine ⟨?_, fun s hs => ?_⟩
  · obtain ⟨L0, r1, r2, r3, rfl, e2⟩ := h.shape
    match k with
    | 0 =>
      obtain rfl : wQ 0 :: L0 = x := Option.some.inj hx
      refine ⟨L0 ++ [e], r1, r2, r3, rfl, fun d => ?_⟩
      have := e2 d
      simp only [List.mem_append, List.mem_singleton] at this ⊢
      rw [← this]
      exact or_put0 _ _ _ _ _
    | 1 =>
      obtain rfl : r1 = x := Option.some.inj hx
      refine ⟨L0, r1 ++ [e], r2, r3, rfl, fun d => ?_⟩
      have := e2 d
      simp only [List.mem_append, List.mem_singleton] at this ⊢
      rw [← this]
      exact or_put1 _ _ _ _ _
    | 2 =>
      obtain rfl : r2 = x := Option.some.inj hx
      refine ⟨L0, r1, r2 ++ [e], r3, rfl, fun d => ?_⟩
      have := e2 d
      simp only [List.mem_append, List.mem_singleton] at this ⊢
      rw [← this]
      exact or_put2 _ _ _ _ _
    | 3 =>
      obtain rfl : r3 = x := Option.some.inj hx
      refine ⟨L0, r1, r2, r3 ++ [e], rfl, fun d => ?_⟩
      have := e2 d
      simp only [List.mem_append, List.mem_singleton] at this ⊢
      rw [← this]
      exact or_put3 _ _ _ _ _
    | k + 4 => simp at hx
  · rcases List.mem_or_eq_of_mem_set hs with hs | rfl
    · exact Nat.le_succ_of_le (h.few s hs)
    · have := h.few x (List.mem_of_getElem? hx)
      rw [List.length_append]
      exact Nat.succ_le_succ this
theorem Str.at {X : List (List zK)} {m : Nat} {Q : List zK} (h : Str X m Q) {k : Nat} (hk : k < 4) : ∃ x, X[k]? = some x ∧ x.length ≤ m := by
  have hl := h.len
  exact ⟨_, List.getElem?_eq_getElem (by omega), h.few _ (List.getElem_mem _)⟩
theorem Str.live {X : List (List zK)} {m : Nat} {Q : List zK} (h : Str X m Q) (hQ : BD Q) (c : Int) : liveL (X.map xV) c = liveM Q c ∧ (∀ s ∈ X.map xV, xX s) ∧ total (X.map xV) ≤ 4 * (47 * m) := by
  have hf := h.few
  obtain ⟨L0, r1, r2, r3, rfl, e2⟩ := h.shape
  have hb : ∀ P : List zK, (∀ e ∈ P, e ∈ L0 ++ (r1 ++ (r2 ++ r3))) → BD P := fun P hP e he => hQ e ((e2 e).1 (hP e he))
  have b0 : BD L0 := hb L0 fun e he => by simp [he]
  have bs : ∀ L ∈ [r1, r2, r3], BD L := fun L hL => hb L fun e he => by
    simp only [List.mem_cons, List.not_mem_nil, or_false] at hL
    rcases hL with rfl | rfl | rfl <;> simp [he]
  refine ⟨?_, fun s hs => ?_, ?_⟩
  · have h1 := liveL_head (Ls := [r1, r2, r3]) c b0 bs
    refine h1.trans (liveM_congr (fun e he => ?_) (fun e => ?_) c)
    · have he : e ∈ L0 ++ (r1 ++ (r2 ++ r3)) := by simpa using he
      exact hQ.kinds e ((e2 e).1 he)
    · rw [← e2 e]
      simp
  · obtain ⟨L, hL, rfl⟩ := List.mem_map.1 hs
    rcases List.mem_cons.1 hL with rfl | hL
    · exact headBytes b0
    · exact (bs L hL).bytes
  · have q : ∀ s ∈ [wQ 0 :: L0, r1, r2, r3], (xV s).length ≤ 47 * m := fun s hs => Nat.le_trans (catE_len s) (Nat.mul_le_mul_left _ (hf s hs))
    have q0 := q _ (by simp : wQ 0 :: L0 ∈ [wQ 0 :: L0, r1, r2, r3])
    have q1 := q r1 (by simp)
    have q2 := q r2 (by simp)
    have q3 := q r3 (by simp)
    simp only [total, List.map_cons, List.map_nil, List.sum_cons, List.sum_nil]
    omega
/-- how streams lie in a row -/
def vW (X : List (List zK)) : List PV := X.map fun s => .sl (byts (xV s))
theorem rowsE_len (X : List (List zK)) : (vW X).length = X.length := List.length_map _
theorem rowsE_ones (X : List (List zK)) : ∀ e ∈ vW X, e.cells = [e] := fun e he => by
  obtain ⟨s, _, rfl⟩ := List.mem_map.1 he
  rfl
theorem rowsE_one (X : List (List zK)) : ∀ e ∈ vW X, e.cells.length = 1 := fun e he => by rw [rowsE_ones X e he]; rfl
theorem rowsE_at {X : List (List zK)} {k : Nat} {x : List zK} (h : X[k]? = some x) : (vW X)[k]? = some (.sl (byts (xV x))) := by
  unfold vW
  rw [List.getElem?_map, h]
  rfl
theorem rowsE_set (X : List (List zK)) (k : Nat) (x : List zK) (e : zK) : vW (X.set k (x ++ [e])) = (vW X).set k (.sl (byts ([] ++ xV x ++ e.F))) := by
  unfold vW
  rw [List.map_set, catE_append, List.nil_append]
  have : xV [e] = e.F := by simp [xV]
  rw [this]
theorem rowsE_live (X : List (List zK)) : PV.sl (vW X) = vX (X.map xV) := by
  unfold vW vX
  rw [List.map_map]
  rfl
end Go.Proofs.YtomlhekjgagjaaaDoor
/- Rows of slices: elements that are nil are empty slices. Generic over the program. -/
namespace Go.Proofs.YtomlhekjgagjaaaDoor
set_option maxRecDepth 100000
set_option maxHeartbeats 16000000
open Go Go.RowKit
set_option linter.unusedVariables false
/-- a cell that is nil is an empty slice -/
def asSl : AV → PV
  | .p (.val (.slice none 0 0)) => .sl []
  | .p x => x
  | _ => .val undef
def pureB : AV → Bool
  | .p _ => true
  | _ => false
theorem asSl_rep {M : Nat → Nat → Prop} {ρ : Nat → Value} {w : World} {x : AV} {v : Value} (hp : pureB x = true) (h : z8 M ρ w x v) : z8 M ρ w (.p (asSl x)) v := by
  unfold asSl
  split
  · cases h with
    | p h =>
      cases h with
      | val => exact .p .nil
  · exact h
  · rename_i h1 h2
    cases x with
    | p y => exact absurd rfl (h2 y)
    | _ => cases hp
theorem sub_rowNil {S : AS} {id e n : Nat} {xs : List AV} {es : List PV} (hb : S.blk id = some (.row e 1 n xs)) (hp : xs.all pureB = true) (he : es = xs.map asSl) (hes : flat es = es) (hn : n = es.length) : Sub S (S.tag id (xD e 1 es)) :=
  fun M m w0 ρ a w hs => by
    have hmut : ∀ k c, Mut M (S.tag id (xD e 1 es)) ρ k c → Mut M S ρ k c := fun k c hk => by
      rcases hk with hk | ⟨j, b, hj, hk, ht⟩
      · exact .inl hk
      · rw [AS.yH] at hj
        split at hj
        · rename_i h
          subst h
          exact .inr ⟨id, _, hb, hk, trivial⟩
        · exact .inr ⟨j, b, hj, hk, ht⟩
    refine ⟨ρ, hs.below, hs.out, hs.tab, hs.size, hs.defers, fun i => (hs.tmps i).mono fun _ _ _ hk => hmut _ _ hk, fun j b hj => ?_, fun j b k hj hk => ?_, hs.fix, hs.free, fun i j bi bj k hi hj h1 h2 => ?_⟩
    · rw [AS.yH] at hj
      split at hj
      · rename_i h
        subst h
        obtain rfl := Option.some.inj hj
        obtain ⟨ys, ho, hc⟩ := hs.blks id _ hb
        subst hn
        refine ⟨ys, ho, ⟨?_, fun i c v hci hv => ?_, hc.one⟩⟩
        · rw [hc.len, hes, he, List.length_map, List.length_map]
        · rw [hes, he, List.map_map, List.getElem?_map, Option.map_eq_some_iff] at hci
          obtain ⟨x, hx, rfl⟩ := hci
          exact (asSl_rep (List.all_eq_true.1 hp x (List.mem_of_getElem? hx)) (hc.each i x v hx hv)).mono fun _ _ _ hk => hmut _ _ hk
      · exact (hs.blks j b hj).mono fun _ _ hk => hmut _ _ hk
    · rw [AS.yH] at hj
      split at hj
      · rename_i h
        subst h
        exact hs.mine id _ k hb hk
      · exact hs.mine j b k hj hk
    · have hi' : ∃ b, S.blk i = some b := by
        rw [AS.yH] at hi
        split at hi
        · rename_i h; subst h; exact ⟨_, hb⟩
        · exact ⟨_, hi⟩
      have hj' : ∃ b, S.blk j = some b := by
        rw [AS.yH] at hj
        split at hj
        · rename_i h; subst h; exact ⟨_, hb⟩
        · exact ⟨_, hj⟩
      obtain ⟨b1, e1⟩ := hi'
      obtain ⟨b2, e2⟩ := hj'
      exact hs.dist i j b1 b2 k e1 e2 h1 h2
end Go.Proofs.YtomlhekjgagjaaaDoor
/- MergeFree: the law's function is true. -/
namespace Go.Proofs.YtomlhekjgagjaaaDoor
set_option maxRecDepth 100000
set_option maxHeartbeats 16000000
open Go Go.RowKit
set_option linter.unusedSimpArgs false
set_option linter.unusedVariables false
attribute [local irreducible] zZ zY Step zB Sub zN zU Fn zH zR
def mfS (L : List zK) (A B : List Int) (tw : Bool) (p : Nat × List (List zK) × List (List zK)) : AS := { t := [(3, .p (.sl (L.map zK.V))), (4, .p (.sl (byts A))), (5, .p (.sl (byts B))), (6, .p (.val (.bool tw))), (7, .p (.val (.bool true))), (8, .p (.val (.int .i64 ((L.map zK.V).length : Nat)))), (10, .own 50), (11, .own 52), (12, .p (.val (.int .i64 (p.1 : Nat))))], s := [(50, xD 35 1 (vW p.2.1)), (52, xD 35 1 (vW p.2.2))] }
theorem tmod4 (a : Int) (h : 0 ≤ a) : ∃ k : Nat, k < 4 ∧ a.tmod 4 = ((k : Nat) : Int) := by
  refine ⟨(a % 4).toNat, by omega, ?_⟩
  rw [Int.tmod_eq_emod_of_nonneg h]
  omega
theorem getD_nn {A : List Int} (h : xX A) (i : Nat) : 0 ≤ A.getD i 0 := by
  rw [List.getD_eq_getElem?_getD]
  cases e : A[i]? with
  | none => simp
  | some v => exact (h v (List.mem_of_getElem? e)).1
structure MfInv (L : List zK) (p : Nat × List (List zK) × List (List zK)) : Prop where
  le : p.1 ≤ L.length
  bx : BD (L.take p.1)
  bY : BD (L.reverse.take p.1)
  sx : Str p.2.1 (1 + p.1) (L.take p.1)
  sy : Str p.2.2 (1 + 2 * p.1) (L.reverse.take p.1)
theorem MfInv.start (L : List zK) : MfInv L (0, strs0, strs0) := ⟨Nat.zero_le _, (fun e he => by simp at he), (fun e he => by simp at he), by simpa using Str.start, by simpa using Str.start⟩
theorem bd_snoc {Q : List zK} {e : zK} (h : BD Q) (ho : e.ok) (hm : e.may = true) (h3 : ¬ e.k = 3) : BD (Q ++ [e]) := fun d hd => by
  rcases List.mem_append.1 hd with hd | hd
  · exact h d hd
  · rw [List.mem_singleton] at hd; subst hd; exact ⟨ho, hm, h3⟩
theorem few_len {x : List zK} {m : Nat} (h : x.length ≤ m) (hm : m ≤ 100) : (xV x).length ≤ 4700 := Nat.le_trans (catE_len x) (by omega)
theorem app0_le {a : Nat} (ha : a ≤ 5000) : ([] : List Int).length + a ≤ 140737488355328 := by rw [List.length_nil]; omega
theorem app1_le {X F : List Int} (ha : X.length ≤ 5000) (hb : F.length ≤ 47) : ([] ++ X).length + F.length ≤ 140737488355328 := by rw [List.nil_append]; omega
theorem at_one {es : List PV} {k : Nat} {c : PV} (h : es[k]? = some c) : es[((k : Nat) : Int).toNat * 1]? = some c := by rw [Int.toNat_natCast, Nat.mul_one]; exact h
theorem mfree_fn (L : List zK) (A B : List Int) (tw : Bool) (hok : ∀ e ∈ L, e.ok) (hmx : L.length ≤ maxLen) (hA : xX A) (hB : xX B) : Fn Tryd.prog 5 [.agg [.sl (L.map zK.V), .sl (byts A), .sl (byts B), .val (.bool tw)]] (.p (.val (.bool true))) := by
 have sh := shown22_fn
 have hlL : (L.map zK.V).length = L.length := by rw [List.length_map]
 have hcL := yR L
 refine wR Tryd.func5 rfl Tryd.ntmps5 (Nat.le_of_ble_eq_true rfl) ?_
 by_cases hg : L.length ≤ 12 ∧ L.length ≤ A.length ∧ L.length ≤ B.length
 case neg =>
  have key : decide ((((L.map zK.V).length : Nat) : Int) > 12) = true ∨ (decide ((((L.map zK.V).length : Nat) : Int) > 12) = false ∧ decide (((A.length : Nat) : Int) < (((L.map zK.V).length : Nat) : Int)) = true) ∨ (decide ((((L.map zK.V).length : Nat) : Int) > 12) = false ∧ decide (((A.length : Nat) : Int) < (((L.map zK.V).length : Nat) : Int)) = false ∧ decide (((B.length : Nat) : Int) < (((L.map zK.V).length : Nat) : Int)) = true) := by
   rw [hlL]
   by_cases h : L.length ≤ 12
   ·by_cases h2 : L.length ≤ A.length
    ·exact .inr (.inr ⟨decide_eq_false (by omega), decide_eq_false (by omega), decide_eq_true (by omega)⟩)
    ·exact .inr (.inl ⟨decide_eq_false (by omega), decide_eq_true (by omega)⟩)
   ·exact .inl (decide_eq_true (by omega))
  rcases key with c1 | ⟨c1, c2⟩ | ⟨c1, c2, c3⟩
  ·
   repeat' (first | (refine zY.is ?_; first | refine zY.seq ?_ | (refine zY.iq 0 ?_; refine zY.rqa _ K_3 K_0 ?_; (refine zZ.m rfl rfl (wF rfl rfl rfl (by decide)) ?_); (refine zZ.v rfl rfl (zW rfl rfl rfl (by decide)) ?_); refine zZ.nil ?_) | (refine zY.iq 1 ?_; refine zY.rqf _ K_6 K_0 ?_; (refine zZ.v rfl rfl (zA rfl rfl rfl (by decide)) ?_); (refine zZ.v rfl rfl (zC rfl rfl rfl (by rfl) rfl (by decide)) ?_); (refine zZ.v rfl rfl (zW rfl rfl rfl (by decide)) ?_); refine zZ.nil ?_) | (refine zY.iq 2 ?_; refine zY.rqf _ K_z K_0 ?_; (refine zZ.v rfl rfl (zA rfl rfl rfl (by decide)) ?_); (refine zZ.v rfl rfl (zC rfl rfl rfl (by rfl) rfl (by decide)) ?_); (refine zZ.v rfl rfl (zW rfl rfl rfl (by decide)) ?_); refine zZ.nil ?_) | (refine zY.iq 3 ?_; refine zY.rqf _ K_1h K_0 ?_; (refine zZ.v rfl rfl (zA rfl rfl rfl (by decide)) ?_); (refine zZ.v rfl rfl (zC rfl rfl rfl (by rfl) rfl (by decide)) ?_); (refine zZ.v rfl rfl (zW rfl rfl rfl (by decide)) ?_); refine zZ.nil ?_) | (refine zY.iq 4 ?_; refine zY.rqf _ K_23 K_0 ?_; (refine zZ.v rfl rfl (zA rfl rfl rfl (by decide)) ?_); (refine zZ.v rfl rfl (zC rfl rfl rfl (by rfl) rfl (by decide)) ?_); (refine zZ.v rfl rfl (zW rfl rfl rfl (by decide)) ?_); refine zZ.nil ?_) | (refine zY.iq 5 ?_; refine zY.rqh _ K_24 K_0 ?_; (refine zZ.v rfl rfl (by exact yV (sh) rfl rfl rfl (by decide)) ?_); (refine zZ.v rfl rfl (zW rfl rfl rfl (by decide)) ?_); refine zZ.nil ?_) | (refine zY.iq 6 ?_; refine zY.rqh _ K_25 K_0 ?_; (refine zZ.v rfl rfl (zX rfl rfl rfl (by decide)) ?_); (refine zZ.v rfl rfl (y5 rfl rfl rfl (by decide)) ?_); (refine zZ.v rfl rfl (zW rfl rfl rfl (by decide)) ?_); refine zZ.nil ?_) | (refine zY.iq 7 ?_; refine zY.rqh _ K_1c K_0 ?_; all_goals (refine zZ.v rfl rfl (zX rfl rfl rfl (by decide)) ?_); all_goals (refine zZ.v rfl rfl (by exact vB rfl rfl rfl (by exact c1) rfl (by decide)) ?_); all_goals (refine zZ.v rfl rfl (zX rfl rfl rfl (by decide)) ?_); all_goals (refine zZ.gnF rfl rfl (by decide) rfl (by with_reducible rfl) rfl (by decide) ?_); all_goals (refine zZ.gnF rfl rfl (by decide) rfl (by with_reducible rfl) rfl (by decide) ?_); all_goals (refine zZ.gnF rfl rfl (by decide) rfl (by with_reducible rfl) rfl (by decide) ?_); all_goals (refine zZ.gnF rfl rfl (by decide) rfl (by with_reducible rfl) rfl (by decide) ?_); all_goals (refine zZ.v rfl rfl (by exact zO rfl rfl (by with_reducible rfl) rfl rfl (by decide)) ?_); all_goals (refine zZ.v rfl rfl (zX rfl rfl rfl (by decide)) ?_); all_goals (refine zZ.gnF rfl rfl (by decide) rfl (by with_reducible rfl) rfl (by decide) ?_); all_goals (refine zZ.gnF rfl rfl (by decide) rfl (by with_reducible rfl) rfl (by decide) ?_); all_goals (refine zZ.gnF rfl rfl (by decide) rfl (by with_reducible rfl) rfl (by decide) ?_); all_goals (refine zZ.gnF rfl rfl (by decide) rfl (by with_reducible rfl) rfl (by decide) ?_); all_goals (refine zZ.v rfl rfl (by exact zO rfl rfl (by with_reducible rfl) rfl rfl (by decide)) ?_); all_goals (refine zZ.nil ?_)) | (refine zY.iq 8 ?_; refine zY.rqh _ K_1c K_0 ?_; (refine zZ.v rfl rfl (zX rfl rfl rfl (by decide)) ?_); (refine zZ.v rfl rfl (zW rfl rfl rfl (by decide)) ?_); refine zZ.nil ?_) | refine zY.yA rfl (by first | assumption | with_reducible rfl) ?_ | refine zY.ret ?_) | refine zH.n ?_ | refine zH.r ?_)
   all_goals exact ⟨.inl rfl, _, Sub.refl _, xZ.p rfl (.tmp rfl)⟩
  ·
   repeat' (first | (refine zY.is ?_; first | refine zY.seq ?_ | (refine zY.iq 0 ?_; refine zY.rqa _ K_3 K_0 ?_; (refine zZ.m rfl rfl (wF rfl rfl rfl (by decide)) ?_); (refine zZ.v rfl rfl (zW rfl rfl rfl (by decide)) ?_); refine zZ.nil ?_) | (refine zY.iq 1 ?_; refine zY.rqf _ K_6 K_0 ?_; (refine zZ.v rfl rfl (zA rfl rfl rfl (by decide)) ?_); (refine zZ.v rfl rfl (zC rfl rfl rfl (by rfl) rfl (by decide)) ?_); (refine zZ.v rfl rfl (zW rfl rfl rfl (by decide)) ?_); refine zZ.nil ?_) | (refine zY.iq 2 ?_; refine zY.rqf _ K_z K_0 ?_; (refine zZ.v rfl rfl (zA rfl rfl rfl (by decide)) ?_); (refine zZ.v rfl rfl (zC rfl rfl rfl (by rfl) rfl (by decide)) ?_); (refine zZ.v rfl rfl (zW rfl rfl rfl (by decide)) ?_); refine zZ.nil ?_) | (refine zY.iq 3 ?_; refine zY.rqf _ K_1h K_0 ?_; (refine zZ.v rfl rfl (zA rfl rfl rfl (by decide)) ?_); (refine zZ.v rfl rfl (zC rfl rfl rfl (by rfl) rfl (by decide)) ?_); (refine zZ.v rfl rfl (zW rfl rfl rfl (by decide)) ?_); refine zZ.nil ?_) | (refine zY.iq 4 ?_; refine zY.rqf _ K_23 K_0 ?_; (refine zZ.v rfl rfl (zA rfl rfl rfl (by decide)) ?_); (refine zZ.v rfl rfl (zC rfl rfl rfl (by rfl) rfl (by decide)) ?_); (refine zZ.v rfl rfl (zW rfl rfl rfl (by decide)) ?_); refine zZ.nil ?_) | (refine zY.iq 5 ?_; refine zY.rqh _ K_24 K_0 ?_; (refine zZ.v rfl rfl (by exact yV (sh) rfl rfl rfl (by decide)) ?_); (refine zZ.v rfl rfl (zW rfl rfl rfl (by decide)) ?_); refine zZ.nil ?_) | (refine zY.iq 6 ?_; refine zY.rqh _ K_25 K_0 ?_; (refine zZ.v rfl rfl (zX rfl rfl rfl (by decide)) ?_); (refine zZ.v rfl rfl (y5 rfl rfl rfl (by decide)) ?_); (refine zZ.v rfl rfl (zW rfl rfl rfl (by decide)) ?_); refine zZ.nil ?_) | (refine zY.iq 7 ?_; refine zY.rqh _ K_1c K_0 ?_; all_goals (refine zZ.v rfl rfl (zX rfl rfl rfl (by decide)) ?_); all_goals (refine zZ.v rfl rfl (by exact vB rfl rfl rfl (by exact c1) rfl (by decide)) ?_); all_goals (refine zZ.v rfl rfl (zX rfl rfl rfl (by decide)) ?_); all_goals (refine zZ.gY rfl rfl (by decide) rfl (by with_reducible rfl) rfl (by decide) (zX rfl rfl rfl (by decide)) ?_); all_goals (refine zZ.gY rfl rfl (by decide) rfl (by with_reducible rfl) rfl (by decide) (xS rfl rfl rfl (by decide)) ?_); all_goals (refine zZ.gY rfl rfl (by decide) rfl (by with_reducible rfl) rfl (by decide) (zX rfl rfl rfl (by decide)) ?_); all_goals (refine zZ.gY rfl rfl (by decide) rfl (by with_reducible rfl) rfl (by decide) (by exact zT rfl rfl rfl (by exact c2) rfl (by decide)) ?_); all_goals (refine zZ.v rfl rfl (by exact zM rfl rfl (by with_reducible rfl) rfl rfl (by decide)) ?_); all_goals (refine zZ.v rfl rfl (zX rfl rfl rfl (by decide)) ?_); all_goals (refine zZ.gnF rfl rfl (by decide) rfl (by with_reducible rfl) rfl (by decide) ?_); all_goals (refine zZ.gnF rfl rfl (by decide) rfl (by with_reducible rfl) rfl (by decide) ?_); all_goals (refine zZ.gnF rfl rfl (by decide) rfl (by with_reducible rfl) rfl (by decide) ?_); all_goals (refine zZ.gnF rfl rfl (by decide) rfl (by with_reducible rfl) rfl (by decide) ?_); all_goals (refine zZ.v rfl rfl (by exact zO rfl rfl (by with_reducible rfl) rfl rfl (by decide)) ?_); all_goals (refine zZ.nil ?_)) | (refine zY.iq 8 ?_; refine zY.rqh _ K_1c K_0 ?_; (refine zZ.v rfl rfl (zX rfl rfl rfl (by decide)) ?_); (refine zZ.v rfl rfl (zW rfl rfl rfl (by decide)) ?_); refine zZ.nil ?_) | refine zY.yA rfl (by first | assumption | with_reducible rfl) ?_ | refine zY.ret ?_) | refine zH.n ?_ | refine zH.r ?_)
   all_goals exact ⟨.inl rfl, _, Sub.refl _, xZ.p rfl (.tmp rfl)⟩
  ·
   repeat' (first | (refine zY.is ?_; first | refine zY.seq ?_ | (refine zY.iq 0 ?_; refine zY.rqa _ K_3 K_0 ?_; (refine zZ.m rfl rfl (wF rfl rfl rfl (by decide)) ?_); (refine zZ.v rfl rfl (zW rfl rfl rfl (by decide)) ?_); refine zZ.nil ?_) | (refine zY.iq 1 ?_; refine zY.rqf _ K_6 K_0 ?_; (refine zZ.v rfl rfl (zA rfl rfl rfl (by decide)) ?_); (refine zZ.v rfl rfl (zC rfl rfl rfl (by rfl) rfl (by decide)) ?_); (refine zZ.v rfl rfl (zW rfl rfl rfl (by decide)) ?_); refine zZ.nil ?_) | (refine zY.iq 2 ?_; refine zY.rqf _ K_z K_0 ?_; (refine zZ.v rfl rfl (zA rfl rfl rfl (by decide)) ?_); (refine zZ.v rfl rfl (zC rfl rfl rfl (by rfl) rfl (by decide)) ?_); (refine zZ.v rfl rfl (zW rfl rfl rfl (by decide)) ?_); refine zZ.nil ?_) | (refine zY.iq 3 ?_; refine zY.rqf _ K_1h K_0 ?_; (refine zZ.v rfl rfl (zA rfl rfl rfl (by decide)) ?_); (refine zZ.v rfl rfl (zC rfl rfl rfl (by rfl) rfl (by decide)) ?_); (refine zZ.v rfl rfl (zW rfl rfl rfl (by decide)) ?_); refine zZ.nil ?_) | (refine zY.iq 4 ?_; refine zY.rqf _ K_23 K_0 ?_; (refine zZ.v rfl rfl (zA rfl rfl rfl (by decide)) ?_); (refine zZ.v rfl rfl (zC rfl rfl rfl (by rfl) rfl (by decide)) ?_); (refine zZ.v rfl rfl (zW rfl rfl rfl (by decide)) ?_); refine zZ.nil ?_) | (refine zY.iq 5 ?_; refine zY.rqh _ K_24 K_0 ?_; (refine zZ.v rfl rfl (by exact yV (sh) rfl rfl rfl (by decide)) ?_); (refine zZ.v rfl rfl (zW rfl rfl rfl (by decide)) ?_); refine zZ.nil ?_) | (refine zY.iq 6 ?_; refine zY.rqh _ K_25 K_0 ?_; (refine zZ.v rfl rfl (zX rfl rfl rfl (by decide)) ?_); (refine zZ.v rfl rfl (y5 rfl rfl rfl (by decide)) ?_); (refine zZ.v rfl rfl (zW rfl rfl rfl (by decide)) ?_); refine zZ.nil ?_) | (refine zY.iq 7 ?_; refine zY.rqh _ K_1c K_0 ?_; all_goals (refine zZ.v rfl rfl (zX rfl rfl rfl (by decide)) ?_); all_goals (refine zZ.v rfl rfl (by exact vB rfl rfl rfl (by exact c1) rfl (by decide)) ?_); all_goals (refine zZ.v rfl rfl (zX rfl rfl rfl (by decide)) ?_); all_goals (refine zZ.gY rfl rfl (by decide) rfl (by with_reducible rfl) rfl (by decide) (zX rfl rfl rfl (by decide)) ?_); all_goals (refine zZ.gY rfl rfl (by decide) rfl (by with_reducible rfl) rfl (by decide) (xS rfl rfl rfl (by decide)) ?_); all_goals (refine zZ.gY rfl rfl (by decide) rfl (by with_reducible rfl) rfl (by decide) (zX rfl rfl rfl (by decide)) ?_); all_goals (refine zZ.gY rfl rfl (by decide) rfl (by with_reducible rfl) rfl (by decide) (by exact zT rfl rfl rfl (by exact c2) rfl (by decide)) ?_); all_goals (refine zZ.v rfl rfl (by exact zM rfl rfl (by with_reducible rfl) rfl rfl (by decide)) ?_); all_goals (refine zZ.v rfl rfl (zX rfl rfl rfl (by decide)) ?_); all_goals (refine zZ.gY rfl rfl (by decide) rfl (by with_reducible rfl) rfl (by decide) (zX rfl rfl rfl (by decide)) ?_); all_goals (refine zZ.gY rfl rfl (by decide) rfl (by with_reducible rfl) rfl (by decide) (xS rfl rfl rfl (by decide)) ?_); all_goals (refine zZ.gY rfl rfl (by decide) rfl (by with_reducible rfl) rfl (by decide) (zX rfl rfl rfl (by decide)) ?_); all_goals (refine zZ.gY rfl rfl (by decide) rfl (by with_reducible rfl) rfl (by decide) (by exact zT rfl rfl rfl (by exact c3) rfl (by decide)) ?_); all_goals (refine zZ.v rfl rfl (by exact zM rfl rfl (by with_reducible rfl) rfl rfl (by decide)) ?_); all_goals (refine zZ.nil ?_)) | (refine zY.iq 8 ?_; refine zY.rqh _ K_1c K_0 ?_; (refine zZ.v rfl rfl (zX rfl rfl rfl (by decide)) ?_); (refine zZ.v rfl rfl (zW rfl rfl rfl (by decide)) ?_); refine zZ.nil ?_) | refine zY.yA rfl (by first | assumption | with_reducible rfl) ?_ | refine zY.ret ?_) | refine zH.n ?_ | refine zH.r ?_)
   all_goals exact ⟨.inl rfl, _, Sub.refl _, xZ.p rfl (.tmp rfl)⟩
 case pos =>
  obtain ⟨l12, lA, lB⟩ := hg
  have c1 : decide ((((L.map zK.V).length : Nat) : Int) > 12) = false := decide_eq_false (by rw [hlL]; omega)
  have c2 : decide (((A.length : Nat) : Int) < (((L.map zK.V).length : Nat) : Int)) = false := decide_eq_false (by rw [hlL]; omega)
  have c3 : decide (((B.length : Nat) : Int) < (((L.map zK.V).length : Nat) : Int)) = false := decide_eq_false (by rw [hlL]; omega)
  have z : U 0 := ⟨by decide, by decide⟩
  have b0 := vF 3 0 0 0 0 0 z z z z z
  have b0 : Fn Tryd.prog 24 [entV 3 0 0 0 0 0] (.p (.sl (byts (wQ 0).F))) := b0
  have e0 : vW strs0 = [.sl (byts (wQ 0).F), .sl [], .sl [], .sl []] := by
   have : xV [wQ 0] = (wQ 0).F := by simp [xV]
   show [PV.sl (byts (xV [wQ 0])), .sl (byts (xV [])), .sl (byts (xV [])), .sl (byts (xV []))] = _
   rw [this]
   rfl
  repeat' (first | (refine zY.is ?_; first | refine zY.seq ?_ | (refine zY.iq 0 ?_; refine zY.rqa _ K_3 K_0 ?_; (refine zZ.m rfl rfl (wF rfl rfl rfl (by decide)) ?_); (refine zZ.v rfl rfl (zW rfl rfl rfl (by decide)) ?_); refine zZ.nil ?_) | (refine zY.iq 1 ?_; refine zY.rqf _ K_6 K_0 ?_; (refine zZ.v rfl rfl (zA rfl rfl rfl (by decide)) ?_); (refine zZ.v rfl rfl (zC rfl rfl rfl (by rfl) rfl (by decide)) ?_); (refine zZ.v rfl rfl (zW rfl rfl rfl (by decide)) ?_); refine zZ.nil ?_) | (refine zY.iq 2 ?_; refine zY.rqf _ K_z K_0 ?_; (refine zZ.v rfl rfl (zA rfl rfl rfl (by decide)) ?_); (refine zZ.v rfl rfl (zC rfl rfl rfl (by rfl) rfl (by decide)) ?_); (refine zZ.v rfl rfl (zW rfl rfl rfl (by decide)) ?_); refine zZ.nil ?_) | (refine zY.iq 3 ?_; refine zY.rqf _ K_1h K_0 ?_; (refine zZ.v rfl rfl (zA rfl rfl rfl (by decide)) ?_); (refine zZ.v rfl rfl (zC rfl rfl rfl (by rfl) rfl (by decide)) ?_); (refine zZ.v rfl rfl (zW rfl rfl rfl (by decide)) ?_); refine zZ.nil ?_) | (refine zY.iq 4 ?_; refine zY.rqf _ K_23 K_0 ?_; (refine zZ.v rfl rfl (zA rfl rfl rfl (by decide)) ?_); (refine zZ.v rfl rfl (zC rfl rfl rfl (by rfl) rfl (by decide)) ?_); (refine zZ.v rfl rfl (zW rfl rfl rfl (by decide)) ?_); refine zZ.nil ?_) | (refine zY.iq 5 ?_; refine zY.rqh _ K_24 K_0 ?_; (refine zZ.v rfl rfl (by exact yV (sh) rfl rfl rfl (by decide)) ?_); (refine zZ.v rfl rfl (zW rfl rfl rfl (by decide)) ?_); refine zZ.nil ?_) | (refine zY.iq 6 ?_; refine zY.rqh _ K_25 K_0 ?_; (refine zZ.v rfl rfl (zX rfl rfl rfl (by decide)) ?_); (refine zZ.v rfl rfl (y5 rfl rfl rfl (by decide)) ?_); (refine zZ.v rfl rfl (zW rfl rfl rfl (by decide)) ?_); refine zZ.nil ?_) | (refine zY.iq 7 ?_; refine zY.rqh _ K_1c K_0 ?_; all_goals (refine zZ.v rfl rfl (zX rfl rfl rfl (by decide)) ?_); all_goals (refine zZ.v rfl rfl (by exact vB rfl rfl rfl (by exact c1) rfl (by decide)) ?_); all_goals (refine zZ.v rfl rfl (zX rfl rfl rfl (by decide)) ?_); all_goals (refine zZ.gY rfl rfl (by decide) rfl (by with_reducible rfl) rfl (by decide) (zX rfl rfl rfl (by decide)) ?_); all_goals (refine zZ.gY rfl rfl (by decide) rfl (by with_reducible rfl) rfl (by decide) (xS rfl rfl rfl (by decide)) ?_); all_goals (refine zZ.gY rfl rfl (by decide) rfl (by with_reducible rfl) rfl (by decide) (zX rfl rfl rfl (by decide)) ?_); all_goals (refine zZ.gY rfl rfl (by decide) rfl (by with_reducible rfl) rfl (by decide) (by exact zT rfl rfl rfl (by exact c2) rfl (by decide)) ?_); all_goals (refine zZ.v rfl rfl (by exact zM rfl rfl (by with_reducible rfl) rfl rfl (by decide)) ?_); all_goals (refine zZ.v rfl rfl (zX rfl rfl rfl (by decide)) ?_); all_goals (refine zZ.gY rfl rfl (by decide) rfl (by with_reducible rfl) rfl (by decide) (zX rfl rfl rfl (by decide)) ?_); all_goals (refine zZ.gY rfl rfl (by decide) rfl (by with_reducible rfl) rfl (by decide) (xS rfl rfl rfl (by decide)) ?_); all_goals (refine zZ.gY rfl rfl (by decide) rfl (by with_reducible rfl) rfl (by decide) (zX rfl rfl rfl (by decide)) ?_); all_goals (refine zZ.gY rfl rfl (by decide) rfl (by with_reducible rfl) rfl (by decide) (by exact zT rfl rfl rfl (by exact c3) rfl (by decide)) ?_); all_goals (refine zZ.v rfl rfl (by exact zM rfl rfl (by with_reducible rfl) rfl rfl (by decide)) ?_); all_goals (refine zZ.nil ?_)) | (refine zY.iq 9 ?_; refine zY.rqh _ K_1c K_0 ?_; (refine zZ.v rfl rfl (wO rfl (by rfl) (by rfl) (by rfl) (by rfl) rfl (by decide)) ?_); (refine zZ.v rfl rfl (by exact yV (b0) rfl rfl rfl (by decide)) ?_); (refine zZ.v rfl rfl (zW rfl rfl rfl (by decide)) ?_); refine zZ.nil ?_) | (refine zY.iq 10 ?_; refine zY.rqh _ K_3p K_0 ?_; (refine zZ.v rfl rfl (zX rfl rfl rfl (by decide)) ?_); (refine zZ.m rfl rfl (w_buildSlice rfl (by decide) (by decide) (by decide) (by decide) (by rfl) (by rfl) (by rfl) rfl (by decide)) ?_); (refine zZ.v rfl rfl (zS rfl rfl rfl (by decide)) ?_); refine zZ.nil ?_) | (refine zY.isR (id := 11) ?_; refine zY.zJ [2, 3, 4, 5, 6, 7, 8, 9, 10] [1, 50, 52, 98, 130, 143] (by repeat' first | exact zV.nil | apply zV.p rfl | apply zV.own rfl) (by repeat' first | exact zQ.nil | apply zQ.boxP rfl rfl | apply zQ.some rfl | apply zQ.skip) ?_; (refine zZ.v rfl rfl (zX rfl rfl rfl (by decide)) ?_); (refine zZ.m rfl rfl (w_buildSlice rfl (by decide) (by decide) (by decide) (by decide) (by rfl) (by rfl) (by rfl) rfl (by decide)) ?_); (refine zZ.v rfl rfl (zS rfl rfl rfl (by decide)) ?_); refine zZ.nil ?_) | (refine zY.isR (id := 12) ?_; refine zY.zJ [2, 3, 4, 5, 6, 7, 8, 10, 11] [1, 50, 52, 98, 130, 143] (by repeat' first | exact zV.nil | apply zV.p rfl | apply zV.own rfl) (by repeat' first | exact zQ.nil | apply zQ.boxP rfl rfl | apply zQ.some rfl | apply zQ.skip) ?_; (refine zZ.v rfl rfl (zW rfl rfl rfl (by decide)) ?_); refine zZ.nil ?_) | refine zY.yC rfl (by first | assumption | with_reducible rfl) ?_ | refine zY.skip ?_ | refine zY.block ?_) | refine zH.n ?_)
  refine zY.loop (mfS L A B tw) (MfInv L) (fun p => L.length - p.1) (0, strs0, strs0) ?h0 (MfInv.start L) ?rd
  case h0 =>
   unfold mfS
   dsimp only
   rw [e0]
   refine (sub_rowNil (id := 50) (e := 35) (n := 4) (es := [.sl (byts (wQ 0).F), .sl [], .sl [], .sl []]) rfl rfl rfl rfl rfl).trans ?_
   refine (sub_rowNil (id := 52) (e := 35) (n := 4) (es := [.sl (byts (wQ 0).F), .sl [], .sl [], .sl []]) rfl rfl rfl rfl rfl).trans ?_
   exact zD K_2i K_2j
  case rd =>
   rintro ⟨i, X, Y⟩ hI
   obtain ⟨hi, bX, bY, sX, sY⟩ := hI
   simp only at hi bX bY sX sY
   have g3 : IntKind.i64.wrap (((i : Nat) : Int) + 1) = ((i + 1 : Nat) : Int) := by rw [wrap_i64 _ (by omega)]; omega
   unfold mfS
   dsimp only
   clear c1 c2 c3 b0 e0
   by_cases hlt : i < L.length
   case pos =>
    have g1 : decide (((i : Nat) : Int) < (((L.map zK.V).length : Nat) : Int)) = true := decide_eq_true (by rw [hlL]; omega)
    obtain ⟨e, he⟩ : ∃ e, L[i]? = some e := ⟨_, List.getElem?_eq_getElem hlt⟩
    obtain ⟨q, hq⟩ : ∃ q, L[L.length - 1 - i]? = some q := ⟨_, List.getElem?_eq_getElem (by omega)⟩
    have g2 : (L.map zK.V)[i]? = some e.V := by rw [List.getElem?_map, he]; rfl
    have g4 : (L.map zK.V)[L.length - 1 - i]? = some q.V := by rw [List.getElem?_map, hq]; rfl
    have w1 : IntKind.i64.wrap ((((L.map zK.V).length : Nat) : Int) - 1) = ((L.length - 1 : Nat) : Int) := by rw [hlL, wrap_i64 _ (by omega)]; omega
    have w2 : IntKind.i64.wrap (((L.length - 1 : Nat) : Int) - ((i : Nat) : Int)) = ((L.length - 1 - i : Nat) : Int) := by rw [wrap_i64 _ (by omega)]; omega
    have j1 : (0 : Int) ≤ ((i : Nat) : Int) ∧ ((i : Nat) : Int) < (((L.map zK.V).length : Nat) : Int) := by rw [hlL]; omega
    have j2 : (0 : Int) ≤ ((L.length - 1 - i : Nat) : Int) ∧ ((L.length - 1 - i : Nat) : Int) < (((L.map zK.V).length : Nat) : Int) := by rw [hlL]; omega
    have j3 : (0 : Int) ≤ ((i : Nat) : Int) ∧ ((i : Nat) : Int) < ((A.length : Nat) : Int) := by omega
    have j4 : (0 : Int) ≤ ((i : Nat) : Int) ∧ ((i : Nat) : Int) < ((B.length : Nat) : Int) := by omega
    have ho := hok e (List.mem_of_getElem? he)
    have hp := hok q (List.mem_of_getElem? hq)
    have m1 := mayRef_fn e.k e.s e.y e.u e.v e.x ho.y.1 ho.y.2
    have m1 : Fn Tryd.prog 25 [e.V] (.p (.val (.bool e.may))) := m1
    have m2 := mayRef_fn q.k q.s q.y q.u q.v q.x hp.y.1 hp.y.2
    have m2 : Fn Tryd.prog 25 [q.V] (.p (.val (.bool q.may))) := m2
    have be := vF e.k e.s e.y e.u e.v e.x ho.s ho.y ho.u ho.v ho.x
    have be : Fn Tryd.prog 24 [e.V] (.p (.sl (byts e.F))) := be
    have bq := vF q.k q.s q.y q.u q.v q.x hp.s hp.y hp.u hp.v hp.x
    have bq : Fn Tryd.prog 24 [q.V] (.p (.sl (byts q.F))) := bq
    have hFe := entF_len e
    have hFq := entF_len q
    obtain ⟨k, hk4, r1⟩ := tmod4 (A.getD ((i : Nat) : Int).toNat 0) (getD_nn hA _)
    obtain ⟨m, hm4, r2⟩ := tmod4 (B.getD ((i : Nat) : Int).toNat 0) (getD_nn hB _)
    have w3 : IntKind.u8.wrap (3 - ((m : Nat) : Int)) = ((3 - m : Nat) : Int) := by rw [wrap_u8 _ (by omega)]; omega
    obtain ⟨x, hx, hxl⟩ := sX.at hk4
    obtain ⟨y, hy, hyl⟩ := sY.at hm4
    have sX2 := sX.put hx e
    have sY2 := sY.put hy q
    obtain ⟨y2, hy2, hyl2⟩ := sY2.at (k := 3 - m) (by omega)
    have sY3 := sY2.put hy2 q
    have tX := rowsE_set X k x e
    have tY := rowsE_set Y m y q
    have tZ := rowsE_set (Y.set m (y ++ [q])) (3 - m) y2 q
    have px := at_one (rowsE_at hx)
    have py := at_one (rowsE_at hy)
    have pz := at_one (rowsE_at hy2)
    have o1 := rowsE_ones X
    have o2 := rowsE_ones Y
    have o3 := rowsE_ones (Y.set m (y ++ [q]))
    have n1 := rowsE_one X
    have n2 := rowsE_one Y
    have n3 := rowsE_one (Y.set m (y ++ [q]))
    have lX : (vW X).length = 4 := (rowsE_len X).trans sX.len
    have lY : (vW Y).length = 4 := (rowsE_len Y).trans sY.len
    have lZ : (vW (Y.set m (y ++ [q]))).length = 4 := (rowsE_len _).trans sY2.len
    have d1 : (0 : Int) ≤ ((k : Nat) : Int) ∧ ((k : Nat) : Int) < (((vW X).length : Nat) : Int) := by omega
    have d2 : (0 : Int) ≤ ((m : Nat) : Int) ∧ ((m : Nat) : Int) < (((vW Y).length : Nat) : Int) := by omega
    have d3 : (0 : Int) ≤ ((3 - m : Nat) : Int) ∧ ((3 - m : Nat) : Int) < (((vW (Y.set m (y ++ [q]))).length : Nat) : Int) := by omega
    have v1 : k < (vW X).length := by omega
    have v2 : m < (vW Y).length := by omega
    have v3 : 3 - m < (vW (Y.set m (y ++ [q]))).length := by omega
    have hx5 := few_len hxl (by omega)
    have hy5 := few_len hyl (by omega)
    have hz5 := few_len hyl2 (by omega)
    have a1 : ([] : List Int).length + (xV x).length ≤ 140737488355328 := app0_le (by omega)
    have a2 : ([] ++ xV x).length + e.F.length ≤ 140737488355328 := app1_le (by omega) hFe
    have a3 : ([] : List Int).length + (xV y).length ≤ 140737488355328 := app0_le (by omega)
    have a4 : ([] ++ xV y).length + q.F.length ≤ 140737488355328 := app1_le (by omega) hFq
    have a5 : ([] : List Int).length + (xV y2).length ≤ 140737488355328 := app0_le (by omega)
    have a6 : ([] ++ xV y2).length + q.F.length ≤ 140737488355328 := app1_le (by omega) hFq
    rw [tY] at o3 n3 pz d3 v3 tZ
    have htake : L.take (i + 1) = L.take i ++ [e] := by rw [List.take_add_one, he]; rfl
    have hrev : L.reverse.take (i + 1) = L.reverse.take i ++ [q] := by
     have : L.reverse[i]? = some q := by rw [List.getElem?_reverse hlt]; exact hq
     rw [List.take_add_one, this]
     rfl
    have go1 : e.may = true → ¬ e.k = 3 → q.may = true → ¬ q.k = 3 → MfInv L (i + 1, X.set k (x ++ [e]), Y.set m (y ++ [q])) ∧ MfInv L (i + 1, X.set k (x ++ [e]), (Y.set m (y ++ [q])).set (3 - m) (y2 ++ [q])) := fun e1 e2 e3 e4 => by
     have h1 : BD (L.take (i + 1)) := by rw [htake]; exact bd_snoc bX ho e1 e2
     have h2 : BD (L.reverse.take (i + 1)) := by rw [hrev]; exact bd_snoc bY hp e3 e4
     have h3 : Str (X.set k (x ++ [e])) (1 + (i + 1)) (L.take (i + 1)) := by rw [htake]; exact sX2
     refine ⟨⟨hlt, h1, h2, h3, ?_⟩, ⟨hlt, h1, h2, h3, ?_⟩⟩
     ·show Str (Y.set m (y ++ [q])) (1 + 2 * (i + 1)) (L.reverse.take (i + 1))
      rw [hrev]
      exact ⟨sY2.shape, fun s hs => Nat.le_trans (sY2.few s hs) (by omega)⟩
     ·show Str ((Y.set m (y ++ [q])).set (3 - m) (y2 ++ [q])) (1 + 2 * (i + 1)) (L.reverse.take (i + 1))
      rw [hrev]
      refine (Str.congr (Q' := L.reverse.take i ++ [q]) ⟨sY3.shape, fun s hs => Nat.le_trans (sY3.few s hs) (by omega)⟩ fun d => ?_)
      simp only [List.mem_append, List.mem_singleton, or_assoc, or_self]
    clear sX sY sX2 sY2 sY3 bX bY htake hrev hx5 hy5 hz5 hxl hyl hyl2 hFe hFq hx hy hy2 lX lY lZ he hq hk4 hm4 hi hlt
    obtain ⟨b1, hb1⟩ : ∃ b, e.may = b := ⟨_, rfl⟩
    obtain ⟨b2, hb2⟩ : ∃ b, decide (e.k = 3) = b := ⟨_, rfl⟩
    obtain ⟨b3, hb3⟩ : ∃ b, q.may = b := ⟨_, rfl⟩
    obtain ⟨b4, hb4⟩ : ∃ b, decide (q.k = 3) = b := ⟨_, rfl⟩
    have go1 : b1 = true → b2 = false → b3 = true → b4 = false → _ := fun e1 e2 e3 e4 => go1 (hb1.trans e1) (of_decide_eq_false (hb2.trans e2)) (hb3.trans e3) (of_decide_eq_false (hb4.trans e4))
    rw [hb1] at m1
    rw [hb3] at m2
    clear ho hp hb1 hb3
    have fin1 := rowsE_set X k x e
    generalize e.F = Be at *
    generalize q.F = Bq at *
    generalize xV x = Xk at *
    generalize xV y = Yk at *
    generalize xV y2 = Zk at *
    generalize hX' : X.set k (x ++ [e]) = X' at *
    generalize hY' : Y.set m (y ++ [q]) = Y' at *
    generalize hZ' : Y'.set (3 - m) (y2 ++ [q]) = Z' at *
    clear hX' hY' hZ' fin1
    obtain ⟨ek, es, ey, eu, ev, ex⟩ := e
    obtain ⟨qk, qs, qy, qu, qv, qx⟩ := q
    dsimp only at hb2 hb4
    cases b1
    case false =>
     clear go1
     repeat' (first | (refine zY.is ?_; first | refine zY.seq ?_ | (refine zY.iq 13 ?_; refine zY.rqb _ K_7 K_0 ?_; (refine zZ.v rfl rfl (zX rfl rfl rfl (by decide)) ?_); (refine zZ.v rfl rfl (zX rfl rfl rfl (by decide)) ?_); (refine zZ.v rfl rfl (by exact zT rfl rfl rfl (by exact g1) rfl (by decide)) ?_); refine zZ.nil ?_) | (refine zY.iq 15 ?_; refine zY.rqb _ K_7 K_0 ?_; all_goals (refine zZ.v rfl rfl (zX rfl rfl rfl (by decide)) ?_); all_goals (refine zZ.v rfl rfl (zX rfl rfl rfl (by decide)) ?_); all_goals (refine zZ.v rfl rfl (by exact yZ rfl rfl rfl (by exact hcL) (by exact g2) rfl (by decide)) ?_); all_goals (refine zZ.v rfl rfl (by exact xK rfl rfl (by exact Nat.le_of_ble_eq_true rfl) rfl (by decide)) ?_); all_goals (refine zZ.v rfl rfl (by exact yV (m1) rfl rfl rfl (by decide)) ?_); all_goals (refine zZ.v rfl rfl (by exact xC rfl rfl (by exact bT (by decide)) rfl (by decide)) ?_); all_goals (refine zZ.v rfl rfl (zX rfl rfl rfl (by decide)) ?_); all_goals (refine zZ.gnF rfl rfl (by decide) rfl (by with_reducible rfl) rfl (by decide) ?_); all_goals (refine zZ.gnF rfl rfl (by decide) rfl (by with_reducible rfl) rfl (by decide) ?_); all_goals (refine zZ.gnF rfl rfl (by decide) rfl (by with_reducible rfl) rfl (by decide) ?_); all_goals (refine zZ.gnF rfl rfl (by decide) rfl (by with_reducible rfl) rfl (by decide) ?_); all_goals (refine zZ.gnF rfl rfl (by decide) rfl (by with_reducible rfl) rfl (by decide) ?_); all_goals (refine zZ.gnF rfl rfl (by decide) rfl (by with_reducible rfl) rfl (by decide) ?_); all_goals (refine zZ.v rfl rfl (by exact zO rfl rfl (by with_reducible rfl) rfl rfl (by decide)) ?_); all_goals (refine zZ.nil ?_)) | (refine zY.iq 16 ?_; refine zY.rqb _ K_7 K_0 ?_; (refine zZ.v rfl rfl (zX rfl rfl rfl (by decide)) ?_); (refine zZ.v rfl rfl (zW rfl rfl rfl (by decide)) ?_); refine zZ.nil ?_) | refine zY.yA rfl (by first | assumption | with_reducible rfl) ?_ | refine zY.skip ?_ | refine zY.block ?_ | refine zY.ret ?_) | refine zH.n ?_ | refine zH.r ?_ | refine zR.r ?_)
     all_goals exact ⟨.inl rfl, _, Sub.refl _, xZ.p rfl (.tmp rfl)⟩
    case true =>
     cases b2
     case true =>
      clear go1
      repeat' (first | (refine zY.is ?_; first | refine zY.seq ?_ | (refine zY.iq 13 ?_; refine zY.rqb _ K_7 K_0 ?_; (refine zZ.v rfl rfl (zX rfl rfl rfl (by decide)) ?_); (refine zZ.v rfl rfl (zX rfl rfl rfl (by decide)) ?_); (refine zZ.v rfl rfl (by exact zT rfl rfl rfl (by exact g1) rfl (by decide)) ?_); refine zZ.nil ?_) | (refine zY.iq 15 ?_; refine zY.rqb _ K_7 K_0 ?_; all_goals (refine zZ.v rfl rfl (zX rfl rfl rfl (by decide)) ?_); all_goals (refine zZ.v rfl rfl (zX rfl rfl rfl (by decide)) ?_); all_goals (refine zZ.v rfl rfl (by exact yZ rfl rfl rfl (by exact hcL) (by exact g2) rfl (by decide)) ?_); all_goals (refine zZ.v rfl rfl (by exact xK rfl rfl (by exact Nat.le_of_ble_eq_true rfl) rfl (by decide)) ?_); all_goals (refine zZ.v rfl rfl (by exact yV (m1) rfl rfl rfl (by decide)) ?_); all_goals (refine zZ.v rfl rfl (by exact xC rfl rfl (by exact bF (by decide)) rfl (by decide)) ?_); all_goals (refine zZ.v rfl rfl (zX rfl rfl rfl (by decide)) ?_); all_goals (refine zZ.gY rfl rfl (by decide) rfl (by with_reducible rfl) rfl (by decide) (zX rfl rfl rfl (by decide)) ?_); all_goals (refine zZ.gY rfl rfl (by decide) rfl (by with_reducible rfl) rfl (by decide) (zX rfl rfl rfl (by decide)) ?_); all_goals (refine zZ.gY rfl rfl (by decide) rfl (by with_reducible rfl) rfl (by decide) (by exact yZ rfl rfl rfl (by exact hcL) (by exact g2) rfl (by decide)) ?_); all_goals (refine zZ.gY rfl rfl (by decide) rfl (by with_reducible rfl) rfl (by decide) (wY rfl rfl rfl (by decide)) ?_); all_goals (refine zZ.gY rfl rfl (by decide) rfl (by with_reducible rfl) rfl (by decide) (yJ rfl rfl rfl rfl (by decide)) ?_); all_goals (refine zZ.gY rfl rfl (by decide) rfl (by with_reducible rfl) rfl (by decide) (by exact yG rfl rfl rfl (by exact hb2) rfl (by decide)) ?_); all_goals (refine zZ.v rfl rfl (by exact zM rfl rfl (by with_reducible rfl) rfl rfl (by decide)) ?_); all_goals (refine zZ.nil ?_)) | (refine zY.iq 16 ?_; refine zY.rqb _ K_7 K_0 ?_; (refine zZ.v rfl rfl (zX rfl rfl rfl (by decide)) ?_); (refine zZ.v rfl rfl (zW rfl rfl rfl (by decide)) ?_); refine zZ.nil ?_) | refine zY.yA rfl (by first | assumption | with_reducible rfl) ?_ | refine zY.skip ?_ | refine zY.block ?_ | refine zY.ret ?_) | refine zH.n ?_ | refine zH.r ?_ | refine zR.r ?_)
      all_goals exact ⟨.inl rfl, _, Sub.refl _, xZ.p rfl (.tmp rfl)⟩
     case false =>
      repeat' (first | refine zZ.sub (xM (d := 105) rfl rfl) ?_ | refine zY.hold (id := 22) ?_ | (refine zZ.is ?_; first | refine zZ.nil ?_ | refine zZ.v rfl rfl (by first | exact qJ rfl rfl rfl rfl (by first | exact j1 | exact d1) rfl (by decide) | exact w_loadV1 rfl rfl rfl (by exact o1) (by exact px) rfl (by decide) | exact zX rfl rfl rfl (by decide) | exact yK rfl rfl rfl (by decide)) ?_ | refine zZ.m rfl rfl (w_build0V rfl rfl (by decide)) ?_ | refine zZ.w rfl (by first | exact qK rfl rfl rfl rfl (by first | exact a1 | exact a2) rfl rfl (by decide) | exact w_storeV rfl rfl rfl rfl rfl (by exact n1) (by rfl) rfl (by exact v1) rfl) ?_) | (refine zY.is ?_; first | refine zY.seq ?_ | (refine zY.iq 13 ?_; refine zY.rqb _ K_7 K_0 ?_; (refine zZ.v rfl rfl (zX rfl rfl rfl (by decide)) ?_); (refine zZ.v rfl rfl (zX rfl rfl rfl (by decide)) ?_); (refine zZ.v rfl rfl (by exact zT rfl rfl rfl (by exact g1) rfl (by decide)) ?_); refine zZ.nil ?_) | (refine zY.iq 15 ?_; refine zY.rqb _ K_7 K_0 ?_; all_goals (refine zZ.v rfl rfl (zX rfl rfl rfl (by decide)) ?_); all_goals (refine zZ.v rfl rfl (zX rfl rfl rfl (by decide)) ?_); all_goals (refine zZ.v rfl rfl (by exact yZ rfl rfl rfl (by exact hcL) (by exact g2) rfl (by decide)) ?_); all_goals (refine zZ.v rfl rfl (by exact xK rfl rfl (by exact Nat.le_of_ble_eq_true rfl) rfl (by decide)) ?_); all_goals (refine zZ.v rfl rfl (by exact yV (m1) rfl rfl rfl (by decide)) ?_); all_goals (refine zZ.v rfl rfl (by exact xC rfl rfl (by exact bF (by decide)) rfl (by decide)) ?_); all_goals (refine zZ.v rfl rfl (zX rfl rfl rfl (by decide)) ?_); all_goals (refine zZ.gY rfl rfl (by decide) rfl (by with_reducible rfl) rfl (by decide) (zX rfl rfl rfl (by decide)) ?_); all_goals (refine zZ.gY rfl rfl (by decide) rfl (by with_reducible rfl) rfl (by decide) (zX rfl rfl rfl (by decide)) ?_); all_goals (refine zZ.gY rfl rfl (by decide) rfl (by with_reducible rfl) rfl (by decide) (by exact yZ rfl rfl rfl (by exact hcL) (by exact g2) rfl (by decide)) ?_); all_goals (refine zZ.gY rfl rfl (by decide) rfl (by with_reducible rfl) rfl (by decide) (wY rfl rfl rfl (by decide)) ?_); all_goals (refine zZ.gY rfl rfl (by decide) rfl (by with_reducible rfl) rfl (by decide) (yJ rfl rfl rfl rfl (by decide)) ?_); all_goals (refine zZ.gY rfl rfl (by decide) rfl (by with_reducible rfl) rfl (by decide) (by exact yG rfl rfl rfl (by exact hb2) rfl (by decide)) ?_); all_goals (refine zZ.v rfl rfl (by exact zM rfl rfl (by with_reducible rfl) rfl rfl (by decide)) ?_); all_goals (refine zZ.nil ?_)) | (refine zY.iq 17 ?_; refine zY.rqb _ K_7 K_0 ?_; (refine zZ.v rfl rfl (zX rfl rfl rfl (by decide)) ?_); (refine zZ.v rfl rfl (zX rfl rfl rfl (by decide)) ?_); (refine zZ.v rfl rfl (by exact yZ rfl rfl rfl (by exact hcL) (by exact g2) rfl (by decide)) ?_); (refine zZ.v rfl rfl (by exact xK rfl rfl (by exact Nat.le_of_ble_eq_true rfl) rfl (by decide)) ?_); (refine zZ.v rfl rfl (by exact yV (be) rfl rfl rfl (by decide)) ?_); (refine zZ.v rfl rfl (zW rfl rfl rfl (by decide)) ?_); refine zZ.nil ?_) | (refine zY.iq 18 ?_; refine zY.rqb _ K_7 K_0 ?_; (refine zZ.v rfl rfl (zX rfl rfl rfl (by decide)) ?_); (refine zZ.v rfl rfl (zX rfl rfl rfl (by decide)) ?_); (refine zZ.v rfl rfl (by exact y9 rfl rfl rfl (by exact w1) rfl (by decide)) ?_); (refine zZ.v rfl rfl (zX rfl rfl rfl (by decide)) ?_); (refine zZ.v rfl rfl (by exact y9 rfl rfl rfl (by exact w2) rfl (by decide)) ?_); (refine zZ.v rfl rfl (by exact yZ rfl rfl rfl (by exact hcL) (by exact g4) rfl (by decide)) ?_); (refine zZ.v rfl rfl (by exact xK rfl rfl (by exact Nat.le_of_ble_eq_true rfl) rfl (by decide)) ?_); (refine zZ.v rfl rfl (by exact yV (bq) rfl rfl rfl (by decide)) ?_); (refine zZ.v rfl rfl (zW rfl rfl rfl (by decide)) ?_); refine zZ.nil ?_) | (refine zY.iq 19 ?_; refine zY.rqb _ K_7 K_0 ?_; (refine zZ.v rfl rfl (zX rfl rfl rfl (by decide)) ?_); (refine zZ.v rfl rfl (zX rfl rfl rfl (by decide)) ?_); (refine zZ.v rfl rfl (by exact w_indexB rfl rfl rfl (by exact j3) rfl (by decide)) ?_); (refine zZ.v rfl rfl (yJ rfl rfl rfl rfl (by decide)) ?_); (refine zZ.v rfl rfl (by exact a_rem rfl rfl rfl (by decide) (by exact r1) rfl (by decide)) ?_); (refine zZ.v rfl rfl (zW rfl rfl rfl (by decide)) ?_); refine zZ.nil ?_) | (refine zY.iq 20 ?_; refine zY.rqb _ K_7 K_0 ?_; (refine zZ.v rfl rfl (zX rfl rfl rfl (by decide)) ?_); (refine zZ.v rfl rfl (zX rfl rfl rfl (by decide)) ?_); (refine zZ.v rfl rfl (by exact w_indexB rfl rfl rfl (by exact j4) rfl (by decide)) ?_); (refine zZ.v rfl rfl (yJ rfl rfl rfl rfl (by decide)) ?_); (refine zZ.v rfl rfl (by exact a_rem rfl rfl rfl (by decide) (by exact r2) rfl (by decide)) ?_); (refine zZ.v rfl rfl (zW rfl rfl rfl (by decide)) ?_); refine zZ.nil ?_) | (refine zY.iq 21 ?_; refine zY.rqb _ K_7 K_0 ?_) | refine zY.yA rfl (by first | assumption | with_reducible rfl) ?_ | refine zY.yC rfl (by first | assumption | with_reducible rfl) ?_ | refine zY.skip ?_ | refine zY.block ?_) | refine zH.n ?_)
      refine Hold.go ?_
      cases b3
      case false =>
       clear go1
       repeat' (first | (refine zY.is ?_; first | refine zY.seq ?_ | (refine zY.iq 22 ?_; refine zY.rqb _ K_7 K_0 ?_; all_goals (refine zZ.v rfl rfl (zX rfl rfl rfl (by decide)) ?_); all_goals (refine zZ.v rfl rfl (zX rfl rfl rfl (by decide)) ?_); all_goals (refine zZ.v rfl rfl (by exact y9 rfl rfl rfl (by exact w1) rfl (by decide)) ?_); all_goals (refine zZ.v rfl rfl (zX rfl rfl rfl (by decide)) ?_); all_goals (refine zZ.v rfl rfl (by exact y9 rfl rfl rfl (by exact w2) rfl (by decide)) ?_); all_goals (refine zZ.v rfl rfl (by exact yZ rfl rfl rfl (by exact hcL) (by exact g4) rfl (by decide)) ?_); all_goals (refine zZ.v rfl rfl (by exact xK rfl rfl (by exact Nat.le_of_ble_eq_true rfl) rfl (by decide)) ?_); all_goals (refine zZ.v rfl rfl (by exact yV (m2) rfl rfl rfl (by decide)) ?_); all_goals (refine zZ.v rfl rfl (by exact xC rfl rfl (by exact bT (by decide)) rfl (by decide)) ?_); all_goals (refine zZ.v rfl rfl (zX rfl rfl rfl (by decide)) ?_); all_goals (refine zZ.gnF rfl rfl (by decide) rfl (by with_reducible rfl) rfl (by decide) ?_); all_goals (refine zZ.gnF rfl rfl (by decide) rfl (by with_reducible rfl) rfl (by decide) ?_); all_goals (refine zZ.gnF rfl rfl (by decide) rfl (by with_reducible rfl) rfl (by decide) ?_); all_goals (refine zZ.gnF rfl rfl (by decide) rfl (by with_reducible rfl) rfl (by decide) ?_); all_goals (refine zZ.gnF rfl rfl (by decide) rfl (by with_reducible rfl) rfl (by decide) ?_); all_goals (refine zZ.gnF rfl rfl (by decide) rfl (by with_reducible rfl) rfl (by decide) ?_); all_goals (refine zZ.gnF rfl rfl (by decide) rfl (by with_reducible rfl) rfl (by decide) ?_); all_goals (refine zZ.gnF rfl rfl (by decide) rfl (by with_reducible rfl) rfl (by decide) ?_); all_goals (refine zZ.gnF rfl rfl (by decide) rfl (by with_reducible rfl) rfl (by decide) ?_); all_goals (refine zZ.v rfl rfl (by exact zO rfl rfl (by with_reducible rfl) rfl rfl (by decide)) ?_); all_goals (refine zZ.nil ?_)) | (refine zY.iq 23 ?_; refine zY.rqb _ K_7 K_0 ?_; (refine zZ.v rfl rfl (zX rfl rfl rfl (by decide)) ?_); (refine zZ.v rfl rfl (zW rfl rfl rfl (by decide)) ?_); refine zZ.nil ?_) | refine zY.yA rfl (by first | assumption | with_reducible rfl) ?_ | refine zY.ret ?_) | refine zH.n ?_ | refine zH.r ?_ | refine zR.r ?_)
       all_goals exact ⟨.inl rfl, _, Sub.refl _, xZ.p rfl (.tmp rfl)⟩
      case true =>
       cases b4
       case true =>
        clear go1
        repeat' (first | (refine zY.is ?_; first | refine zY.seq ?_ | (refine zY.iq 22 ?_; refine zY.rqb _ K_7 K_0 ?_; all_goals (refine zZ.v rfl rfl (zX rfl rfl rfl (by decide)) ?_); all_goals (refine zZ.v rfl rfl (zX rfl rfl rfl (by decide)) ?_); all_goals (refine zZ.v rfl rfl (by exact y9 rfl rfl rfl (by exact w1) rfl (by decide)) ?_); all_goals (refine zZ.v rfl rfl (zX rfl rfl rfl (by decide)) ?_); all_goals (refine zZ.v rfl rfl (by exact y9 rfl rfl rfl (by exact w2) rfl (by decide)) ?_); all_goals (refine zZ.v rfl rfl (by exact yZ rfl rfl rfl (by exact hcL) (by exact g4) rfl (by decide)) ?_); all_goals (refine zZ.v rfl rfl (by exact xK rfl rfl (by exact Nat.le_of_ble_eq_true rfl) rfl (by decide)) ?_); all_goals (refine zZ.v rfl rfl (by exact yV (m2) rfl rfl rfl (by decide)) ?_); all_goals (refine zZ.v rfl rfl (by exact xC rfl rfl (by exact bF (by decide)) rfl (by decide)) ?_); all_goals (refine zZ.v rfl rfl (zX rfl rfl rfl (by decide)) ?_); all_goals (refine zZ.gY rfl rfl (by decide) rfl (by with_reducible rfl) rfl (by decide) (zX rfl rfl rfl (by decide)) ?_); all_goals (refine zZ.gY rfl rfl (by decide) rfl (by with_reducible rfl) rfl (by decide) (zX rfl rfl rfl (by decide)) ?_); all_goals (refine zZ.gY rfl rfl (by decide) rfl (by with_reducible rfl) rfl (by decide) (by exact y9 rfl rfl rfl (by exact w1) rfl (by decide)) ?_); all_goals (refine zZ.gY rfl rfl (by decide) rfl (by with_reducible rfl) rfl (by decide) (zX rfl rfl rfl (by decide)) ?_); all_goals (refine zZ.gY rfl rfl (by decide) rfl (by with_reducible rfl) rfl (by decide) (by exact y9 rfl rfl rfl (by exact w2) rfl (by decide)) ?_); all_goals (refine zZ.gY rfl rfl (by decide) rfl (by with_reducible rfl) rfl (by decide) (by exact yZ rfl rfl rfl (by exact hcL) (by exact g4) rfl (by decide)) ?_); all_goals (refine zZ.gY rfl rfl (by decide) rfl (by with_reducible rfl) rfl (by decide) (wY rfl rfl rfl (by decide)) ?_); all_goals (refine zZ.gY rfl rfl (by decide) rfl (by with_reducible rfl) rfl (by decide) (yJ rfl rfl rfl rfl (by decide)) ?_); all_goals (refine zZ.gY rfl rfl (by decide) rfl (by with_reducible rfl) rfl (by decide) (by exact yG rfl rfl rfl (by exact hb4) rfl (by decide)) ?_); all_goals (refine zZ.v rfl rfl (by exact zM rfl rfl (by with_reducible rfl) rfl rfl (by decide)) ?_); all_goals (refine zZ.nil ?_)) | (refine zY.iq 23 ?_; refine zY.rqb _ K_7 K_0 ?_; (refine zZ.v rfl rfl (zX rfl rfl rfl (by decide)) ?_); (refine zZ.v rfl rfl (zW rfl rfl rfl (by decide)) ?_); refine zZ.nil ?_) | refine zY.yA rfl (by first | assumption | with_reducible rfl) ?_ | refine zY.ret ?_) | refine zH.n ?_ | refine zH.r ?_ | refine zR.r ?_)
        all_goals exact ⟨.inl rfl, _, Sub.refl _, xZ.p rfl (.tmp rfl)⟩
       case false =>
        obtain ⟨go1, go2⟩ := go1 rfl rfl rfl rfl
        cases tw
        case false =>
         repeat' (first | refine zZ.sub (xM (d := 137) rfl rfl) ?_ | (refine zZ.is ?_; first | refine zZ.nil ?_ | refine zZ.v rfl rfl (by first | exact qJ rfl rfl rfl rfl (by first | exact j2 | exact d2) rfl (by decide) | exact w_loadV1 rfl rfl rfl (by exact o2) (by exact py) rfl (by decide) | exact zX rfl rfl rfl (by decide) | exact yK rfl rfl rfl (by decide)) ?_ | refine zZ.m rfl rfl (w_build0V rfl rfl (by decide)) ?_ | refine zZ.w rfl (by first | exact qK rfl rfl rfl rfl (by first | exact a3 | exact a4) rfl rfl (by decide) | exact w_storeV rfl rfl rfl rfl rfl (by exact n2) (by rfl) rfl (by exact v2) rfl) ?_) | (refine zY.is ?_; first | refine zY.seq ?_ | (refine zY.iq 22 ?_; refine zY.rqb _ K_7 K_0 ?_; all_goals (refine zZ.v rfl rfl (zX rfl rfl rfl (by decide)) ?_); all_goals (refine zZ.v rfl rfl (zX rfl rfl rfl (by decide)) ?_); all_goals (refine zZ.v rfl rfl (by exact y9 rfl rfl rfl (by exact w1) rfl (by decide)) ?_); all_goals (refine zZ.v rfl rfl (zX rfl rfl rfl (by decide)) ?_); all_goals (refine zZ.v rfl rfl (by exact y9 rfl rfl rfl (by exact w2) rfl (by decide)) ?_); all_goals (refine zZ.v rfl rfl (by exact yZ rfl rfl rfl (by exact hcL) (by exact g4) rfl (by decide)) ?_); all_goals (refine zZ.v rfl rfl (by exact xK rfl rfl (by exact Nat.le_of_ble_eq_true rfl) rfl (by decide)) ?_); all_goals (refine zZ.v rfl rfl (by exact yV (m2) rfl rfl rfl (by decide)) ?_); all_goals (refine zZ.v rfl rfl (by exact xC rfl rfl (by exact bF (by decide)) rfl (by decide)) ?_); all_goals (refine zZ.v rfl rfl (zX rfl rfl rfl (by decide)) ?_); all_goals (refine zZ.gY rfl rfl (by decide) rfl (by with_reducible rfl) rfl (by decide) (zX rfl rfl rfl (by decide)) ?_); all_goals (refine zZ.gY rfl rfl (by decide) rfl (by with_reducible rfl) rfl (by decide) (zX rfl rfl rfl (by decide)) ?_); all_goals (refine zZ.gY rfl rfl (by decide) rfl (by with_reducible rfl) rfl (by decide) (by exact y9 rfl rfl rfl (by exact w1) rfl (by decide)) ?_); all_goals (refine zZ.gY rfl rfl (by decide) rfl (by with_reducible rfl) rfl (by decide) (zX rfl rfl rfl (by decide)) ?_); all_goals (refine zZ.gY rfl rfl (by decide) rfl (by with_reducible rfl) rfl (by decide) (by exact y9 rfl rfl rfl (by exact w2) rfl (by decide)) ?_); all_goals (refine zZ.gY rfl rfl (by decide) rfl (by with_reducible rfl) rfl (by decide) (by exact yZ rfl rfl rfl (by exact hcL) (by exact g4) rfl (by decide)) ?_); all_goals (refine zZ.gY rfl rfl (by decide) rfl (by with_reducible rfl) rfl (by decide) (wY rfl rfl rfl (by decide)) ?_); all_goals (refine zZ.gY rfl rfl (by decide) rfl (by with_reducible rfl) rfl (by decide) (yJ rfl rfl rfl rfl (by decide)) ?_); all_goals (refine zZ.gY rfl rfl (by decide) rfl (by with_reducible rfl) rfl (by decide) (by exact yG rfl rfl rfl (by exact hb4) rfl (by decide)) ?_); all_goals (refine zZ.v rfl rfl (by exact zM rfl rfl (by with_reducible rfl) rfl rfl (by decide)) ?_); all_goals (refine zZ.nil ?_)) | (refine zY.iq 24 ?_; refine zY.rqb _ K_7 K_0 ?_) | (refine zY.iq 25 ?_; refine zY.rqb _ K_7 K_0 ?_; (refine zZ.v rfl rfl (zX rfl rfl rfl (by decide)) ?_); refine zZ.nil ?_) | (refine zY.iq 14 ?_; refine zY.rqb _ K_7 K_0 ?_; (refine zZ.v rfl rfl (zX rfl rfl rfl (by decide)) ?_); (refine zZ.v rfl rfl (by exact yF rfl rfl rfl (by exact g3) rfl (by decide)) ?_); (refine zZ.v rfl rfl (zW rfl rfl rfl (by decide)) ?_); refine zZ.nil ?_) | refine zY.yC rfl (by first | assumption | with_reducible rfl) ?_ | refine zY.skip ?_) | refine zH.n ?_ | refine zR.n ?_)
         all_goals
          refine ⟨(i + 1, X', Y'), ?_, go1, by have := go1.le; simp only at this ⊢; omega⟩
          dsimp only
          rw [tX, tY]
          exact zD K_2i K_2j
        case true =>
         repeat' (first | refine zZ.sub (xM (d := 137) rfl rfl) ?_ | refine zZ.sub (xM (d := 151) rfl rfl) ?_ | (refine zZ.is ?_; first | refine zZ.nil ?_ | refine zZ.v rfl rfl (by first | exact y9 rfl rfl rfl (by first | exact w1 | exact w3) rfl (by decide) | exact qJ rfl rfl rfl rfl (by first | exact j2 | exact d2 | exact d3) rfl (by decide) | exact w_loadV1 rfl rfl rfl (by first | exact o2 | exact o3) (by first | exact py | exact pz) rfl (by decide) | exact zX rfl rfl rfl (by decide) | exact yK rfl rfl rfl (by decide)) ?_ | refine zZ.m rfl rfl (w_build0V rfl rfl (by decide)) ?_ | refine zZ.w rfl (by first | exact qK rfl rfl rfl rfl (by first | exact a3 | exact a4 | exact a5 | exact a6) rfl rfl (by decide) | exact w_storeV rfl rfl rfl rfl rfl (by first | exact n2 | exact n3) (by rfl) rfl (by first | exact v2 | exact v3) rfl) ?_) | (refine zY.is ?_; first | refine zY.seq ?_ | (refine zY.iq 22 ?_; refine zY.rqb _ K_7 K_0 ?_; all_goals (refine zZ.v rfl rfl (zX rfl rfl rfl (by decide)) ?_); all_goals (refine zZ.v rfl rfl (zX rfl rfl rfl (by decide)) ?_); all_goals (refine zZ.v rfl rfl (by exact y9 rfl rfl rfl (by exact w1) rfl (by decide)) ?_); all_goals (refine zZ.v rfl rfl (zX rfl rfl rfl (by decide)) ?_); all_goals (refine zZ.v rfl rfl (by exact y9 rfl rfl rfl (by exact w2) rfl (by decide)) ?_); all_goals (refine zZ.v rfl rfl (by exact yZ rfl rfl rfl (by exact hcL) (by exact g4) rfl (by decide)) ?_); all_goals (refine zZ.v rfl rfl (by exact xK rfl rfl (by exact Nat.le_of_ble_eq_true rfl) rfl (by decide)) ?_); all_goals (refine zZ.v rfl rfl (by exact yV (m2) rfl rfl rfl (by decide)) ?_); all_goals (refine zZ.v rfl rfl (by exact xC rfl rfl (by exact bF (by decide)) rfl (by decide)) ?_); all_goals (refine zZ.v rfl rfl (zX rfl rfl rfl (by decide)) ?_); all_goals (refine zZ.gY rfl rfl (by decide) rfl (by with_reducible rfl) rfl (by decide) (zX rfl rfl rfl (by decide)) ?_); all_goals (refine zZ.gY rfl rfl (by decide) rfl (by with_reducible rfl) rfl (by decide) (zX rfl rfl rfl (by decide)) ?_); all_goals (refine zZ.gY rfl rfl (by decide) rfl (by with_reducible rfl) rfl (by decide) (by exact y9 rfl rfl rfl (by exact w1) rfl (by decide)) ?_); all_goals (refine zZ.gY rfl rfl (by decide) rfl (by with_reducible rfl) rfl (by decide) (zX rfl rfl rfl (by decide)) ?_); all_goals (refine zZ.gY rfl rfl (by decide) rfl (by with_reducible rfl) rfl (by decide) (by exact y9 rfl rfl rfl (by exact w2) rfl (by decide)) ?_); all_goals (refine zZ.gY rfl rfl (by decide) rfl (by with_reducible rfl) rfl (by decide) (by exact yZ rfl rfl rfl (by exact hcL) (by exact g4) rfl (by decide)) ?_); all_goals (refine zZ.gY rfl rfl (by decide) rfl (by with_reducible rfl) rfl (by decide) (wY rfl rfl rfl (by decide)) ?_); all_goals (refine zZ.gY rfl rfl (by decide) rfl (by with_reducible rfl) rfl (by decide) (yJ rfl rfl rfl rfl (by decide)) ?_); all_goals (refine zZ.gY rfl rfl (by decide) rfl (by with_reducible rfl) rfl (by decide) (by exact yG rfl rfl rfl (by exact hb4) rfl (by decide)) ?_); all_goals (refine zZ.v rfl rfl (by exact zM rfl rfl (by with_reducible rfl) rfl rfl (by decide)) ?_); all_goals (refine zZ.nil ?_)) | (refine zY.iq 24 ?_; refine zY.rqb _ K_7 K_0 ?_) | (refine zY.iq 25 ?_; refine zY.rqb _ K_7 K_0 ?_; (refine zZ.v rfl rfl (zX rfl rfl rfl (by decide)) ?_); refine zZ.nil ?_) | (refine zY.iq 26 ?_; refine zY.rqb _ K_7 K_0 ?_) | (refine zY.iq 14 ?_; refine zY.rqb _ K_7 K_0 ?_; (refine zZ.v rfl rfl (zX rfl rfl rfl (by decide)) ?_); (refine zZ.v rfl rfl (by exact yF rfl rfl rfl (by exact g3) rfl (by decide)) ?_); (refine zZ.v rfl rfl (zW rfl rfl rfl (by decide)) ?_); refine zZ.nil ?_) | refine zY.yA rfl (by first | assumption | with_reducible rfl) ?_ | refine zY.yC rfl (by first | assumption | with_reducible rfl) ?_ | refine zY.skip ?_) | refine zH.n ?_ | refine zR.n ?_)
         all_goals
          refine ⟨(i + 1, X', Z'), ?_, go2, by have := go2.le; simp only at this ⊢; omega⟩
          dsimp only
          rw [tX, tZ]
          exact zD K_2i K_2j
   case neg =>
    have hie : i = L.length := by omega
    subst hie
    have g1 : decide (((L.length : Nat) : Int) < (((L.map zK.V).length : Nat) : Int)) = false := decide_eq_false (by rw [hlL]; omega)
    have hr : L.reverse.take L.length = L.reverse := by rw [← List.length_reverse, List.take_length]
    rw [List.take_length] at bX sX
    rw [hr] at bY sY
    have hx := sX.live bX 20
    have hy := sY.live bY 20
    have la := mLive_fn (X.map xV) 20 hx.2.1 (by rw [List.length_map, sX.len]; decide) (by have := hx.2.2; omega)
    have lb := mLive_fn (Y.map xV) 20 hy.2.1 (by rw [List.length_map, sY.len]; decide) (by have := hy.2.2; omega)
    have hxy : liveM L 20 = liveM L.reverse 20 := liveM_congr bX.kinds (fun e => List.mem_reverse.symm) 20
    rw [hx.1, ← rowsE_live] at la
    rw [hy.1, ← hxy, ← rowsE_live] at lb
    have hlen := liveM_len L 20 (by omega)
    have s1 := same_fn (liveM L 20).1 (liveM L 20).1 hlen hlen true (by simp)
    clear hx hy hxy hlen bX bY sX sY hr hok hi hlt g3
    generalize (liveM L 20).1 = R at *
    generalize (liveM L 20).2 = rc at *
    have c4 : decide (rc = rc) = true := decide_eq_true rfl
    repeat' (first | (refine zY.is ?_; first | refine zY.seq ?_ | (refine zY.iq 13 ?_; refine zY.rqb _ K_7 K_0 ?_; (refine zZ.v rfl rfl (zX rfl rfl rfl (by decide)) ?_); (refine zZ.v rfl rfl (zX rfl rfl rfl (by decide)) ?_); (refine zZ.v rfl rfl (by exact zT rfl rfl rfl (by exact g1) rfl (by decide)) ?_); refine zZ.nil ?_) | (refine zY.isR (id := 27) ?_; refine zY.sub ((sub_frzE 50 35 1 (vW X) rfl)) ?_; refine zY.sub ((sub_frzE 52 35 1 (vW Y) rfl)) ?_; refine zY.rqk _ K_3q K_0 ?_; (refine zZ.v rfl rfl (zX rfl rfl rfl (by decide)) ?_); (refine zZ.v rfl rfl (by exact xY (la) rfl rfl rfl (by decide)) ?_); (refine zZ.v rfl rfl (yI rfl rfl rfl (by decide)) ?_); (refine zZ.v rfl rfl (zF rfl rfl rfl rfl (by decide)) ?_); (refine zZ.v rfl rfl (zF rfl rfl rfl rfl (by decide)) ?_); (refine zZ.v rfl rfl (zW rfl rfl rfl (by decide)) ?_); (refine zZ.v rfl rfl (zW rfl rfl rfl (by decide)) ?_); refine zZ.nil ?_) | (refine zY.iq 28 ?_; refine zY.rqk _ K_3r K_0 ?_; (refine zZ.v rfl rfl (zX rfl rfl rfl (by decide)) ?_); (refine zZ.v rfl rfl (by exact xY (lb) rfl rfl rfl (by decide)) ?_); (refine zZ.v rfl rfl (yI rfl rfl rfl (by decide)) ?_); (refine zZ.v rfl rfl (zF rfl rfl rfl rfl (by decide)) ?_); (refine zZ.v rfl rfl (zF rfl rfl rfl rfl (by decide)) ?_); (refine zZ.v rfl rfl (zW rfl rfl rfl (by decide)) ?_); (refine zZ.v rfl rfl (zW rfl rfl rfl (by decide)) ?_); refine zZ.nil ?_) | (refine zY.iq 29 ?_; refine zY.rqk _ K_3s K_0 ?_; all_goals (refine zZ.v rfl rfl (zX rfl rfl rfl (by decide)) ?_); all_goals (refine zZ.v rfl rfl (zX rfl rfl rfl (by decide)) ?_); all_goals (refine zZ.gY rfl rfl (by decide) rfl (by with_reducible rfl) rfl (by decide) (zX rfl rfl rfl (by decide)) ?_); all_goals (refine zZ.gY rfl rfl (by decide) rfl (by with_reducible rfl) rfl (by decide) (zX rfl rfl rfl (by decide)) ?_); all_goals (refine zZ.gY rfl rfl (by decide) rfl (by with_reducible rfl) rfl (by decide) (by exact yG rfl rfl rfl (by exact c4) rfl (by decide)) ?_); all_goals (refine zZ.v rfl rfl (by exact zO rfl rfl (by with_reducible rfl) rfl rfl (by decide)) ?_); all_goals (refine zZ.v rfl rfl (zX rfl rfl rfl (by decide)) ?_); all_goals (refine zZ.gY rfl rfl (by decide) rfl (by with_reducible rfl) rfl (by decide) (zX rfl rfl rfl (by decide)) ?_); all_goals (refine zZ.gY rfl rfl (by decide) rfl (by with_reducible rfl) rfl (by decide) (zX rfl rfl rfl (by decide)) ?_); all_goals (refine zZ.gY rfl rfl (by decide) rfl (by with_reducible rfl) rfl (by decide) (by exact yV (s1) rfl rfl rfl (by decide)) ?_); all_goals (refine zZ.v rfl rfl (by exact zO rfl rfl (by with_reducible rfl) rfl rfl (by decide)) ?_); all_goals (refine zZ.v rfl rfl (zW rfl rfl rfl (by decide)) ?_); all_goals (refine zZ.nil ?_)) | refine zY.yC rfl (by first | assumption | with_reducible rfl) ?_ | refine zY.exit ?_ | refine zY.ret ?_) | refine zH.n ?_ | refine zR.eY ?_ | refine zH.e ?_)
    all_goals exact ⟨.inl rfl, _, Sub.refl _, xZ.p rfl (.tmp rfl)⟩
end Go.Proofs.YtomlhekjgagjaaaDoor
/- Contracts made weaker: nil is an empty slice. Generic over the program. -/
namespace Go.Proofs.YtomlhekjgagjaaaDoor
set_option maxRecDepth 100000
set_option maxHeartbeats 16000000
open Go Go.RowKit
/-- y says no more than x -/
inductive PLe0 : PV → PV → Prop
  | refl (x : PV) : PLe0 x x
  | nil : PLe0 (.val (.slice none 0 0)) (.sl [])
inductive PL0s : List PV → List PV → Prop
  | nil : PL0s [] []
  | cons {x y : PV} {xs ys : List PV} (h : PLe0 x y) (hs : PL0s xs ys) : PL0s (x :: xs) (y :: ys)
inductive PLe1 : PV → PV → Prop
  | refl (x : PV) : PLe1 x x
  | nil : PLe1 (.val (.slice none 0 0)) (.sl [])
  | sl {xs ys : List PV} (hl : xs.length = ys.length) (h : PL0s (flat xs) (flat ys)) : PLe1 (.sl xs) (.sl ys)
inductive PLes : List PV → List PV → Prop
  | nil : PLes [] []
  | cons {x y : PV} {xs ys : List PV} (h : PLe1 x y) (hs : PLes xs ys) : PLes (x :: xs) (y :: ys)
inductive PLe : PV → PV → Prop
  | one {x y : PV} (h : PLe1 x y) : PLe x y
  | agg {xs ys : List PV} (h : PLes xs ys) : PLe (.agg xs) (.agg ys)
inductive PLet : List PV → List PV → Prop
  | nil : PLet [] []
  | cons {x y : PV} {xs ys : List PV} (h : PLe x y) (hs : PLet xs ys) : PLet (x :: xs) (y :: ys)
theorem PLe0.rep {x y : PV} (h : PLe0 x y) {M : Nat → Nat → Prop} {w : World} {v : Value} (hr : Rep M w x v) : Rep M w y v := by
  cases h with
  | refl => exact hr
  | nil => cases hr; exact .nil
theorem PL0s.at_ {xs ys : List PV} (h : PL0s xs ys) : xs.length = ys.length ∧ ∀ (i : Nat) y, ys[i]? = some y → ∃ x, xs[i]? = some x ∧ PLe0 x y := by
  induction h with
  | nil => exact ⟨rfl, fun i y h => by simp at h⟩
  | cons h hs ih =>
    refine ⟨by simp [ih.1], fun i y hy => ?_⟩
    cases i with
    | zero => simp at hy; subst hy; exact ⟨_, rfl, h⟩
    | succ i => exact ih.2 i y hy
theorem PL0s.append {xs ys xs' ys' : List PV} (h : PL0s xs ys) (h' : PL0s xs' ys') : PL0s (xs ++ xs') (ys ++ ys') := by
  induction h with
  | nil => exact h'
  | cons h _ ih => exact .cons h ih
theorem PLe1.rep {x y : PV} (h : PLe1 x y) {M : Nat → Nat → Prop} {w : World} {v : Value} (hr : Rep M w x v) : Rep M w y v := by
  cases h with
  | refl => exact hr
  | nil => cases hr; exact .nil
  | sl hl h =>
    obtain ⟨hfl, hat⟩ := h.at_
    rcases rep_sl hr with ⟨⟨b, rfl⟩, h0⟩ | ⟨g, off, cap, us, rfl, hl2, hcell, hM, hg, hcap, hm⟩
    · subst h0
      have : _ = [] := List.eq_nil_of_length_eq_zero hl.symm
      subst this
      exact .nil
    · rw [hl] at hcap ⊢
      exact .sl _ g off _ cap us rfl (hl2.len.trans hfl) hcell (fun j c y hc hy => by
        obtain ⟨x, hx, hle⟩ := hat j c hc
        exact hle.rep (hl2.each j x y hx hy)) hl2.one hM hg hcap hm
theorem PLes.refl : ∀ xs : List PV, PLes xs xs
  | [] => .nil
  | x :: xs => .cons (.refl x) (PLes.refl xs)
theorem PLes.at_ {xs ys : List PV} (h : PLes xs ys) : xs.length = ys.length ∧ ∀ (i : Nat) y, ys[i]? = some y → ∃ x, xs[i]? = some x ∧ PLe1 x y := by
  induction h with
  | nil => exact ⟨rfl, fun i y h => by simp at h⟩
  | cons h hs ih =>
    refine ⟨by simp [ih.1], fun i y hy => ?_⟩
    cases i with
    | zero => simp at hy; subst hy; exact ⟨_, rfl, h⟩
    | succ i => exact ih.2 i y hy
theorem PLe.rep {x y : PV} (h : PLe x y) {M : Nat → Nat → Prop} {w : World} {v : Value} (hr : Rep M w x v) : Rep M w y v := by
  cases h with
  | one h => exact h.rep hr
  | agg h =>
    obtain ⟨hl, hat⟩ := h.at_
    cases hr with
    | agg cs vs hl2 h2 h1 => exact .agg _ vs (hl2.trans hl) (fun i c u hc hu => by
        obtain ⟨x, hx, hxy⟩ := hat i c hc
        exact hxy.rep (h2 i x u hx hu)) h1
theorem PLet.at_ {xs ys : List PV} (h : PLet xs ys) : xs.length = ys.length ∧ ∀ (i : Nat) y, ys[i]? = some y → ∃ x, xs[i]? = some x ∧ PLe x y := by
  induction h with
  | nil => exact ⟨rfl, fun i y h => by simp at h⟩
  | cons h hs ih =>
    refine ⟨by simp [ih.1], fun i y hy => ?_⟩
    cases i with
    | zero => simp at hy; subst hy; exact ⟨_, rfl, h⟩
    | succ i => exact ih.2 i y hy
theorem PLe.refl (x : PV) : PLe x x := .one (.refl x)
section
variable {P : Program} {f : FuncId}
end
end Go.Proofs.YtomlhekjgagjaaaDoor
/- A law's arguments, as they come in, by their shapes. Generic over the program. -/
namespace Go.Proofs.YtomlhekjgagjaaaDoor
set_option maxRecDepth 100000
set_option maxHeartbeats 16000000
open Go Go.RowKit Go.ChangeShapes Go.WideShapes Go.ChangeAt
def NoM : Nat → Nat → Prop := fun _ _ => False
/-- what a cell may hold -/
inductive Leaf where
  | int (k : IntKind)
  | bool
  | any
deriving DecidableEq
def leafOK : Leaf → Value → Prop
  | .int k, v => ∃ n, v = .int k n ∧ (Lit.int k n).wf = true
  | .bool, v => ∃ b, v = .bool b
  | .any, v => v.oneCell' = true
/-- type t's cells, one behind the other, are of these kinds (any: a slice) -/
def flatB (P : Program) : Nat → TypeId → List Leaf → Bool
  | 0, _, _ => false
  | d + 1, t, ls => match P.underlying t with
    | some (.int k) => decide (ls = [.int k])
    | some .bool => decide (ls = [.bool])
    | some (.slice _) => decide (ls = [.any])
    | some (.struct fs) => (ls.length == P.cellsOf t) && (fs.toList.all fun f => flatB P d f.type ((ls.drop f.offset).take (P.cellsOf f.type)) && (((ls.drop f.offset).take (P.cellsOf f.type)).length == P.cellsOf f.type)) &&
      (List.range ls.length).all fun c => fs.toList.any fun f => decide (f.offset ≤ c) && decide (c < f.offset + P.cellsOf f.type)
    | _ => false
section
variable {H : Type} {enc : TypeId × Value → H} {P : Program} {W : World} {base : Nat} {spare : Nat → Bool} {held : Bool}
theorem flat_trod : ∀ (d : Nat) {t : TypeId} {ls : List Leaf}, flatB P d t ls = true → ∀ {fuel : Nat} {cs : List Value} {x : DataW H × List MemPlace}, DataW.trod enc P W base spare held fuel t cs = some x →
    cs.length = ls.length ∧ ∀ (i : Nat) l v, ls[i]? = some l → cs[i]? = some v → leafOK l v
  | 0, _, _, h, _, _, _, _ => by cases h
  | d + 1, t, ls, h, fuel, cs, x, hx => by
    unfold flatB at h
    cases hu : P.underlying t with
    | none => rw [hu] at h; cases h
    | some ds =>
      rw [hu] at h
      cases ds with
      | int k =>
        obtain rfl : ls = [.int k] := of_decide_eq_true h
        obtain ⟨n, rfl, _, hw⟩ := DataW.trod_int hu hx
        refine ⟨rfl, fun i l v hl hv => ?_⟩
        match i with
        | 0 => simp at hl hv; subst hl hv; exact ⟨n, rfl, hw⟩
        | i + 1 => simp at hl
      | bool =>
        obtain rfl : ls = [.bool] := of_decide_eq_true h
        obtain ⟨b, rfl, _⟩ := DataW.trod_bool hu hx
        refine ⟨rfl, fun i l v hl hv => ?_⟩
        match i with
        | 0 => simp at hl hv; subst hl hv; exact ⟨b, rfl⟩
        | i + 1 => simp at hl
      | slice e =>
        obtain rfl : ls = [.any] := of_decide_eq_true h
        have key : ∀ w : Value, w.oneCell' = true → cs = [w] → cs.length = [Leaf.any].length ∧ ∀ (i : Nat) l v, [Leaf.any][i]? = some l → cs[i]? = some v → leafOK l v := fun w hw e => by
          subst e
          refine ⟨rfl, fun i l v hl hv => ?_⟩
          match i with
          | 0 => simp at hl hv; subst hl hv; exact hw
          | i + 1 => simp at hl
        rcases DataW.trod_slice hu hx with ⟨e, _⟩ | ⟨a, len, cap, _, _, _, _, e, _⟩
        · exact key _ rfl e
        · exact key _ rfl e
      | struct fs =>
        simp only [Bool.and_eq_true, beq_iff_eq, List.all_eq_true, List.mem_range, List.any_eq_true, decide_eq_true_eq] at h
        obtain ⟨⟨hlen, hfs⟩, hcov⟩ := h
        obtain ⟨xs, n, _, _, hcl, hxl, hg⟩ := DataW.trod_struct hu hx
        refine ⟨by omega, fun i l v hl hv => ?_⟩
        have hil : i < ls.length := (List.getElem?_eq_some_iff.1 hl).1
        obtain ⟨f, hf, hf1, hf2⟩ := hcov i hil
        obtain ⟨hfl, hfn⟩ := hfs f hf
        obtain ⟨j, hj, hfj⟩ := List.getElem_of_mem hf
        have hfj2 : fs[j]? = some f := by
          rw [← hfj, Array.getElem_toList]
          exact Array.getElem?_eq_getElem _
        have h2 := hg j f hfj2
        have hjx : j < xs.length := by rw [hxl]; simpa using hj
        rw [List.getElem?_eq_getElem hjx] at h2
        obtain ⟨_, h3⟩ := flat_trod d hfl h2
        refine h3 (i - f.offset) l v ?_ ?_
        · rw [List.getElem?_take_of_lt (by omega), List.getElem?_drop, show f.offset + (i - f.offset) = i by omega]
          exact hl
        · rw [List.getElem?_take_of_lt (by omega), List.getElem?_drop, show f.offset + (i - f.offset) = i by omega]
          exact hv
      | _ => cases h
theorem has_block {r : Reach} {a : Addr} {e : TypeId} {n : Nat} (h : W.has P r base a e n) : a.spot = none ∧ a.block < W.heap.size := by
  obtain ⟨_, h1, row, cells, h2, _⟩ := h
  refine ⟨h1, ?_⟩
  unfold World.shape? at h2
  cases hb : W.heap[a.block]? with
  | none => rw [hb] at h2; cases h2
  | some o => exact (Array.getElem?_eq_some_iff.1 hb).1
theorem cell_slice {t e : TypeId} {a : Addr} {len cap : Nat} (ht : P.underlying t = some (.slice e)) (h : Cell.okWide P W .any base t (.slice (some a) len cap)) : a.spot = none ∧ a.block < W.heap.size ∧ len ≤ cap := by
  simp only [Cell.okWide, ht, Cell.ok] at h
  exact ⟨(has_block h.2.2).1, (has_block h.2.2).2, h.1⟩
/-- a struct's cell, as the form lays it -/
theorem wide_cell {t u : TypeId} {fs : Array Field} {cs : Array Value} {ts : List TypeId} {i : Nat} {v : Value} (ht : P.underlying t = some (.struct fs)) (h : Value.okWide P W .any base t (.agg cs)) (hts : P.cellTypes P.depth t = some ts) (hi : ts[i]? = some u) (hv : cs[i]? = some v) : Cell.okWide P W .any base u v := by
  simp only [Value.okWide, ht] at h
  obtain ⟨cs', e, _, ts', h1, _, h2⟩ := h
  injection e with e
  subst e
  obtain rfl : ts = ts' := Option.some.inj (hts.symm.trans h1)
  obtain ⟨u', hu', hc⟩ := h2 i v hv
  have hlt : i < ts.length := (List.getElem?_eq_some_iff.1 hi).1
  rw [Nat.mod_eq_of_lt hlt, hi] at hu'
  obtain rfl := Option.some.inj hu'
  exact hc
theorem leaf_one {l : Leaf} {v : Value} (h : leafOK l v) : v.oneCell' = true := by
  cases l with
  | int k => obtain ⟨n, rfl, _⟩ := h; rfl
  | bool => obtain ⟨b, rfl⟩ := h; rfl
  | any => exact h
theorem flatten_len {n : Nat} : ∀ {rs : List (List Value)}, (∀ r ∈ rs, r.length = n) → rs.flatten.length = rs.length * n
  | [], _ => by simp
  | r :: rs, h => by
    rw [List.flatten_cons, List.length_append, h r (by simp), flatten_len fun x hx => h x (by simp [hx]), List.length_cons, Nat.add_mul]
    omega
theorem flatten_get {n : Nat} : ∀ {rs : List (List Value)}, (∀ r ∈ rs, r.length = n) → ∀ (i c : Nat), c < n → rs.flatten[i * n + c]? = (rs[i]?).bind (·[c]?)
  | [], _, i, c, _ => by simp
  | r :: rs, h, 0, c, hc => by
    rw [List.flatten_cons, Nat.zero_mul, Nat.zero_add, List.getElem?_append_left (by rw [h r (by simp)]; exact hc)]
    rfl
  | r :: rs, h, i + 1, c, hc => by
    have hr := h r (by simp)
    rw [List.flatten_cons, List.getElem?_append_right (by rw [hr, Nat.add_mul]; omega), hr]
    have e : (i + 1) * n + c - n = i * n + c := by rw [Nat.add_mul]; omega
    rw [e, flatten_get (fun x hx => h x (by simp [hx])) i c hc]
    rfl
/-- a slice of plain structs (of slices, as they are) that came in -/
theorem arg_rows {t e : TypeId} {ls : List Leaf} {dep : Nat} {v : Value} {fuel : Nat} {x : DataW H × List MemPlace} (ht : P.underlying t = some (.slice e)) (hfl : flatB P dep e ls = true) (hn : P.cellsOf e = ls.length)
    (hok : ∀ a len cap, v = .slice (some a) len cap → a.spot = none ∧ a.block < W.heap.size) (h : DataW.trod enc P W base (fun _ => true) held fuel t [v] = some x) :
    ∃ rows : List (List Value), (∀ r ∈ rows, r.length = ls.length ∧ ∀ (i : Nat) l u, ls[i]? = some l → r[i]? = some u → leafOK l u) ∧ rows.length ≤ maxLen ∧
      ∀ es : List PV, es.map PV.cells = rows.map (fun r => r.map PV.val) → Rep NoM W (.sl es) v := by
  rcases DataW.trod_slice ht h with ⟨hv, _⟩ | ⟨a, len, cap, elems, rest, n, _, hv, _, hb, hlc, hm, hlen, hel, _⟩
  · simp only [List.cons.injEq, and_true] at hv
    subst hv
    refine ⟨[], fun r hr => by simp at hr, Nat.zero_le _, fun es he => ?_⟩
    have : es = [] := by simpa using he
    subst this
    exact .nil
  · simp only [List.cons.injEq, and_true] at hv
    subst hv
    obtain ⟨hs, hbk⟩ := hok a len cap rfl
    obtain ⟨g, off, spot⟩ := a
    simp only at hs hbk
    subst hs
    have row : ∀ i, i < len → ∃ r : List Value, W.cells? base (Addr.add ⟨g, off, none⟩ (i * P.cellsOf e)) (P.cellsOf e) = some r ∧ r.length = ls.length ∧ ∀ (j : Nat) l u, ls[j]? = some l → r[j]? = some u → leafOK l u := by
      intro i hi
      have h1 := hel i hi
      rw [List.getElem?_eq_getElem (by omega : i < elems.length)] at h1
      obtain ⟨r, hr, h2⟩ := Option.bind_eq_some_iff.1 h1
      obtain ⟨h3, h4⟩ := flat_trod dep hfl h2
      exact ⟨r, hr, h3, h4⟩
    have rows : ∀ m, m ≤ len → ∃ rs : List (List Value), rs.length = m ∧ ∀ (i : Nat) r, rs[i]? = some r → W.cells? base (Addr.add ⟨g, off, none⟩ (i * P.cellsOf e)) (P.cellsOf e) = some r ∧ r.length = ls.length ∧ ∀ (j : Nat) l u, ls[j]? = some l → r[j]? = some u → leafOK l u := by
      intro m
      induction m with
      | zero => exact fun _ => ⟨[], rfl, fun i r h => by simp at h⟩
      | succ m ih =>
        intro hm2
        obtain ⟨rs, h1, h2⟩ := ih (by omega)
        obtain ⟨r, hr⟩ := row m (by omega)
        refine ⟨rs ++ [r], by simp [h1], fun i r' hi => ?_⟩
        rcases Nat.lt_or_ge i rs.length with h3 | h3
        · rw [List.getElem?_append_left h3] at hi
          exact h2 i r' hi
        · rw [List.getElem?_append_right h3] at hi
          have e0 : i - rs.length = 0 := by
            rcases Nat.eq_zero_or_pos (i - rs.length) with h | h
            · exact h
            · rw [List.getElem?_eq_none (by simp; omega)] at hi; cases hi
          rw [e0] at hi
          simp at hi
          subst hi
          rw [show i = m by omega]
          exact hr
    obtain ⟨rs, hrl, hrs⟩ := rows len (Nat.le_refl _)
    refine ⟨rs, fun r hr => ?_, by omega, fun es he => ?_⟩
    · obtain ⟨i, hi, rfl⟩ := List.getElem_of_mem hr
      exact (hrs i _ (List.getElem?_eq_getElem hi)).2
    · have hn0 : P.cellsOf e = ls.length := hn
      have hesl : es.length = rs.length := by simpa using congrArg List.length he
      have hflat : flat es = rs.flatten.map PV.val := by
        show es.flatMap PV.cells = _
        rw [List.flatMap_def, he, List.map_flatten]
      have hrn : ∀ r ∈ rs, r.length = ls.length := fun r hr => by
        obtain ⟨i, hi, rfl⟩ := List.getElem_of_mem hr
        exact (hrs i _ (List.getElem?_eq_getElem hi)).2.1
      have hyl : rs.flatten.length = rs.length * ls.length := flatten_len hrn
      have at_ : ∀ (j : Nat) y, rs.flatten[j]? = some y → ∃ i c r, j = i * ls.length + c ∧ rs[i]? = some r ∧ r[c]? = some y := fun j y hy => by
        have hj : j < rs.length * ls.length := by rw [← hyl]; exact (List.getElem?_eq_some_iff.1 hy).1
        have hpos : 0 < ls.length := by
          rcases Nat.eq_zero_or_pos ls.length with h | h
          · rw [h] at hj; omega
          · exact h
        have e1 : j = (j / ls.length) * ls.length + j % ls.length := by
          have := Nat.div_add_mod j ls.length
          rw [Nat.mul_comm] at this
          omega
        have hi : j / ls.length < rs.length := (Nat.div_lt_iff_lt_mul hpos).2 hj
        have hc : j % ls.length < ls.length := Nat.mod_lt _ hpos
        have h1 := flatten_get hrn (j / ls.length) (j % ls.length) hc
        rw [← e1, hy, List.getElem?_eq_getElem hi] at h1
        exact ⟨_, _, _, e1, List.getElem?_eq_getElem hi, h1.symm⟩
      refine .sl es g off len cap rs.flatten (by omega) (by rw [hflat, List.length_map]) (fun j y hy => ?_) (fun j c y hc hy => ?_) (fun y hy => ?_) (fun _ _ h => h) hbk hlc hm
      · obtain ⟨i, c, r, rfl, hr, hc⟩ := at_ j y hy
        have h1 := World.cells?_some (hrs i r hr).1
        have hcl : c < P.cellsOf e := by
          rw [hn0, ← (hrs i r hr).2.1]
          exact (List.getElem?_eq_some_iff.1 hc).1
        have h2 := h1.2.2 c hcl
        rw [hc, add_lit, add_lit, hn0, Nat.add_assoc] at h2
        exact h2
      · rw [hflat, List.getElem?_map, hy] at hc
        simp only [Option.map_some, Option.some.injEq] at hc
        subst hc
        exact .val _
      · obtain ⟨j, hj, rfl⟩ := List.getElem_of_mem hy
        obtain ⟨i, c, r, _, hr, hc⟩ := at_ j _ (List.getElem?_eq_getElem hj)
        have hcl : c < ls.length := by
          rw [← (hrs i r hr).2.1]
          exact (List.getElem?_eq_some_iff.1 hc).1
        exact leaf_one ((hrs i r hr).2.2 c _ _ (List.getElem?_eq_getElem hcl) hc)
end
end Go.Proofs.YtomlhekjgagjaaaDoor
/- A law's call, by its contract; the table that the row lists; a world that fits. -/
namespace Go.Proofs.YtomlhekjgagjaaaDoor
set_option maxRecDepth 100000
set_option maxHeartbeats 16000000
open Go Go.RowKit Go.ChangeShapes Go.WideShapes Go.ChangeAt
set_option linter.unusedVariables false
theorem ownT : ownKnob Tryd.prog.godebug = none := by kernel_rfl
theorem laidOutT : laidOutB Tryd.prog = true := by kernel_rfl
section
variable {P : Program} {W : World}
/-- A law's call, by its contract. -/
theorem Fn.law {f : FuncId} {args : List PV} (h : Fn P f args (.p (.val (.bool true)))) (hlay : Lays W) {vs : List Value} (hl : vs.length = args.length) (hr : ∀ (i : Nat) x v, args[i]? = some x → vs[i]? = some v → Rep NoM W x v) :
    Calls P f vs.toArray W fun e W' => e = .returned (.bool true) ∧ Below W.heap.size W W' :=
  (h NoM W vs ⟨hlay, fun _ _ _ h => h⟩ (fun _ _ h => h.elim) hl hr).mono fun e W' ⟨v, he, hv, hb⟩ => by
    cases hv
    exact ⟨he, hb⟩
theorem reps1 {M : Nat → Nat → Prop} {x0 : PV} {v0 : Value} (h0 : Rep M W x0 v0) : ∀ (i : Nat) x v, [x0][i]? = some x → [v0][i]? = some v → Rep M W x v := by
  intro i x v hx hv
  match i with
  | 0 => simp at hx hv; subst hx; subst hv; exact h0
  | i + 1 => simp at hx
end
/-! ### The listed table -/
theorem gTbl : Tryd.prog.globalNamed "weald/crc.halves" = some 0 := by kernel_rfl
theorem tTbl : (Tryd.prog.globals[0]?).map (·.type) = some 132 := by kernel_rfl
def laidL : List (String × DataW Unit) := [("weald/crc.halves", Rows.laid_weald_crc_halves)]
theorem lays_of_laid {W : World} (h : laidMetH Tryd.prog laidL W) : Lays W := by
  rw [MakeChecks.laidMetH_plain _ _ _ (by kernel_rfl)] at h
  obtain ⟨ps, ⟨g0, t0, cs0, f0, p0, q0, hg0, ht0, hv0, hd0, _, _⟩, _⟩ := h
  obtain rfl := Option.some.inj (gTbl.symm.trans hg0)
  obtain rfl := Option.some.inj (tTbl.symm.trans ht0)
  have hcell := World.var?_cell hg0 hv0
  obtain ⟨xs, m1, _, hx1, hlen, hn, hel⟩ := DataW.trod_array Tryd.underlying132 hd0
  have c1 : Tryd.prog.cellsOf 109 = 1 := by kernel_rfl
  have c16 : Tryd.prog.cellsOf 132 = 16 := by kernel_rfl
  rw [c16] at hlen
  have hdat : Rows.laid_weald_crc_halves (H := Unit) = .agg (tbl0.map fun p => .lit (.int p.1 p.2)) := by kernel_rfl
  simp only [Prod.mk.injEq] at hx1
  have hxs : xs.map (·.1) = tbl0.map fun p => .lit (.int p.1 p.2) := by
    have := hx1.1
    rw [hdat] at this
    simpa using this.symm
  have hk : ∀ p ∈ tbl0, p.1 = .u32 := by decide +kernel
  intro g ys hg
  have hgy : g = 0 ∧ ys = tbl0 := by
    unfold seatTbl at hg
    split at hg
    · next h => exact ⟨h, (Option.some.inj hg).symm⟩
    · cases hg
  obtain ⟨rfl, rfl⟩ := hgy
  have at_ : ∀ (j : Nat) p, tbl0[j]? = some p → W.cell? ⟨0, j, none⟩ = some (.int p.1 p.2) := by
    intro j p hp
    have hj : j < 16 := (List.getElem?_eq_some_iff.1 hp).1
    have h1 := hel j hj
    have hxj : xs[j]? = some xs[j] := List.getElem?_eq_getElem (by omega)
    rw [hxj, c1, Nat.mul_one] at h1
    obtain ⟨k, e1, e2, _⟩ := DataW.trod_int Tryd.underlying109 h1
    have h3 : (xs.map (·.1))[j]? = some (.lit (.int .u32 k)) := by rw [List.getElem?_map, hxj, e2]; rfl
    rw [hxs, List.getElem?_map, hp] at h3
    simp only [Option.map_some, Option.some.injEq, DataW.lit.injEq, Lit.int.injEq] at h3
    obtain ⟨h4, h5⟩ := h3
    have h6 : cs0[j]? = some (.int .u32 k) := by
      have : (cs0.toList.drop j).take 1 = [cs0.toList[j]'(by rw [hlen]; exact hj)] := by
        rw [List.drop_eq_getElem_cons (by rw [hlen]; exact hj)]
        rfl
      rw [this] at e1
      simp only [List.cons.injEq, and_true] at e1
      rw [← e1]
      simp [Array.getElem?_eq_getElem (show j < cs0.size by simpa using (by rw [hlen]; exact hj : j < cs0.toList.length))]
    rw [hcell j, h6, h4, h5]
  refine ⟨?_, at_⟩
  have h0 := at_ 0 _ rfl
  unfold World.cell? at h0
  cases hh : W.heap[0]? with
  | none => rw [hh] at h0; cases h0
  | some o => exact (Array.getElem?_eq_some_iff.1 hh).1
/-- The door's own heap fits. -/
theorem door_met (os : Os) (args : Array Value) : laidMetH Tryd.prog laidL ((World.doorLaid Tryd.prog 400 os).forCall (fun _ _ => 0) ⟨#[], args, []⟩).memory :=
  laidMetH_of_parts3 (fuel := 8) (laidMet_of_run' 8 (by kernel_rfl) (by kernel_rfl)) (by kernel_rfl) (by kernel_rfl)
end Go.Proofs.YtomlhekjgagjaaaDoor
/- Arguments: rows of truth values, and of bytes. Generic over the program. -/
namespace Go.Proofs.YtomlhekjgagjaaaDoor
set_option maxRecDepth 100000
set_option maxHeartbeats 16000000
open Go Go.RowKit Go.ChangeShapes Go.WideShapes Go.ChangeAt
set_option linter.unusedVariables false
section
variable {P : Program} {W : World} {H : Type} {enc : TypeId × Value → H}
end
end Go.Proofs.YtomlhekjgagjaaaDoor
/- Arguments: rows of entries. -/
namespace Go.Proofs.YtomlhekjgagjaaaDoor
set_option maxRecDepth 100000
set_option maxHeartbeats 16000000
open Go Go.RowKit Go.ChangeShapes Go.WideShapes Go.ChangeAt
set_option linter.unusedVariables false
def entOf (r : List Value) : zK := match r with
  | [.int _ k, .int _ s, .int _ y, .int _ u, .int _ v, .int _ x] => ⟨k, s, y, u, v, x⟩
  | _ => ⟨0, 0, 0, 0, 0, 0⟩
theorem wfU {n : Int} (h : (Lit.int .u64 n).wf = true) : U n := by
  have h1 := bounds_u64 h
  unfold U
  omega
theorem entOf_cells {r : List Value} (hl : r.length = 6) (h : ∀ (i : Nat) l u, [Leaf.int .i64, .int .u64, .int .u64, .int .u64, .int .u64, .int .u64][i]? = some l → r[i]? = some u → leafOK l u) : (entOf r).V.cells = r.map PV.val ∧ (entOf r).ok := by
  match r, hl with
  | [a, b, c, d, e, f], _ =>
    obtain ⟨n0, rfl, h0⟩ := h 0 _ a rfl rfl
    obtain ⟨n1, rfl, h1⟩ := h 1 _ b rfl rfl
    obtain ⟨n2, rfl, h2⟩ := h 2 _ c rfl rfl
    obtain ⟨n3, rfl, h3⟩ := h 3 _ d rfl rfl
    obtain ⟨n4, rfl, h4⟩ := h 4 _ e rfl rfl
    obtain ⟨n5, rfl, h5⟩ := h 5 _ f rfl rfl
    exact ⟨rfl, wfU h1, wfU h2, wfU h3, wfU h4, wfU h5⟩
end Go.Proofs.YtomlhekjgagjaaaDoor
/- Arguments: rows that lie in a struct's cells. -/
namespace Go.Proofs.YtomlhekjgagjaaaDoor
set_option maxRecDepth 100000
set_option maxHeartbeats 16000000
open Go Go.RowKit Go.ChangeShapes Go.WideShapes Go.ChangeAt
set_option linter.unusedVariables false
section
variable {P : Program} {W : World} {H : Type} {enc : TypeId × Value → H} {base : Nat} {held : Bool}
theorem arg_u8s_c {t e : TypeId} {v : Value} {fuel : Nat} {x : DataW H × List MemPlace} (ht : P.underlying t = some (.slice e)) (hfl : flatB P 3 e [.int .u8] = true) (hn : P.cellsOf e = 1) (hok : ∀ a len cap, v = .slice (some a) len cap → a.spot = none ∧ a.block < W.heap.size)
    (h : DataW.trod enc P W base (fun _ => true) held fuel t [v] = some x) : ∃ l : List Int, Rep NoM W (.sl (byts l)) v ∧ (∀ x ∈ l, 0 ≤ x ∧ x < 256) ∧ l.length ≤ maxLen := by
  obtain ⟨rows, h1, h2, h3⟩ := arg_rows (ls := [.int .u8]) ht hfl hn hok h
  suffices ∃ l : List Int, rows = l.map (fun b => [Value.int .u8 b]) ∧ ∀ x ∈ l, 0 ≤ x ∧ x < 256 by
    obtain ⟨l, rfl, h4⟩ := this
    refine ⟨l, h3 _ ?_, h4, by simpa using h2⟩
    unfold byts
    rw [List.map_map, List.map_map]
    rfl
  clear h3 h2
  induction rows with
  | nil => exact ⟨[], rfl, fun x hx => by simp at hx⟩
  | cons r rs ih =>
    obtain ⟨hl, hx⟩ := h1 r (by simp)
    match r, hl with
    | [y], _ =>
      obtain ⟨b, rfl, hb⟩ := hx 0 _ y rfl rfl
      obtain ⟨l, rfl, h4⟩ := ih fun r h => h1 r (by simp [h])
      refine ⟨b :: l, rfl, fun y hy => ?_⟩
      rcases List.mem_cons.1 hy with rfl | hy
      · have := bounds_u8 hb
        omega
      · exact h4 y hy
end
theorem arg_ents_c {H : Type} {enc : TypeId × Value → H} {W : World} {v : Value} {base fuel : Nat} {held : Bool} {x : DataW H × List MemPlace} (hok : ∀ a len cap, v = .slice (some a) len cap → a.spot = none ∧ a.block < W.heap.size) (h : DataW.trod enc Tryd.prog W base (fun _ => true) held fuel 25 [v] = some x) :
    ∃ L : List zK, Rep NoM W (.sl (L.map zK.V)) v ∧ (∀ e ∈ L, e.ok) ∧ L.length ≤ maxLen := by
  have ht : Tryd.prog.underlying 25 = some (.slice 46) := Tryd.underlying25
  obtain ⟨rows, h1, h2, h3⟩ := arg_rows (ls := [Leaf.int .i64, .int .u64, .int .u64, .int .u64, .int .u64, .int .u64]) (dep := 8) ht (by kernel_rfl) (by kernel_rfl) hok h
  refine ⟨rows.map entOf, h3 _ ?_, fun e he => ?_, by simpa using h2⟩
  · rw [List.map_map, List.map_map]
    exact List.map_congr_left fun r hr => (entOf_cells (h1 r hr).1 (h1 r hr).2).1
  · obtain ⟨r, hr, rfl⟩ := List.mem_map.1 he
    exact (entOf_cells (h1 r hr).1 (h1 r hr).2).2
end Go.Proofs.YtomlhekjgagjaaaDoor
/- For every input MergeFree returns true, and leaves its argument as it was; tied: Rows.MergeFreeCardSaid. Conditions: none beyond the given statement's own. -/
namespace Go.Proofs.YtomlhekjgagjaaaDoor
set_option maxRecDepth 100000
set_option maxHeartbeats 16000000
open Go Go.RowKit Go.ChangeShapes Go.WideShapes Go.ChangeAt
set_option linter.unusedVariables false
/-- the law's argument -/
theorem arg_freeIn {H : Type} {enc : TypeId × Value → H} {W : World} {base : Nat} {v : Value} {d : DataW H} {p : List MemPlace} (hv : Value.okWide Tryd.prog W .any base 42 v) (h : DataW.Trod enc Tryd.prog W 0 (fun _ => true) true 42 v d p) :
    ∃ (L : List zK) (A B : List Int) (tw : Bool), Rep NoM W (.agg [.sl (L.map zK.V), .sl (byts A), .sl (byts B), .val (.bool tw)]) v ∧ (∀ e ∈ L, e.ok) ∧ L.length ≤ maxLen ∧ xX A ∧ xX B := by
  obtain ⟨cs, rfl, hsz⟩ := okWide_struct Tryd.underlying42 hv
  obtain ⟨cl⟩ := cs
  obtain ⟨fuel, hf⟩ := h
  have hf : DataW.trod enc Tryd.prog W 0 (fun _ => true) true fuel 42 cl = some (d, p) := hf
  obtain ⟨hlen, hlf⟩ := flat_trod (ls := [.any, .any, .any, .bool]) 8 (by kernel_rfl) hf
  obtain ⟨xs, n, _, _, _, hxl, hg⟩ := DataW.trod_struct Tryd.underlying42 hf
  match cl, hlen with
  | [a0, a1, a2, a3], _ =>
    have h0 := hlf 0 _ a0 rfl rfl
    have h1 := hlf 1 _ a1 rfl rfl
    have h2 := hlf 2 _ a2 rfl rfl
    obtain ⟨tw, rfl⟩ := hlf 3 _ a3 rfl rfl
    have f0 := hg 0 _ rfl
    have f1 := hg 1 _ rfl
    have f2 := hg 2 _ rfl
    rw [List.getElem?_eq_getElem (show 0 < xs.length by rw [hxl]; decide)] at f0
    rw [List.getElem?_eq_getElem (show 1 < xs.length by rw [hxl]; decide)] at f1
    rw [List.getElem?_eq_getElem (show 2 < xs.length by rw [hxl]; decide)] at f2
    have k0 := wide_cell (i := 0) (ts := [25, 35, 35, 4]) (u := 25) (v := a0) Tryd.underlying42 hv (by kernel_rfl) (by kernel_rfl) rfl
    have k1 := wide_cell (i := 1) (ts := [25, 35, 35, 4]) (u := 35) (v := a1) Tryd.underlying42 hv (by kernel_rfl) (by kernel_rfl) rfl
    have k2 := wide_cell (i := 2) (ts := [25, 35, 35, 4]) (u := 35) (v := a2) Tryd.underlying42 hv (by kernel_rfl) (by kernel_rfl) rfl
    obtain ⟨L, r0, g0, g1⟩ := arg_ents_c (fun a len cap e => by
      subst e
      have := cell_slice Tryd.underlying25 k0
      exact ⟨this.1, this.2.1⟩) f0
    obtain ⟨A, r1, g2, _⟩ := arg_u8s_c Tryd.underlying35 (by kernel_rfl) (by kernel_rfl) (fun a len cap e => by
      subst e
      have := cell_slice Tryd.underlying35 k1
      exact ⟨this.1, this.2.1⟩) f1
    obtain ⟨B, r2, g3, _⟩ := arg_u8s_c Tryd.underlying35 (by kernel_rfl) (by kernel_rfl) (fun a len cap e => by
      subst e
      have := cell_slice Tryd.underlying35 k2
      exact ⟨this.1, this.2.1⟩) f2
    refine ⟨L, A, B, tw, .agg _ [a0, a1, a2, .bool tw] rfl (fun i c u hc hu => ?_) (fun u hu => ?_), g0, g1, g2, g3⟩
    · match i with
      | 0 => simp at hc hu; subst hc hu; exact r0
      | 1 => simp at hc hu; subst hc hu; exact r1
      | 2 => simp at hc hu; subst hc hu; exact r2
      | 3 => simp at hc hu; subst hc hu; exact .val _
      | i + 4 => simp at hc
    · simp only [List.mem_cons, List.not_mem_nil, or_false] at hu
      rcases hu with rfl | rfl | rfl | rfl
      · exact h0
      · exact h1
      · exact h2
      · rfl
theorem mergeFree_lifted (os : Os) (started : os.Started) (H : Type) (enc : TypeId × Value → H) :
    ReturnsInHanded {} Tryd.checked os 5 .any (fun w args => (Rows.mergeFreeSpec.pre enc Tryd.prog Tryd.f5 [] false w args ∧ laidMetH Tryd.prog laidL w) ∧ sizedMet enc Tryd.prog Tryd.f5 (OpenSpec.ofChange Rows.mergeFreeSpec) false w args)
      (Rows.mergeFreeSpec.post enc Tryd.prog Tryd.f5 false true false false) := by
  refine returnsInHanded_of_change_and (C := Tryd.checked) (X := fun w _ => laidMetH Tryd.prog laidL w) (fun _ _ _ hh h => h.of_heap hh) ownT started (by kernel_rfl) Tryd.func5
    (ChangeSpec.witness_shaped (enc := enc) (C := Tryd.checked) (os := os) (X := fun w _ => laidMetH Tryd.prog laidL w) false (World.doorLaid Tryd.prog 400 os) #[.agg #[.slice none 0 0, .slice none 0 0, .slice none 0 0, .bool false]] 8 rfl (World.shaped_of_RefB (by kernel_rfl) (by kernel_rfl)) (by kernel_rfl) (by kernel_rfl) (by kernel_rfl) (door_met os _)) ?_
  intro W base args ds gs before hval0 hW hcnd hwt hL _
  have hval : ∀ (j : Nat) t v, Tryd.f5.params[j]? = some t → args[j]? = some v → Value.okWide Tryd.prog W .any base t v := hval0
  have hW' := hW
  obtain ⟨p, q, hA0, hV, rfl, hfz, hnd⟩ := hW
  have hA : DataW.TrodAll enc Tryd.prog W 0 (fun _ => true) true Tryd.f5.params.toList args.toList ds p := hA0
  rw [Tryd.params5] at hA hval
  obtain ⟨v0, vs0, d0, ds0, p0, q0, hargs, rfl, rfl, h0, r0⟩ := trodAll_cons hA
  obtain ⟨rfl, rfl, rfl⟩ := trodAll_nil r0
  obtain rfl : args = #[v0] := by cases args; simp_all
  obtain ⟨rfl, rfl⟩ := trodVars_none hV
  have lt0 : ∀ x ∈ p0, x.block < W.heap.size := by obtain ⟨m, hm⟩ := h0; exact DataW.trod_lt m _ _ _ hm
  obtain ⟨L, A, B, tw, e0, g0, g1, g2, g3⟩ := arg_freeIn (hval 0 42 v0 rfl rfl) h0
  clear hA0 hval0
  refine ((mfree_fn L A B tw g0 g1 g2 g3).law (lays_of_laid hL) (vs := [v0]) rfl (reps1 e0)).mono fun e W' ⟨he, bel⟩ => ?_
  subst he
  exact ⟨_, rfl, _, _, _, [], _, [], hW', trodAll_mk1 (shut_bool Tryd.underlying4 _), (trodAll_cons_mk (Below.trod laidOutT (by kernel_rfl) (of_decide_eq_true (by kernel_rfl)) h0 bel lt0) trodAll_mk0), rfl, bel.frame _, fun h => by cases h⟩
theorem mergeFree_holds : Rows.MergeFreeSaid :=
  OpenClaim.holds_of_wide 5 Tryd.f5 rfl rfl rfl rfl rfl rfl rfl ⟨rfl, rfl, rfl, rfl, rfl⟩ rfl rfl rfl rfl rfl (by kernel_rfl) Tryd.func5 (by kernel_rfl)
    (of_decide_eq_true (by kernel_rfl)) (by unfold Func.isWrapper; first | (rw [if_pos (by decide +kernel)]; kernel_rfl) | (rw [if_neg (by decide +kernel)]; exact ⟨rfl, rfl⟩))
    (fun os started H enc _ => mergeFree_lifted os started H enc)
theorem mergeFreeCard_holds : Rows.MergeFreeCardSaid :=
  Claim7.holds_tied_plain_at .later [] [.data] true _ true
    mergeFree_holds (fun _ h => by cases h) (by kernel_rfl) (fun _ h => by cases h) mergeFree_row_tie rfl ⟨rfl, rfl⟩ (by kernel_rfl) rfl
    (fun f fn hf hfn => by
      obtain rfl : f = 5 := Option.some.inj ((show Tryd.prog.funcNamed "weald/wealdlaw22.MergeFree" = some 5 by kernel_rfl).symm.trans hf) |>.symm
      obtain rfl : fn = Tryd.f5 := (Option.some.inj (Tryd.func5.symm.trans hfn)).symm
      exact ⟨by kernel_rfl, fun j t ht => by
        rw [Tryd.params5] at ht
        have hm : t ∈ [42] := by simpa using Array.mem_of_getElem? ht
        have hall : ([42].all fun u => !Tryd.prog.wantsStandIn u) = true := by kernel_rfl
        exact (show Tryd.prog.wantsStandIn t = false by simpa using List.all_eq_true.1 hall t hm)⟩)
    (by kernel_rfl)
#print axioms mergeFreeCard_holds
end Go.Proofs.YtomlhekjgagjaaaDoor
