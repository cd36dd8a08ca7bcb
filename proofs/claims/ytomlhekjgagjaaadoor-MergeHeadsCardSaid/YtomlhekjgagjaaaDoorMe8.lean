/- For every input MergeHeads returns true, and leaves its arguments as they were. Conditions: none beyond the given statement. (Part 8 of 8.) -/
import Derived.Test.YtomlhekjgagjaaaDoorMe7
import Derived.ProofKit
import Derived.OpenShut
import Derived.Below
import Derived.LaidMore
import Derived.Deep.Fields
import Derived.Deep.Slices
import Derived.Test.YtomlhekjgagjaaaDoorRows
import Derived.LaidLaws
import Derived.ChangeSame
import Derived.ChangeVars
import Derived.JoinedOf
import Derived.Stop.Joined
import Derived.RowKitTokens
import Derived.Test.YtomlhekjgagjaaaDoorCards
import Derived.Test.YtomlhekjgagjaaaDoorTie
import Derived.SevenTiedAt
/- What merge.Live lays down is the document's answer; plain. -/
namespace Go.Proofs.YtomlhekjgagjaaaDoor
set_option maxRecDepth 100000
set_option maxHeartbeats 16000000
open Go Go.RowKit
set_option linter.unusedSimpArgs false
set_option linter.unusedVariables false
/-! one stream -/
def no3 (L : List zK) : Bool := L.all fun e => !decide (e.k = 3)
def all1 (L : List zK) : Bool := L.all fun e => decide (e.k = 1)
def scanR (i : Nat) : Nat → Int → List zK → Option (List zK × Int)
  | _, left, [] => some ([], left)
  | k, left, e :: r =>
      bif (decide (e.k = 3) != (decide ((i : Int) = 0) && decide ((k : Int) = 0))) then none
      else bif decide (e.k = 3) then scanR i (k + 1) e.s r
      else bif decide (left > 0) then (bif decide (e.k = 1) then (scanR i (k + 1) (left - 1) r).map (fun q => (e :: q.1, q.2)) else none)
      else (scanR i (k + 1) left r).map (fun q => (e :: q.1, q.2))
def streamR (i : Nat) (s : List Int) : Option (List zK) := match rowsR i 0 0 (rowsOf s) with
    | none => none
    | some (l, left) => bif decide (left > 0) || (decide ((i : Int) = 0) && decide (((rowsOf s).length : Int) = 0)) then none else some l
/-! gathering -/
theorem gput_stays {g : GD} (e : zK) (h : g.bad = true) : (gput g e).bad = true := by
  unfold gput
  split
  · simp [h]
  · split
    · exact h
    · rfl
theorem gputs_bad : ∀ (L : List zK) {g : GD}, g.bad = true → (L.foldl gput g).bad = true
  | [], g, h => h
  | e :: r, g, h => gputs_bad r (gput_stays e h)
theorem gputs_three : ∀ (L : List zK) (g : GD), no3 L = false → (L.foldl gput g).bad = true
  | [], g, h => by cases h
  | e :: r, g, h => by
    by_cases h3 : e.k = 3
    · refine gputs_bad r ?_
      unfold gput
      rw [if_neg (by omega), if_neg (by omega)]
    · refine gputs_three r _ ?_
      simpa [no3, h3] using h
theorem gfrom_bad : ∀ (ss : List (List Int)) {g : GD} (i : Nat), g.bad = true → (gfrom g i ss).bad = true
  | [], g, i, h => h
  | s :: r, g, i, h => gfrom_bad r (i + 1) (gputs_bad _ (by simp [h]))
def G0 : GD := ⟨[], [], false⟩
/-! what all entries say -/
theorem bget_put (e : zK) : ∀ (B : List zK), bget B e.s = some e → bput B e = B
  | [], h => by cases h
  | x :: r, h => by
    unfold bget at h
    unfold bput
    split
    · rename_i hs
      rw [if_pos hs] at h
      rw [Option.some.inj h]
    · rename_i hs
      rw [if_neg hs] at h
      rw [bget_put e r h]
theorem bget_new (e : zK) : ∀ (B : List zK), bget B e.s = none → bput B e = B ++ [e]
  | [], h => rfl
  | x :: r, h => by
    unfold bget at h
    unfold bput
    split
    · rename_i hs
      rw [if_pos hs] at h
      cases h
    · rename_i hs
      rw [if_neg hs] at h
      rw [bget_new e r h]
      rfl
theorem bget_append : ∀ (A B : List zK) (j : Int), bget (A ++ B) j = (bget A j).or (bget B j)
  | [], B, j => by simp [bget]
  | x :: r, B, j => by
    simp only [List.cons_append, bget]
    split
    · rfl
    · exact bget_append r B j
theorem hadP_append : ∀ (A B : List zK) (e : zK), hadP (A ++ B) e = (hadP A e || hadP B e)
  | [], B, e => by simp [hadP]
  | x :: r, B, e => by simp only [List.cons_append, hadP]; rw [hadP_append r B e, Bool.or_assoc]
theorem clashP_append : ∀ (A B : List zK) (e : zK), clashP (A ++ B) e = (clashP A e || clashP B e)
  | [], B, e => by simp [clashP]
  | x :: r, B, e => by simp only [List.cons_append, clashP]; rw [clashP_append r B e, Bool.or_assoc]
theorem deadR_append : ∀ (A B : List zK) (j : Int), deadR (A ++ B) j = (deadR A j || deadR B j)
  | [], B, e => by simp [deadR]
  | x :: r, B, e => by simp only [List.cons_append, deadR]; rw [deadR_append r B e, Bool.or_assoc]
theorem vfind_append : ∀ (A B : List zK) (j w : Int), vfind (A ++ B) j w = (vfind A j w || vfind B j w)
  | [], B, j, w => by simp [vfind]
  | x :: r, B, j, w => by simp only [List.cons_append, vfind]; rw [vfind_append r B j w, Bool.or_assoc]
/-- what a gathering of entries P knows -/
structure Knows (P : List zK) (g : GD) : Prop where
  had : ∀ e : zK, e.k = 1 → hadP P e = (bget g.born e.s).isSome
  clash : ∀ e : zK, e.k = 1 → clashP P e = g.clash e
  dead : ∀ j, 0 ≤ (dget g.dead j).getD 0 ∧ (deadR P j = decide ((dget g.dead j).getD 0 > 0))
  vert : ∀ j w, vfind P j w = match bget g.born j with
    | some x => decide (x.y = w)
    | none => false
  one : ∀ e ∈ g.born, e.k = 1
theorem Knows.start : Knows [] G0 := ⟨fun e _ => rfl, fun e _ => rfl, fun j => ⟨Int.le_refl 0, rfl⟩, fun j w => rfl, fun e he => by cases he⟩
theorem hadP_one (x e : zK) (hk : e.k = 1) (hx : x.k = 1) : hadP [x] e = decide (x.s = e.s) := by
  simp [hadP, hk, hx]
theorem clashP_one (x e : zK) (hk : e.k = 1) (hx : x.k = 1) : clashP [x] e = (decide (x.s = e.s) && !decide (x = e)) := by
  simp [clashP, hk, hx]
theorem Knows.birth {P : List zK} {g : GD} (h : Knows P g) {e : zK} (hk : e.k = 1) (hc : clashP P e = false) : Knows (P ++ [e]) (gput g e) ∧ (gput g e).bad = g.bad ∧ (gput g e).born = if hadP P e = true then g.born else g.born ++ [e] := by
  have hgc := h.clash e hk
  rw [hc] at hgc
  have hb : (gput g e).bad = g.bad := by unfold gput; rw [if_pos hk]; simp [← hgc]
  have hd : (gput g e).dead = g.dead := by unfold gput; rw [if_pos hk]
  have hbo : (gput g e).born = if hadP P e = true then g.born else g.born ++ [e] := by
    unfold gput
    rw [if_pos hk, h.had e hk]
    unfold GD.clash at hgc
    cases hbg : bget g.born e.s with
    | none => simpa using bget_new e _ hbg
    | some x =>
      rw [hbg] at hgc
      simp only [Bool.false_eq, Bool.not_eq_false', decide_eq_true_eq] at hgc
      subst hgc
      simpa using bget_put x _ hbg
  have hget : ∀ j, bget (gput g e).born j = (bget g.born j).or (if e.s = j then some e else none) := fun j => by
    rw [hbo, h.had e hk]
    cases hbg : bget g.born e.s with
    | none =>
      simp only [Option.isSome_none, Bool.false_eq_true, if_false]
      rw [bget_append]
      rfl
    | some x =>
      simp only [Option.isSome_some, if_true]
      by_cases hj : e.s = j
      · subst hj
        rw [hbg]
        rfl
      · rw [if_neg hj, Option.or_none]
  refine ⟨⟨fun d hdk => ?_, fun d hdk => ?_, fun j => ?_, fun j w => ?_, ?_⟩, hb, hbo⟩
  · rw [hadP_append, h.had d hdk, hget, hadP_one e d hdk hk]
    by_cases hs : e.s = d.s
    · rw [if_pos hs, decide_eq_true hs]; cases bget g.born d.s <;> rfl
    · rw [if_neg hs, decide_eq_false hs]; cases bget g.born d.s <;> rfl
  · rw [clashP_append, h.clash d hdk, clashP_one e d hdk hk]
    unfold GD.clash
    rw [hget]
    by_cases hs : e.s = d.s
    · rw [if_pos hs, decide_eq_true hs]
      have hge := hgc
      unfold GD.clash at hge
      rw [hs] at hge
      cases hbg : bget g.born d.s with
      | none => simp
      | some x =>
        rw [hbg] at hge
        simp only [Bool.false_eq, Bool.not_eq_false', decide_eq_true_eq] at hge
        subst hge
        simp
    · rw [if_neg hs, decide_eq_false hs]; cases bget g.born d.s <;> simp
  · rw [hd, deadR_append]
    refine ⟨(h.dead j).1, ?_⟩
    rw [(h.dead j).2]
    simp [deadR, hk]
  · rw [vfind_append, h.vert j w, hget]
    have hv1 : vfind [e] j w = (decide (e.s = j) && decide (e.y = w)) := by simp [vfind, hk]
    rw [hv1]
    by_cases hs : e.s = j
    · rw [if_pos hs, decide_eq_true hs]
      have hge := hgc
      unfold GD.clash at hge
      rw [hs] at hge
      cases hbg : bget g.born j with
      | none => simp
      | some x =>
        rw [hbg] at hge
        simp only [Bool.false_eq, Bool.not_eq_false', decide_eq_true_eq] at hge
        subst hge
        simp
    · rw [if_neg hs, decide_eq_false hs]; cases bget g.born j <;> simp
  · rw [hbo]
    intro d hd'
    split at hd'
    · exact h.one d hd'
    · rcases List.mem_append.1 hd' with hd' | hd'
      · exact h.one d hd'
      · rw [List.mem_singleton] at hd'; subst hd'; exact hk
end Go.Proofs.YtomlhekjgagjaaaDoor
/- The document's answer: Few and Same; contracts. -/
namespace Go.Proofs.YtomlhekjgagjaaaDoor
set_option maxRecDepth 100000
set_option maxHeartbeats 16000000
open Go Go.RowKit
set_option linter.unusedSimpArgs false
set_option linter.unusedVariables false
attribute [local irreducible] zZ zY Step zB Sub zO zT Fn
def strsW (ss : List (List Int)) : PV := .sl (ss.map fun s => .sl (byts s))
def fewL (ss : List (List Int)) : Bool := decide (ss.length ≤ 8) && decide (total ss ≤ 3000)
def fwS (ss : List (List Int)) (i : Nat) : AS := { t := [(0, .p (strsW ss)), (3, .p (.val (.int .i64 (total (ss.take i) : Nat)))), (4, .p (.val (.int .i64 (i : Nat))))], s := [] }
def smS (A B : List zK) (i : Nat) : AS := { t := [(0, .p (.sl (A.map zK.V))), (1, .p (.sl (B.map zK.V))), (5, .p (.val (.int .i64 (i : Nat))))], s := [] }
theorem entV_inj {a b : zK} (h : a.V = b.V) : a = b := by
  obtain ⟨k, s, y, u, v, x⟩ := a
  obtain ⟨k', s', y', u', v', x'⟩ := b
  simp only [zK.V, entV, PV.agg.injEq, List.cons.injEq, PV.val.injEq, Value.int.injEq, true_and, and_true] at h
  simp [h]
end Go.Proofs.YtomlhekjgagjaaaDoor
/- Streams of entries' frames, told again; heads that stand wrong; plain. -/
namespace Go.Proofs.YtomlhekjgagjaaaDoor
set_option maxRecDepth 100000
set_option maxHeartbeats 16000000
open Go Go.RowKit
set_option linter.unusedSimpArgs false
set_option linter.unusedVariables false
theorem decE_enc {e : zK} (ho : e.ok) (hm : e.may = true) : decE e.enc = some e := by
  have h := dec_enc ho.s.1 ho.s.2 ho.y.1 ho.y.2 ho.u.1 ho.u.2 ho.v.1 ho.v.2 ho.x.1 ho.x.2 hm
  have h : decR e.enc = [e.V, .val (.int .i64 0)] := h
  cases hd : decE e.enc with
  | none =>
    rw [decR_none hd] at h
    unfold decBad at h
    simp at h
  | some x =>
    rw [decR_some hd] at h
    have h1 : x.V = e.V := by
      injection h
    rw [entV_inj h1]
theorem rowsOf_cat (bs : List (List Int)) (h : ∀ b ∈ bs, putOk b) : rowsOf (catF bs) = bs := by
  unfold rowsOf
  rw [framesOf_cat bs h, endsF_rows]
theorem catE_may : ∀ (L : List zK), (∀ e ∈ L, e.may = true) → xY L = catF (L.map zK.enc)
  | [], _ => rfl
  | e :: r, h => by
    rw [catE_cons, List.map_cons, catF_cons, catE_may r fun x hx => h x (by simp [hx]), entF_may, if_pos (h e (by simp))]
theorem decs_enc : ∀ (L : List zK), (∀ e ∈ L, e.ok ∧ e.may = true) → decs (L.map zK.enc) = (L, true)
  | [], _ => rfl
  | e :: r, h => by
    have h1 := h e (by simp)
    rw [List.map_cons]
    unfold decs
    rw [decE_enc h1.1 h1.2]
    simp only []
    rw [decs_enc r fun x hx => h x (by simp [hx])]
theorem enc_put (e : zK) : putOk e.enc := by
  have := enc_len e
  constructor <;> (rw [this]; split <;> omega)
theorem entsOf_cat (L : List zK) (h : ∀ e ∈ L, e.ok ∧ e.may = true) : wI (xY L) = (L, true) := by
  unfold wI
  rw [catE_may L fun e he => (h e he).2, rowsOf_cat _ (fun b hb => by obtain ⟨e, _, rfl⟩ := List.mem_map.1 hb; exact enc_put e), decs_enc L h]
theorem stream0 (L : List zK) (h : ∀ e ∈ L, e.ok ∧ e.may = true) : yG 0 (xY L) = headOf L := by
  unfold yG
  rw [entsOf_cat L h]
  rfl
theorem streamN (i : Nat) (L : List zK) (h : ∀ e ∈ L, e.ok ∧ e.may = true) : yG (i + 1) (xY L) = (L, true) := by
  unfold yG
  rw [entsOf_cat L h, if_neg (fun e => by have := e.1; omega)]
theorem catE_range {L : List zK} (h : ∀ e ∈ L, e.ok) : wS (xY L) := fun x hx => by
  obtain ⟨e, he, hx⟩ := List.mem_flatMap.1 hx
  rw [entF_may] at hx
  split at hx
  · exact putF_range (enc_bytes (h e he)) x hx
  · cases hx
theorem live_bad {ss : List (List Int)} (c : Int) (h : (xE ss).bad = true) : vP ss c = ([], 8) := by
  unfold vP
  rw [if_pos h]
/-- a head behind a head -/
theorem heads_a (W : List zK) (c : Int) (h : ∀ e ∈ yE 0 :: W, e.ok ∧ e.may = true) (h3 : no3 W = false) : vP [xY (yE 0 :: W)] c = ([], 8) := by
  refine live_bad c ?_
  unfold xE gfrom
  rw [stream0 _ h]
  refine gfrom_bad [] 1 ?_
  have e1 : headOf (yE 0 :: W) = (W, true) := by
    show (if (3 : Int) = 3 then if (W.length : Int) < ((0 : Nat) : Int) then (([] : List zK), false) else (W, (W.take (((0 : Nat) : Int)).toNat).all fun e => decide (e.k = 1)) else ([], false)) = _
    rw [if_pos rfl, if_neg (by omega)]
    rfl
  rw [e1]
  exact gputs_three W _ h3
/-- a head in another stream -/
theorem heads_b (W : List zK) (c : Int) (h : ∀ e ∈ yE 0 :: W, e.ok ∧ e.may = true) (h3 : no3 W = false) : vP [xY [yE 0], xY W] c = ([], 8) := by
  refine live_bad c ?_
  unfold xE gfrom gfrom
  rw [streamN 0 W fun e he => h e (by simp [he])]
  exact gfrom_bad [] 2 (gputs_three W _ h3)
/-- a first stream that has no head -/
theorem heads_c (L : List zK) (s : List Int) (c : Int) (h : ∀ e ∈ L, e.ok ∧ e.may = true) (h3 : no3 L = true) : vP [xY L, s] c = ([], 8) := by
  refine live_bad c ?_
  unfold xE gfrom
  rw [stream0 _ h]
  refine gfrom_bad [s] 1 ?_
  cases L with
  | nil => exact gputs_bad _ (by simp [headOf])
  | cons e r =>
    have hk : e.k ≠ 3 := by
      have := List.all_eq_true.1 h3 e (by simp)
      simpa using this
    have e1 : headOf (e :: r) = ([], false) := by
      show (if e.k = 3 then _ else (([] : List zK), false)) = _
      rw [if_neg hk]
    rw [e1]
    exact gputs_bad _ (by simp)
/-- how many births stand ahead -/
def leads : List zK → Nat
  | [] => 0
  | e :: r => if e.k = 1 then leads r + 1 else 0
theorem leads_all : ∀ (L : List zK) (m : Nat), leads L < m → m ≤ L.length → ((L.take m).all fun e => decide (e.k = 1)) = false
  | [], m, h, h2 => by simp [leads] at h h2; omega
  | e :: r, 0, h, _ => by omega
  | e :: r, m + 1, h, h2 => by
    rw [List.take_succ_cons, List.all_cons]
    unfold leads at h
    by_cases hk : e.k = 1
    · rw [if_pos hk] at h
      rw [leads_all r m (by omega) (by simpa using h2), Bool.and_false]
    · rw [decide_eq_false hk, Bool.false_and]
/-- a head that counts more births than follow -/
theorem heads_d (L : List zK) (m : Nat) (c : Int) (h : ∀ e ∈ yE m :: L, e.ok ∧ e.may = true) (hm : leads L < m) : vP [xY (yE m :: L)] c = ([], 8) := by
  refine live_bad c ?_
  unfold xE gfrom
  rw [stream0 _ h]
  refine gfrom_bad [] 1 ?_
  have e1 : (headOf (yE m :: L)).2 = false := by
    show (if (3 : Int) = 3 then if (L.length : Int) < ((m : Nat) : Int) then (([] : List zK), false) else (L, (L.take (((m : Nat) : Int)).toNat).all fun e => decide (e.k = 1)) else ([], false)).2 = _
    rw [if_pos rfl]
    by_cases hl : (L.length : Int) < ((m : Nat) : Int)
    · rw [if_pos hl]
    · rw [if_neg hl, Int.toNat_natCast]
      exact leads_all L m hm (by omega)
  generalize headOf (yE m :: L) = X at e1 ⊢
  obtain ⟨l, b⟩ := X
  simp only at e1
  subst e1
  exact gputs_bad _ (by simp)
end Go.Proofs.YtomlhekjgagjaaaDoor
/- MergeHeads: the law's function is true. -/
namespace Go.Proofs.YtomlhekjgagjaaaDoor
set_option maxRecDepth 100000
set_option maxHeartbeats 16000000
open Go Go.RowKit
set_option linter.unusedSimpArgs false
set_option linter.unusedVariables false
attribute [local irreducible] zZ zY Step zB Sub zO zT Fn zH zS
def xJ (p : Nat) : Nat → List zK → List zK
  | _, [] => []
  | i, e :: r => (if i = p then [yE 0, e] else [e]) ++ xJ p (i + 1) r
theorem withH_snoc (p : Nat) (e : zK) : ∀ (A : List zK) (i : Nat), xJ p i (A ++ [e]) = xJ p i A ++ (if i + A.length = p then [yE 0, e] else [e])
  | [], i => by simp [xJ]
  | a :: r, i => by
    show (if i = p then [yE 0, a] else [a]) ++ xJ p (i + 1) (r ++ [e]) = _
    rw [withH_snoc p e r (i + 1), ← List.append_assoc]
    have : i + 1 + r.length = i + (a :: r).length := by rw [List.length_cons]; omega
    rw [this]
    rfl
theorem withH_len (p : Nat) : ∀ (A : List zK) (i : Nat), (xJ p i A).length ≤ 2 * A.length
  | [], i => Nat.le_refl _
  | a :: r, i => by
    show ((if i = p then [yE 0, a] else [a]) ++ xJ p (i + 1) r).length ≤ _
    have := withH_len p r (i + 1)
    rw [List.length_append, List.length_cons]
    split <;> simp <;> omega
theorem withH_mem (p : Nat) : ∀ (A : List zK) (i : Nat), ∀ e ∈ xJ p i A, e = yE 0 ∨ e ∈ A
  | [], i, e, h => by cases h
  | a :: r, i, e, h => by
    rcases List.mem_append.1 (show e ∈ (if i = p then [yE 0, a] else [a]) ++ xJ p (i + 1) r from h) with h | h
    · split at h
      · simp at h
        rcases h with h | h
        · exact .inl h
        · exact .inr (by simp [h])
      · simp at h
        exact .inr (by simp [h])
    · rcases withH_mem p r (i + 1) e h with h | h
      · exact .inl h
      · exact .inr (List.mem_cons_of_mem _ h)
theorem withH_three (p : Nat) : ∀ (A : List zK) (i : Nat), i ≤ p → p < i + A.length → no3 (xJ p i A) = false
  | [], i, h1, h2 => by simp at h2; omega
  | a :: r, i, h1, h2 => by
    show no3 ((if i = p then [yE 0, a] else [a]) ++ xJ p (i + 1) r) = false
    unfold no3
    rw [List.all_append]
    by_cases hp : i = p
    · rw [if_pos hp]
      rfl
    · have := withH_three p r (i + 1) (by omega) (by rw [List.length_cons] at h2; omega)
      unfold no3 at this
      rw [this, Bool.and_false]
theorem leads_snoc : ∀ (A : List zK) (e : zK), leads (A ++ [e]) = if (all1 A && decide (e.k = 1)) = true then leads A + 1 else leads A
  | [], e => by
    by_cases h : e.k = 1 <;> simp [leads, all1, h]
  | a :: r, e => by
    show (if a.k = 1 then leads (r ++ [e]) + 1 else 0) = if (all1 (a :: r) && decide (e.k = 1)) = true then (if a.k = 1 then leads r + 1 else 0) + 1 else (if a.k = 1 then leads r + 1 else 0)
    by_cases h : a.k = 1
    · have h1 : all1 (a :: r) = all1 r := by simp [all1, h]
      rw [if_pos h, if_pos h, leads_snoc r e, h1]
      split <;> rfl
    · have h1 : all1 (a :: r) = false := by simp [all1, h]
      rw [if_neg h, if_neg h, h1]
      rfl
theorem all1_snoc (A : List zK) (e : zK) : all1 (A ++ [e]) = (all1 A && decide (e.k = 1)) := by simp [all1]
theorem leads_le : ∀ (A : List zK), leads A ≤ A.length
  | [] => Nat.le_refl _
  | a :: r => by
    have := leads_le r
    unfold leads
    rw [List.length_cons]
    split <;> omega
theorem head_may (n : Nat) (h : n ≤ 65536) : (yE n).ok ∧ (yE n).may = true := by
  have z : U 0 := ⟨by decide, by decide⟩
  refine ⟨⟨⟨by show (0 : Int) ≤ ((n : Nat) : Int); omega, by show ((n : Nat) : Int) < 18446744073709551616; omega⟩, z, z, z, z⟩, ?_⟩
  show qX 3 ((n : Nat) : Int) 0 0 0 0 = true
  unfold qX
  rw [if_neg (by decide), if_neg (by decide), if_pos rfl, decide_eq_true (by omega)]
  rfl
theorem tmod_nat (a : Int) (n : Nat) (ha : 0 ≤ a) : a.tmod (n : Int) = ((a.toNat % n : Nat) : Int) := by
  rw [Int.tmod_eq_emod_of_nonneg ha]
  obtain ⟨m, rfl⟩ : ∃ m : Nat, a = m := ⟨a.toNat, by omega⟩
  rfl
theorem wrap_next (n : Nat) (h : n ≤ 1000000) : IntKind.i64.wrap (((n : Nat) : Int) + 1) = ((n + 1 : Nat) : Int) := by rw [wrap_i64 _ (by omega)]; omega
def meS (L : List zK) (at_ n : Int) (p i : Nat) : AS := { t := [(0, .p (.sl (L.map zK.V))), (1, .p (.val (.int .u8 at_))), (2, .p (.val (.int .u8 n))), (7, .p (.val (.bool true))), (8, .p (.sl (byts (yE 0).F))), (9, .own 41), (10, .own 42), (11, .p (.val (.int .i64 (leads (L.take i) : Nat)))), (12, .p (.val (.bool (all1 (L.take i))))), (13, .p (.val (.int .i64 (i : Nat))))], s := [(41, wB 5 (xY (L.take i))), (42, wB 5 (xY (xJ p 0 (L.take i))))] }
theorem total1 (s : List Int) : total [s] = s.length := by simp [total]
theorem total2 (s t : List Int) : total [s, t] = s.length + t.length := by simp [total]
theorem mheads_fn (L : List zK) (at_ n : Int) (hok : ∀ e ∈ L, e.ok) (hmx : L.length ≤ maxLen) (hat : 0 ≤ at_ ∧ at_ < 256) (hn : 0 ≤ n ∧ n < 256) : Fn Tryd.prog 9 [.sl (L.map zK.V), .val (.int .u8 at_), .val (.int .u8 n)] (.p (.val (.bool true))) := by
  have sh := shown22_fn
  have hlL : (L.map zK.V).length = L.length := by rw [List.length_map]
  have hcL := y7 L
  refine wO Tryd.func9 rfl Tryd.ntmps9 (Nat.le_of_ble_eq_true rfl) ?_
  by_cases h6 : L.length ≤ 6
  case neg =>
    have c1 : decide ((((L.map zK.V).length : Nat) : Int) > 6) = true := decide_eq_true (by rw [hlL]; omega)
    repeat' (first | (refine zY.is ?_; first | refine zY.seq ?_ | (refine zY.iq 0 ?_; refine zY.rqa _ K_16 K_j ?_; (refine zZ.v rfl rfl (zW rfl rfl rfl (by decide)) ?_); refine zZ.nil ?_) | (refine zY.iq 1 ?_; refine zY.rqa _ K_1e K_j ?_; (refine zZ.v rfl rfl (by exact yJ (sh) rfl rfl rfl (by decide)) ?_); (refine zZ.v rfl rfl (zW rfl rfl rfl (by decide)) ?_); refine zZ.nil ?_) | (refine zY.iq 2 ?_; refine zY.rqa _ K_22 K_j ?_; (refine zZ.v rfl rfl (zX rfl rfl rfl (by decide)) ?_); (refine zZ.v rfl rfl (y5 rfl rfl rfl (by decide)) ?_); (refine zZ.v rfl rfl (by exact vM rfl rfl rfl (by exact c1) rfl (by decide)) ?_); refine zZ.nil ?_) | (refine zY.iq 3 ?_; refine zY.rqa _ K_22 K_j ?_; (refine zZ.v rfl rfl (zX rfl rfl rfl (by decide)) ?_); (refine zZ.v rfl rfl (zW rfl rfl rfl (by decide)) ?_); refine zZ.nil ?_) | refine zY.yA rfl (by first | assumption | with_reducible rfl) ?_ | refine zY.ret ?_) | refine zH.n ?_ | refine zH.r ?_)
    all_goals exact ⟨.inl rfl, _, Sub.refl _, xV.p rfl (.tmp rfl)⟩
  case pos =>
    have c1 : decide ((((L.map zK.V).length : Nat) : Int) > 6) = false := decide_eq_false (by rw [hlL]; omega)
    have z : U 0 := ⟨by decide, by decide⟩
    have b0 := vC 3 0 0 0 0 0 z z z z z
    have b0 : Fn Tryd.prog 24 [entV 3 0 0 0 0 0] (.p (.sl (byts (yE 0).F))) := b0
    obtain ⟨p, hp⟩ : ∃ p, p = at_.toNat % L.length := ⟨_, rfl⟩
    repeat' (first | (refine zY.is ?_; first | refine zY.seq ?_ | (refine zY.iq 0 ?_; refine zY.rqa _ K_16 K_j ?_; (refine zZ.v rfl rfl (zW rfl rfl rfl (by decide)) ?_); refine zZ.nil ?_) | (refine zY.iq 1 ?_; refine zY.rqa _ K_1e K_j ?_; (refine zZ.v rfl rfl (by exact yJ (sh) rfl rfl rfl (by decide)) ?_); (refine zZ.v rfl rfl (zW rfl rfl rfl (by decide)) ?_); refine zZ.nil ?_) | (refine zY.iq 2 ?_; refine zY.rqa _ K_22 K_j ?_; (refine zZ.v rfl rfl (zX rfl rfl rfl (by decide)) ?_); (refine zZ.v rfl rfl (y5 rfl rfl rfl (by decide)) ?_); (refine zZ.v rfl rfl (by exact vM rfl rfl rfl (by exact c1) rfl (by decide)) ?_); refine zZ.nil ?_) | (refine zY.iq 4 ?_; refine zY.rqa _ K_22 K_j ?_; (refine zZ.v rfl rfl (wE rfl (by rfl) (by rfl) (by rfl) (by rfl) rfl (by decide)) ?_); (refine zZ.v rfl rfl (by exact yJ (b0) rfl rfl rfl (by decide)) ?_); (refine zZ.v rfl rfl (zW rfl rfl rfl (by decide)) ?_); refine zZ.nil ?_) | (refine zY.iq 5 ?_; refine zY.rqa _ K_1p K_j ?_; (refine zZ.v rfl rfl (zW rfl rfl rfl (by decide)) ?_); refine zZ.nil ?_) | (refine zY.iq 6 ?_; refine zY.rqa _ K_3o K_j ?_; (refine zZ.v rfl rfl (zW rfl rfl rfl (by decide)) ?_); refine zZ.nil ?_) | (refine zY.iq 7 ?_; refine zY.rqa _ K_3p K_j ?_; (refine zZ.v rfl rfl (zW rfl rfl rfl (by decide)) ?_); refine zZ.nil ?_) | (refine zY.iq 8 ?_; refine zY.rqa _ K_3q K_j ?_; (refine zZ.v rfl rfl (zW rfl rfl rfl (by decide)) ?_); refine zZ.nil ?_) | (refine zY.iq 9 ?_; refine zY.rqa _ K_3r K_j ?_; (refine zZ.v rfl rfl (zW rfl rfl rfl (by decide)) ?_); refine zZ.nil ?_) | refine zY.yC rfl (by first | assumption | with_reducible rfl) ?_ | refine zY.skip ?_ | refine zY.block ?_) | refine zH.n ?_)
    refine zY.loop (meS L at_ n p) (fun i => i ≤ L.length ∧ (∀ e ∈ L.take i, e.may = true) ∧ no3 (L.take i) = true) (fun i => L.length - i) 0 ?h0 ⟨Nat.zero_le _, by simp, rfl⟩ ?rd
    case h0 =>
      refine (vT (d := 9) (id := 41) (ty := 5) (sz := 1) (by decide) rfl).trans ?_
      refine (vT (d := 10) (id := 42) (ty := 5) (sz := 1) (by decide) rfl).trans ?_
      unfold meS
      rw [List.take_zero]
      exact zF K_2e K_2f
    case rd =>
      rintro i ⟨hi, hmay, hno3⟩
      have g3 : IntKind.i64.wrap (((i : Nat) : Int) + 1) = ((i + 1 : Nat) : Int) := by rw [wrap_i64 _ (by omega)]; omega
      have hF0 := entF_len (yE 0)
      have hl1 := catE_len (L.take i)
      have hl2 := catE_len (xJ p 0 (L.take i))
      have hl3 := withH_len p (L.take i) 0
      have hll := leads_le (L.take i)
      have htl : (L.take i).length = i := by rw [List.length_take]; omega
      have hX1 : (xY (L.take i)).length ≤ 1000 := by rw [htl] at hl1; omega
      have hX2 : (xY (xJ p 0 (L.take i))).length ≤ 1000 := by rw [htl] at hl3; omega
      have hll : leads (L.take i) ≤ 6 := by rw [htl] at hll; omega
      clear hl1 hl2 hl3
      by_cases hlt : i < L.length
      case pos =>
        have g1 : decide (((i : Nat) : Int) < (((L.map zK.V).length : Nat) : Int)) = true := decide_eq_true (by rw [hlL]; omega)
        obtain ⟨e, he⟩ : ∃ e, L[i]? = some e := ⟨_, List.getElem?_eq_getElem hlt⟩
        have g2 : (L.map zK.V)[i]? = some e.V := by rw [List.getElem?_map, he]; rfl
        have ho := hok e (List.mem_of_getElem? he)
        have m1 := mayRef_fn e.k e.s e.y e.u e.v e.x ho.y.1 ho.y.2
        have m1 : Fn Tryd.prog 25 [e.V] (.p (.val (.bool e.may))) := m1
        have be := vC e.k e.s e.y e.u e.v e.x ho.s ho.y ho.u ho.v ho.x
        have be : Fn Tryd.prog 24 [e.V] (.p (.sl (byts e.F))) := be
        have htake : L.take (i + 1) = L.take i ++ [e] := by rw [List.take_add_one, he]; rfl
        have hFe := entF_len e
        have t1 : xY (L.take (i + 1)) = xY (L.take i) ++ e.F := by rw [htake, catE_append]; simp [xY]
        have t2 : xY (xJ p 0 (L.take (i + 1))) = xY (xJ p 0 (L.take i)) ++ (if i = p then (yE 0).F ++ e.F else e.F) := by
          rw [htake, withH_snoc, catE_append, htl, Nat.zero_add]
          split <;> simp [xY]
        have t3 : leads (L.take (i + 1)) = if (all1 (L.take i) && decide (e.k = 1)) = true then leads (L.take i) + 1 else leads (L.take i) := by rw [htake, leads_snoc]
        have t4 : all1 (L.take (i + 1)) = (all1 (L.take i) && decide (e.k = 1)) := by rw [htake, all1_snoc]
        have q1 : (xY (L.take i)).length + e.F.length ≤ 140737488355328 := Nat.le_trans (Nat.add_le_add hX1 hFe) (by decide)
        have q2 : (xY (xJ p 0 (L.take i))).length + (yE 0).F.length ≤ 140737488355328 := Nat.le_trans (Nat.add_le_add hX2 hF0) (by decide)
        have q3 : (xY (xJ p 0 (L.take i)) ++ (yE 0).F).length + e.F.length ≤ 140737488355328 := by rw [List.length_append]; exact Nat.le_trans (Nat.add_le_add (Nat.add_le_add hX2 hF0) hFe) (by decide)
        have q4 : (xY (xJ p 0 (L.take i))).length + e.F.length ≤ 140737488355328 := Nat.le_trans (Nat.add_le_add hX2 hFe) (by decide)
        have r1 : IntKind.i64.wrap at_ = at_ := wrap_i64 _ (by omega)
        have r2 : at_.tmod (((L.map zK.V).length : Nat) : Int) = ((p : Nat) : Int) := by rw [hlL, hp]; exact tmod_nat at_ L.length hat.1
        have r3 : decide (((i : Nat) : Int) = ((p : Nat) : Int)) = decide (i = p) := decide_eq_decide.2 (by omega)
        have hnz : (((L.map zK.V).length : Nat) : Int) ≠ 0 := by rw [hlL]; omega
        have w5 := wrap_next (leads (L.take i)) (Nat.le_trans hll (by decide))
        have hok2 : e.may = true → ¬ e.k = 3 → (∀ d ∈ L.take (i + 1), d.may = true) ∧ no3 (L.take (i + 1)) = true := fun hm h3 => by
          rw [htake]
          refine ⟨fun d hd => ?_, ?_⟩
          · rcases List.mem_append.1 hd with hd | hd
            · exact hmay d hd
            · rw [List.mem_singleton] at hd; subst hd; exact hm
          · unfold no3 at hno3 ⊢
            rw [List.all_append, hno3]
            simp [h3]
        clear hF0 hX1 hX2 hll htl hFe hp hmay hno3 htake
        unfold meS
        generalize (yE 0).F = B0 at *
        generalize e.F = Be at *
        generalize xY (L.take i) = X1 at *
        generalize xY (xJ p 0 (L.take i)) = X2 at *
        generalize leads (L.take i) = nl at *
        generalize all1 (L.take i) = fl at *
        cases hm : e.may
        case false =>
          rw [hm] at m1
          clear he ho hok2 t1 t2 t3 t4
          obtain ⟨ek, es, ey, eu, ev, ex⟩ := e
          repeat' (first | (refine zY.is ?_; first | refine zY.seq ?_ | (refine zY.iq 10 ?_; refine zY.rqe _ K_6 K_3 ?_; (refine zZ.v rfl rfl (zX rfl rfl rfl (by decide)) ?_); (refine zZ.v rfl rfl (zX rfl rfl rfl (by decide)) ?_); (refine zZ.v rfl rfl (y5 rfl rfl rfl (by decide)) ?_); (refine zZ.v rfl rfl (by exact yZ rfl rfl rfl (by exact g1) rfl (by decide)) ?_); refine zZ.nil ?_) | (refine zY.iq 12 ?_; refine zY.rqe _ K_6 K_3 ?_; all_goals (refine zZ.v rfl rfl (zX rfl rfl rfl (by decide)) ?_); all_goals (refine zZ.v rfl rfl (zX rfl rfl rfl (by decide)) ?_); all_goals (refine zZ.v rfl rfl (by exact yV rfl rfl rfl (by exact hcL) (by exact g2) rfl (by decide)) ?_); all_goals (refine zZ.v rfl rfl (by exact wD rfl rfl (by exact Nat.le_of_ble_eq_true rfl) rfl (by decide)) ?_); all_goals (refine zZ.v rfl rfl (by exact yJ (m1) rfl rfl rfl (by decide)) ?_); all_goals (refine zZ.v rfl rfl (by exact xO rfl rfl (by exact bT (by decide)) rfl (by decide)) ?_); all_goals (refine zZ.v rfl rfl (zX rfl rfl rfl (by decide)) ?_); all_goals (refine zZ.gnF rfl rfl (by decide) rfl (by with_reducible rfl) rfl (by decide) ?_); all_goals (refine zZ.gnF rfl rfl (by decide) rfl (by with_reducible rfl) rfl (by decide) ?_); all_goals (refine zZ.gnF rfl rfl (by decide) rfl (by with_reducible rfl) rfl (by decide) ?_); all_goals (refine zZ.gnF rfl rfl (by decide) rfl (by with_reducible rfl) rfl (by decide) ?_); all_goals (refine zZ.gnF rfl rfl (by decide) rfl (by with_reducible rfl) rfl (by decide) ?_); all_goals (refine zZ.gnF rfl rfl (by decide) rfl (by with_reducible rfl) rfl (by decide) ?_); all_goals (refine zZ.v rfl rfl (by exact zM rfl rfl (by with_reducible rfl) rfl rfl (by decide)) ?_); all_goals (refine zZ.nil ?_)) | (refine zY.iq 13 ?_; refine zY.rqe _ K_6 K_3 ?_; (refine zZ.v rfl rfl (zX rfl rfl rfl (by decide)) ?_); (refine zZ.v rfl rfl (zW rfl rfl rfl (by decide)) ?_); refine zZ.nil ?_) | refine zY.yA rfl (by first | assumption | with_reducible rfl) ?_ | refine zY.skip ?_ | refine zY.block ?_ | refine zY.ret ?_) | refine zH.n ?_ | refine zH.r ?_ | refine zS.r ?_)
          all_goals exact ⟨.inl rfl, _, Sub.refl _, xV.p rfl (.tmp rfl)⟩
        case true =>
          rw [hm] at m1
          have hok2 := hok2 hm
          clear he ho hm
          obtain ⟨ek, es, ey, eu, ev, ex⟩ := e
          dsimp only at hok2 t3 t4
          cases h3 : decide (ek = 3)
          case true =>
            clear hok2 t1 t2 t3 t4
            repeat' (first | (refine zY.is ?_; first | refine zY.seq ?_ | (refine zY.iq 10 ?_; refine zY.rqe _ K_6 K_3 ?_; (refine zZ.v rfl rfl (zX rfl rfl rfl (by decide)) ?_); (refine zZ.v rfl rfl (zX rfl rfl rfl (by decide)) ?_); (refine zZ.v rfl rfl (y5 rfl rfl rfl (by decide)) ?_); (refine zZ.v rfl rfl (by exact yZ rfl rfl rfl (by exact g1) rfl (by decide)) ?_); refine zZ.nil ?_) | (refine zY.iq 12 ?_; refine zY.rqe _ K_6 K_3 ?_; all_goals (refine zZ.v rfl rfl (zX rfl rfl rfl (by decide)) ?_); all_goals (refine zZ.v rfl rfl (zX rfl rfl rfl (by decide)) ?_); all_goals (refine zZ.v rfl rfl (by exact yV rfl rfl rfl (by exact hcL) (by exact g2) rfl (by decide)) ?_); all_goals (refine zZ.v rfl rfl (by exact wD rfl rfl (by exact Nat.le_of_ble_eq_true rfl) rfl (by decide)) ?_); all_goals (refine zZ.v rfl rfl (by exact yJ (m1) rfl rfl rfl (by decide)) ?_); all_goals (refine zZ.v rfl rfl (by exact xO rfl rfl (by exact bF (by decide)) rfl (by decide)) ?_); all_goals (refine zZ.v rfl rfl (zX rfl rfl rfl (by decide)) ?_); all_goals (refine zZ.gY rfl rfl (by decide) rfl (by with_reducible rfl) rfl (by decide) (zX rfl rfl rfl (by decide)) ?_); all_goals (refine zZ.gY rfl rfl (by decide) rfl (by with_reducible rfl) rfl (by decide) (zX rfl rfl rfl (by decide)) ?_); all_goals (refine zZ.gY rfl rfl (by decide) rfl (by with_reducible rfl) rfl (by decide) (by exact yV rfl rfl rfl (by exact hcL) (by exact g2) rfl (by decide)) ?_); all_goals (refine zZ.gY rfl rfl (by decide) rfl (by with_reducible rfl) rfl (by decide) (xU rfl rfl rfl (by decide)) ?_); all_goals (refine zZ.gY rfl rfl (by decide) rfl (by with_reducible rfl) rfl (by decide) (yK rfl rfl rfl rfl (by decide)) ?_); all_goals (refine zZ.gY rfl rfl (by decide) rfl (by with_reducible rfl) rfl (by decide) (by exact yB rfl rfl rfl (by exact h3) rfl (by decide)) ?_); all_goals (refine zZ.v rfl rfl (by exact zN rfl rfl (by with_reducible rfl) rfl rfl (by decide)) ?_); all_goals (refine zZ.nil ?_)) | (refine zY.iq 13 ?_; refine zY.rqe _ K_6 K_3 ?_; (refine zZ.v rfl rfl (zX rfl rfl rfl (by decide)) ?_); (refine zZ.v rfl rfl (zW rfl rfl rfl (by decide)) ?_); refine zZ.nil ?_) | refine zY.yA rfl (by first | assumption | with_reducible rfl) ?_ | refine zY.skip ?_ | refine zY.block ?_ | refine zY.ret ?_) | refine zH.n ?_ | refine zH.r ?_ | refine zS.r ?_)
            all_goals exact ⟨.inl rfl, _, Sub.refl _, xV.p rfl (.tmp rfl)⟩
          case false =>
            have hok2 := hok2 (of_decide_eq_false h3)
            by_cases hip : i = p
            case pos =>
              rw [if_pos hip] at t2
              rw [decide_eq_true hip] at r3
              rw [← List.append_assoc] at t2
              clear hip
              repeat' (first | refine zY.hold (id := 19) ?_ | (refine zY.is ?_; first | refine zY.seq ?_ | (refine zY.iq 10 ?_; refine zY.rqe _ K_6 K_3 ?_; (refine zZ.v rfl rfl (zX rfl rfl rfl (by decide)) ?_); (refine zZ.v rfl rfl (zX rfl rfl rfl (by decide)) ?_); (refine zZ.v rfl rfl (y5 rfl rfl rfl (by decide)) ?_); (refine zZ.v rfl rfl (by exact yZ rfl rfl rfl (by exact g1) rfl (by decide)) ?_); refine zZ.nil ?_) | (refine zY.iq 12 ?_; refine zY.rqe _ K_6 K_3 ?_; all_goals (refine zZ.v rfl rfl (zX rfl rfl rfl (by decide)) ?_); all_goals (refine zZ.v rfl rfl (zX rfl rfl rfl (by decide)) ?_); all_goals (refine zZ.v rfl rfl (by exact yV rfl rfl rfl (by exact hcL) (by exact g2) rfl (by decide)) ?_); all_goals (refine zZ.v rfl rfl (by exact wD rfl rfl (by exact Nat.le_of_ble_eq_true rfl) rfl (by decide)) ?_); all_goals (refine zZ.v rfl rfl (by exact yJ (m1) rfl rfl rfl (by decide)) ?_); all_goals (refine zZ.v rfl rfl (by exact xO rfl rfl (by exact bF (by decide)) rfl (by decide)) ?_); all_goals (refine zZ.v rfl rfl (zX rfl rfl rfl (by decide)) ?_); all_goals (refine zZ.gY rfl rfl (by decide) rfl (by with_reducible rfl) rfl (by decide) (zX rfl rfl rfl (by decide)) ?_); all_goals (refine zZ.gY rfl rfl (by decide) rfl (by with_reducible rfl) rfl (by decide) (zX rfl rfl rfl (by decide)) ?_); all_goals (refine zZ.gY rfl rfl (by decide) rfl (by with_reducible rfl) rfl (by decide) (by exact yV rfl rfl rfl (by exact hcL) (by exact g2) rfl (by decide)) ?_); all_goals (refine zZ.gY rfl rfl (by decide) rfl (by with_reducible rfl) rfl (by decide) (xU rfl rfl rfl (by decide)) ?_); all_goals (refine zZ.gY rfl rfl (by decide) rfl (by with_reducible rfl) rfl (by decide) (yK rfl rfl rfl rfl (by decide)) ?_); all_goals (refine zZ.gY rfl rfl (by decide) rfl (by with_reducible rfl) rfl (by decide) (by exact yB rfl rfl rfl (by exact h3) rfl (by decide)) ?_); all_goals (refine zZ.v rfl rfl (by exact zN rfl rfl (by with_reducible rfl) rfl rfl (by decide)) ?_); all_goals (refine zZ.nil ?_)) | (refine zY.iq 14 ?_; refine zY.rqe _ K_6 K_3 ?_; (refine zZ.v rfl rfl (zX rfl rfl rfl (by decide)) ?_); (refine zZ.v rfl rfl (zX rfl rfl rfl (by decide)) ?_); (refine zZ.v rfl rfl (by exact y8 rfl rfl (by exact r1) rfl (by decide)) ?_); (refine zZ.v rfl rfl (zX rfl rfl rfl (by decide)) ?_); (refine zZ.v rfl rfl (y5 rfl rfl rfl (by decide)) ?_); (refine zZ.v rfl rfl (by exact a_rem rfl rfl rfl (by omega) (by exact r2) rfl (by decide)) ?_); (refine zZ.v rfl rfl (by exact yB rfl rfl rfl (by exact r3) rfl (by decide)) ?_); refine zZ.nil ?_) | (refine zY.iq 15 ?_; refine zY.rqe _ K_6 K_3 ?_; (refine zZ.v rfl rfl (yX rfl rfl rfl (by decide)) ?_); (refine zZ.v rfl rfl (zX rfl rfl rfl (by decide)) ?_); (refine zZ.w rfl (by exact vV rfl rfl rfl rfl (by exact q2) rfl rfl (by decide)) ?_); (refine zZ.v rfl rfl (zP rfl rfl rfl (by decide)) ?_); refine zZ.nil ?_) | (refine zY.iq 16 ?_; refine zY.rqe _ K_6 K_3 ?_; (refine zZ.v rfl rfl (zX rfl rfl rfl (by decide)) ?_); (refine zZ.v rfl rfl (zX rfl rfl rfl (by decide)) ?_); (refine zZ.v rfl rfl (by exact yV rfl rfl rfl (by exact hcL) (by exact g2) rfl (by decide)) ?_); (refine zZ.v rfl rfl (by exact wD rfl rfl (by exact Nat.le_of_ble_eq_true rfl) rfl (by decide)) ?_); (refine zZ.v rfl rfl (by exact yJ (be) rfl rfl rfl (by decide)) ?_); (refine zZ.v rfl rfl (zW rfl rfl rfl (by decide)) ?_); refine zZ.nil ?_) | (refine zY.iq 17 ?_; refine zY.rqe _ K_6 K_3 ?_; (refine zZ.v rfl rfl (yX rfl rfl rfl (by decide)) ?_); (refine zZ.v rfl rfl (zX rfl rfl rfl (by decide)) ?_); (refine zZ.w rfl (by exact vV rfl rfl rfl rfl (by exact q1) rfl rfl (by decide)) ?_); (refine zZ.v rfl rfl (zP rfl rfl rfl (by decide)) ?_); refine zZ.nil ?_) | (refine zY.iq 18 ?_; refine zY.rqe _ K_6 K_3 ?_; (refine zZ.v rfl rfl (yX rfl rfl rfl (by decide)) ?_); (refine zZ.v rfl rfl (zX rfl rfl rfl (by decide)) ?_); (refine zZ.w rfl (by exact vV rfl rfl rfl rfl (by exact q3) rfl rfl (by decide)) ?_); (refine zZ.v rfl rfl (zP rfl rfl rfl (by decide)) ?_); refine zZ.nil ?_) | refine zY.yA rfl (by first | assumption | with_reducible rfl) ?_ | refine zY.yC rfl (by first | assumption | with_reducible rfl) ?_ | refine zY.skip ?_ | refine zY.block ?_) | refine zH.n ?_)
              refine Hold.go ?_
              cases fl <;> cases h1 : decide (ek = 1)
              all_goals rw [h1] at t3 t4
              all_goals
                repeat' (first | (refine zY.is ?_; first | refine zY.seq ?_ | (refine zY.iq 19 ?_; refine zY.rqe _ K_6 K_3 ?_; all_goals (refine zZ.v rfl rfl (zX rfl rfl rfl (by decide)) ?_); all_goals (refine zZ.v rfl rfl (zX rfl rfl rfl (by decide)) ?_); all_goals (first | refine zZ.gY rfl rfl (by decide) rfl (by with_reducible rfl) rfl (by decide) (zX rfl rfl rfl (by decide)) ?_ | refine zZ.gnT rfl rfl (by decide) rfl (by with_reducible rfl) rfl (by decide) ?_); all_goals (first | refine zZ.gY rfl rfl (by decide) rfl (by with_reducible rfl) rfl (by decide) (zX rfl rfl rfl (by decide)) ?_ | refine zZ.gnT rfl rfl (by decide) rfl (by with_reducible rfl) rfl (by decide) ?_); all_goals (first | refine zZ.gY rfl rfl (by decide) rfl (by with_reducible rfl) rfl (by decide) (by exact yV rfl rfl rfl (by exact hcL) (by exact g2) rfl (by decide)) ?_ | refine zZ.gnT rfl rfl (by decide) rfl (by with_reducible rfl) rfl (by decide) ?_); all_goals (first | refine zZ.gY rfl rfl (by decide) rfl (by with_reducible rfl) rfl (by decide) (xU rfl rfl rfl (by decide)) ?_ | refine zZ.gnT rfl rfl (by decide) rfl (by with_reducible rfl) rfl (by decide) ?_); all_goals (first | refine zZ.gY rfl rfl (by decide) rfl (by with_reducible rfl) rfl (by decide) (yK rfl rfl rfl rfl (by decide)) ?_ | refine zZ.gnT rfl rfl (by decide) rfl (by with_reducible rfl) rfl (by decide) ?_); all_goals (first | refine zZ.gY rfl rfl (by decide) rfl (by with_reducible rfl) rfl (by decide) (by exact yB rfl rfl rfl (by exact h1) rfl (by decide)) ?_ | refine zZ.gnT rfl rfl (by decide) rfl (by with_reducible rfl) rfl (by decide) ?_); all_goals (refine zZ.v rfl rfl (by first | exact zM rfl rfl (by with_reducible rfl) rfl rfl (by decide) | exact zN rfl rfl (by with_reducible rfl) rfl rfl (by decide)) ?_); all_goals (refine zZ.v rfl rfl (zW rfl rfl rfl (by decide)) ?_); all_goals (refine zZ.nil ?_)) | (refine zY.iq 20 ?_; refine zY.rqe _ K_6 K_3 ?_; (refine zZ.v rfl rfl (zX rfl rfl rfl (by decide)) ?_); refine zZ.nil ?_) | (refine zY.iq 21 ?_; refine zY.rqe _ K_6 K_3 ?_; (refine zZ.v rfl rfl (zX rfl rfl rfl (by decide)) ?_); (refine zZ.v rfl rfl (by exact yF rfl rfl rfl (by exact w5) rfl (by decide)) ?_); (refine zZ.v rfl rfl (zW rfl rfl rfl (by decide)) ?_); refine zZ.nil ?_) | (refine zY.iq 11 ?_; refine zY.rqe _ K_6 K_3 ?_; (refine zZ.v rfl rfl (zX rfl rfl rfl (by decide)) ?_); (refine zZ.v rfl rfl (by exact yF rfl rfl rfl (by exact g3) rfl (by decide)) ?_); (refine zZ.v rfl rfl (zW rfl rfl rfl (by decide)) ?_); refine zZ.nil ?_) | refine zY.yA rfl (by first | assumption | with_reducible rfl) ?_ | refine zY.yC rfl (by first | assumption | with_reducible rfl) ?_ | refine zY.skip ?_) | refine zH.n ?_ | refine zS.n ?_)
              all_goals
                refine ⟨i + 1, ?_, ⟨hlt, hok2⟩, by omega⟩
                rw [t1, t2, t3, t4]
                exact zF K_2e K_2f
            case neg =>
              rw [if_neg hip] at t2
              rw [decide_eq_false hip] at r3
              clear hip
              repeat' (first | refine zY.hold (id := 19) ?_ | (refine zY.is ?_; first | refine zY.seq ?_ | (refine zY.iq 10 ?_; refine zY.rqe _ K_6 K_3 ?_; (refine zZ.v rfl rfl (zX rfl rfl rfl (by decide)) ?_); (refine zZ.v rfl rfl (zX rfl rfl rfl (by decide)) ?_); (refine zZ.v rfl rfl (y5 rfl rfl rfl (by decide)) ?_); (refine zZ.v rfl rfl (by exact yZ rfl rfl rfl (by exact g1) rfl (by decide)) ?_); refine zZ.nil ?_) | (refine zY.iq 12 ?_; refine zY.rqe _ K_6 K_3 ?_; all_goals (refine zZ.v rfl rfl (zX rfl rfl rfl (by decide)) ?_); all_goals (refine zZ.v rfl rfl (zX rfl rfl rfl (by decide)) ?_); all_goals (refine zZ.v rfl rfl (by exact yV rfl rfl rfl (by exact hcL) (by exact g2) rfl (by decide)) ?_); all_goals (refine zZ.v rfl rfl (by exact wD rfl rfl (by exact Nat.le_of_ble_eq_true rfl) rfl (by decide)) ?_); all_goals (refine zZ.v rfl rfl (by exact yJ (m1) rfl rfl rfl (by decide)) ?_); all_goals (refine zZ.v rfl rfl (by exact xO rfl rfl (by exact bF (by decide)) rfl (by decide)) ?_); all_goals (refine zZ.v rfl rfl (zX rfl rfl rfl (by decide)) ?_); all_goals (refine zZ.gY rfl rfl (by decide) rfl (by with_reducible rfl) rfl (by decide) (zX rfl rfl rfl (by decide)) ?_); all_goals (refine zZ.gY rfl rfl (by decide) rfl (by with_reducible rfl) rfl (by decide) (zX rfl rfl rfl (by decide)) ?_); all_goals (refine zZ.gY rfl rfl (by decide) rfl (by with_reducible rfl) rfl (by decide) (by exact yV rfl rfl rfl (by exact hcL) (by exact g2) rfl (by decide)) ?_); all_goals (refine zZ.gY rfl rfl (by decide) rfl (by with_reducible rfl) rfl (by decide) (xU rfl rfl rfl (by decide)) ?_); all_goals (refine zZ.gY rfl rfl (by decide) rfl (by with_reducible rfl) rfl (by decide) (yK rfl rfl rfl rfl (by decide)) ?_); all_goals (refine zZ.gY rfl rfl (by decide) rfl (by with_reducible rfl) rfl (by decide) (by exact yB rfl rfl rfl (by exact h3) rfl (by decide)) ?_); all_goals (refine zZ.v rfl rfl (by exact zN rfl rfl (by with_reducible rfl) rfl rfl (by decide)) ?_); all_goals (refine zZ.nil ?_)) | (refine zY.iq 14 ?_; refine zY.rqe _ K_6 K_3 ?_; (refine zZ.v rfl rfl (zX rfl rfl rfl (by decide)) ?_); (refine zZ.v rfl rfl (zX rfl rfl rfl (by decide)) ?_); (refine zZ.v rfl rfl (by exact y8 rfl rfl (by exact r1) rfl (by decide)) ?_); (refine zZ.v rfl rfl (zX rfl rfl rfl (by decide)) ?_); (refine zZ.v rfl rfl (y5 rfl rfl rfl (by decide)) ?_); (refine zZ.v rfl rfl (by exact a_rem rfl rfl rfl (by omega) (by exact r2) rfl (by decide)) ?_); (refine zZ.v rfl rfl (by exact yB rfl rfl rfl (by exact r3) rfl (by decide)) ?_); refine zZ.nil ?_) | (refine zY.iq 16 ?_; refine zY.rqe _ K_6 K_3 ?_; (refine zZ.v rfl rfl (zX rfl rfl rfl (by decide)) ?_); (refine zZ.v rfl rfl (zX rfl rfl rfl (by decide)) ?_); (refine zZ.v rfl rfl (by exact yV rfl rfl rfl (by exact hcL) (by exact g2) rfl (by decide)) ?_); (refine zZ.v rfl rfl (by exact wD rfl rfl (by exact Nat.le_of_ble_eq_true rfl) rfl (by decide)) ?_); (refine zZ.v rfl rfl (by exact yJ (be) rfl rfl rfl (by decide)) ?_); (refine zZ.v rfl rfl (zW rfl rfl rfl (by decide)) ?_); refine zZ.nil ?_) | (refine zY.iq 17 ?_; refine zY.rqe _ K_6 K_3 ?_; (refine zZ.v rfl rfl (yX rfl rfl rfl (by decide)) ?_); (refine zZ.v rfl rfl (zX rfl rfl rfl (by decide)) ?_); (refine zZ.w rfl (by exact vV rfl rfl rfl rfl (by exact q1) rfl rfl (by decide)) ?_); (refine zZ.v rfl rfl (zP rfl rfl rfl (by decide)) ?_); refine zZ.nil ?_) | (refine zY.iq 18 ?_; refine zY.rqe _ K_6 K_3 ?_; (refine zZ.v rfl rfl (yX rfl rfl rfl (by decide)) ?_); (refine zZ.v rfl rfl (zX rfl rfl rfl (by decide)) ?_); (refine zZ.w rfl (by exact vV rfl rfl rfl rfl (by exact q4) rfl rfl (by decide)) ?_); (refine zZ.v rfl rfl (zP rfl rfl rfl (by decide)) ?_); refine zZ.nil ?_) | refine zY.yA rfl (by first | assumption | with_reducible rfl) ?_ | refine zY.yC rfl (by first | assumption | with_reducible rfl) ?_ | refine zY.skip ?_ | refine zY.block ?_) | refine zH.n ?_)
              refine Hold.go ?_
              cases fl <;> cases h1 : decide (ek = 1)
              all_goals rw [h1] at t3 t4
              all_goals
                repeat' (first | (refine zY.is ?_; first | refine zY.seq ?_ | (refine zY.iq 19 ?_; refine zY.rqe _ K_6 K_3 ?_; all_goals (refine zZ.v rfl rfl (zX rfl rfl rfl (by decide)) ?_); all_goals (refine zZ.v rfl rfl (zX rfl rfl rfl (by decide)) ?_); all_goals (first | refine zZ.gY rfl rfl (by decide) rfl (by with_reducible rfl) rfl (by decide) (zX rfl rfl rfl (by decide)) ?_ | refine zZ.gnT rfl rfl (by decide) rfl (by with_reducible rfl) rfl (by decide) ?_); all_goals (first | refine zZ.gY rfl rfl (by decide) rfl (by with_reducible rfl) rfl (by decide) (zX rfl rfl rfl (by decide)) ?_ | refine zZ.gnT rfl rfl (by decide) rfl (by with_reducible rfl) rfl (by decide) ?_); all_goals (first | refine zZ.gY rfl rfl (by decide) rfl (by with_reducible rfl) rfl (by decide) (by exact yV rfl rfl rfl (by exact hcL) (by exact g2) rfl (by decide)) ?_ | refine zZ.gnT rfl rfl (by decide) rfl (by with_reducible rfl) rfl (by decide) ?_); all_goals (first | refine zZ.gY rfl rfl (by decide) rfl (by with_reducible rfl) rfl (by decide) (xU rfl rfl rfl (by decide)) ?_ | refine zZ.gnT rfl rfl (by decide) rfl (by with_reducible rfl) rfl (by decide) ?_); all_goals (first | refine zZ.gY rfl rfl (by decide) rfl (by with_reducible rfl) rfl (by decide) (yK rfl rfl rfl rfl (by decide)) ?_ | refine zZ.gnT rfl rfl (by decide) rfl (by with_reducible rfl) rfl (by decide) ?_); all_goals (first | refine zZ.gY rfl rfl (by decide) rfl (by with_reducible rfl) rfl (by decide) (by exact yB rfl rfl rfl (by exact h1) rfl (by decide)) ?_ | refine zZ.gnT rfl rfl (by decide) rfl (by with_reducible rfl) rfl (by decide) ?_); all_goals (refine zZ.v rfl rfl (by first | exact zM rfl rfl (by with_reducible rfl) rfl rfl (by decide) | exact zN rfl rfl (by with_reducible rfl) rfl rfl (by decide)) ?_); all_goals (refine zZ.v rfl rfl (zW rfl rfl rfl (by decide)) ?_); all_goals (refine zZ.nil ?_)) | (refine zY.iq 20 ?_; refine zY.rqe _ K_6 K_3 ?_; (refine zZ.v rfl rfl (zX rfl rfl rfl (by decide)) ?_); refine zZ.nil ?_) | (refine zY.iq 21 ?_; refine zY.rqe _ K_6 K_3 ?_; (refine zZ.v rfl rfl (zX rfl rfl rfl (by decide)) ?_); (refine zZ.v rfl rfl (by exact yF rfl rfl rfl (by exact w5) rfl (by decide)) ?_); (refine zZ.v rfl rfl (zW rfl rfl rfl (by decide)) ?_); refine zZ.nil ?_) | (refine zY.iq 11 ?_; refine zY.rqe _ K_6 K_3 ?_; (refine zZ.v rfl rfl (zX rfl rfl rfl (by decide)) ?_); (refine zZ.v rfl rfl (by exact yF rfl rfl rfl (by exact g3) rfl (by decide)) ?_); (refine zZ.v rfl rfl (zW rfl rfl rfl (by decide)) ?_); refine zZ.nil ?_) | refine zY.yA rfl (by first | assumption | with_reducible rfl) ?_ | refine zY.yC rfl (by first | assumption | with_reducible rfl) ?_ | refine zY.skip ?_) | refine zH.n ?_ | refine zS.n ?_)
              all_goals
                refine ⟨i + 1, ?_, ⟨hlt, hok2⟩, by omega⟩
                rw [t1, t2, t3, t4]
                exact zF K_2e K_2f
      case neg =>
        have hie : i = L.length := by omega
        subst hie
        have g1 : decide (((L.length : Nat) : Int) < (((L.map zK.V).length : Nat) : Int)) = false := decide_eq_false (by rw [hlL]; omega)
        rw [List.take_length] at *
        have hX : ∀ e ∈ L, e.ok ∧ e.may = true := fun e he => ⟨hok e he, hmay e he⟩
        have hH0 := head_may 0 (by omega)
        have hHX : ∀ e ∈ yE 0 :: xJ p 0 L, e.ok ∧ e.may = true := fun e he => by
          rcases List.mem_cons.1 he with rfl | he
          · exact hH0
          · rcases withH_mem p L 0 e he with rfl | he
            · exact hH0
            · exact hX e he
        obtain ⟨m, hm⟩ : ∃ m : Nat, m = leads L + 1 + n.toNat := ⟨_, rfl⟩
        have hHm := head_may m (by omega)
        have hHd : ∀ e ∈ yE m :: L, e.ok ∧ e.may = true := fun e he => by
          rcases List.mem_cons.1 he with rfl | he
          · exact hHm
          · exact hX e he
        have w1 : IntKind.i64.wrap (((leads L : Nat) : Int) + 1) = ((leads L + 1 : Nat) : Int) := by rw [wrap_i64 _ (by omega)]; omega
        have w2 : IntKind.i64.wrap n = n := wrap_i64 _ (by omega)
        have w3 : IntKind.i64.wrap (((leads L + 1 : Nat) : Int) + n) = ((m : Nat) : Int) := by rw [wrap_i64 _ (by omega)]; omega
        have w4 : IntKind.u64.wrap ((m : Nat) : Int) = ((m : Nat) : Int) := wrap_u64 _ (by omega)
        have bm := vC 3 ((m : Nat) : Int) 0 0 0 0 ⟨by omega, by omega⟩ z z z z
        have bm : Fn Tryd.prog 24 [entV 3 ((m : Nat) : Int) 0 0 0 0] (.p (.sl (byts (yE m).F))) := bm
        have hFm := entF_len (yE m)
        have ok0 : ∀ e ∈ [yE 0], e.ok := fun e he => by rw [List.mem_singleton] at he; subst he; exact hH0.1
        have e0 : xY [yE 0] = (yE 0).F := by simp [xY]
        have la := mLive_fn [xY (yE 0 :: xJ p 0 L)] 99 (fun s hs => by rw [List.mem_singleton] at hs; subst hs; exact catE_range fun e he => (hHX e he).1) (by simp) (by rw [total1, catE_cons, List.length_append]; omega)
        have lb := mLive_fn [xY [yE 0], xY (xJ p 0 L)] 99 (fun s hs => by
          simp only [List.mem_cons, List.not_mem_nil, or_false] at hs
          rcases hs with rfl | rfl
          · exact catE_range ok0
          · exact catE_range fun e he => (hHX e (List.mem_cons_of_mem _ he)).1) (by simp) (by rw [total2, e0]; omega)
        have lc := mLive_fn [xY L, xY [yE 0]] 99 (fun s hs => by
          simp only [List.mem_cons, List.not_mem_nil, or_false] at hs
          rcases hs with rfl | rfl
          · exact catE_range hok
          · exact catE_range ok0) (by simp) (by rw [total2, e0]; omega)
        have ld := mLive_fn [xY (yE m :: L)] 99 (fun s hs => by rw [List.mem_singleton] at hs; subst hs; exact catE_range fun e he => (hHd e he).1) (by simp) (by rw [total1, catE_cons, List.length_append]; omega)
        rw [heads_c L _ 99 hX hno3, e0] at lc
        rw [heads_d L m 99 hHd (by omega)] at ld
        rw [e0] at lb
        have q1 : ([] : List Int).length + (yE 0).F.length ≤ 140737488355328 := by simp only [List.length_nil]; omega
        have q2 : ([] ++ (yE 0).F).length + (xY (xJ p 0 L)).length ≤ 140737488355328 := by rw [List.nil_append]; omega
        have q3 : ([] : List Int).length + (yE m).F.length ≤ 140737488355328 := by simp only [List.length_nil]; omega
        have q4 : ([] ++ (yE m).F).length + (xY L).length ≤ 140737488355328 := by rw [List.nil_append]; omega
        have la : Fn Tryd.prog 12 [.sl [.sl (byts ([] ++ (yE 0).F ++ xY (xJ p 0 L)))], .val (.int .i64 99)] (.tup [.sl ((vP [xY (yE 0 :: xJ p 0 L)] 99).1.map zK.V), .val (.int .i64 (vP [xY (yE 0 :: xJ p 0 L)] 99).2)]) := la
        have ld : Fn Tryd.prog 12 [.sl [.sl (byts ([] ++ (yE m).F ++ xY L))], .val (.int .i64 99)] (.tup [.sl [], .val (.int .i64 8)]) := ld
        have lb : Fn Tryd.prog 12 [.sl [.sl (byts (yE 0).F), .sl (byts (xY (xJ p 0 L)))], .val (.int .i64 99)] (.tup [.sl ((vP [(yE 0).F, xY (xJ p 0 L)] 99).1.map zK.V), .val (.int .i64 (vP [(yE 0).F, xY (xJ p 0 L)] 99).2)]) := lb
        have lc : Fn Tryd.prog 12 [.sl [.sl (byts (xY L)), .sl (byts (yE 0).F)], .val (.int .i64 99)] (.tup [.sl [], .val (.int .i64 8)]) := lc
        have key : ¬ L.length = 0 → (vP [xY (yE 0 :: xJ p 0 L)] 99).2 = 8 ∧ (vP [(yE 0).F, xY (xJ p 0 L)] 99).2 = 8 := fun h0 => by
          have h3 : no3 (xJ p 0 L) = false := withH_three p L 0 (Nat.zero_le _) (by rw [hp, Nat.zero_add]; exact Nat.mod_lt _ (by omega))
          rw [heads_a _ 99 hHX h3, ← e0, heads_b _ 99 hHX h3]
          exact ⟨rfl, rfl⟩
        clear hX hHX hHd hH0 hHm hm hF0 hX1 hX2 hll hFm hmay hno3 e0 ok0 hok
        unfold meS
        rw [List.take_length]
        generalize (vP [xY (yE 0 :: xJ p 0 L)] 99).1.map zK.V = A1 at *
        generalize (vP [xY (yE 0 :: xJ p 0 L)] 99).2 = a2 at *
        generalize (vP [(yE 0).F, xY (xJ p 0 L)] 99).1.map zK.V = A3 at *
        generalize (vP [(yE 0).F, xY (xJ p 0 L)] 99).2 = a4 at *
        generalize (yE 0).F = B0 at *
        generalize (yE m).F = Bm at *
        generalize xY L = X1 at *
        generalize xY (xJ p 0 L) = X2 at *
        generalize leads L = nl at *
        generalize all1 L = fl at *
        repeat' (first | refine zZ.sub (wV (d := 98) rfl rfl) ?_ | refine zZ.sub (wV (d := 122) rfl rfl) ?_ | refine zY.hold (id := 27) ?_ | (refine zZ.is ?_; first | refine zZ.nil ?_ | refine zZ.v rfl rfl (by first | exact zW rfl rfl rfl (by decide) | exact zD rfl rfl rfl rfl (by decide) | exact zX rfl rfl rfl (by decide) | exact yI rfl rfl rfl (by decide) | exact y9 (la) rfl rfl rfl (by decide) | exact y9 (ld) rfl rfl rfl (by decide) | exact xI rfl (by decide) (by decide) (by decide) (by decide) (by rfl) (by rfl) (by rfl) (by rfl) (by rfl) (by rfl) (by rfl) rfl (by decide)) ?_ | refine zZ.m rfl rfl (w_build0V rfl rfl (by decide)) ?_ | refine zZ.w rfl (by exact vV rfl rfl rfl rfl (by first | exact q1 | exact q2 | exact q3 | exact q4) rfl rfl (by decide)) ?_) | (refine zY.is ?_; first | refine zY.seq ?_ | (refine zY.iq 10 ?_; refine zY.rqe _ K_6 K_3 ?_; (refine zZ.v rfl rfl (zX rfl rfl rfl (by decide)) ?_); (refine zZ.v rfl rfl (zX rfl rfl rfl (by decide)) ?_); (refine zZ.v rfl rfl (y5 rfl rfl rfl (by decide)) ?_); (refine zZ.v rfl rfl (by exact yZ rfl rfl rfl (by exact g1) rfl (by decide)) ?_); refine zZ.nil ?_) | (refine zY.isR (id := 22) ?_; refine zY.sub ((sub_frzB 41 rfl)) ?_; refine zY.sub ((sub_frzB 42 rfl)) ?_; refine zY.rqh _ K_3s K_3 ?_; (refine zZ.v rfl rfl (zX rfl rfl rfl (by decide)) ?_); (refine zZ.v rfl rfl (by exact yF rfl rfl rfl (by exact w1) rfl (by decide)) ?_); (refine zZ.v rfl rfl (zX rfl rfl rfl (by decide)) ?_); (refine zZ.v rfl rfl (by exact y8 rfl rfl (by exact w2) rfl (by decide)) ?_); (refine zZ.v rfl rfl (by exact yF rfl rfl rfl (by exact w3) rfl (by decide)) ?_); (refine zZ.v rfl rfl (by exact y8 rfl rfl (by exact w4) rfl (by decide)) ?_); (refine zZ.v rfl rfl (wE rfl (by rfl) (by rfl) (by rfl) (by rfl) rfl (by decide)) ?_); (refine zZ.v rfl rfl (by exact yJ (bm) rfl rfl rfl (by decide)) ?_); (refine zZ.v rfl rfl (zW rfl rfl rfl (by decide)) ?_); refine zZ.nil ?_) | (refine zY.iq 23 ?_; refine zY.rqh _ K_3t K_3 ?_) | (refine zY.iq 24 ?_; refine zY.rqh _ K_3u K_3 ?_; (refine zZ.v rfl rfl (zX rfl rfl rfl (by decide)) ?_); (refine zZ.v rfl rfl (zX rfl rfl rfl (by decide)) ?_); (refine zZ.v rfl rfl (xI rfl (by decide) (by decide) (by decide) (by decide) (by rfl) (by rfl) (by rfl) (by rfl) (by rfl) (by rfl) (by rfl) rfl (by decide)) ?_); (refine zZ.v rfl rfl (by exact y9 (lb) rfl rfl rfl (by decide)) ?_); (refine zZ.v rfl rfl (yI rfl rfl rfl (by decide)) ?_); (refine zZ.v rfl rfl (zD rfl rfl rfl rfl (by decide)) ?_); (refine zZ.v rfl rfl (zD rfl rfl rfl rfl (by decide)) ?_); (refine zZ.v rfl rfl (zW rfl rfl rfl (by decide)) ?_); (refine zZ.v rfl rfl (zW rfl rfl rfl (by decide)) ?_); refine zZ.nil ?_) | (refine zY.iq 25 ?_; refine zY.rqh _ K_3v K_3 ?_; (refine zZ.v rfl rfl (zX rfl rfl rfl (by decide)) ?_); (refine zZ.v rfl rfl (zX rfl rfl rfl (by decide)) ?_); (refine zZ.v rfl rfl (xI rfl (by decide) (by decide) (by decide) (by decide) (by rfl) (by rfl) (by rfl) (by rfl) (by rfl) (by rfl) (by rfl) rfl (by decide)) ?_); (refine zZ.v rfl rfl (by exact y9 (lc) rfl rfl rfl (by decide)) ?_); (refine zZ.v rfl rfl (yI rfl rfl rfl (by decide)) ?_); (refine zZ.v rfl rfl (zD rfl rfl rfl rfl (by decide)) ?_); (refine zZ.v rfl rfl (zD rfl rfl rfl rfl (by decide)) ?_); (refine zZ.v rfl rfl (zW rfl rfl rfl (by decide)) ?_); (refine zZ.v rfl rfl (zW rfl rfl rfl (by decide)) ?_); refine zZ.nil ?_) | (refine zY.iq 26 ?_; refine zY.rqh _ K_3w K_3 ?_) | refine zY.yC rfl (by first | assumption | with_reducible rfl) ?_ | refine zY.exit ?_) | refine zH.n ?_ | refine zS.eY ?_ | refine zH.e ?_)
        refine Hold.go ?_
        by_cases h0 : L.length = 0
        case pos =>
          have c2 : decide ((((L.map zK.V).length : Nat) : Int) = 0) = true := decide_eq_true (by rw [hlL]; omega)
          clear key
          repeat' (first | (refine zY.is ?_; first | refine zY.seq ?_ | (refine zY.iq 27 ?_; refine zY.rqh _ K_32 K_j ?_; all_goals (refine zZ.v rfl rfl (zX rfl rfl rfl (by decide)) ?_); all_goals (refine zZ.v rfl rfl (zX rfl rfl rfl (by decide)) ?_); all_goals (refine zZ.gY rfl rfl (by decide) rfl (by with_reducible rfl) rfl (by decide) (zX rfl rfl rfl (by decide)) ?_); all_goals (refine zZ.gY rfl rfl (by decide) rfl (by with_reducible rfl) rfl (by decide) (y5 rfl rfl rfl (by decide)) ?_); all_goals (refine zZ.gY rfl rfl (by decide) rfl (by with_reducible rfl) rfl (by decide) (by exact yB rfl rfl rfl (by exact c2) rfl (by decide)) ?_); all_goals (refine zZ.gY rfl rfl (by decide) rfl (by with_reducible rfl) rfl (by decide) (zX rfl rfl rfl (by decide)) ?_); all_goals (refine zZ.gnF rfl rfl (by decide) rfl (by with_reducible rfl) rfl (by decide) ?_); all_goals (refine zZ.gnF rfl rfl (by decide) rfl (by with_reducible rfl) rfl (by decide) ?_); all_goals (refine zZ.gnF rfl rfl (by decide) rfl (by with_reducible rfl) rfl (by decide) ?_); all_goals (refine zZ.gU rfl rfl (by decide) (by rfl) rfl (by decide) ?_); all_goals (refine zZ.gU rfl rfl (by decide) (by rfl) rfl (by decide) ?_); all_goals (refine zZ.gnF rfl rfl (by decide) rfl (by with_reducible rfl) rfl (by decide) ?_); all_goals (refine zZ.gY rfl rfl (by decide) rfl (by with_reducible rfl) rfl (by decide) (by exact zM rfl rfl (by with_reducible rfl) rfl rfl (by decide)) ?_); all_goals (refine zZ.v rfl rfl (by exact zM rfl rfl (by with_reducible rfl) rfl rfl (by decide)) ?_); all_goals (refine zZ.v rfl rfl (zX rfl rfl rfl (by decide)) ?_); all_goals (refine zZ.gY rfl rfl (by decide) rfl (by with_reducible rfl) rfl (by decide) (zX rfl rfl rfl (by decide)) ?_); all_goals (refine zZ.gY rfl rfl (by decide) rfl (by with_reducible rfl) rfl (by decide) (by exact yB rfl rfl rfl (by exact bT (by decide)) rfl (by decide)) ?_); all_goals (refine zZ.v rfl rfl (by exact zM rfl rfl (by with_reducible rfl) rfl rfl (by decide)) ?_); all_goals (refine zZ.v rfl rfl (zX rfl rfl rfl (by decide)) ?_); all_goals (refine zZ.gY rfl rfl (by decide) rfl (by with_reducible rfl) rfl (by decide) (zX rfl rfl rfl (by decide)) ?_); all_goals (refine zZ.gY rfl rfl (by decide) rfl (by with_reducible rfl) rfl (by decide) (by exact yB rfl rfl rfl (by exact bT (by decide)) rfl (by decide)) ?_); all_goals (refine zZ.v rfl rfl (by exact zM rfl rfl (by with_reducible rfl) rfl rfl (by decide)) ?_); all_goals (refine zZ.v rfl rfl (zW rfl rfl rfl (by decide)) ?_); all_goals (refine zZ.nil ?_)) | refine zY.ret ?_) | refine zH.n ?_)
          all_goals exact ⟨.inl rfl, _, Sub.refl _, xV.p rfl (.tmp rfl)⟩
        case neg =>
          have c2 : decide ((((L.map zK.V).length : Nat) : Int) = 0) = false := decide_eq_false (by rw [hlL]; omega)
          obtain ⟨rfl, rfl⟩ := key h0
          repeat' (first | (refine zY.is ?_; first | refine zY.seq ?_ | (refine zY.iq 27 ?_; refine zY.rqh _ K_32 K_j ?_; all_goals (refine zZ.v rfl rfl (zX rfl rfl rfl (by decide)) ?_); all_goals (refine zZ.v rfl rfl (zX rfl rfl rfl (by decide)) ?_); all_goals (refine zZ.gY rfl rfl (by decide) rfl (by with_reducible rfl) rfl (by decide) (zX rfl rfl rfl (by decide)) ?_); all_goals (refine zZ.gY rfl rfl (by decide) rfl (by with_reducible rfl) rfl (by decide) (y5 rfl rfl rfl (by decide)) ?_); all_goals (refine zZ.gY rfl rfl (by decide) rfl (by with_reducible rfl) rfl (by decide) (by exact yB rfl rfl rfl (by exact c2) rfl (by decide)) ?_); all_goals (refine zZ.gY rfl rfl (by decide) rfl (by with_reducible rfl) rfl (by decide) (zX rfl rfl rfl (by decide)) ?_); all_goals (refine zZ.gY rfl rfl (by decide) rfl (by with_reducible rfl) rfl (by decide) (zX rfl rfl rfl (by decide)) ?_); all_goals (refine zZ.gY rfl rfl (by decide) rfl (by with_reducible rfl) rfl (by decide) (by exact yB rfl rfl rfl (by exact bT (by decide)) rfl (by decide)) ?_); all_goals (refine zZ.gY rfl rfl (by decide) rfl (by with_reducible rfl) rfl (by decide) (zX rfl rfl rfl (by decide)) ?_); all_goals (refine zZ.gY rfl rfl (by decide) rfl (by with_reducible rfl) rfl (by decide) (zX rfl rfl rfl (by decide)) ?_); all_goals (refine zZ.gY rfl rfl (by decide) rfl (by with_reducible rfl) rfl (by decide) (by exact yB rfl rfl rfl (by exact bT (by decide)) rfl (by decide)) ?_); all_goals (refine zZ.gY rfl rfl (by decide) rfl (by with_reducible rfl) rfl (by decide) (by exact zM rfl rfl (by with_reducible rfl) rfl rfl (by decide)) ?_); all_goals (refine zZ.gY rfl rfl (by decide) rfl (by with_reducible rfl) rfl (by decide) (by exact zN rfl rfl (by with_reducible rfl) rfl rfl (by decide)) ?_); all_goals (refine zZ.v rfl rfl (by exact zM rfl rfl (by with_reducible rfl) rfl rfl (by decide)) ?_); all_goals (refine zZ.v rfl rfl (zX rfl rfl rfl (by decide)) ?_); all_goals (refine zZ.gY rfl rfl (by decide) rfl (by with_reducible rfl) rfl (by decide) (zX rfl rfl rfl (by decide)) ?_); all_goals (refine zZ.gY rfl rfl (by decide) rfl (by with_reducible rfl) rfl (by decide) (by exact yB rfl rfl rfl (by exact bT (by decide)) rfl (by decide)) ?_); all_goals (refine zZ.v rfl rfl (by exact zM rfl rfl (by with_reducible rfl) rfl rfl (by decide)) ?_); all_goals (refine zZ.v rfl rfl (zX rfl rfl rfl (by decide)) ?_); all_goals (refine zZ.gY rfl rfl (by decide) rfl (by with_reducible rfl) rfl (by decide) (zX rfl rfl rfl (by decide)) ?_); all_goals (refine zZ.gY rfl rfl (by decide) rfl (by with_reducible rfl) rfl (by decide) (by exact yB rfl rfl rfl (by exact bT (by decide)) rfl (by decide)) ?_); all_goals (refine zZ.v rfl rfl (by exact zM rfl rfl (by with_reducible rfl) rfl rfl (by decide)) ?_); all_goals (refine zZ.v rfl rfl (zW rfl rfl rfl (by decide)) ?_); all_goals (refine zZ.nil ?_)) | refine zY.ret ?_) | refine zH.n ?_)
          all_goals exact ⟨.inl rfl, _, Sub.refl _, xV.p rfl (.tmp rfl)⟩
end Go.Proofs.YtomlhekjgagjaaaDoor
/- Contracts made weaker: nil is an empty slice. Generic over the program. -/
namespace Go.Proofs.YtomlhekjgagjaaaDoor
set_option maxRecDepth 100000
set_option maxHeartbeats 16000000
open Go Go.RowKit
/-- y says no more than x -/
inductive PLe0 : PV → PV → Prop
  | refl (x : PV) : PLe0 x x
  | nil : PLe0 (.val (.slice none 0 0)) (.sl [])
inductive PL0s : List PV → List PV → Prop
  | nil : PL0s [] []
  | cons {x y : PV} {xs ys : List PV} (h : PLe0 x y) (hs : PL0s xs ys) : PL0s (x :: xs) (y :: ys)
inductive PLe1 : PV → PV → Prop
  | refl (x : PV) : PLe1 x x
  | nil : PLe1 (.val (.slice none 0 0)) (.sl [])
  | sl {xs ys : List PV} (hl : xs.length = ys.length) (h : PL0s (flat xs) (flat ys)) : PLe1 (.sl xs) (.sl ys)
inductive PLes : List PV → List PV → Prop
  | nil : PLes [] []
  | cons {x y : PV} {xs ys : List PV} (h : PLe1 x y) (hs : PLes xs ys) : PLes (x :: xs) (y :: ys)
inductive PLe : PV → PV → Prop
  | one {x y : PV} (h : PLe1 x y) : PLe x y
  | agg {xs ys : List PV} (h : PLes xs ys) : PLe (.agg xs) (.agg ys)
inductive PLet : List PV → List PV → Prop
  | nil : PLet [] []
  | cons {x y : PV} {xs ys : List PV} (h : PLe x y) (hs : PLet xs ys) : PLet (x :: xs) (y :: ys)
theorem PLe0.rep {x y : PV} (h : PLe0 x y) {M : Nat → Nat → Prop} {w : World} {v : Value} (hr : Rep M w x v) : Rep M w y v := by
  cases h with
  | refl => exact hr
  | nil => cases hr; exact .nil
theorem PL0s.at_ {xs ys : List PV} (h : PL0s xs ys) : xs.length = ys.length ∧ ∀ (i : Nat) y, ys[i]? = some y → ∃ x, xs[i]? = some x ∧ PLe0 x y := by
  induction h with
  | nil => exact ⟨rfl, fun i y h => by simp at h⟩
  | cons h hs ih =>
    refine ⟨by simp [ih.1], fun i y hy => ?_⟩
    cases i with
    | zero => simp at hy; subst hy; exact ⟨_, rfl, h⟩
    | succ i => exact ih.2 i y hy
theorem PL0s.append {xs ys xs' ys' : List PV} (h : PL0s xs ys) (h' : PL0s xs' ys') : PL0s (xs ++ xs') (ys ++ ys') := by
  induction h with
  | nil => exact h'
  | cons h _ ih => exact .cons h ih
theorem PLe1.rep {x y : PV} (h : PLe1 x y) {M : Nat → Nat → Prop} {w : World} {v : Value} (hr : Rep M w x v) : Rep M w y v := by
  cases h with
  | refl => exact hr
  | nil => cases hr; exact .nil
  | sl hl h =>
    obtain ⟨hfl, hat⟩ := h.at_
    rcases rep_sl hr with ⟨⟨b, rfl⟩, h0⟩ | ⟨g, off, cap, us, rfl, hl2, hcell, hM, hg, hcap, hm⟩
    · subst h0
      have : _ = [] := List.eq_nil_of_length_eq_zero hl.symm
      subst this
      exact .nil
    · rw [hl] at hcap ⊢
      exact .sl _ g off _ cap us rfl (hl2.len.trans hfl) hcell (fun j c y hc hy => by
        obtain ⟨x, hx, hle⟩ := hat j c hc
        exact hle.rep (hl2.each j x y hx hy)) hl2.one hM hg hcap hm
theorem PLes.refl : ∀ xs : List PV, PLes xs xs
  | [] => .nil
  | x :: xs => .cons (.refl x) (PLes.refl xs)
theorem PLes.at_ {xs ys : List PV} (h : PLes xs ys) : xs.length = ys.length ∧ ∀ (i : Nat) y, ys[i]? = some y → ∃ x, xs[i]? = some x ∧ PLe1 x y := by
  induction h with
  | nil => exact ⟨rfl, fun i y h => by simp at h⟩
  | cons h hs ih =>
    refine ⟨by simp [ih.1], fun i y hy => ?_⟩
    cases i with
    | zero => simp at hy; subst hy; exact ⟨_, rfl, h⟩
    | succ i => exact ih.2 i y hy
theorem PLe.rep {x y : PV} (h : PLe x y) {M : Nat → Nat → Prop} {w : World} {v : Value} (hr : Rep M w x v) : Rep M w y v := by
  cases h with
  | one h => exact h.rep hr
  | agg h =>
    obtain ⟨hl, hat⟩ := h.at_
    cases hr with
    | agg cs vs hl2 h2 h1 => exact .agg _ vs (hl2.trans hl) (fun i c u hc hu => by
        obtain ⟨x, hx, hxy⟩ := hat i c hc
        exact hxy.rep (h2 i x u hx hu)) h1
theorem PLet.at_ {xs ys : List PV} (h : PLet xs ys) : xs.length = ys.length ∧ ∀ (i : Nat) y, ys[i]? = some y → ∃ x, xs[i]? = some x ∧ PLe x y := by
  induction h with
  | nil => exact ⟨rfl, fun i y h => by simp at h⟩
  | cons h hs ih =>
    refine ⟨by simp [ih.1], fun i y hy => ?_⟩
    cases i with
    | zero => simp at hy; subst hy; exact ⟨_, rfl, h⟩
    | succ i => exact ih.2 i y hy
theorem PLe.refl (x : PV) : PLe x x := .one (.refl x)
section
variable {P : Program} {f : FuncId}
end
end Go.Proofs.YtomlhekjgagjaaaDoor
/- A law's arguments, as they come in, by their shapes. Generic over the program. -/
namespace Go.Proofs.YtomlhekjgagjaaaDoor
set_option maxRecDepth 100000
set_option maxHeartbeats 16000000
open Go Go.RowKit Go.ChangeShapes Go.WideShapes Go.ChangeAt
def NoM : Nat → Nat → Prop := fun _ _ => False
/-- what a cell may hold -/
inductive Leaf where
  | int (k : IntKind)
  | bool
  | any
deriving DecidableEq
def leafOK : Leaf → Value → Prop
  | .int k, v => ∃ n, v = .int k n ∧ (Lit.int k n).wf = true
  | .bool, v => ∃ b, v = .bool b
  | .any, v => v.oneCell' = true
/-- type t's cells, one behind the other, are of these kinds (any: a slice) -/
def flatB (P : Program) : Nat → TypeId → List Leaf → Bool
  | 0, _, _ => false
  | d + 1, t, ls => match P.underlying t with
    | some (.int k) => decide (ls = [.int k])
    | some .bool => decide (ls = [.bool])
    | some (.slice _) => decide (ls = [.any])
    | some (.struct fs) => (ls.length == P.cellsOf t) && (fs.toList.all fun f => flatB P d f.type ((ls.drop f.offset).take (P.cellsOf f.type)) && (((ls.drop f.offset).take (P.cellsOf f.type)).length == P.cellsOf f.type)) &&
      (List.range ls.length).all fun c => fs.toList.any fun f => decide (f.offset ≤ c) && decide (c < f.offset + P.cellsOf f.type)
    | _ => false
section
variable {H : Type} {enc : TypeId × Value → H} {P : Program} {W : World} {base : Nat} {spare : Nat → Bool} {held : Bool}
theorem flat_trod : ∀ (d : Nat) {t : TypeId} {ls : List Leaf}, flatB P d t ls = true → ∀ {fuel : Nat} {cs : List Value} {x : DataW H × List MemPlace}, DataW.trod enc P W base spare held fuel t cs = some x →
    cs.length = ls.length ∧ ∀ (i : Nat) l v, ls[i]? = some l → cs[i]? = some v → leafOK l v
  | 0, _, _, h, _, _, _, _ => by cases h
  | d + 1, t, ls, h, fuel, cs, x, hx => by
    unfold flatB at h
    cases hu : P.underlying t with
    | none => rw [hu] at h; cases h
    | some ds =>
      rw [hu] at h
      cases ds with
      | int k =>
        obtain rfl : ls = [.int k] := of_decide_eq_true h
        obtain ⟨n, rfl, _, hw⟩ := DataW.trod_int hu hx
        refine ⟨rfl, fun i l v hl hv => ?_⟩
        match i with
        | 0 => simp at hl hv; subst hl hv; exact ⟨n, rfl, hw⟩
        | i + 1 => simp at hl
      | bool =>
        obtain rfl : ls = [.bool] := of_decide_eq_true h
        obtain ⟨b, rfl, _⟩ := DataW.trod_bool hu hx
        refine ⟨rfl, fun i l v hl hv => ?_⟩
        match i with
        | 0 => simp at hl hv; subst hl hv; exact ⟨b, rfl⟩
        | i + 1 => simp at hl
      | slice e =>
        obtain rfl : ls = [.any] := of_decide_eq_true h
        have key : ∀ w : Value, w.oneCell' = true → cs = [w] → cs.length = [Leaf.any].length ∧ ∀ (i : Nat) l v, [Leaf.any][i]? = some l → cs[i]? = some v → leafOK l v := fun w hw e => by
          subst e
          refine ⟨rfl, fun i l v hl hv => ?_⟩
          match i with
          | 0 => simp at hl hv; subst hl hv; exact hw
          | i + 1 => simp at hl
        rcases DataW.trod_slice hu hx with ⟨e, _⟩ | ⟨a, len, cap, _, _, _, _, e, _⟩
        · exact key _ rfl e
        · exact key _ rfl e
      | struct fs =>
        simp only [Bool.and_eq_true, beq_iff_eq, List.all_eq_true, List.mem_range, List.any_eq_true, decide_eq_true_eq] at h
        obtain ⟨⟨hlen, hfs⟩, hcov⟩ := h
        obtain ⟨xs, n, _, _, hcl, hxl, hg⟩ := DataW.trod_struct hu hx
        refine ⟨by omega, fun i l v hl hv => ?_⟩
        have hil : i < ls.length := (List.getElem?_eq_some_iff.1 hl).1
        obtain ⟨f, hf, hf1, hf2⟩ := hcov i hil
        obtain ⟨hfl, hfn⟩ := hfs f hf
        obtain ⟨j, hj, hfj⟩ := List.getElem_of_mem hf
        have hfj2 : fs[j]? = some f := by
          rw [← hfj, Array.getElem_toList]
          exact Array.getElem?_eq_getElem _
        have h2 := hg j f hfj2
        have hjx : j < xs.length := by rw [hxl]; simpa using hj
        rw [List.getElem?_eq_getElem hjx] at h2
        obtain ⟨_, h3⟩ := flat_trod d hfl h2
        refine h3 (i - f.offset) l v ?_ ?_
        · rw [List.getElem?_take_of_lt (by omega), List.getElem?_drop, show f.offset + (i - f.offset) = i by omega]
          exact hl
        · rw [List.getElem?_take_of_lt (by omega), List.getElem?_drop, show f.offset + (i - f.offset) = i by omega]
          exact hv
      | _ => cases h
theorem has_block {r : Reach} {a : Addr} {e : TypeId} {n : Nat} (h : W.has P r base a e n) : a.spot = none ∧ a.block < W.heap.size := by
  obtain ⟨_, h1, row, cells, h2, _⟩ := h
  refine ⟨h1, ?_⟩
  unfold World.shape? at h2
  cases hb : W.heap[a.block]? with
  | none => rw [hb] at h2; cases h2
  | some o => exact (Array.getElem?_eq_some_iff.1 hb).1
theorem cell_slice {t e : TypeId} {a : Addr} {len cap : Nat} (ht : P.underlying t = some (.slice e)) (h : Cell.okWide P W .any base t (.slice (some a) len cap)) : a.spot = none ∧ a.block < W.heap.size ∧ len ≤ cap := by
  simp only [Cell.okWide, ht, Cell.ok] at h
  exact ⟨(has_block h.2.2).1, (has_block h.2.2).2, h.1⟩
theorem wide_slice {t e : TypeId} {a : Addr} {len cap : Nat} (ht : P.underlying t = some (.slice e)) (h : Value.okWide P W .any base t (.slice (some a) len cap)) : a.spot = none ∧ a.block < W.heap.size ∧ len ≤ cap :=
  cell_slice ht (by simpa only [Value.okWide, ht] using h)
theorem leaf_one {l : Leaf} {v : Value} (h : leafOK l v) : v.oneCell' = true := by
  cases l with
  | int k => obtain ⟨n, rfl, _⟩ := h; rfl
  | bool => obtain ⟨b, rfl⟩ := h; rfl
  | any => exact h
theorem flatten_len {n : Nat} : ∀ {rs : List (List Value)}, (∀ r ∈ rs, r.length = n) → rs.flatten.length = rs.length * n
  | [], _ => by simp
  | r :: rs, h => by
    rw [List.flatten_cons, List.length_append, h r (by simp), flatten_len fun x hx => h x (by simp [hx]), List.length_cons, Nat.add_mul]
    omega
theorem flatten_get {n : Nat} : ∀ {rs : List (List Value)}, (∀ r ∈ rs, r.length = n) → ∀ (i c : Nat), c < n → rs.flatten[i * n + c]? = (rs[i]?).bind (·[c]?)
  | [], _, i, c, _ => by simp
  | r :: rs, h, 0, c, hc => by
    rw [List.flatten_cons, Nat.zero_mul, Nat.zero_add, List.getElem?_append_left (by rw [h r (by simp)]; exact hc)]
    rfl
  | r :: rs, h, i + 1, c, hc => by
    have hr := h r (by simp)
    rw [List.flatten_cons, List.getElem?_append_right (by rw [hr, Nat.add_mul]; omega), hr]
    have e : (i + 1) * n + c - n = i * n + c := by rw [Nat.add_mul]; omega
    rw [e, flatten_get (fun x hx => h x (by simp [hx])) i c hc]
    rfl
/-- a slice of plain structs (of slices, as they are) that came in -/
theorem arg_rows {t e : TypeId} {ls : List Leaf} {dep : Nat} {v : Value} {fuel : Nat} {x : DataW H × List MemPlace} (ht : P.underlying t = some (.slice e)) (hfl : flatB P dep e ls = true) (hn : P.cellsOf e = ls.length)
    (hok : ∀ a len cap, v = .slice (some a) len cap → a.spot = none ∧ a.block < W.heap.size) (h : DataW.trod enc P W base (fun _ => true) held fuel t [v] = some x) :
    ∃ rows : List (List Value), (∀ r ∈ rows, r.length = ls.length ∧ ∀ (i : Nat) l u, ls[i]? = some l → r[i]? = some u → leafOK l u) ∧ rows.length ≤ maxLen ∧
      ∀ es : List PV, es.map PV.cells = rows.map (fun r => r.map PV.val) → Rep NoM W (.sl es) v := by
  rcases DataW.trod_slice ht h with ⟨hv, _⟩ | ⟨a, len, cap, elems, rest, n, _, hv, _, hb, hlc, hm, hlen, hel, _⟩
  · simp only [List.cons.injEq, and_true] at hv
    subst hv
    refine ⟨[], fun r hr => by simp at hr, Nat.zero_le _, fun es he => ?_⟩
    have : es = [] := by simpa using he
    subst this
    exact .nil
  · simp only [List.cons.injEq, and_true] at hv
    subst hv
    obtain ⟨hs, hbk⟩ := hok a len cap rfl
    obtain ⟨g, off, spot⟩ := a
    simp only at hs hbk
    subst hs
    have row : ∀ i, i < len → ∃ r : List Value, W.cells? base (Addr.add ⟨g, off, none⟩ (i * P.cellsOf e)) (P.cellsOf e) = some r ∧ r.length = ls.length ∧ ∀ (j : Nat) l u, ls[j]? = some l → r[j]? = some u → leafOK l u := by
      intro i hi
      have h1 := hel i hi
      rw [List.getElem?_eq_getElem (by omega : i < elems.length)] at h1
      obtain ⟨r, hr, h2⟩ := Option.bind_eq_some_iff.1 h1
      obtain ⟨h3, h4⟩ := flat_trod dep hfl h2
      exact ⟨r, hr, h3, h4⟩
    have rows : ∀ m, m ≤ len → ∃ rs : List (List Value), rs.length = m ∧ ∀ (i : Nat) r, rs[i]? = some r → W.cells? base (Addr.add ⟨g, off, none⟩ (i * P.cellsOf e)) (P.cellsOf e) = some r ∧ r.length = ls.length ∧ ∀ (j : Nat) l u, ls[j]? = some l → r[j]? = some u → leafOK l u := by
      intro m
      induction m with
      | zero => exact fun _ => ⟨[], rfl, fun i r h => by simp at h⟩
      | succ m ih =>
        intro hm2
        obtain ⟨rs, h1, h2⟩ := ih (by omega)
        obtain ⟨r, hr⟩ := row m (by omega)
        refine ⟨rs ++ [r], by simp [h1], fun i r' hi => ?_⟩
        rcases Nat.lt_or_ge i rs.length with h3 | h3
        · rw [List.getElem?_append_left h3] at hi
          exact h2 i r' hi
        · rw [List.getElem?_append_right h3] at hi
          have e0 : i - rs.length = 0 := by
            rcases Nat.eq_zero_or_pos (i - rs.length) with h | h
            · exact h
            · rw [List.getElem?_eq_none (by simp; omega)] at hi; cases hi
          rw [e0] at hi
          simp at hi
          subst hi
          rw [show i = m by omega]
          exact hr
    obtain ⟨rs, hrl, hrs⟩ := rows len (Nat.le_refl _)
    refine ⟨rs, fun r hr => ?_, by omega, fun es he => ?_⟩
    · obtain ⟨i, hi, rfl⟩ := List.getElem_of_mem hr
      exact (hrs i _ (List.getElem?_eq_getElem hi)).2
    · have hn0 : P.cellsOf e = ls.length := hn
      have hesl : es.length = rs.length := by simpa using congrArg List.length he
      have hflat : flat es = rs.flatten.map PV.val := by
        show es.flatMap PV.cells = _
        rw [List.flatMap_def, he, List.map_flatten]
      have hrn : ∀ r ∈ rs, r.length = ls.length := fun r hr => by
        obtain ⟨i, hi, rfl⟩ := List.getElem_of_mem hr
        exact (hrs i _ (List.getElem?_eq_getElem hi)).2.1
      have hyl : rs.flatten.length = rs.length * ls.length := flatten_len hrn
      have at_ : ∀ (j : Nat) y, rs.flatten[j]? = some y → ∃ i c r, j = i * ls.length + c ∧ rs[i]? = some r ∧ r[c]? = some y := fun j y hy => by
        have hj : j < rs.length * ls.length := by rw [← hyl]; exact (List.getElem?_eq_some_iff.1 hy).1
        have hpos : 0 < ls.length := by
          rcases Nat.eq_zero_or_pos ls.length with h | h
          · rw [h] at hj; omega
          · exact h
        have e1 : j = (j / ls.length) * ls.length + j % ls.length := by
          have := Nat.div_add_mod j ls.length
          rw [Nat.mul_comm] at this
          omega
        have hi : j / ls.length < rs.length := (Nat.div_lt_iff_lt_mul hpos).2 hj
        have hc : j % ls.length < ls.length := Nat.mod_lt _ hpos
        have h1 := flatten_get hrn (j / ls.length) (j % ls.length) hc
        rw [← e1, hy, List.getElem?_eq_getElem hi] at h1
        exact ⟨_, _, _, e1, List.getElem?_eq_getElem hi, h1.symm⟩
      refine .sl es g off len cap rs.flatten (by omega) (by rw [hflat, List.length_map]) (fun j y hy => ?_) (fun j c y hc hy => ?_) (fun y hy => ?_) (fun _ _ h => h) hbk hlc hm
      · obtain ⟨i, c, r, rfl, hr, hc⟩ := at_ j y hy
        have h1 := World.cells?_some (hrs i r hr).1
        have hcl : c < P.cellsOf e := by
          rw [hn0, ← (hrs i r hr).2.1]
          exact (List.getElem?_eq_some_iff.1 hc).1
        have h2 := h1.2.2 c hcl
        rw [hc, add_lit, add_lit, hn0, Nat.add_assoc] at h2
        exact h2
      · rw [hflat, List.getElem?_map, hy] at hc
        simp only [Option.map_some, Option.some.injEq] at hc
        subst hc
        exact .val _
      · obtain ⟨j, hj, rfl⟩ := List.getElem_of_mem hy
        obtain ⟨i, c, r, _, hr, hc⟩ := at_ j _ (List.getElem?_eq_getElem hj)
        have hcl : c < ls.length := by
          rw [← (hrs i r hr).2.1]
          exact (List.getElem?_eq_some_iff.1 hc).1
        exact leaf_one ((hrs i r hr).2.2 c _ _ (List.getElem?_eq_getElem hcl) hc)
end
end Go.Proofs.YtomlhekjgagjaaaDoor
/- A law's call, by its contract; the table that the row lists; a world that fits. -/
namespace Go.Proofs.YtomlhekjgagjaaaDoor
set_option maxRecDepth 100000
set_option maxHeartbeats 16000000
open Go Go.RowKit Go.ChangeShapes Go.WideShapes Go.ChangeAt
set_option linter.unusedVariables false
theorem ownT : ownKnob Tryd.prog.godebug = none := by kernel_rfl
theorem laidOutT : laidOutB Tryd.prog = true := by kernel_rfl
section
variable {P : Program} {W : World}
/-- A law's call, by its contract. -/
theorem Fn.law {f : FuncId} {args : List PV} (h : Fn P f args (.p (.val (.bool true)))) (hlay : Lays W) {vs : List Value} (hl : vs.length = args.length) (hr : ∀ (i : Nat) x v, args[i]? = some x → vs[i]? = some v → Rep NoM W x v) :
    Calls P f vs.toArray W fun e W' => e = .returned (.bool true) ∧ Below W.heap.size W W' :=
  (h NoM W vs ⟨hlay, fun _ _ _ h => h⟩ (fun _ _ h => h.elim) hl hr).mono fun e W' ⟨v, he, hv, hb⟩ => by
    cases hv
    exact ⟨he, hb⟩
theorem reps1 {M : Nat → Nat → Prop} {x0 : PV} {v0 : Value} (h0 : Rep M W x0 v0) : ∀ (i : Nat) x v, [x0][i]? = some x → [v0][i]? = some v → Rep M W x v := by
  intro i x v hx hv
  match i with
  | 0 => simp at hx hv; subst hx; subst hv; exact h0
  | i + 1 => simp at hx
theorem repsC {M : Nat → Nat → Prop} {x0 : PV} {v0 : Value} {xs : List PV} {vs : List Value} (h0 : Rep M W x0 v0) (h : ∀ (i : Nat) x v, xs[i]? = some x → vs[i]? = some v → Rep M W x v) : ∀ (i : Nat) x v, (x0 :: xs)[i]? = some x → (v0 :: vs)[i]? = some v → Rep M W x v := by
  intro i x v hx hv
  match i with
  | 0 => simp at hx hv; subst hx; subst hv; exact h0
  | i + 1 => exact h i x v (by simpa using hx) (by simpa using hv)
end
/-! ### The listed table -/
theorem gTbl : Tryd.prog.globalNamed "weald/crc.halves" = some 0 := by kernel_rfl
theorem tTbl : (Tryd.prog.globals[0]?).map (·.type) = some 132 := by kernel_rfl
def laidL : List (String × DataW Unit) := [("weald/crc.halves", Rows.laid_weald_crc_halves)]
theorem lays_of_laid {W : World} (h : laidMetH Tryd.prog laidL W) : Lays W := by
  rw [MakeChecks.laidMetH_plain _ _ _ (by kernel_rfl)] at h
  obtain ⟨ps, ⟨g0, t0, cs0, f0, p0, q0, hg0, ht0, hv0, hd0, _, _⟩, _⟩ := h
  obtain rfl := Option.some.inj (gTbl.symm.trans hg0)
  obtain rfl := Option.some.inj (tTbl.symm.trans ht0)
  have hcell := World.var?_cell hg0 hv0
  obtain ⟨xs, m1, _, hx1, hlen, hn, hel⟩ := DataW.trod_array Tryd.underlying132 hd0
  have c1 : Tryd.prog.cellsOf 109 = 1 := by kernel_rfl
  have c16 : Tryd.prog.cellsOf 132 = 16 := by kernel_rfl
  rw [c16] at hlen
  have hdat : Rows.laid_weald_crc_halves (H := Unit) = .agg (tbl0.map fun p => .lit (.int p.1 p.2)) := by kernel_rfl
  simp only [Prod.mk.injEq] at hx1
  have hxs : xs.map (·.1) = tbl0.map fun p => .lit (.int p.1 p.2) := by
    have := hx1.1
    rw [hdat] at this
    simpa using this.symm
  have hk : ∀ p ∈ tbl0, p.1 = .u32 := by decide +kernel
  intro g ys hg
  have hgy : g = 0 ∧ ys = tbl0 := by
    unfold seatTbl at hg
    split at hg
    · next h => exact ⟨h, (Option.some.inj hg).symm⟩
    · cases hg
  obtain ⟨rfl, rfl⟩ := hgy
  have at_ : ∀ (j : Nat) p, tbl0[j]? = some p → W.cell? ⟨0, j, none⟩ = some (.int p.1 p.2) := by
    intro j p hp
    have hj : j < 16 := (List.getElem?_eq_some_iff.1 hp).1
    have h1 := hel j hj
    have hxj : xs[j]? = some xs[j] := List.getElem?_eq_getElem (by omega)
    rw [hxj, c1, Nat.mul_one] at h1
    obtain ⟨k, e1, e2, _⟩ := DataW.trod_int Tryd.underlying109 h1
    have h3 : (xs.map (·.1))[j]? = some (.lit (.int .u32 k)) := by rw [List.getElem?_map, hxj, e2]; rfl
    rw [hxs, List.getElem?_map, hp] at h3
    simp only [Option.map_some, Option.some.injEq, DataW.lit.injEq, Lit.int.injEq] at h3
    obtain ⟨h4, h5⟩ := h3
    have h6 : cs0[j]? = some (.int .u32 k) := by
      have : (cs0.toList.drop j).take 1 = [cs0.toList[j]'(by rw [hlen]; exact hj)] := by
        rw [List.drop_eq_getElem_cons (by rw [hlen]; exact hj)]
        rfl
      rw [this] at e1
      simp only [List.cons.injEq, and_true] at e1
      rw [← e1]
      simp [Array.getElem?_eq_getElem (show j < cs0.size by simpa using (by rw [hlen]; exact hj : j < cs0.toList.length))]
    rw [hcell j, h6, h4, h5]
  refine ⟨?_, at_⟩
  have h0 := at_ 0 _ rfl
  unfold World.cell? at h0
  cases hh : W.heap[0]? with
  | none => rw [hh] at h0; cases h0
  | some o => exact (Array.getElem?_eq_some_iff.1 hh).1
/-- The door's own heap fits. -/
theorem door_met (os : Os) (args : Array Value) : laidMetH Tryd.prog laidL ((World.doorLaid Tryd.prog 400 os).forCall (fun _ _ => 0) ⟨#[], args, []⟩).memory :=
  laidMetH_of_parts3 (fuel := 8) (laidMet_of_run' 8 (by kernel_rfl) (by kernel_rfl)) (by kernel_rfl) (by kernel_rfl)
end Go.Proofs.YtomlhekjgagjaaaDoor
/- Arguments: rows of truth values, and of bytes. Generic over the program. -/
namespace Go.Proofs.YtomlhekjgagjaaaDoor
set_option maxRecDepth 100000
set_option maxHeartbeats 16000000
open Go Go.RowKit Go.ChangeShapes Go.WideShapes Go.ChangeAt
set_option linter.unusedVariables false
section
variable {P : Program} {W : World} {H : Type} {enc : TypeId × Value → H}
end
end Go.Proofs.YtomlhekjgagjaaaDoor
/- Arguments: rows of entries. -/
namespace Go.Proofs.YtomlhekjgagjaaaDoor
set_option maxRecDepth 100000
set_option maxHeartbeats 16000000
open Go Go.RowKit Go.ChangeShapes Go.WideShapes Go.ChangeAt
set_option linter.unusedVariables false
def entOf (r : List Value) : zK := match r with
  | [.int _ k, .int _ s, .int _ y, .int _ u, .int _ v, .int _ x] => ⟨k, s, y, u, v, x⟩
  | _ => ⟨0, 0, 0, 0, 0, 0⟩
theorem wfU {n : Int} (h : (Lit.int .u64 n).wf = true) : U n := by
  have h1 := bounds_u64 h
  unfold U
  omega
theorem entOf_cells {r : List Value} (hl : r.length = 6) (h : ∀ (i : Nat) l u, [Leaf.int .i64, .int .u64, .int .u64, .int .u64, .int .u64, .int .u64][i]? = some l → r[i]? = some u → leafOK l u) : (entOf r).V.cells = r.map PV.val ∧ (entOf r).ok := by
  match r, hl with
  | [a, b, c, d, e, f], _ =>
    obtain ⟨n0, rfl, h0⟩ := h 0 _ a rfl rfl
    obtain ⟨n1, rfl, h1⟩ := h 1 _ b rfl rfl
    obtain ⟨n2, rfl, h2⟩ := h 2 _ c rfl rfl
    obtain ⟨n3, rfl, h3⟩ := h 3 _ d rfl rfl
    obtain ⟨n4, rfl, h4⟩ := h 4 _ e rfl rfl
    obtain ⟨n5, rfl, h5⟩ := h 5 _ f rfl rfl
    exact ⟨rfl, wfU h1, wfU h2, wfU h3, wfU h4, wfU h5⟩
theorem arg_ents {H : Type} {enc : TypeId × Value → H} {W : World} {v : Value} {d : DataW H} {p : List MemPlace} {base : Nat} (hv : Value.okWide Tryd.prog W .any base 25 v) (h : DataW.Trod enc Tryd.prog W 0 (fun _ => true) true 25 v d p) :
    ∃ L : List zK, Rep NoM W (.sl (L.map zK.V)) v ∧ (∀ e ∈ L, e.ok) ∧ L.length ≤ maxLen := by
  have ht : Tryd.prog.underlying 25 = some (.slice 46) := Tryd.underlying25
  obtain ⟨a, len, cap, rfl⟩ := okWide_slice ht hv
  obtain ⟨fuel, hf⟩ := h
  have hf' : DataW.trod enc Tryd.prog W 0 (fun _ => true) true fuel 25 [Value.slice a len cap] = some (d, p) := hf
  obtain ⟨rows, h1, h2, h3⟩ := arg_rows (ls := [Leaf.int .i64, .int .u64, .int .u64, .int .u64, .int .u64, .int .u64]) (dep := 8) ht (by kernel_rfl) (by kernel_rfl) (fun a' len' cap' e' => by
    injection e' with e1 e2 e3
    subst e1 e2 e3
    have := wide_slice ht hv
    exact ⟨this.1, this.2.1⟩) hf'
  refine ⟨rows.map entOf, h3 _ ?_, fun e he => ?_, by simpa using h2⟩
  · rw [List.map_map, List.map_map]
    exact List.map_congr_left fun r hr => (entOf_cells (h1 r hr).1 (h1 r hr).2).1
  · obtain ⟨r, hr, rfl⟩ := List.mem_map.1 he
    exact (entOf_cells (h1 r hr).1 (h1 r hr).2).2
end Go.Proofs.YtomlhekjgagjaaaDoor
/- For every input MergeHeads returns true, and leaves its arguments as they were; tied: Rows.MergeHeadsCardSaid. Conditions: none beyond the given statement's own. -/
namespace Go.Proofs.YtomlhekjgagjaaaDoor
set_option maxRecDepth 100000
set_option maxHeartbeats 16000000
open Go Go.RowKit Go.ChangeShapes Go.WideShapes Go.ChangeAt
set_option linter.unusedVariables false
theorem mergeHeads_lifted (os : Os) (started : os.Started) (H : Type) (enc : TypeId × Value → H) :
    ReturnsInHanded {} Tryd.checked os 9 .any (fun w args => (Rows.mergeHeadsSpec.pre enc Tryd.prog Tryd.f9 [] false w args ∧ laidMetH Tryd.prog laidL w) ∧ sizedMet enc Tryd.prog Tryd.f9 (OpenSpec.ofChange Rows.mergeHeadsSpec) false w args)
      (Rows.mergeHeadsSpec.post enc Tryd.prog Tryd.f9 false true false false) := by
  refine returnsInHanded_of_change_and (C := Tryd.checked) (X := fun w _ => laidMetH Tryd.prog laidL w) (fun _ _ _ hh h => h.of_heap hh) ownT started (by kernel_rfl) Tryd.func9
    (ChangeSpec.witness_shaped (enc := enc) (C := Tryd.checked) (os := os) (X := fun w _ => laidMetH Tryd.prog laidL w) false (World.doorLaid Tryd.prog 400 os) #[.slice none 0 0, .int .u8 0, .int .u8 0] 8 rfl (World.shaped_of_RefB (by kernel_rfl) (by kernel_rfl)) (by kernel_rfl) (by kernel_rfl) (by kernel_rfl) (door_met os _)) ?_
  intro W base args ds gs before hval0 hW hcnd hwt hL _
  have hval : ∀ (j : Nat) t v, Tryd.f9.params[j]? = some t → args[j]? = some v → Value.okWide Tryd.prog W .any base t v := hval0
  have hW' := hW
  obtain ⟨p, q, hA0, hV, rfl, hfz, hnd⟩ := hW
  have hA : DataW.TrodAll enc Tryd.prog W 0 (fun _ => true) true Tryd.f9.params.toList args.toList ds p := hA0
  rw [Tryd.params9] at hA hval
  obtain ⟨v0, vs0, d0, ds0, p0, q0, hargs, rfl, rfl, h0, r0⟩ := trodAll_cons hA
  obtain ⟨v1, vs1, d1, ds1, p1, q1, rfl, rfl, rfl, h1, r1⟩ := trodAll_cons r0
  obtain ⟨v2, vs2, d2, ds2, p2, q2, rfl, rfl, rfl, h2, r2⟩ := trodAll_cons r1
  obtain ⟨rfl, rfl, rfl⟩ := trodAll_nil r2
  obtain rfl : args = #[v0, v1, v2] := by cases args; simp_all
  obtain ⟨rfl, rfl⟩ := trodVars_none hV
  have lt0 : ∀ x ∈ p0, x.block < W.heap.size := by obtain ⟨m, hm⟩ := h0; exact DataW.trod_lt m _ _ _ hm
  have lt1 : ∀ x ∈ p1, x.block < W.heap.size := by obtain ⟨m, hm⟩ := h1; exact DataW.trod_lt m _ _ _ hm
  have lt2 : ∀ x ∈ p2, x.block < W.heap.size := by obtain ⟨m, hm⟩ := h2; exact DataW.trod_lt m _ _ _ hm
  have o0 := hval 0 25 v0 rfl rfl
  obtain ⟨a0, rp0, g0, l0⟩ := arg_ents o0 h0
  have o1 := hval 1 5 v1 rfl rfl
  obtain ⟨a1, e1, _, _, wf1⟩ := open_int Tryd.underlying5 o1 h1
  have rp1 : Rep NoM W (.val (.int .u8 a1)) v1 := e1 ▸ .val _
  have g1 := bounds_u8 wf1
  have o2 := hval 2 5 v2 rfl rfl
  obtain ⟨a2, e2, _, _, wf2⟩ := open_int Tryd.underlying5 o2 h2
  have rp2 : Rep NoM W (.val (.int .u8 a2)) v2 := e2 ▸ .val _
  have g2 := bounds_u8 wf2
  clear hA0 hval0
  refine ((mheads_fn a0 a1 a2 g0 l0 (by omega) (by omega)).law (lays_of_laid hL) (vs := [v0, v1, v2]) rfl (repsC rp0 (repsC rp1 (reps1 rp2)))).mono fun e W' ⟨he, bel⟩ => ?_
  subst he
  exact ⟨_, rfl, _, _, _, [], _, [], hW', trodAll_mk1 (shut_bool Tryd.underlying4 _), (trodAll_cons_mk (Below.trod laidOutT (by kernel_rfl) (of_decide_eq_true (by kernel_rfl)) h0 bel lt0) (trodAll_cons_mk (Below.trod laidOutT (by kernel_rfl) (of_decide_eq_true (by kernel_rfl)) h1 bel lt1) (trodAll_cons_mk (Below.trod laidOutT (by kernel_rfl) (of_decide_eq_true (by kernel_rfl)) h2 bel lt2) trodAll_mk0))), rfl, bel.frame _, fun h => by cases h⟩
theorem mergeHeads_holds : Rows.MergeHeadsSaid :=
  OpenClaim.holds_of_wide 9 Tryd.f9 rfl rfl rfl rfl rfl rfl rfl ⟨rfl, rfl, rfl, rfl, rfl⟩ rfl rfl rfl rfl rfl (by kernel_rfl) Tryd.func9 (by kernel_rfl)
    (of_decide_eq_true (by kernel_rfl)) (by unfold Func.isWrapper; first | (rw [if_pos (by decide +kernel)]; kernel_rfl) | (rw [if_neg (by decide +kernel)]; exact ⟨rfl, rfl⟩))
    (fun os started H enc _ => mergeHeads_lifted os started H enc)
theorem mergeHeadsCard_holds : Rows.MergeHeadsCardSaid :=
  Claim7.holds_tied_plain_at .later [] [.data] true _ true
    mergeHeads_holds (fun _ h => by cases h) (by kernel_rfl) (fun _ h => by cases h) mergeHeads_row_tie rfl ⟨rfl, rfl⟩ (by kernel_rfl) rfl
    (fun f fn hf hfn => by
      obtain rfl : f = 9 := Option.some.inj ((show Tryd.prog.funcNamed "weald/wealdlaw22.MergeHeads" = some 9 by kernel_rfl).symm.trans hf) |>.symm
      obtain rfl : fn = Tryd.f9 := (Option.some.inj (Tryd.func9.symm.trans hfn)).symm
      exact ⟨by kernel_rfl, fun j t ht => by
        rw [Tryd.params9] at ht
        have hm : t ∈ [25, 5, 5] := by simpa using Array.mem_of_getElem? ht
        have hall : ([25, 5, 5].all fun u => !Tryd.prog.wantsStandIn u) = true := by kernel_rfl
        exact (show Tryd.prog.wantsStandIn t = false by simpa using List.all_eq_true.1 hall t hm)⟩)
    (by kernel_rfl)
#print axioms mergeHeadsCard_holds
end Go.Proofs.YtomlhekjgagjaaaDoor
