/- Operations on vertices that step alone, one behind the other, by any threads, answer as a set of vertices does. (Part 6 of 10.) -/
import Derived.Test.YtmfbamiciieooaaGreatDoorVa5
import Derived.Scope
import Derived.RangeFuncLeaves
import Derived.RangeFuncCalls
import Derived.RangeFuncRecord
/- Vertices: removing, asking, and whole operations, alone, in a world of two threads. Generic over the program. -/
namespace Go.Proofs.YtmfbamiciieooaaGreatDoor
set_option maxRecDepth 100000
set_option maxHeartbeats 16000000
open Go Go.RowKit
set_option linter.unusedSimpArgs false
set_option linter.unusedVariables false
theorem xE.at_ {C : Nat} {m : Int → Int} {x : Int} {b : Bool} {l : List (Int × Bool)} : ∀ {l1 : List (Int × Bool)} {q : Int} {k : Bool}, xE C m q k (l1 ++ (x, b) :: l) → m (yZ 2 x) = 2 * hd l + bI b
  | [], _, _, h => h.2.2.word
  | (y, c) :: l1, _, _, h => xE.at_ (l1 := l1) h.2.2
section
variable {C me : Nat} {M : Mm} {R P : List Int} {B : Int → List Int} {o : Int → Int}
/-- what removing does -/
inductive RemR (me : Nat) (M M' : Mm) (R R' : List Int) (k : Int) (x : OutB) : Prop where
  | none (hk : k ∉ R.map fun r => M.m (zQ 2 r 1)) (e : x = ⟨0, false, true, false⟩) (hR : R' = R) (hd : M'.d = M.d) (hs : M'.m 2 = M.m 2)
  | gone (R1 R2 : List Int) (r : Int) (e : x = ⟨0, true, true, true⟩) (hR : R = R1 ++ r :: R2) (hR' : R' = R1 ++ R2) (hkr : M.m (zQ 2 r 1) = k) (hd : M'.d = (M.ap me (vS 2 (M.m (zQ 2 r 2) / 4) 0 0 0 0)).d) (hs : M'.m 2 = M.m 2)
theorem has_2V {f : Int} (h : qJ f 2 = false) : qJ (f + 2) 2 = true := by
  unfold qJ at h ⊢
  simp at h ⊢
  omega
theorem VI.rem (h : VI C M R P B o) (hC : C ≤ 100000) (hme : me < 2) (k : Int) :
    ∃ x M' R' P' B' o', RnV C me (vremP 2 k) M x M' (10 + 9 * C) ∧ VI C M' R' P' B' o' ∧ OpK me M M' ∧ SamV M M' R' ∧ RemR me M M' R R' k x := by
  have hlen := h.len
  obtain ⟨R1, R2, rfl, k1, k2⟩ := key_split (fun r => M.m (zQ 2 r 1)) k R h.so
  have hmem := atK_mem h.so k1 k2
  have s1 := h.st.search (me := me) hC (cl_u _) k
  rw [cl_len, srch_split k1 k2] at s1
  have hb : ∀ y ∈ R1 ++ R2, 1 ≤ y ∧ y ≤ C := h.rng
  cases ha : atK (fun r => M.m (zQ 2 r 1)) k R2 with
  | false =>
    rw [ha] at s1 hmem
    have hno : k ∉ (R1 ++ R2).map fun r => M.m (zQ 2 r 1) := fun e => by have := hmem.2 e; cases this
    refine ⟨⟨0, false, true, false⟩, M, R1 ++ R2, P, B, o, ?_, h, OpK.refl _ _, fun y hy => ⟨rfl, rfl⟩, .none hno rfl rfl rfl rfl⟩
    unfold vremP
    refine (RnV.loop (f := 1000000) (r := .inr (⟨0, false, true, false⟩ : OutB)) (a := 1 + 2 * (R1 ++ R2).length) (b := 0) (M1 := M) ?_ (RnV.ret _)).le (by omega)
    unfold vE
    refine s1.bind (b := 0) ?_
    rw [cond_true, cond_false]
    exact RnV.ret _
  | true =>
    rw [ha] at s1
    cases R2 with
    | nil => cases ha
    | cons x t =>
      have hkx : M.m (zQ 2 x 1) = k := of_decide_eq_true ha
      have hxm : x ∈ R1 ++ x :: t := by simp
      have hx := hb x hxm
      have hnd := h.nd
      obtain ⟨nd1, nd2, nd3⟩ := List.nodup_append.1 hnd
      obtain ⟨nd4, nd5⟩ := List.nodup_cons.1 nd2
      have hne : ∀ y ∈ R1 ++ t, y ≠ x := fun y hy e => by
        subst e
        rcases List.mem_append.1 hy with hy | hy
        · exact nd3 y hy y (List.mem_cons_self ..) rfl
        · exact nd4 hy
      have hsub : ∀ y ∈ R1 ++ t, y ∈ R1 ++ x :: t := fun y hy => by
        rcases List.mem_append.1 hy with hy | hy
        · exact List.mem_append_left _ hy
        · exact List.mem_append_right _ (List.mem_cons_of_mem _ hy)
      obtain ⟨M1, m1, m2, m3, m4⟩ := StV.mark (me := me) (l1 := cl R1) (t := cl t) (x := x) (by have := h.st; rw [cl_app] at this; exact this)
      have fx : M1.m (zQ 2 x 2) = M.m (zQ 2 x 2) := m4.f x 2 hx.1 (by decide) (by decide)
      have h2 : qJ (M1.m (zQ 2 x 2)) 2 = false := by rw [fx]; exact (h.fl x hxm).2
      have sv := RnV.save2 (me := me) (M := M1) hme hx h2
      rw [fx] at sv
      generalize hM2 : (M1.ap me (vS 2 (M.m (zQ 2 x 2) / 4) 0 0 0 0)).up (zQ 2 x 2) (M.m (zQ 2 x 2) + 2) = M2 at sv
      have q2 : ∀ c : Int, c ≠ zQ 2 x 2 → M2.m c = M1.m c := fun c hc => by rw [← hM2]; exact Mm.yC _ _ hc
      have d2 : M2.d = (M.ap me (vS 2 (M.m (zQ 2 x 2) / 4) 0 0 0 0)).d := by
        rw [← hM2]
        show (M1.ap me _).d = _
        unfold Mm.ap
        dsimp only
        rw [m3]
      have st2 : StV C M2 (cl R1 ++ (x, true) :: cl t) P B o := by rw [← hM2]; exact (m2.dsk _ _).put hx.1 (by decide)
      have n2 : ∀ y f : Int, 1 ≤ y → y ≠ x → 1 ≤ f → f ≤ 6 → M2.m (zQ 2 y f) = M.m (zQ 2 y f) := fun y f a b c d => by rw [q2 _ (by rw [fv, fv]; omega), m4.f y f a c d]
      have k2x : M2.m (zQ 2 x 1) = M.m (zQ 2 x 1) := by rw [q2 _ (by rw [fv, fv]; omega), m4.f x 1 hx.1 (by decide) (by decide)]
      have hmm : ∀ y ∈ cl R1 ++ (x, true) :: cl t, (y.2 = true → y.1 = x) ∧ (y.2 = false → y.1 ∈ R1 ++ t) := fun y hy => by
        rcases List.mem_append.1 hy with hy | hy
        · exact ⟨fun e => (by rw [cl_u _ y hy] at e; cases e), fun _ => List.mem_append_left _ (cl_mem hy)⟩
        · rcases List.mem_cons.1 hy with rfl | hy
          · exact ⟨fun _ => rfl, fun e => (by cases e)⟩
          · exact ⟨fun e => (by rw [cl_u _ y hy] at e; cases e), fun _ => List.mem_append_right _ (cl_mem hy)⟩
      obtain ⟨M3, B3, o3, w1, w2, w3, w4, w5⟩ := st2.sweepV (me := me) hC (M.m (zQ 2 x 2) / 4) (fun y hy e => by
        rw [(hmm y hy).1 e, ← hM2, Mm.up_at]
        exact has_2V (h.fl x hxm).2) (fun y hy e => by
        have hy2 := (hmm y hy).2 e
        rw [n2 y.1 1 (hb _ (hsub _ hy2)).1 (hne _ hy2) (by decide) (by decide)]
        exact h.vk _ (hsub _ hy2))
      have hfl : (cl R1 ++ (x, true) :: cl t).filter (fun y => !y.2) = cl (R1 ++ t) := by
        rw [flt_app, cl_app, flt_cl]
        show cl R1 ++ (cl t).filter (fun y => !y.2) = _
        rw [flt_cl]
      rw [hfl] at w2
      have hsame : SamV M M3 (R1 ++ t) := fun y hy => ⟨by rw [w4.f y 1 (hb _ (hsub _ hy)).1 (by decide) (by decide), n2 y 1 (hb _ (hsub _ hy)).1 (hne _ hy) (by decide) (by decide)], by rw [w4.f y 2 (hb _ (hsub _ hy)).1 (by decide) (by decide), n2 y 2 (hb _ (hsub _ hy)).1 (hne _ hy) (by decide) (by decide)]⟩
      have hll : (cl R1 ++ (x, true) :: cl t).length = (R1 ++ x :: t).length := by simp [cl_len]
      rw [hll] at w1
      refine ⟨⟨0, true, true, true⟩, M3, R1 ++ t, P, B3, o3, ?_, ⟨w2, fun r e => h.ho r (w5 r e), fun y hy => ?_, ?_, fun y hy => ?_⟩, ⟨?_, ?_, fun j hj hn => ?_⟩, hsame, .gone R1 t x rfl rfl rfl hkx (w3.trans d2) ?_⟩
      · unfold vremP
        refine (RnV.loop (f := 1000000) (r := .inr (⟨0, true, true, true⟩ : OutB)) (a := 1 + 2 * (R1 ++ x :: t).length + (2 + (1 + (5 + (1 + 7 * (R1 ++ x :: t).length))))) (b := 0) (M1 := M3) ?_ (RnV.ret _)).le (by omega)
        unfold vE
        refine s1.bind ?_
        rw [cond_true, cond_true]
        refine m1.bind ?_
        rw [cond_true]
        refine (RnV.load (inV hx (by decide))).bind ?_
        rw [fx]
        refine sv.bind ?_
        rw [cond_true]
        exact w1.bind (b := 0) (RnV.ret _)
      · rw [(hsame y hy).2]; exact h.fl y (hsub y hy)
      · rw [hsame.keys]
        have hs := h.so
        rw [List.map_append, List.map_cons] at hs
        obtain ⟨p1, p2, p3⟩ := List.pairwise_append.1 hs
        rw [List.map_append]
        exact List.pairwise_append.2 ⟨p1, (List.pairwise_cons.1 p2).2, fun a ha b hb => p3 a ha b (List.mem_cons_of_mem _ hb)⟩
      · rw [(hsame y hy).1]; exact h.vk y (hsub y hy)
      · rw [w4.z, q2 7 (by rw [fv]; omega), m4.z]
      · rw [w4.e, q2 3 (by rw [fv]; omega), m4.e]; exact ⟨Int.le_refl _, by omega⟩
      · rw [w4.p j hj, q2 _ (by rw [fv]; omega), m4.p j hj]
      · rw [w4.s, q2 2 (by rw [fv]; omega), m4.s]
theorem VI.has (h : VI C M R P B o) (hC : C ≤ 100000) (k : Int) : ∃ x, RnV C me (vhasP 2 k) M x M (3 + 2 * C) ∧ x.ok = true ∧ x.e = 0 ∧ (x.is = true ↔ k ∈ R.map fun r => M.m (zQ 2 r 1)) := by
  have hlen := h.len
  obtain ⟨R1, R2, rfl, k1, k2⟩ := key_split (fun r => M.m (zQ 2 r 1)) k R h.so
  have hmem := atK_mem h.so k1 k2
  have s1 := h.st.seek (me := me) hC k
  obtain ⟨e1, e2⟩ := srch_sekN (fun r => M.m (zQ 2 r 1)) k (cl (R1 ++ R2)) 0 (cl_u _)
  rw [srch_split k1 k2] at e1 e2
  have e3 : sekN (fun r => M.m (zQ 2 r 1)) k (cl (R1 ++ R2)) = (hd (cl R2), atK (fun r => M.m (zQ 2 r 1)) k R2) := Prod.ext e1.symm e2.symm
  rw [e3, cl_len] at s1
  cases ha : atK (fun r => M.m (zQ 2 r 1)) k R2 with
  | false =>
    rw [ha] at s1 hmem
    refine ⟨⟨0, false, true, false⟩, ?_, rfl, rfl, hmem⟩
    unfold vhasP
    refine (s1.bind (b := 0) ?_).le (by omega)
    rw [cond_false]
    exact RnV.ret _
  | true =>
    rw [ha] at s1 hmem
    cases R2 with
    | nil => cases ha
    | cons x t =>
      have hxm : x ∈ R1 ++ x :: t := by simp
      have hx := h.rng x hxm
      have hl : xE C M.m 0 false (cl R1 ++ (x, false) :: cl t) := by have := h.st.lk; rw [cl_app] at this; exact this
      have hw := hl.at_
      rw [nx_posV hx.1] at hw
      refine ⟨⟨0, true, true, true⟩, ?_, rfl, rfl, hmem⟩
      unfold vhasP
      refine (s1.bind (b := 1 + 1) ?_).le (by omega)
      rw [cond_true]
      refine (RnV.load (inV hx (by decide))).bind ?_
      rw [hw, odd_of, cond_false]
      exact told_saved hx (h.fl x hxm).1
/-! ### Whole operations -/
/-- a store of vertices, no operation under way -/
structure VS (C : Nat) (M : Mm) (R : List Int) (E : Int) : Prop where
  vi : ∃ P B o, VI C M R P B o
  pin : ∀ j : Nat, j < 2 → M.m (8 + j) = 0
  z : M.m 7 = 0
  ep : M.m 3 ≤ E
theorem VI.pinned (h : VI C M R P B o) (hme : me < 2) (v : Int) : VI C (M.up (8 + me) v) R P B o := by
  obtain ⟨_, s2, s3, _⟩ := h.st.pinned (v := v) hme
  have hf : ∀ y ∈ R, ∀ f, 1 ≤ f → f ≤ 6 → (M.up (8 + me) v).m (zQ 2 y f) = M.m (zQ 2 y f) := fun y hy f a b => s3.f y f (h.rng y hy).1 (by omega) b
  have hs : SamV M (M.up (8 + me) v) R := fun y hy => ⟨hf y hy 1 (by decide) (by decide), hf y hy 2 (by decide) (by decide)⟩
  exact ⟨s2, h.ho, fun y hy => by rw [(hs y hy).2]; exact h.fl y hy, by rw [hs.keys]; exact h.so, fun y hy => by rw [(hs y hy).1]; exact h.vk y hy⟩
/-- an operation is entered, and left -/
theorem in_run {E : Int} (hme : me < 2) (h0 : 0 ≤ M.m 3) (he : M.m 3 + 1 < 18446744073709551616) (hz : M.m 7 = 0) {body : Pr OutB} {x : OutB} {M' : Mm} {n : Nat} (hx : x.ok = true) (hb : RnV C me body (M.up (8 + me) (M.m 3 + 1)) x M' n) : RnV C me (inP me body) M ⟨x.e, x.is, 0, 0⟩ (M'.up (8 + me) 0) (4 + n) := by
  have w1 : wr1 (M.m 3) = M.m 3 + 1 := by unfold wr1; rw [wrapU]; omega
  unfold inP
  refine ((RnV.load (c := 7) ⟨by decide, by omega⟩).bind (b := 3 + n) ?_).le (by omega)
  rw [hz]
  show RnV C me ((pinP me).bind fun _ => body.bind (leaveP me)) M _ _ _
  refine RnV.bind (a := 2) (b := 1 + n) (x := ()) (M1 := M.up (8 + me) (M.m 3 + 1)) ?_ ?_ |>.le (by omega)
  · unfold pinP
    refine (RnV.load (c := 3) ⟨by decide, by omega⟩).bind (b := 1) ?_
    rw [w1]
    exact RnV.store ⟨by omega, by omega⟩
  · refine (hb.bind (b := 1) ?_).le (by omega)
    unfold leaveP
    rw [hx, cond_true]
    unfold unpinP
    exact (RnV.store ⟨by omega, by omega⟩).bind (b := 0) (RnV.ret _)
/-- what an operation answers, and leaves -/
def VopR (C me : Nat) (M M' : Mm) (R R' : List Int) (k u : Int) (x : OutB) : Prop :=
  (k = 11 ∧ AddR C me M M' R R' (vkF u) x ∧ SamV M M' R) ∨ (k = 12 ∧ RemR me M M' R R' (vkF u) x ∧ SamV M M' R') ∨ (k = 13 ∧ R' = R ∧ M'.d = M.d ∧ M'.m 2 = M.m 2 ∧ SamV M M' R ∧ x.e = 0 ∧ (x.is = true ↔ vkF u ∈ R.map fun r => M.m (zQ 2 r 1)))
theorem vkF_mod (u : Int) : vkF u % 2147483648 = 0 := by
  unfold vkF
  cases vOK u
  · rfl
  · show u * 2147483648 % 2147483648 = 0
    omega
theorem vop_run {E : Int} (h : VS C M R E) (hC : C ≤ 100000) (hme : me < 2) (he : E + 5 < 18446744073709551616) {k u : Int} (hk : k = 11 ∨ k = 12 ∨ k = 13) (hu : vOK u = true) :
    ∃ x M' R', RnV C me (qE 2 me k u) M ⟨x.e, x.is, 0, 0⟩ M' (57 + 9 * C) ∧ VS C M' R' (E + 3) ∧ VopR C me M M' R R' k u x := by
  obtain ⟨⟨P, B, o, vi⟩, pin, z, ep⟩ := h
  have h0 := vi.st.e0
  have hp := vi.pinned hme (M.m 3 + 1)
  have hk0 : ∀ c : Int, c ≠ 8 + me → (M.up (8 + me) (M.m 3 + 1)).m c = M.m c := fun c hc => Mm.yC _ _ hc
  have hs0 : SamV M (M.up (8 + me) (M.m 3 + 1)) R := fun y hy => by
    have := vi.rng y hy
    exact ⟨hk0 _ (by rw [fv]; omega), hk0 _ (by rw [fv]; omega)⟩
  have h3 : (M.up (8 + me) (M.m 3 + 1)).m 3 = M.m 3 := hk0 3 (by omega)
  have h2 : (M.up (8 + me) (M.m 3 + 1)).m 2 = M.m 2 := hk0 2 (by omega)
  have hop : (decide (k = 11) || (decide (k = 12) || decide (k = 13))) = true := by
    rcases hk with rfl | rfl | rfl <;> rfl
  have hrun : ∀ {x : OutB} {M' : Mm} {n : Nat}, x.ok = true → RnV C me (vopB 2 me k u) (M.up (8 + me) (M.m 3 + 1)) x M' n → RnV C me (qE 2 me k u) M ⟨x.e, x.is, 0, 0⟩ (M'.up (8 + me) 0) (4 + n) := fun hx hb => by
    unfold qE
    rw [hop, hu, cond_true, cond_true]
    exact in_run (E := E) hme h0 (by omega) z hx hb
  have hend : ∀ {M' : Mm} {R' P' : List Int} {B' : Int → List Int} {o' : Int → Int}, VI C M' R' P' B' o' → OpK me (M.up (8 + me) (M.m 3 + 1)) M' → VS C (M'.up (8 + me) 0) R' (E + 3) := fun {M' R' P' B' o'} v hK => by
    refine ⟨⟨P', B', o', v.pinned hme 0⟩, fun j hj => ?_, ?_, ?_⟩
    · by_cases e : j = me
      · subst e; exact Mm.up_at _ _ _
      · rw [Mm.yC _ _ (by omega), hK.p j hj e, hk0 _ (by omega)]; exact pin j hj
    · rw [Mm.yC _ _ (by omega), hK.z, hk0 7 (by omega)]; exact z
    · have := hK.e
      rw [Mm.yC _ _ (by omega)]
      rw [h3] at this
      omega
  have hsam : ∀ {M' : Mm} {S : List Int}, (∀ y ∈ S, 1 ≤ y) → SamV (M.up (8 + me) (M.m 3 + 1)) M' S → SamV M (M'.up (8 + me) 0) S := fun {M' S} hS hs y hy => by
    have h1 := hS y hy
    refine ⟨?_, ?_⟩
    · rw [Mm.yC _ _ (by rw [fv]; omega), (hs y hy).1, hk0 _ (by rw [fv]; omega)]
    · rw [Mm.yC _ _ (by rw [fv]; omega), (hs y hy).2, hk0 _ (by rw [fv]; omega)]
  have hst : stM (M.up (8 + me) (M.m 3 + 1)) = stM M := by unfold stM; rw [h2]
  have hR := fun y hy => (vi.rng y hy).1
  rcases hk with rfl | rfl | rfl
  · obtain ⟨x, M', R', P', B', o', r1, r2, r3, r4, r5⟩ := hp.add hC hme (by rw [h3]; omega) (fun j hj hn => by rw [hk0 _ (by omega)]; exact pin j hj) (vkF_mod u)
    have hok : x.ok = true := by
      cases r5 with
      | old _ e _ _ _ => rw [e]
      | full _ _ e _ _ _ => rw [e]
      | new _ _ _ _ _ e _ _ _ _ _ _ _ => rw [e]
    refine ⟨x, _, R', (hrun hok r1).le (by omega), hend r2 r3, .inl ⟨rfl, ?_, hsam hR r4⟩⟩
    cases r5 with
    | old hk e hRR hd hs => exact .old (by rw [← hs0.keys]; exact hk) e hRR hd (by rw [Mm.yC _ _ (by omega), hs, h2])
    | full hk hn e hRR hd hs => exact .full (by rw [← hs0.keys]; exact hk) hn e hRR hd (by rw [Mm.yC _ _ (by omega), hs, h2])
    | new R1 R2 r hk hn e hRR hRR' hr hkr hf hd hs =>
      have hr1 := r2.rng r (by rw [hRR']; simp)
      rw [hst] at hf hd hs
      exact .new R1 R2 r (by rw [← hs0.keys]; exact hk) hn e hRR hRR' hr (by rw [Mm.yC _ _ (by rw [fv]; omega)]; exact hkr) (by rw [Mm.yC _ _ (by rw [fv]; omega)]; exact hf) hd (by rw [Mm.yC _ _ (by omega)]; exact hs)
  · obtain ⟨x, M', R', P', B', o', r1, r2, r3, r4, r5⟩ := hp.rem hC hme (vkF u)
    have hok : x.ok = true := by
      cases r5 with
      | none _ e _ _ _ => rw [e]
      | gone _ _ _ e _ _ _ _ _ => rw [e]
    refine ⟨x, _, R', (hrun hok r1).le (by omega), hend r2 r3, .inr (.inl ⟨rfl, ?_, hsam (fun y hy => (r2.rng y hy).1) r4⟩)⟩
    cases r5 with
    | none hk e hRR hd hs => exact .none (by rw [← hs0.keys]; exact hk) e hRR hd (by rw [Mm.yC _ _ (by omega), hs, h2])
    | gone R1 R2 r e hRR hRR' hkr hd hs =>
      have hr := hs0 r (by rw [hRR]; simp)
      rw [hr.1] at hkr
      rw [hr.2] at hd
      exact .gone R1 R2 r e hRR hRR' hkr hd (by rw [Mm.yC _ _ (by omega), hs, h2])
  · obtain ⟨x, r1, r2, r3, r4⟩ := hp.has (me := me) hC (vkF u)
    refine ⟨x, _, R, (hrun r2 r1).le (by omega), hend hp (OpK.refl _ _), .inr (.inr ⟨rfl, rfl, rfl, ?_, hsam hR fun y _ => ⟨rfl, rfl⟩, r3, ?_⟩)⟩
    · rw [Mm.yC _ _ (by omega), h2]
    · rw [hs0.keys] at r4; exact r4
end
end Go.Proofs.YtmfbamiciieooaaGreatDoor
/- Flags, and what is alive: the program's, whatever makes its accesses: contracts. -/
namespace Go.Proofs.YtmfbamiciieooaaGreatDoor
set_option maxRecDepth 100000
set_option maxHeartbeats 16000000
open Go Go.RowKit
set_option linter.unusedSimpArgs false
set_option linter.unusedVariables false
attribute [local irreducible] zY zZ Step zX Sub zD zG Fn
theorem qG {t r : Int} (h : Rc t r) (f : Int) (hf : 0 ≤ f ∧ f ≤ 7) : Fn Tryz.prog 57 [.val (.int .i64 t), .val (.int .i64 r), .val (.int .i64 f)] (.p (.val (.int .i64 (zQ t r f)))) := field_fn t r f h.1 ⟨by have := h.2.1; omega, h.2.2⟩ (by unfold Small; omega)
def yE (b : Int) : Blk := .box 3 [.p (.val (.int .i64 b))]
def entB (k s y u v x : Int) : Blk := .box 70 [.p (.val (.int .i64 k)), .p (.val (.int .u64 s)), .p (.val (.int .u64 y)), .p (.val (.int .u64 u)), .p (.val (.int .u64 v)), .p (.val (.int .u64 x))]
theorem flag_h (H : Hnd) (s0 : H.σ) {t r : Int} (h : Rc t r) : FnH H 117 [H.doA, .p (.val (.int .i64 t)), .p (.val (.int .i64 r))] [] (fun x => .p (.val (.int .u64 x))) (fun _ => []) U s0 (flagP t r) := by
  unfold Hnd.doA
  refine yH Tryz.func117 rfl Tryz.ntmps117 (Nat.le_of_ble_eq_true rfl) (by decide) (yQ _) fun hok hns => ?_
  repeat' (first | (refine zY.is ?_; first | refine zY.nil ?_ | (refine zY.at_ 6 rfl ?_; refine zY.rc (.v zB .e) ?_) | (refine zY.in_ [10] rfl ?_; refine zY.v rfl rfl (zP (qG h 2 (by decide)) rfl rfl rfl (by decide)) ?_) | (refine zY.in_ [11] rfl ?_; refine zY.ofT rfl (zG.hd (i := []) (f := qZ H _ _) (r := fun x s e g hk => ?_) (p := fun q s e => ?_) (t := ?_)))) | (refine zZ.is ?_; first | refine zZ.seq ?_ | (refine zZ.isR (id := 0) ?_; refine zZ.rc [0, 1, 2] [1000, 1001, 1002] (r := (.v zB .e)) (h := ?_)) | (refine zZ.isR (id := 1) ?_; refine zZ.rc [0, 1, 2, 6] [1000, 1001, 1002] (r := (.v xJ (.v zV (.v zV .e)))) (h := ?_)) | refine zZ.ret ?_) | refine zF.p ?_)
  all_goals (first | exact fun e => hns (by clear hns; simp only [flagP, run_bind, zC, zJ, Held.zW, Held.zA, Held.zK, cond_true, cond_false, *]) | exact .pan (q := q) rfl (by repeat' first | exact trivial | rfl | constructor) (by repeat' exact trivial) (by simp only [flagP, run_bind, zC, zJ, Held.zW, Held.zA, Held.zK, cond_true, cond_false, *]) | exact .ret (by exact .inl rfl) (by exact .one rfl rfl) (by repeat' first | exact trivial | rfl | constructor) (by simp only [flagP, run_bind, zC, zJ, Held.zW, Held.zA, Held.zK, cond_true, cond_false, *] <;> rfl))
theorem flagL_h (H : Hnd) (s0 : H.σ) {t r : Int} (h : Rc t r) : FnH H 117 [H.doA, .p (.val (.int .i64 t)), .p (.val (.int .i64 r))] [] (fun x => .p (.val (.int .u64 x))) (fun _ => []) U s0 (xD (zQ t r 2)) := flag_h H s0 h
theorem over1_fn (f b : Int) (h0 : 0 ≤ f) (h1 : f < 18446744073709551616) : FnE Tryz.prog 122 [.p (.val (.int .u64 f)), .ptr 1000 0] [yE b] (.ret (.p (.val (.bool (ov1 b f))))) [yE b] := by
  have c1 := has_fn f b h0 h1
  refine fn_ofE Tryz.func122 rfl Tryz.ntmps122 (Nat.le_of_ble_eq_true rfl) (by decide) ?_
  repeat' (first | (refine zY.is ?_; first | refine zY.nil ?_ | (refine zY.at_ 3 rfl ?_; refine zY.rc (.v zB .e) ?_) | (refine zY.in_ [6] rfl ?_; refine zY.v rfl rfl (zP (c1) rfl rfl rfl (by decide)) ?_)) | (refine zZ.is ?_; first | refine zZ.seq ?_ | (refine zZ.isR (id := 0) ?_; refine zZ.rc [0, 1] [1000] (r := (.v zB .e)) (h := ?_)) | (refine zZ.isR (id := 1) ?_; refine zZ.rc [0, 1, 3] [1000] (r := (.v zV (.v zO .e))) (h := ?_)) | refine zZ.ret ?_))
  all_goals exact ⟨(by exact .inl rfl), _, Sub.refl _, .one rfl rfl, wU (by repeat' first | exact trivial | rfl | constructor)⟩
theorem over2_fn (g k s y u v x b : Int) (h0 : 0 ≤ g) (h1 : g < 18446744073709551616) : FnE Tryz.prog 129 [.p (.val (.int .u64 g)), .ptr 1000 0, .ptr 1001 0] [entB k s y u v x, yE b] (.ret (.p (.val (.bool (over2 s b g))))) [entB k s y u v x, yE b] := by
  have c1 := has_fn g b h0 h1
  have c2 := wstamp_fn g
  refine fn_ofE Tryz.func129 rfl Tryz.ntmps129 (Nat.le_of_ble_eq_true rfl) (by decide) ?_
  unfold over2
  cases hb : decide (g / 4 = s)
  case false =>
    have hb2 : (!decide (g / 4 = s)) = true := by rw [hb]; rfl
    repeat' (first | (refine zY.nil ?_) | (refine zZ.is ?_; first | refine zZ.seq ?_ | (refine zZ.isR (id := 0) ?_; refine zZ.rc [0, 1, 2] [1000, 1001] (r := (.v zB .e)) (h := ?_)) | (refine zZ.isR (id := 1) ?_; refine zZ.rk [0, 1, 2, 4] [1000, 1001] ?_; refine zZ.draws ?_) | refine zZ.ret ?_) | (refine Draws.is ?_; first | refine Draws.rc (.v zV .e) ?_ | refine Draws.rc (.v zM (.v zO (.v v42_0 (.v zV (.gF (.gF (.gF (.v xR (.v zB .e))))))))) ?_ | (refine Draws.in_ [6] rfl ?_; refine Draws.v rfl rfl (zP (c2) rfl rfl rfl (by decide)) ?_) | refine Draws.done (by kernel_rfl) (by kernel_rfl) (by kernel_rfl) ?_) | (refine zD.nil ?_))
    all_goals exact ⟨(by exact .inl rfl), _, Sub.refl _, .one rfl rfl, wU (by repeat' first | exact trivial | rfl | constructor)⟩
  case true =>
    have hb2 : (!decide (g / 4 = s)) = false := by rw [hb]; rfl
    repeat' (first | (refine zY.nil ?_) | (refine zZ.is ?_; first | refine zZ.seq ?_ | (refine zZ.isR (id := 0) ?_; refine zZ.rc [0, 1, 2] [1000, 1001] (r := (.v zB .e)) (h := ?_)) | (refine zZ.isR (id := 1) ?_; refine zZ.rk [0, 1, 2, 4] [1000, 1001] ?_; refine zZ.draws ?_) | refine zZ.ret ?_) | (refine Draws.is ?_; first | refine Draws.rc (.v zV .e) ?_ | refine Draws.rc (.v zM (.v zO (.v v42_0 (.v zV (.gY zV (.gY zO .e)))))) ?_ | refine Draws.rc (.v wW (.v zB .e)) ?_ | (refine Draws.in_ [6] rfl ?_; refine Draws.v rfl rfl (zP (c2) rfl rfl rfl (by decide)) ?_) | (refine Draws.in_ [13] rfl ?_; refine Draws.gY rfl rfl (by decide) rfl bA rfl (zP (c1) rfl rfl rfl (by decide)) ?_) | refine Draws.done (by kernel_rfl) (by kernel_rfl) (by kernel_rfl) ?_) | (refine zD.nil ?_))
    all_goals exact ⟨(by exact .inl rfl), _, Sub.refl _, .one rfl rfl, wU (by repeat' first | exact trivial | rfl | constructor)⟩
end Go.Proofs.YtmfbamiciieooaaGreatDoor
/- A bit of a flag is set, unless that is done: the program's loop with its two closures, whatever makes its accesses: contracts. -/
namespace Go.Proofs.YtmfbamiciieooaaGreatDoor
set_option maxRecDepth 100000
set_option maxHeartbeats 16000000
open Go Go.RowKit
set_option linter.unusedSimpArgs false
set_option linter.unusedVariables false
attribute [local irreducible] zY zZ Step zX Sub zD zG Fn
def setS1 (H : Hnd) (t r b : Int) (s : H.σ) : AS :=
  { t := [(0, H.doA), (1, .p (.val (.int .i64 t))), (2, .p (.val (.int .i64 r))), (3, .p (.val (.int .i64 b))), (4, .clo 122 [1003])], s := [(1000, H.b0 s), (1001, H.b1 s), (1002, H.b2 s), (1003, yE b)] }
theorem set1_h (H : Hnd) (s0 : H.σ) {t r b : Int} (h : Rc t r) (hb : b = 1 ∨ b = 2) : FnH H 121 [H.doA, .p (.val (.int .i64 t)), .p (.val (.int .i64 r)), .p (.val (.int .i64 b)), .clo 122 [1003]] [yE b] (fun _ => .any) (fun _ => [yE b]) yes s0 (setP (ov1 b) (zQ t r 2) b) := by
  unfold Hnd.doA
  have hwb : IntKind.u64.wrap b = b := wrap_u64 _ (by omega)
  have cf := qG h 2 (by decide)
  have F1 := fun f (h0 : U f) (h1 : ov1 b f = false) => (orBit f b h0.lo h0.hi hb h1).1
  refine yH Tryz.func121 rfl Tryz.ntmps121 (Nat.le_of_ble_eq_true rfl) (by decide) (fine_set hb fun _ h => h) fun hok hns => ?_
  repeat' ((refine zZ.is ?_; refine zZ.block ?_))
  refine zZ.loop (fun p : Nat × H.σ => setS1 H t r b p.2) (fun p => H.ok p.2 ∧ (Pr.loop (wO (ov1 b) (zQ t r 2) b) p.1 ()).run H.st p.2 = (setP (ov1 b) (zQ t r 2) b).run H.st s0) (fun p => p.1) (many, s0) ?h0 ⟨hok, rfl⟩ ?rd
  case h0 =>
    exact yI K_a K_w
  case rd =>
    rintro ⟨n, s1⟩ ⟨hok1, ho⟩
    cases n with
    | zero => exact absurd ho.symm hns
    | succ n =>
      dsimp only at hok1 ho ⊢
      rw [Pr.loop_succ] at ho
      rw [← ho] at hns ⊢
      repeat' (first | (refine zY.is ?_; first | refine zY.nil ?_ | (refine zY.at_ 10 rfl ?_; refine zY.rc (.v zB .e) ?_) | (refine zY.at_ 18 rfl ?_; refine zY.rc (.v zV .e) ?_) | (refine zY.at_ 19 rfl ?_; refine zY.rc (.gY xJ (.gY zV (.gY zV .e))) ?_) | (refine zY.at_ 19 rfl ?_; refine zY.rc (.gF (.gF (.gF (.gF (.gF (.gF (.gF (.gF (.gF (.gF (.v xR .e))))))))))) ?_) | (refine zY.at_ 23 rfl ?_; refine zY.rc (.gY zV (.gY zV (.gY zV (.gY v6_0 (.gY v36_1 .e))))) ?_) | (refine zY.at_ 29 rfl ?_; refine zY.rc (.v wW .e) ?_) | (refine zY.in_ [17] rfl ?_; refine zY.ofT rfl (zG.eR [1003] (over1_fn _ b (U.lo (by assumption)) (U.hi (by assumption))) ?_)) | (refine zY.in_ [14] rfl ?_; refine zY.ofT rfl (zG.hd (i := []) (f := flagL_h H _ h) (r := fun x s e g hk => ?_) (p := fun q s e => ?_) (t := ?_))) | (refine zY.in_ [22] rfl ?_; refine zY.gY rfl rfl (by decide) rfl bA rfl (by decide) (zP (cf) rfl rfl rfl (by decide)) ?_) | (refine zY.in_ [28] rfl ?_; refine zY.ofTg rfl rfl (by decide) rfl bA (zG.hd (i := []) (f := cas_h H _ _ _ _ (by assumption) (orU (by assumption) hb (by assumption))) (r := fun x s e g hk => ?_) (p := fun q s e => ?_) (t := ?_))) | (fail_if_success refine zY.known rfl rfl rfl (by fail) ?_); refine zY.split rfl rfl rfl (fun h => ?_) (fun h => ?_)) | (refine zZ.is ?_; first | refine zZ.seq ?_ | (refine zZ.isR (id := 0) ?_; refine zZ.rc [0, 1, 2, 3, 4, 10, 29] [1000, 1001, 1002, 1003] (r := (.v xJ (.v zV (.v zV .e)))) (h := ?_)) | (refine zZ.isR (id := 1) ?_; refine zZ.rc [0, 1, 2, 3, 4, 10, 29] [1000, 1001, 1002, 1003] (r := (.v xJ (.v zV .e))) (h := ?_)) | refine zZ.yN rfl bA ?_ | refine zZ.cond rfl (fun h => ?_) (fun h => ?_) | refine zZ.skip ?_ | refine zZ.block ?_ | refine zZ.ret ?_) | refine zF.n ?_ | refine zF.r ?_ | refine zR.n ?_ | refine zR.r ?_)
      all_goals (first | exact fun e => hns (by clear hns; simp only [wO, run_bind, zC, zJ, Held.zW, Held.zA, Held.zK, cond_true, cond_false, *]) | exact .pan (q := q) rfl (by repeat' first | exact trivial | rfl | constructor) (by repeat' first | exact trivial | exact ⟨_, rfl, rfl⟩ | constructor) (by simp only [wO, run_bind, zC, zJ, Held.zW, Held.zA, Held.zK, cond_true, cond_false, *]) | exact .ret (x := ()) (by exact .inl rfl) (by exact .none rfl) (by repeat' first | exact trivial | rfl | constructor) (by simp only [wO, run_bind, zC, zJ, Held.zW, Held.zA, Held.zK, cond_true, cond_false, *]) | skip)
      refine ⟨(n, s), ?_, ⟨by assumption, ?_⟩, Nat.lt_succ_self n⟩
      · exact yI K_a K_w
      · simp only [wO, run_bind, zC, zJ, Held.zW, cond_true, cond_false, *]
def setS2 (H : Hnd) (t r b ek es ey eu ev ex : Int) (s : H.σ) : AS :=
  { t := [(0, H.doA), (1, .p (.val (.int .i64 t))), (2, .p (.val (.int .i64 r))), (3, .p (.val (.int .i64 b))), (4, .clo 129 [1003, 1004])], s := [(1000, H.b0 s), (1001, H.b1 s), (1002, H.b2 s), (1003, entB ek es ey eu ev ex), (1004, yE b)] }
theorem set2_h (H : Hnd) (s0 : H.σ) {t r b : Int} (h : Rc t r) (hb : b = 1 ∨ b = 2) (ek es ey eu ev ex : Int) : FnH H 121 [H.doA, .p (.val (.int .i64 t)), .p (.val (.int .i64 r)), .p (.val (.int .i64 b)), .clo 129 [1003, 1004]] [entB ek es ey eu ev ex, yE b] (fun _ => .any) (fun _ => [entB ek es ey eu ev ex, yE b]) yes s0 (setP (over2 es b) (zQ t r 2) b) := by
  unfold Hnd.doA
  have hwb : IntKind.u64.wrap b = b := wrap_u64 _ (by omega)
  have cf := qG h 2 (by decide)
  have F1 := fun f (h0 : U f) (h1 : over2 es b f = false) => (orBit f b h0.lo h0.hi hb (over2_has h1)).1
  refine yH Tryz.func121 rfl Tryz.ntmps121 (Nat.le_of_ble_eq_true rfl) (by decide) (fine_set hb fun _ h => over2_has h) fun hok hns => ?_
  repeat' ((refine zZ.is ?_; refine zZ.block ?_))
  refine zZ.loop (fun p : Nat × H.σ => setS2 H t r b ek es ey eu ev ex p.2) (fun p => H.ok p.2 ∧ (Pr.loop (wO (over2 es b) (zQ t r 2) b) p.1 ()).run H.st p.2 = (setP (over2 es b) (zQ t r 2) b).run H.st s0) (fun p => p.1) (many, s0) ?h0 ⟨hok, rfl⟩ ?rd
  case h0 =>
    exact yI K_a K_x
  case rd =>
    rintro ⟨n, s1⟩ ⟨hok1, ho⟩
    cases n with
    | zero => exact absurd ho.symm hns
    | succ n =>
      dsimp only at hok1 ho ⊢
      rw [Pr.loop_succ] at ho
      rw [← ho] at hns ⊢
      repeat' (first | (refine zY.is ?_; first | refine zY.nil ?_ | (refine zY.at_ 10 rfl ?_; refine zY.rc (.v zB .e) ?_) | (refine zY.at_ 18 rfl ?_; refine zY.rc (.v zV .e) ?_) | (refine zY.at_ 19 rfl ?_; refine zY.rc (.gY xJ (.gY zV (.gY zV .e))) ?_) | (refine zY.at_ 19 rfl ?_; refine zY.rc (.gF (.gF (.gF (.gF (.gF (.gF (.gF (.gF (.gF (.gF (.v xR .e))))))))))) ?_) | (refine zY.at_ 23 rfl ?_; refine zY.rc (.gY zV (.gY zV (.gY zV (.gY v6_0 (.gY v36_1 .e))))) ?_) | (refine zY.at_ 29 rfl ?_; refine zY.rc (.v wW .e) ?_) | (refine zY.in_ [17] rfl ?_; refine zY.ofT rfl (zG.eR [1003, 1004] (over2_fn _ ek es ey eu ev ex b (U.lo (by assumption)) (U.hi (by assumption))) ?_)) | (refine zY.in_ [14] rfl ?_; refine zY.ofT rfl (zG.hd (i := []) (f := flagL_h H _ h) (r := fun x s e g hk => ?_) (p := fun q s e => ?_) (t := ?_))) | (refine zY.in_ [22] rfl ?_; refine zY.gY rfl rfl (by decide) rfl bA rfl (by decide) (zP (cf) rfl rfl rfl (by decide)) ?_) | (refine zY.in_ [28] rfl ?_; refine zY.ofTg rfl rfl (by decide) rfl bA (zG.hd (i := []) (f := cas_h H _ _ _ _ (by assumption) (orU (by assumption) hb (over2_has (by assumption)))) (r := fun x s e g hk => ?_) (p := fun q s e => ?_) (t := ?_))) | (fail_if_success refine zY.known rfl rfl rfl (by fail) ?_); refine zY.split rfl rfl rfl (fun h => ?_) (fun h => ?_)) | (refine zZ.is ?_; first | refine zZ.seq ?_ | (refine zZ.isR (id := 0) ?_; refine zZ.rc [0, 1, 2, 3, 4, 10, 29] [1000, 1001, 1002, 1003, 1004] (r := (.v xJ (.v zV (.v zV .e)))) (h := ?_)) | (refine zZ.isR (id := 1) ?_; refine zZ.rc [0, 1, 2, 3, 4, 10, 29] [1000, 1001, 1002, 1003, 1004] (r := (.v xJ (.v zV .e))) (h := ?_)) | refine zZ.yN rfl bA ?_ | refine zZ.cond rfl (fun h => ?_) (fun h => ?_) | refine zZ.skip ?_ | refine zZ.block ?_ | refine zZ.ret ?_) | refine zF.n ?_ | refine zF.r ?_ | refine zR.n ?_ | refine zR.r ?_)
      all_goals (first | exact fun e => hns (by clear hns; simp only [wO, run_bind, zC, zJ, Held.zW, Held.zA, Held.zK, cond_true, cond_false, *]) | exact .pan (q := q) rfl (by repeat' first | exact trivial | rfl | constructor) (by repeat' first | exact trivial | exact ⟨_, rfl, rfl⟩ | constructor) (by simp only [wO, run_bind, zC, zJ, Held.zW, Held.zA, Held.zK, cond_true, cond_false, *]) | exact .ret (x := ()) (by exact .inl rfl) (by exact .none rfl) (by repeat' first | exact trivial | rfl | constructor) (by simp only [wO, run_bind, zC, zJ, Held.zW, Held.zA, Held.zK, cond_true, cond_false, *]) | skip)
      refine ⟨(n, s), ?_, ⟨by assumption, ?_⟩, Nat.lt_succ_self n⟩
      · exact yI K_a K_x
      · simp only [wO, run_bind, zC, zJ, Held.zW, cond_true, cond_false, *]
end Go.Proofs.YtmfbamiciieooaaGreatDoor
/- Set; accesses of a disk; what a flag hasn't is made durable: the program's, whatever makes its accesses: contracts. -/
namespace Go.Proofs.YtmfbamiciieooaaGreatDoor
set_option maxRecDepth 100000
set_option maxHeartbeats 16000000
open Go Go.RowKit
set_option linter.unusedSimpArgs false
set_option linter.unusedVariables false
attribute [local irreducible] zY zZ Step zX Sub zD zG Fn
theorem setOp_h (H : Hnd) (s0 : H.σ) {t r b : Int} (hR : Rc t r) (hb : b = 1 ∨ b = 2) : FnH H 96 [H.doA, .p (.val (.int .i64 t)), .p (.val (.int .i64 r)), .p (.val (.int .i64 b))] [] (fun _ => .any) (fun _ => []) yes s0 (setP (ov1 b) (zQ t r 2) b) := by
  unfold Hnd.doA
  refine yH Tryz.func96 rfl Tryz.ntmps96 (Nat.le_of_ble_eq_true rfl) (by decide) (fine_set hb fun _ h => h) fun hok hns => ?_
  repeat' (first | (refine zY.is ?_; first | refine zY.nil ?_ | (refine zY.in_ [13] rfl ?_; refine zY.ofT rfl (zG.hd (i := [7]) (f := set1_h H _ hR hb) (r := fun x s e g hk => ?_) (p := fun q s e => ?_) (t := ?_)))) | (refine zZ.is ?_; first | refine zZ.seq ?_ | (refine zZ.isR (id := 0) ?_; refine zZ.rc [0, 1, 2, 3] [7, 1000, 1001, 1002] (r := (.m m18_1 .e)) (h := ?_)) | (refine zZ.isR (id := 1) ?_; refine zZ.rc [0, 1, 2, 7] [7, 1000, 1001, 1002] (r := (.v xJ (.v zV (.v zV (.v zO (.v v14_0 .e)))))) (h := ?_))))
  all_goals (first | exact fun e => hns (by clear hns; simp only [run_bind, zC, zJ, Held.zW, Held.zA, Held.zK, cond_true, cond_false, *]) | exact .pan (q := q) rfl (by repeat' first | exact trivial | rfl | constructor) (by repeat' exact trivial) (by simp only [run_bind, zC, zJ, Held.zW, Held.zA, Held.zK, cond_true, cond_false, *]) | exact .ret (x := ()) (by exact .inr rfl) (by exact .none rfl) (by repeat' first | exact trivial | rfl | constructor) (by simp only [run_bind, zC, zJ, Held.zW, Held.zA, Held.zK, cond_true, cond_false, *]))
def doB (H : Hnd) : Blk := .box 87 [H.doA]
theorem ld_h (H : Hnd) (s0 : H.σ) {t r f : Int} (hR : Rc t r) (hf : 0 ≤ f ∧ f ≤ 7) :
    FnH H 126 [.p (.val (.int .i64 f)), .ptr 1003 0, .ptr 1004 0, .ptr 1005 0] [doB H, yE t, yE r] (fun x => .p (.val (.int .u64 x))) (fun _ => [doB H, yE t, yE r]) U s0 (xD (zQ t r f)) := by
  unfold doB Hnd.doA
  refine yH Tryz.func126 rfl Tryz.ntmps126 (Nat.le_of_ble_eq_true rfl) (by decide) (yQ _) fun hok hns => ?_
  repeat' (first | (refine zY.nil ?_) | (refine zZ.is ?_; first | refine zZ.seq ?_ | (refine zZ.isR (id := 0) ?_; refine zZ.rc [0, 1, 2, 3] [1000, 1001, 1002, 1003, 1004, 1005] (r := (.v zB .e)) (h := ?_)) | (refine zZ.isR (id := 1) ?_; refine zZ.rk [0, 1, 2, 3, 5] [1000, 1001, 1002, 1003, 1004, 1005] ?_; refine zZ.draws ?_) | refine zZ.ret ?_) | (refine Draws.is ?_; first | refine Draws.rc (.v wL (.v zO (.v zO (.v zV .e)))) ?_ | (refine Draws.in_ [10] rfl ?_; refine Draws.v rfl rfl (zP (qG hR f hf) rfl rfl rfl (by decide)) ?_) | refine Draws.done (by kernel_rfl) (by kernel_rfl) (by kernel_rfl) ?_) | (refine zD.is ?_; first | refine zD.nil ?_ | (refine zD.at_ 5 rfl ?_; refine zD.rc (.v zB .e) ?_) | (refine zD.in_ [11] rfl ?_; refine zD.ofT rfl (zG.hd (i := []) (f := qZ H _ _) (r := fun x s e g hk => ?_) (p := fun q s e => ?_) (t := ?_)))))
  all_goals (first | exact fun e => hns (by clear hns; simp only [run_bind, zC, zJ, Held.zW, Held.zA, Held.zK, cond_true, cond_false, *]) | exact .pan (q := q) rfl (by repeat' first | exact trivial | rfl | constructor) (by repeat' first | exact trivial | exact ⟨_, rfl, rfl⟩ | constructor) (by simp only [run_bind, zC, zJ, Held.zW, Held.zA, Held.zK, cond_true, cond_false, *]) | exact .ret (by exact .inl rfl) (by exact .one rfl rfl) (by repeat' first | exact trivial | rfl | constructor) (by simp only [run_bind, zC, zJ, Held.zW, Held.zA, Held.zK, cond_true, cond_false, *]))
theorem accQ_cells (qs : List Ned) : ∀ e ∈ qs.map accQ, e.cells.length = 6 := fun e he => by
  obtain ⟨r, _, rfl⟩ := List.mem_map.1 he
  rfl
def diskS (H : Hnd) (qs : List Ned) (p : Nat × H.σ) : AS :=
  { t := [(0, H.doA), (4, .p (.val (.bool false))), (7, .p (.sl (qs.map accQ))), (8, .p (.val (.int .i64 (qs.map accQ).length))), (9, .p (.val (.int .i64 p.1)))], s := [(1000, H.b0 p.2), (1001, H.b1 p.2), (1002, H.b2 p.2)] }
theorem disk_h (H : Hnd) (s0 : H.σ) (qs : List Ned) (hq : qs.length ≤ 1000) (ha : ∀ q ∈ qs, Asked q) :
    FnH H 127 [H.doA, .p (.sl (qs.map accQ))] [] (fun b => .p (.val (.bool b))) (fun _ => []) yes s0 (diskP qs) := by
  have g4 := accQ_cells qs
  unfold Hnd.doA
  refine yH Tryz.func127 rfl Tryz.ntmps127 (Nat.le_of_ble_eq_true rfl) (by decide) (fine_disk ha) fun hok hns => ?_
  repeat' (first | (refine zY.nil ?_) | (refine zZ.is ?_; first | refine zZ.seq ?_ | (refine zZ.isR (id := 0) ?_; refine zZ.rc [0, 1] [6, 1000, 1001, 1002] (r := (.v zB .e)) (h := ?_)) | (refine zZ.isR (id := 1) ?_; refine zZ.rc [0, 1, 4] [6, 1000, 1001, 1002] (r := (.v zV (.v v57_1 (.v zV .e)))) (h := ?_)) | refine zZ.block ?_))
  refine zZ.loop (fun p : Nat × H.σ => diskS H qs p) (fun p => p.1 ≤ qs.length ∧ H.ok p.2 ∧ (diskP (qs.drop p.1)).run H.st p.2 = (diskP qs).run H.st s0) (fun p => qs.length - p.1) (0, s0) ?h0 ⟨Nat.zero_le _, hok, rfl⟩ ?rd
  case h0 =>
    exact yI K_y K_0
  case rd =>
    rintro ⟨k, s1⟩ ⟨hk, hok1, ho⟩
    dsimp only at hk hok1 ho ⊢
    unfold diskS Hnd.doA
    dsimp only
    by_cases hlt : k < qs.length
    · have hdec : decide ((k : Int) < ((qs.map accQ).length : Int)) = true := decide_eq_true (by simp; omega)
      have g5 : (qs.map accQ)[k]? = some (accQ qs[k]) := by rw [List.getElem?_map, List.getElem?_eq_getElem hlt]; rfl
      have hqa : Asked qs[k] := ha _ (List.getElem_mem hlt)
      rw [List.drop_eq_getElem_cons hlt, diskP] at ho
      generalize qs[k] = q at *
      have g6 : IntKind.i64.wrap ((k : Int) + 1) = ((k + 1 : Nat) : Int) := by rw [wrap_i64 _ (by omega)]; omega
      rw [← ho] at hns ⊢
      rw [show (Pr.ask q fun r => bif r.fail then Pr.ret false else diskP (qs.drop (k + 1))) = (Pr.ask q .ret).bind fun r => bif r.fail then .ret false else diskP (qs.drop (k + 1)) from rfl] at ho hns ⊢
      repeat' (first | (refine zY.is ?_; first | refine zY.nil ?_ | (refine zY.at_ 16 rfl ?_; refine zY.rc (.v v11_0 .e) ?_) | (refine zY.in_ [15] rfl ?_; refine zY.ofT rfl (zG.hd (i := []) (f := do_h H _ q hqa) (r := fun x s e g hk => ?_) (p := fun q s e => ?_) (t := ?_)))) | (refine zZ.is ?_; first | refine zZ.seq ?_ | (refine zZ.isR (id := 2) ?_; refine zZ.rc [0, 4, 6, 7, 8, 9, 10, 16] [6, 1000, 1001, 1002] (r := (.v xI .e)) (h := ?_)) | (refine zZ.isR (id := 3) ?_; refine zZ.rc [0, 4, 6, 7, 8, 9, 10, 16] [6, 1000, 1001, 1002] (r := (.v v7_18 (.v v2_7 (.m zT (.w zS .e))))) (h := ?_)) | (refine zZ.isR (id := 4) ?_; refine zZ.rc [0, 4, 6, 7, 8, 9, 10, 16] [6, 1000, 1001, 1002] (r := (.v xJ (.v xU .e))) (h := ?_)) | (refine zZ.isR (id := 5) ?_; refine zZ.rc [0, 4, 6, 7, 8, 9, 10, 16] [6, 1000, 1001, 1002] (r := (.v zB .e)) (h := ?_)) | (refine zZ.isR (id := 6) ?_; refine zZ.rc [0, 4, 6, 7, 8, 9, 10, 16] [6, 1000, 1001, 1002] (r := (.v wM (.v zV .e))) (h := ?_)) | refine zZ.yN rfl bA ?_ | refine zZ.cond rfl (fun h => ?_) (fun h => ?_) | refine zZ.skip ?_ | refine zZ.block ?_ | refine zZ.ret ?_) | refine zF.n ?_ | refine zF.r ?_ | refine zR.r ?_)
      all_goals (first | exact fun e => hns (by clear ho; clear hns; simp only [run_bind, zC, zJ, Held.zW, Held.zA, Held.zK, cond_true, cond_false, *]) | exact .pan (q := q) rfl (by repeat' first | exact trivial | rfl | constructor) (by repeat' exact trivial) (by clear ho; simp only [run_bind, zC, zJ, Held.zW, Held.zA, Held.zK, cond_true, cond_false, *]) | exact .ret (by exact .inl rfl) (by exact .one rfl rfl) (by repeat' first | exact trivial | rfl | constructor) (by clear ho; simp only [run_bind, zC, zJ, Held.zW, Held.zA, Held.zK, cond_true, cond_false, *]) | skip)
      refine ⟨(k + 1, _), ?_, ⟨by omega, by assumption, ?_⟩, by dsimp only; omega⟩
      · exact yI K_y K_0
      · clear ho
        simp only [run_bind, zC, zJ, Held.zW, cond_true, cond_false, *]
    · have hdec : decide ((k : Int) < ((qs.map accQ).length : Int)) = false := decide_eq_false (by simp; omega)
      obtain rfl : k = qs.length := by omega
      rw [List.drop_length, diskP] at ho
      rw [← ho] at hns ⊢
      repeat' (first | (refine zY.nil ?_) | (refine zZ.is ?_; first | refine zZ.seq ?_ | (refine zZ.isR (id := 2) ?_; refine zZ.rc [0, 4, 6, 7, 8, 9, 10, 16] [6, 1000, 1001, 1002] (r := (.v xI .e)) (h := ?_)) | (refine zZ.isR (id := 7) ?_; refine zZ.rc [4] [6, 1000, 1001, 1002] (r := (.v zB .e)) (h := ?_)) | refine zZ.yG rfl bA ?_ | refine zZ.exit ?_ | refine zZ.ret ?_))
      all_goals (exact .ret (by exact .inl rfl) (by exact .one rfl rfl) (by repeat' first | exact trivial | rfl | constructor) (by clear ho; simp only [run_bind, zC, zJ, Held.zW, Held.zA, Held.zK, cond_true, cond_false, *]))
theorem disk2_h (H : Hnd) (s0 : H.σ) (k s y u v x : Int) :
    FnH H 127 [H.doA, .p (.sl [accV 5 0 0 0 (.sl (byts (vS k s y u v x))), accV 6 0 0 0 xZ])] [] (fun b => .p (.val (.bool b))) (fun _ => []) yes s0 (diskP (wrAcc k s y u v x)) :=
  disk_h H s0 (wrAcc k s y u v x) (by unfold wrAcc; simp) (asked_wr k s y u v x)
end Go.Proofs.YtmfbamiciieooaaGreatDoor
/- What a flag hasn't is made durable; save, dead: the program's, whatever makes its accesses: contracts. -/
namespace Go.Proofs.YtmfbamiciieooaaGreatDoor
set_option maxRecDepth 100000
set_option maxHeartbeats 16000000
open Go Go.RowKit
set_option linter.unusedSimpArgs false
set_option linter.unusedVariables false
attribute [local irreducible] zY zZ Step zX Sub zD zG Fn
theorem rest_h (H : Hnd) (s0 : H.σ) {t r b f : Int} (hR : Rc t r) (hb : b = 1 ∨ b = 2) (hf : U f) :
    FnH H 116 [H.doA, .p (.val (.int .i64 t)), .p (.val (.int .i64 r)), .p (.val (.int .i64 b)), .p (.val (.int .u64 f))] [] (fun x => .p (.val (.bool x))) (fun _ => []) yes s0 (restP t r b f) := by
  have ch := has_fn f b hf.1 hf.2
  have cs0 := wstamp_fn f
  have hs : U (f / 4) := hf.quo
  have z : U 0 := U.zero
  unfold Hnd.doA
  refine yH Tryz.func116 rfl Tryz.ntmps116 (Nat.le_of_ble_eq_true rfl) (by decide) (fine_rest t r b f hb) fun hok hns => ?_
  cases hh : qJ f b <;> rw [hh] at ch
  case true =>
    repeat' (first | (refine zY.is ?_; first | refine zY.nil ?_ | (refine zY.in_ [15] rfl ?_; refine zY.v rfl rfl (zP (ch) rfl rfl rfl (by decide)) ?_)) | (refine zZ.is ?_; first | refine zZ.seq ?_ | (refine zZ.isR (id := 0) ?_; refine zZ.rc [0, 1, 2, 3, 4] [5, 6, 7, 8, 11, 40, 1000, 1001, 1002] (r := (.m m18_3 (.m m18_1 (.m m18_1 (.m m18_1 (.v zB .e)))))) (h := ?_)) | (refine zZ.isR (id := 1) ?_; refine zZ.rc [4, 5, 6, 7, 8, 10] [5, 6, 7, 8, 11, 40, 1000, 1001, 1002] (r := (.v zV (.v zO .e))) (h := ?_)) | (refine zZ.isR (id := 2) ?_; refine zZ.rc [4, 5, 6, 7, 8, 10] [5, 6, 7, 8, 11, 40, 1000, 1001, 1002] (r := (.v zB .e)) (h := ?_)) | refine zZ.yN rfl bA ?_ | refine zZ.ret ?_) | refine zF.r ?_)
    all_goals (exact .ret (by exact .inl rfl) (by exact .one rfl rfl) (by repeat' first | exact trivial | rfl | constructor) (by simp only [restP, run_bind, zC, zJ, Held.zW, Held.zA, Held.zK, cond_true, cond_false, *]))
  case false =>
    have ps_ := trivial
    repeat' (first | (refine zY.is ?_; first | refine zY.nil ?_ | (refine zY.at_ 18 rfl ?_; refine zY.rc (.v xV (.m zT (.w zS .e))) ?_) | (refine zY.at_ 25 rfl ?_; refine zY.rc (.v zM (.w zS .e)) ?_) | (refine zY.at_ 28 rfl ?_; refine zY.rc (.v zM (.w zS .e)) ?_) | (refine zY.at_ 31 rfl ?_; refine zY.rc (.v zM (.w zS .e)) ?_) | (refine zY.at_ 34 rfl ?_; refine zY.rc (.v zM (.w zS .e)) ?_) | (refine zY.in_ [15] rfl ?_; refine zY.v rfl rfl (zP (ch) rfl rfl rfl (by decide)) ?_) | (refine zY.in_ [17] rfl ?_; refine zY.v rfl rfl (zP (cs0) rfl rfl rfl (by decide)) ?_) | (refine zY.in_ [24, 27, 30, 33] rfl ?_; refine zY.ofT rfl (zG.hd (i := [5, 6, 7]) (f := ld_h H _ hR (by decide)) (r := fun x s e g hk => ?_) (p := fun q s e => ?_) (t := ?_))) | (refine zY.in_ [48] rfl ?_; refine zY.ofT rfl (zG.hd (i := [11, 8]) (f := set2_h H _ hR hb _ _ _ _ _ _) (r := fun x s e g hk => ?_) (p := fun q s e => ?_) (t := ?_)))) | (refine zZ.is ?_; first | refine zZ.seq ?_ | (refine zZ.isR (id := 0) ?_; refine zZ.rc [0, 1, 2, 3, 4] [5, 6, 7, 8, 11, 40, 1000, 1001, 1002] (r := (.m m18_3 (.m m18_1 (.m m18_1 (.m m18_1 (.v zB .e)))))) (h := ?_)) | (refine zZ.isR (id := 1) ?_; refine zZ.rc [4, 5, 6, 7, 8, 10] [5, 6, 7, 8, 11, 40, 1000, 1001, 1002] (r := (.v zV (.v zO .e))) (h := ?_)) | (refine zZ.isR (id := 3) ?_; refine zZ.rc [4, 5, 6, 7, 8, 10] [5, 6, 7, 8, 11, 40, 1000, 1001, 1002] (r := (.v zV .e)) (h := ?_)) | (refine zZ.isR (id := 4) ?_; refine zZ.rc [5, 6, 7, 8, 10, 11] [5, 6, 7, 8, 11, 40, 1000, 1001, 1002] (r := (.v zO (.v v41_8 .e))) (h := ?_)) | (refine zZ.isR (id := 5) ?_; refine zZ.rc [5, 6, 7, 8, 10, 11] [5, 6, 7, 8, 11, 40, 1000, 1001, 1002] (r := (.v v14_0 (.v v1_5 .e))) (h := ?_)) | (refine zZ.isR (id := 6) ?_; refine zZ.rc [5, 6, 7, 8, 10, 11, 12] [5, 6, 7, 8, 11, 40, 1000, 1001, 1002] (r := (.v zM (.w zS .e))) (h := ?_)) | (refine zZ.isR (id := 7) ?_; refine zZ.rc [5, 6, 7, 8, 10, 11, 12] [5, 6, 7, 8, 11, 40, 1000, 1001, 1002] (r := (.v xJ .e)) (h := ?_)) | (refine zZ.isR (id := 8) ?_; refine zZ.rc [5, 6, 7, 8, 10, 11, 12] [5, 6, 7, 8, 11, 40, 1000, 1001, 1002] (r := (.v xJ .e)) (h := ?_)) | (refine zZ.isR (id := 9) ?_; refine zZ.rc [5, 6, 7, 8, 10, 11, 12] [5, 6, 7, 8, 11, 40, 1000, 1001, 1002] (r := (.v xJ .e)) (h := ?_)) | (refine zZ.isR (id := 10) ?_; refine zZ.rc [5, 6, 7, 8, 10, 11, 12] [5, 6, 7, 8, 11, 40, 1000, 1001, 1002] (r := (.v xJ .e)) (h := ?_)) | (refine zZ.isR (id := 11) ?_; refine zZ.rk [5, 6, 7, 8, 10, 11] [5, 6, 7, 8, 11, 40, 1000, 1001, 1002] ?_; refine zZ.draws ?_) | (refine zZ.isR (id := 12) ?_; refine zZ.rc [5, 6, 7, 8, 10, 11] [5, 6, 7, 8, 11, 40, 1000, 1001, 1002] (r := (.v zB .e)) (h := ?_)) | (refine zZ.isR (id := 13) ?_; refine zZ.rc [5, 6, 7, 8, 10, 11] [5, 6, 7, 8, 11, 40, 1000, 1001, 1002] (r := (.v wL (.v zO (.v zO (.v zO (.v v14_0 .e)))))) (h := ?_)) | (refine zZ.isR (id := 14) ?_; refine zZ.rc [10] [5, 6, 7, 8, 11, 40, 1000, 1001, 1002] (r := (.v zB .e)) (h := ?_)) | refine zZ.yG rfl bA ?_ | refine zZ.cond rfl (fun h => ?_) (fun h => ?_) | refine zZ.skip ?_ | refine zZ.ret ?_) | refine zF.r ?_ | (refine Draws.is ?_; first | refine Draws.rc (.v wL (.v xU .e)) ?_ | refine Draws.rc (.v xV (.v xV (.v v20_0 .e))) ?_ | (refine Draws.in_ [37] rfl ?_; refine Draws.v rfl rfl (zP (bytes_fn _ _ _ _ _ _ (by assumption) (by assumption) (by assumption) (by assumption) (by assumption)) rfl rfl rfl (by decide)) ?_) | refine Draws.done (by kernel_rfl) (by kernel_rfl) (by kernel_rfl) ?_) | (refine zD.is ?_; first | refine zD.nil ?_ | (refine zD.at_ 42 rfl ?_; refine zD.rc (.v v52_8 .e) ?_) | (refine zD.in_ [41] rfl ?_; refine zD.ofT rfl (zG.hd (i := []) (f := disk2_h H _ _ _ _ _ _ _) (r := fun x s e g hk => ?_) (p := fun q s e => ?_) (t := ?_)))))
    all_goals try simp only [Bool.not_eq_true', Bool.not_eq_false'] at *
    all_goals (first | exact fun e => hns (by clear hns; simp only [restP, wrP, run_bind, zC, zJ, Held.zW, Held.zA, Held.zK, cond_true, cond_false, *]) | exact .pan (q := q) rfl (by repeat' first | exact trivial | rfl | constructor) (by repeat' exact trivial) (by simp only [restP, wrP, run_bind, zC, zJ, Held.zW, Held.zA, Held.zK, cond_true, cond_false, *]) | exact .ret (by exact .inl rfl) (by exact .one rfl rfl) (by repeat' first | exact trivial | rfl | constructor) (by simp only [restP, wrP, run_bind, zC, zJ, Held.zW, Held.zA, Held.zK, cond_true, cond_false, *]))
theorem save_h (H : Hnd) (s0 : H.σ) {t r b : Int} (hR : Rc t r) (hb : b = 1 ∨ b = 2) :
    FnH H 82 [H.doA, .p (.val (.int .i64 t)), .p (.val (.int .i64 r)), .p (.val (.int .i64 b))] [] (fun x => .p (.val (.bool x))) (fun _ => []) yes s0 (saveP t r b) := by
  unfold Hnd.doA
  refine yH Tryz.func82 rfl Tryz.ntmps82 (Nat.le_of_ble_eq_true rfl) (by decide) (fine_save t r b hb) fun hok hns => ?_
  repeat' (first | (refine zY.is ?_; first | refine zY.nil ?_ | (refine zY.at_ 8 rfl ?_; refine zY.rc (.v zB .e) ?_) | (refine zY.in_ [16] rfl ?_; refine zY.ofT rfl (zG.hd (i := []) (f := flag_h H _ hR) (r := fun x s e g hk => ?_) (p := fun q s e => ?_) (t := ?_))) | (refine zY.in_ [17] rfl ?_; refine zY.ofT rfl (zG.hd (i := []) (f := rest_h H _ hR hb (by assumption)) (r := fun x s e g hk => ?_) (p := fun q s e => ?_) (t := ?_)))) | (refine zZ.is ?_; first | refine zZ.seq ?_ | (refine zZ.isR (id := 0) ?_; refine zZ.rc [0, 1, 2, 3] [1000, 1001, 1002] (r := (.v zB .e)) (h := ?_)) | (refine zZ.isR (id := 1) ?_; refine zZ.rc [0, 1, 2, 3, 8] [1000, 1001, 1002] (r := (.v xJ (.v zV (.v zV (.v zV (.v xJ (.v zV (.v zV .e)))))))) (h := ?_)) | refine zZ.ret ?_))
  all_goals (first | exact fun e => hns (by clear hns; simp only [saveP, run_bind, zC, zJ, Held.zW, Held.zA, Held.zK, cond_true, cond_false, *]) | exact .pan (q := q) rfl (by repeat' first | exact trivial | rfl | constructor) (by repeat' exact trivial) (by simp only [saveP, run_bind, zC, zJ, Held.zW, Held.zA, Held.zK, cond_true, cond_false, *]) | exact .ret (by exact .inl rfl) (by exact .one rfl rfl) (by repeat' first | exact trivial | rfl | constructor) (by simp only [saveP, run_bind, zC, zJ, Held.zW, Held.zA, Held.zK, cond_true, cond_false, *]))
end Go.Proofs.YtmfbamiciieooaaGreatDoor
/- A struct's literal that holds closures, in a new variable. Generic over the program. -/
namespace Go.Proofs.YtmfbamiciieooaaGreatDoor
set_option maxRecDepth 100000
set_option maxHeartbeats 16000000
open Go Go.RowKit
set_option linter.unusedSimpArgs false
set_option linter.unusedVariables false
section
variable {P : Program} {n : Nat} {ops : Array Oper} {S : AS} {K : Exit → AS → Prop}
/-- a struct's literal of which parts are closures, or pointers, in a new variable -/
theorem zY.buildBx {o1 o2 : Oper} {rest : List Oper} {d1 d2 t : Nat} {ps : Array (Nat × Operand)} {pl : List (Nat × Nat)} {z : Value} {zs : List AV} [hb : BuildA P t pl] [hz : ZeroA P t z]
    (h1 : o1.op = .build t ps) (g1 : o1.guard = none) (e1 : o1.dst = some d1)
    (h2 : o2.op = .box t (.tmp d1)) (g2 : o2.guard = none) (e2 : o2.dst = some d2)
    (hn1 : d1 < n) (hn2 : d2 < n) (hz1 : z.cells.toList.all (fun u => u.oneCell') = true)
    (hk : ps.toList.all (fun p => (S.get p.2).qD) = true)
    (hf : fillA (fun i => pl[i]?) (z.cells.toList.map fun u => .p (.val u)) (ps.toList.map fun p => (p.1, S.get p.2)) = some zs) (hl : zs.length = z.cells.toList.length)
    (hr : zY P n ops rest (((S.put d1 .any).create d2 (.box t zs)).put d2 (.ptr d2 0)) K) : zY P n ops (o1 :: o2 :: rest) S K := by
  intro M w0 ρ a w Q hs hK
  have parts : ∀ p ∈ ps.toList, yK (Mut M S ρ) ρ w (S.get p.2).xP (a.eval p.2).cells.toList := fun p hp => repA_cells (hs.rep p.2) (List.all_eq_true.1 hk p hp)
  obtain ⟨us, hu1, hu2⟩ := fill_rep (fun i => pl[i]?) S.get a.eval ps.toList _ zs z.cells.toList parts hf (zerosA fun u hu => List.all_eq_true.1 hz1 u hu)
  have hr1 : (execOp a.eval o1).run P w = .ok (.value (.agg us.toArray)) w := by
    unfold execOp
    rw [h1]
    have e : (ps.map fun (i, x) => (i, a.eval x)) = (ps.toList.map fun p => (p.1, a.eval p.2)).toArray := by apply Array.ext'; simp
    simp only [e, Sem.run_bind, run_build (P := P) (t := t) (pl := pl) (z := z) _ w _ hu1]
    rfl
  unfold wpList
  rw [if_pos (by simp [Region.wanted, g1])]
  refine .inl ?_
  unfold Oper.wp
  rw [hr1]
  show wpList P ops Q (o2 :: rest) (a.put o1.dst (.agg us.toArray)) w
  rw [e1]
  have hs1 : Sat M n w0 (S.put d1 .any) ρ (a.put (some d1) (.agg us.toArray)) w := hs.put hn1 (.any _)
  generalize hsS1 : S.put d1 .any = S1 at hs1 hr
  have t1 : (a.put (some d1) (.agg us.toArray)).eval (.tmp d1) = .agg us.toArray := by
    have : d1 < a.tmps.size := by rw [hs.size]; exact hn1
    simp [Act.eval, Act.put, Array.getD_eq_getD_getElem?, Array.getElem?_setIfInBounds, this]
  generalize ha1 : a.put (some d1) (.agg us.toArray) = a1 at hs1 t1
  have hMut : Mut M S1 ρ = Mut M S ρ := by subst hsS1; rfl
  have hr2 : (execOp a1.eval o2).run P w = .ok (.value (.pointer (some ⟨w.heap.size, 0, none⟩))) (w.alloc (.cells us.toArray t)) := by
    unfold execOp
    rw [h2]
    simp [Instr.box, newVar, newRow, t1, Value.cells]
  unfold wpList
  rw [if_pos (by simp [Region.wanted, g2])]
  refine .inl ?_
  unfold Oper.wp
  rw [hr2]
  show wpList P ops Q rest (a1.put o2.dst (.pointer (some ⟨w.heap.size, 0, none⟩))) (w.alloc (.cells us.toArray t))
  rw [e2]
  generalize hw1 : w.alloc (.cells us.toArray t) = w1
  have hh1 : w1.heap[w.heap.size]? = some (.cells us.toArray t (0, 0)) := by rw [← hw1]; exact heap_alloc_new w _
  have hg1 : w.grownBy w1 none := by rw [← hw1]; exact World.grownBy_alloc w _ none
  have hs2 := hs1.change d2 (.box t zs) (.pointer (some ⟨w.heap.size, 0, none⟩)) none (hs1.free d2 hn2) hg1 (fun k hk => by cases hk) (fun k hk => .inl (by simp only [zU, Option.some.injEq] at hk; omega)) (by
    rw [hMut]
    refine ⟨w.heap.size, us, rfl, Nat.zero_le _, hh1, (hu2.mono fun k c hk h => ?_).keep ⟨hg1.size, fun k c hk _ => World.cell?_of_block (w := w) (hg1.block k hk (fun h => by cases h))⟩⟩
    rcases h with h | ⟨h, _⟩
    · exact h
    · simp only [zU, Option.some.injEq] at h
      omega)
  have hs3 := hs2.put (d := d2) (x := .ptr d2 0) (v := .pointer (some ⟨w.heap.size, 0, none⟩)) hn2 (.ptr d2 0 w.heap.size (by simp [upd, zU]))
  exact hr M w0 _ _ w1 Q hs3 hK
end
end Go.Proofs.YtmfbamiciieooaaGreatDoor
/- A region that draws its order, walked in each order that may be; what reads and writes registers alone comes first. Generic over the program. -/
namespace Go.Proofs.YtmfbamiciieooaaGreatDoor
set_option maxRecDepth 100000
set_option maxHeartbeats 16000000
open Go Go.RowKit
set_option linter.unusedSimpArgs false
set_option linter.unusedVariables false
/-- what is said where it panics is not of the slots -/
class PanK (K : Exit → AS → Prop) : Prop where
  h : ∀ S, K (.panic []) S → K (.panic []) { S with t := [] }
instance {next : AS → Prop} {K : Exit → AS → Prop} [h : PanK K] : PanK (zF next K) := ⟨fun S hk => h.h S hk⟩
instance {id : Nat} {K : Exit → AS → Prop} [h : PanK K] : PanK (zR id K) := ⟨fun S hk => h.h S hk⟩
instance {P : Program} {fn : Func} {ev : EV} {B : List Blk} : PanK (EndE P fn ev B) := ⟨fun S hk => by
  cases ev with
  | ret x => rcases hk.1 with h | h <;> cases h
  | pan x => exact hk⟩
instance {G : AS → Prop} : PanK (fun e S => (e = .ret ∨ e = .normal) ∧ G S) := ⟨fun S hk => by rcases hk.1 with h | h <;> cases h⟩
theorem Sat.bareT {M : Nat → Nat → Prop} {n : Nat} {w0 : Home} {S : AS} {ρ : Nat → Value} {a : Act} {d : Option Nat} {v : Value} {w : World} (h : Sat M n w0 S ρ (a.put d v) w) : Sat M n w0 { S with t := [] } ρ a w where
  below := h.below
  out := h.out
  tab := h.tab
  size := by
    have := h.size
    cases d <;> simpa [Act.put] using this
  defers := by
    have := h.defers
    cases d <;> simpa [Act.put] using this
  tmps := fun i => .any _
  blks := h.blks
  mine := h.mine
  fix := h.fix
  free := h.free
  dist := h.dist
/-- the ways out -/
def QK (M : Nat → Nat → Prop) (n : Nat) (w0 : Home) (K : Exit → AS → Prop) (e : Exit) (a : Act) (w : World) : Prop := ∃ S ρ, K (bare e) S ∧ Sat M n w0 S ρ a w ∧ ExOK M S ρ w e
/-- these are done; the others in each order that may be -/
def DGo (P : Program) (n : Nat) (l : List Oper) (K : Exit → AS → Prop) (fu : Nat) (done : List Nat) (S : AS) : Prop :=
  ∀ (M : Nat → Nat → Prop) (w0 : Home) (ρ : Nat → Value) (a : Act) (w : World) (listed : Array Bool), listed.size = l.length → (∀ i, listed.getD i false = done.contains i) → Sat M n w0 S ρ a w → wpAny P .any l.toArray (QK M n w0 K) fu listed a w
/-- this one is next -/
def zL (P : Program) (n : Nat) (l : List Oper) (K : Exit → AS → Prop) (fu : Nat) (done : List Nat) (S : AS) (i : Nat) : Prop :=
  ∀ (M : Nat → Nat → Prop) (w0 : Home) (ρ : Nat → Value) (a : Act) (w : World) (listed : Array Bool), listed.size = l.length → i < l.length → (∀ i, listed.getD i false = done.contains i) → Sat M n w0 S ρ a w →
    wpOp P l.toArray (QK M n w0 K) i (wpAny P .any l.toArray (QK M n w0 K) fu (listed.setIfInBounds i true)) a w
/-- the operation's value hangs on its operands alone -/
def FStep (P : Program) (n : Nat) (o : Oper) (S : AS) (av : AV) : Prop :=
  ∀ (M : Nat → Nat → Prop) (w0 : Home) (ρ : Nat → Value) (a : Act) (w : World), Sat M n w0 S ρ a w → ∃ v, (∀ w', (execOp a.eval o).run P w' = .ok (.value v) w') ∧ yV (Mut M S ρ) ρ w av v
def noSel (l : List Oper) : Bool := l.all fun o => match o.op with
  | .select _ _ => false
  | _ => true
/-- what is left hangs on it, or keeps apart from it -/
def freeB (l : List Oper) (done : List Nat) (i : Nat) : Bool := match l[i]? with
  | some o => noSel l && !done.contains i && o.guard.isNone && (o.after.toList.all fun e => !Region.binds .any e || done.contains e.on) && ((List.range l.length).all fun j => j == i || done.contains j || (match l[j]? with
    | some q => q.after.toList.any (fun e => Region.binds .any e && e.on == i) || o.apart l.toArray q
    | none => true))
  | none => false
theorem listed_step {l : List Oper} {listed : Array Bool} {done : List Nat} {i : Nat} (hz : listed.size = l.length) (hil : i < l.length) (hl : ∀ i, listed.getD i false = done.contains i) (k : Nat) : (listed.setIfInBounds i true).getD k false = (i :: done).contains k := by
  simp only [Array.getD_eq_getD_getElem?, Array.getElem?_setIfInBounds, List.contains_cons]
  by_cases hik : i = k
  · subst hik
    simp [hz, hil]
  · have : (k == i) = false := by simpa using fun e => hik e.symm
    rw [if_neg hik, this, Bool.false_or, ← hl k, Array.getD_eq_getD_getElem?]
section
variable {P : Program} {n : Nat} {l : List Oper} {K : Exit → AS → Prop} {fu : Nat} {done : List Nat} {S S1 : AS} {i d : Nat} {o : Oper}
theorem DGo.at_ (k : List Nat) (h : DGo P n l K fu k S) : DGo P n l K fu k S := h
theorem DGo.fin (hr : (readyD l done).isEmpty = true) (h : K .normal S) : DGo P n l K fu done S := by
  intro M w0 ρ a w listed hz hl hs
  have hq : QK M n w0 K .normal a w := ⟨S, ρ, h, hs, trivial⟩
  have hno : ∀ j, j ∉ Region.ready .any l.toArray listed := fun j hj => by
    have := (qW hz hl j).1 hj
    rw [List.isEmpty_iff.1 hr] at this
    simp at this
  cases fu with
  | zero => exact ⟨List.eq_nil_iff_forall_not_mem.2 hno, hq⟩
  | succ fu => exact ⟨fun _ => hq, fun j hj => absurd hj (hno j)⟩
theorem DGo.all (is : List Nat) (hr : (readyD l done == is && !is.isEmpty) = true) (h : zI (zL P n l K fu done S) is) : DGo P n l K (fu + 1) done S := by
  rw [Bool.and_eq_true, beq_iff_eq] at hr
  obtain ⟨rfl, hne⟩ := hr
  intro M w0 ρ a w listed hz hl hs
  refine ⟨fun hnil => ?_, fun j hj => ?_⟩
  · cases hd : readyD l done with
    | nil => rw [hd] at hne; cases hne
    | cons j r =>
      have := (qW hz hl j).2 (by rw [hd]; simp)
      rw [hnil] at this
      simp at this
  · have hj' := (qW hz hl j).1 hj
    exact h.all j hj' M w0 ρ a w listed hz (yD hj).1 hl hs
theorem DGo.free [hp : PanK K] (i : Nat) {av : AV} (hf : freeB l done i = true) (ho : l[i]? = some o) (hd : o.dst = some d) (hn : d < n) (h : FStep P n o S av) (hr : DGo P n l K fu (i :: done) (S.put d av)) : DGo P n l K (fu + 1) done S := by
  intro M w0 ρ a w listed hz hl hs
  unfold freeB at hf
  rw [ho] at hf
  simp only [Bool.and_eq_true, Bool.not_eq_true', List.all_eq_true, List.mem_range, Bool.or_eq_true, beq_iff_eq] at hf
  obtain ⟨⟨⟨⟨hsel, hnd⟩, hg⟩, hrd⟩, hap⟩ := hf
  have hil : i < l.length := (List.getElem?_eq_some_iff.1 ho).1
  obtain ⟨v, hv, hrep⟩ := h M w0 ρ a w hs
  have hg' : o.guard = none := by simpa using hg
  have key := wpAny_first (P := P) (md := .any) (ops := l.toArray) (Q := QK M n w0 K) (i := i) (oi := o) (v := v) (by simpa using ho) (fun j q cs b hj e => by
      have hq : q ∈ l := List.mem_of_getElem? (by simpa using hj)
      have := List.all_eq_true.1 hsel q hq
      rw [e] at this
      cases this)
    (fun c a' w' ⟨S', ρ', h1, h2, h3⟩ => ⟨{ S' with t := [] }, ρ', hp.h S' h1, h2.bareT, by
      obtain ⟨u, hu, hx⟩ := h3
      exact ⟨u, hu, hx⟩⟩) fu listed a w
  refine key (fun j q hj hji hlj hno => ?_) ?_ (.inl ⟨by simp [Region.wanted, hg'], hv⟩) ?_
  · have hjl : j < l.length := by
      have := (Array.getElem?_eq_some_iff.1 hj).1
      simpa using this
    have hj' : l[j]? = some q := by simpa using hj
    rcases hap j hjl with (h1 | h1) | h1
    · exact absurd h1 hji
    · rw [← hl j] at h1
      have : listed.getD j true = true := by
        have hlt : j < listed.size := by rw [hz]; exact hjl
        simp only [Array.getD_eq_getD_getElem?, Array.getElem?_eq_getElem hlt, Option.getD_some] at h1 ⊢
        exact h1
      rw [this] at hlj
      cases hlj
    · rw [hj'] at h1
      simp only [Bool.or_eq_true, List.any_eq_true, Bool.and_eq_true, beq_iff_eq] at h1
      rcases h1 with ⟨e, he, hb, hon⟩ | h1
      · exact absurd hon (hno e (by simpa using he) hb)
      · exact h1
  · refine (qW hz hl i).2 ?_
    unfold readyD
    simp only [List.mem_filter, List.mem_range, ho, Bool.and_eq_true, Bool.not_eq_true', List.all_eq_true]
    exact ⟨hil, hnd, fun e he => by simpa using hrd e he⟩
  · refine hr M w0 ρ _ w _ (by simp [hz]) (listed_step hz hil hl) ?_
    rw [hd]
    exact hs.put hn hrep
theorem zL.at_ (i : Nat) (h : zL P n l K fu done S i) : zL P n l K fu done S i := h
theorem zL.ofT (ho : l[i]? = some o) (hg : o.guard = none) (h : zG P n o S K fun S1 => DGo P n l K fu (i :: done) S1) : zL P n l K fu done S i := by
  intro M w0 ρ a w listed hz hil hl hs
  unfold wpOp
  simp only [List.getElem?_toArray, ho]
  rw [if_pos (by simp [Region.wanted, hg])]
  exact .inl (h M w0 ρ a w _ _ hs (fun S1 ρ' a' w' hd1 hs' => hd1 M w0 ρ' a' w' _ (by simp [hz]) (listed_step hz hil hl) hs') fun e S' ρ' a' w' h1 h2 h3 => ⟨S', ρ', h1, h2, h3⟩)
theorem zL.ofTg {j t : Nat} {want b : Bool} (ho : l[i]? = some o) (hg : o.guard = some (j, want)) (ht : wB l j = some t) (htn : t < n) (hb : S.tmp t = .p (.val (.bool b))) (hbw : b = want) (h : zG P n o S K fun S1 => DGo P n l K fu (i :: done) S1) : zL P n l K fu done S i := by
  intro M w0 ρ a w listed hz hil hl hs
  have hw := hs.wanted (ops := l.toArray) hg (by simpa [wB] using ht) htn hb
  unfold wpOp
  simp only [List.getElem?_toArray, ho]
  rw [if_pos (by rw [hw]; simp [wantB, hbw])]
  exact .inl (h M w0 ρ a w _ _ hs (fun S1 ρ' a' w' hd1 hs' => hd1 M w0 ρ' a' w' _ (by simp [hz]) (listed_step hz hil hl) hs') fun e S' ρ' a' w' h1 h2 h3 => ⟨S', ρ', h1, h2, h3⟩)
theorem zL.v {bs : List Nat} {av : AV} (ho : l[i]? = some o) (hg : o.guard = none) (hd : o.dst = some d) (h : zX P n o S bs av none) (hr : DGo P n l K fu (i :: done) (S.put d av)) : zL P n l K fu done S i := .ofT ho hg (Step.t h.step (by rw [hd]; exact hr))
theorem zL.w (ho : l[i]? = some o) (hg : o.guard = none) (h : Step P n o S S1) (hr : DGo P n l K fu (i :: done) S1) : zL P n l K fu done S i := .ofT ho hg (h.t hr)
theorem zL.gv {j t : Nat} {want b : Bool} {bs : List Nat} {av : AV} (ho : l[i]? = some o) (hg : o.guard = some (j, want)) (ht : wB l j = some t) (htn : t < n) (hb : S.tmp t = .p (.val (.bool b))) (hbw : b = want) (hd : o.dst = some d) (h : zX P n o S bs av none) (hr : DGo P n l K fu (i :: done) (S.put d av)) : zL P n l K fu done S i :=
  .ofTg ho hg ht htn hb hbw (Step.t h.step (by rw [hd]; exact hr))
theorem zZ.drawGo {id : Nat} (hm : P.follows .mixedOrders = true) (h : DGo P n l K l.length [] S) : zZ P n (.region id l.toArray true) S K := by
  intro M w0 ρ a w Q hs hK
  refine Code.wp_mono (Q := QK M n w0 K) (fun e a w ⟨S', ρ', h1, h2, h3⟩ => hK e S' ρ' a w h1 h2 h3) (wp_region_any hm ?_)
  have := h M w0 ρ a { w with drawn := w.drawn + 1 } (Array.replicate l.length false) (by simp) (fun i => by rw [getD_replicate_false]; rfl) (hs.ext ((Below.refl _ _).drew))
  simpa using this
/-! ### Values of registers -/
theorem f_mv {x : Operand} {av : AV} (ho : o.op = .move x ∨ o.op = .assign x) (hx : S.get x = av) : FStep P n o S av := fun M w0 ρ a w hs => ⟨a.eval x, fun w' => by unfold execOp; rcases ho with ho | ho <;> rw [ho] <;> rfl, hx ▸ hs.rep x⟩
theorem f_mvP {x : Operand} {v : PV} (ho : o.op = .move x) (hx : S.get x = .p v) : FStep P n o S (.p v) := f_mv (.inl ho) hx
theorem f_mvR {x : Operand} {i k : Nat} (ho : o.op = .move x) (hx : S.get x = .ptr i k) : FStep P n o S (.ptr i k) := f_mv (.inl ho) hx
theorem f_mvT {x : Operand} {l : List AV} (ho : o.op = .move x) (hx : S.get x = .tup l) : FStep P n o S (.tup l) := f_mv (.inl ho) hx
theorem f_mvC {x : Operand} {i : Nat} {l : List Nat} (ho : o.op = .move x) (hx : S.get x = .clo i l) : FStep P n o S (.clo i l) := f_mv (.inl ho) hx
theorem f_mvS {x : Operand} {l : List PV} (ho : o.op = .move x) (hx : S.get x = .pt l) : FStep P n o S (.pt l) := f_mv (.inl ho) hx
theorem f_asP {x : Operand} {v : PV} (ho : o.op = .assign x) (hx : S.get x = .p v) : FStep P n o S (.p v) := f_mv (.inr ho) hx
theorem f_asR {x : Operand} {i k : Nat} (ho : o.op = .assign x) (hx : S.get x = .ptr i k) : FStep P n o S (.ptr i k) := f_mv (.inr ho) hx
theorem f_asC {x : Operand} {i : Nat} {l : List Nat} (ho : o.op = .assign x) (hx : S.get x = .clo i l) : FStep P n o S (.clo i l) := f_mv (.inr ho) hx
theorem f_nilR {x : Operand} {id off : Nat} (ho : o.op = .nilCheck x) (hx : S.get x = .ptr id off) : FStep P n o S (.ptr id off) := fun M w0 ρ a w hs => by
  have h1 := hs.rep x
  rw [hx] at h1
  have h2 := h1
  obtain ⟨g, hgv, hv⟩ := vK h1
  refine ⟨a.eval x, fun w' => ?_, h2⟩
  unfold execOp
  rw [ho]
  simp only [hv]
  rfl
theorem f_fieldR {x : Operand} {s f k id off : Nat} [h : FieldA P s f k] (ho : o.op = .fieldAddr s x f) (hx : S.get x = .ptr id off) : FStep P n o S (.ptr id (off + k)) := fun M w0 ρ a w hs => by
  have h1 := hs.rep x
  rw [hx] at h1
  obtain ⟨g, hgv, hv⟩ := vK h1
  refine ⟨.pointer (some ⟨g, off + k, none⟩), fun w' => ?_, .ptr id (off + k) g hgv⟩
  unfold execOp
  rw [ho]
  simp only [hv, Sem.run_bind, h.h]
  rfl
theorem f_extract {x : Operand} {avs : List AV} {ix : Nat} {v : PV} (ho : o.op = .extract x ix) (hx : S.get x = .tup avs) (hi : avs[ix]? = some (.p v)) : FStep P n o S (.p v) := fun M w0 ρ a w hs => by
  have h1 := hs.rep x
  rw [hx] at h1
  generalize hev : a.eval x = ev at h1
  cases h1 with
  | tup _ vs hl h =>
    have hlt : ix < vs.length := by rw [hl]; exact (List.getElem?_eq_some_iff.1 hi).1
    refine ⟨vs[ix], fun w' => ?_, h ix _ _ hi (List.getElem?_eq_getElem hlt)⟩
    unfold execOp
    rw [ho]
    simp [hev, Instr.extract, hlt]
/-- one of these, found by itself -/
theorem DGo.fr [hp : PanK K] (i : Nat) {av : AV} (hr : DGo P n l K fu (i :: done) (S.put d av)) (ho : l[i]? = some o := by rfl) (hd : o.dst = some d := by rfl) (hn : d < n := by decide) (hf : freeB l done i = true := by kernel_rfl)
    (h : FStep P n o S av := by first | exact f_mvR rfl rfl | exact f_mvP rfl rfl | exact f_fieldR rfl rfl | exact f_nilR rfl rfl | exact f_extract rfl rfl rfl | exact f_asP rfl rfl | exact f_mvT rfl rfl | exact f_mvC rfl rfl | exact f_mvS rfl rfl | exact f_asR rfl rfl | exact f_asC rfl rfl) : DGo P n l K (fu + 1) done S := DGo.free i hf ho hd hn h hr
end
attribute [irreducible] DGo zL FStep
end Go.Proofs.YtmfbamiciieooaaGreatDoor
/- A scope whose code jumps back to its label. Generic over the program. -/
namespace Go.Proofs.YtmfbamiciieooaaGreatDoor
set_option maxRecDepth 100000
set_option maxHeartbeats 16000000
open Go Go.RowKit
/-- by a goto to label l: J; by any other goto: no way out -/
def xA (l : Nat) (J : AS → Prop) (K : Exit → AS → Prop) : Exit → AS → Prop
  | .goto l', S => l' = l ∧ J S
  | e, S => K e S
theorem xA.n {S : AS} {l : Nat} {J : AS → Prop} {K : Exit → AS → Prop} (h : K .normal S) : xA l J K .normal S := h
theorem xA.r {S : AS} {l : Nat} {J : AS → Prop} {K : Exit → AS → Prop} (h : K .ret S) : xA l J K .ret S := h
theorem xA.p {S : AS} {l : Nat} {J : AS → Prop} {K : Exit → AS → Prop} {c} (h : K (.panic c) S) : xA l J K (.panic c) S := h
theorem xA.g {S : AS} {l : Nat} {J : AS → Prop} {K : Exit → AS → Prop} (h : J S) : xA l J K (.goto l) S := ⟨rfl, h⟩
section
variable {P : Program} {n : Nat} {S : AS}
/-- the label stands at the scope's beginning -/
theorem zZ.scopeL {rest : Code} {K : Exit → AS → Prop} {ι : Type} (l : Nat) (inv : ι → AS) (ok : ι → Prop) (μ : ι → Nat) (i0 : ι) (h0 : Sub S (inv i0)) (hi0 : ok i0)
    (round : ∀ i, ok i → zZ P n rest (inv i) (xA l (fun S' => ∃ j, Sub S' (inv j) ∧ ok j ∧ μ j < μ i) K)) : zZ P n (.scope (.seq (.label l) rest)) S K := by
  intro M w0 ρ a w Q hs hK
  obtain ⟨ρ0, hs0⟩ := h0 M n w0 ρ a w hs
  intro b k cs
  have hg : gotoIn l (.inScope (.seq (.label l) rest) :: k) = some (.code (.seq .skip rest) :: .inScope (.seq (.label l) rest) :: k) := by simp [gotoIn, findLabel]
  have key : ∀ (m : Nat) (i : ι) (ρ : Nat → Value) (a : Act) (w : World), μ i = m → ok i → Sat M n w0 (inv i) ρ a w →
      ∃ e a' w', Q e a' w' ∧ Arrives P (lone (b.at a (.code rest :: .inScope (.seq (.label l) rest) :: k)) cs w) b k cs e a' w' := by
    intro m
    induction m using Nat.strongRecOn with
    | _ m ih =>
      intro i ρ a w hm hi hsi
      have hr := round i hi M w0 ρ a w (fun e a' w' => match e with
          | .goto l' => l' = l ∧ ∃ j ρ', ok j ∧ μ j < μ i ∧ Sat M n w0 (inv j) ρ' a' w'
          | e => Q e a' w') hsi (fun e S' ρ' a' w' hk hs' hx => by
        cases e with
        | goto l' =>
          obtain ⟨h1, j, hsub, hj, hlt⟩ := hk
          obtain ⟨ρ'', hs''⟩ := hsub M n w0 ρ' a' w' hs'
          exact ⟨h1, j, ρ'', hj, hlt, hs''⟩
        | normal => exact hK .normal S' ρ' a' w' hk hs' hx
        | exit id => exact hK (.exit id) S' ρ' a' w' hk hs' hx
        | ret => exact hK .ret S' ρ' a' w' hk hs' hx
        | panic c => exact hK (.panic c) S' ρ' a' w' hk hs' hx
        | outgrown => exact hK .outgrown S' ρ' a' w' hk hs' hx)
      obtain ⟨e, a₁, w₁, hq, harr⟩ := hr b (.inScope (.seq (.label l) rest) :: k) cs
      cases e with
      | normal => exact ⟨.normal, a₁, w₁, hq, Steps.trans harr (.one step_inScope)⟩
      | exit id => exact ⟨.exit id, a₁, w₁, hq, fun k' hk => harr k' (by simp [exitTo, hk])⟩
      | goto l' =>
        obtain ⟨rfl, j, ρ', hj, hlt, hs'⟩ := hq
        obtain ⟨e₂, a₂, w₂, hq₂, harr₂⟩ := ih (μ j) (by omega) j ρ' a₁ w₁ rfl hj hs'
        exact ⟨e₂, a₂, w₂, hq₂, .of_steps (Steps.trans (harr _ hg) (.head step_seq (.one step_skip))) harr₂⟩
      | ret => exact ⟨_, a₁, w₁, hq, harr⟩
      | panic ch => exact ⟨_, a₁, w₁, hq, harr⟩
      | outgrown => exact ⟨_, a₁, w₁, hq, harr⟩
  obtain ⟨e, a', w', hq, harr⟩ := key _ i0 ρ0 a w rfl hi0 hs0
  exact ⟨e, a', w', hq, .of_steps (.head step_scope (.head step_seq (.one step_label))) harr⟩
theorem xA.weak {l : Nat} {J J' : AS → Prop} {K : Exit → AS → Prop} {e : Exit} {S : AS} (h : xA l J K e S) (hJ : ∀ S, J S → J' S) : xA l J' K e S := by
  cases e with
  | goto l' => exact ⟨h.1, hJ _ h.2⟩
  | _ => exact h
/-- the label stands anywhere along the scope's code -/
theorem zZ.scopeG {body rest : Code} {K : Exit → AS → Prop} {ι : Type} (l : Nat) (inv : ι → AS) (ok : ι → Prop) (μ : ι → Nat) (hf : findLabel body l = some (.seq .skip rest))
    (round : ∀ i, ok i → zZ P n rest (inv i) (xA l (fun S' => ∃ j, Sub S' (inv j) ∧ ok j ∧ μ j < μ i) K))
    (first : (∀ i, ok i → zZ P n rest (inv i) (xA l (fun S' => ∃ j, Sub S' (inv j) ∧ ok j) K)) → zZ P n body S (xA l (fun S' => ∃ j, Sub S' (inv j) ∧ ok j) K)) : zZ P n (.scope body) S K := by
  intro M w0 ρ a w Q hs hK
  intro b k cs
  have hg : gotoIn l (.inScope body :: k) = some (.code (.seq .skip rest) :: .inScope body :: k) := by simp [gotoIn, hf]
  have key : ∀ (m : Nat) (i : ι) (ρ : Nat → Value) (a : Act) (w : World), μ i = m → ok i → Sat M n w0 (inv i) ρ a w →
      ∃ e a' w', Q e a' w' ∧ Arrives P (lone (b.at a (.code rest :: .inScope body :: k)) cs w) b k cs e a' w' := by
    intro m
    induction m using Nat.strongRecOn with
    | _ m ih =>
      intro i ρ a w hm hi hsi
      have hr := round i hi M w0 ρ a w (fun e a' w' => match e with
          | .goto l' => l' = l ∧ ∃ j ρ', ok j ∧ μ j < μ i ∧ Sat M n w0 (inv j) ρ' a' w'
          | e => Q e a' w') hsi (fun e S' ρ' a' w' hk hs' hx => by
        cases e with
        | goto l' =>
          obtain ⟨h1, j, hsub, hj, hlt⟩ := hk
          obtain ⟨ρ'', hs''⟩ := hsub M n w0 ρ' a' w' hs'
          exact ⟨h1, j, ρ'', hj, hlt, hs''⟩
        | normal => exact hK .normal S' ρ' a' w' hk hs' hx
        | exit id => exact hK (.exit id) S' ρ' a' w' hk hs' hx
        | ret => exact hK .ret S' ρ' a' w' hk hs' hx
        | panic c => exact hK (.panic c) S' ρ' a' w' hk hs' hx
        | outgrown => exact hK .outgrown S' ρ' a' w' hk hs' hx)
      obtain ⟨e, a₁, w₁, hq, harr⟩ := hr b (.inScope body :: k) cs
      cases e with
      | normal => exact ⟨.normal, a₁, w₁, hq, Steps.trans harr (.one step_inScope)⟩
      | exit id => exact ⟨.exit id, a₁, w₁, hq, fun k' hk => harr k' (by simp [exitTo, hk])⟩
      | goto l' =>
        obtain ⟨rfl, j, ρ', hj, hlt, hs'⟩ := hq
        obtain ⟨e₂, a₂, w₂, hq₂, harr₂⟩ := ih (μ j) (by omega) j ρ' a₁ w₁ rfl hj hs'
        exact ⟨e₂, a₂, w₂, hq₂, .of_steps (Steps.trans (harr _ hg) (.head step_seq (.one step_skip))) harr₂⟩
      | ret => exact ⟨_, a₁, w₁, hq, harr⟩
      | panic ch => exact ⟨_, a₁, w₁, hq, harr⟩
      | outgrown => exact ⟨_, a₁, w₁, hq, harr⟩
  have hb := first (fun i hi => (round i hi).mono fun e S h => h.weak fun S ⟨j, h1, h2, _⟩ => ⟨j, h1, h2⟩)
  have hr := hb M w0 ρ a w (fun e a' w' => match e with
      | .goto l' => l' = l ∧ ∃ j ρ', ok j ∧ Sat M n w0 (inv j) ρ' a' w'
      | e => Q e a' w') hs (fun e S' ρ' a' w' hk hs' hx => by
    cases e with
    | goto l' =>
      obtain ⟨h1, j, hsub, hj⟩ := hk
      obtain ⟨ρ'', hs''⟩ := hsub M n w0 ρ' a' w' hs'
      exact ⟨h1, j, ρ'', hj, hs''⟩
    | normal => exact hK .normal S' ρ' a' w' hk hs' hx
    | exit id => exact hK (.exit id) S' ρ' a' w' hk hs' hx
    | ret => exact hK .ret S' ρ' a' w' hk hs' hx
    | panic c => exact hK (.panic c) S' ρ' a' w' hk hs' hx
    | outgrown => exact hK .outgrown S' ρ' a' w' hk hs' hx)
  obtain ⟨e, a₁, w₁, hq, harr⟩ := hr b (.inScope body :: k) cs
  cases e with
  | normal => exact ⟨.normal, a₁, w₁, hq, .of_steps (.one step_scope) (Steps.trans harr (.one step_inScope))⟩
  | exit id => exact ⟨.exit id, a₁, w₁, hq, .of_steps (.one step_scope) (fun k' hk => harr k' (by simp [exitTo, hk]))⟩
  | goto l' =>
    obtain ⟨rfl, j, ρ', hj, hs'⟩ := hq
    obtain ⟨e₂, a₂, w₂, hq₂, harr₂⟩ := key _ j ρ' a₁ w₁ rfl hj hs'
    exact ⟨e₂, a₂, w₂, hq₂, .of_steps (.head step_scope (Steps.trans (harr _ hg) (.head step_seq (.one step_skip)))) harr₂⟩
  | ret => exact ⟨_, a₁, w₁, hq, .of_steps (.one step_scope) harr⟩
  | panic ch => exact ⟨_, a₁, w₁, hq, .of_steps (.one step_scope) harr⟩
  | outgrown => exact ⟨_, a₁, w₁, hq, .of_steps (b := b) (k := k) (cs := cs) (e := .outgrown) (.one step_scope) harr⟩
end
end Go.Proofs.YtmfbamiciieooaaGreatDoor
/- Where functions that make accesses, or go through a log, panic: what is said then is not of slots; nor by jumps. -/
namespace Go.Proofs.YtmfbamiciieooaaGreatDoor
set_option maxRecDepth 100000
set_option maxHeartbeats 16000000
open Go Go.RowKit
instance {l : Nat} {J : AS → Prop} {K : Exit → AS → Prop} [h : PanK K] : PanK (xA l J K) := ⟨fun S hk => h.h S hk⟩
theorem hasL_bare {S : AS} : ∀ (B : List Blk) (i : Nat), hasL S i B → hasL { S with t := [] } i B
  | [], _, _ => trivial
  | _ :: r, i, h => ⟨h.1, hasL_bare r (i + 1) h.2⟩
theorem fgL_bare {S : AS} : ∀ (B : List Blk) (i : Nat), fgL S i B → fgL { S with t := [] } i B
  | [], _, _ => trivial
  | _ :: r, i, h => ⟨h.1, fgL_bare r (i + 1) h.2⟩
instance {α : Type} {H : Hnd} {fn : Func} {res : α → AV} {bk : List Blk} {bk' : α → List Blk} {m : Held H.σ α} : PanK (EndH H fn res bk bk' m) := ⟨fun S hk => by
  cases hk with
  | pan hx hB hF h => exact .pan hx (hasL_bare _ _ hB) (fgL_bare _ _ hF) h
  | ret he hg hB h => rcases he with h | h <;> cases h⟩
end Go.Proofs.YtmfbamiciieooaaGreatDoor
/- A record is given back; a walk's steps: the program's, whatever makes its accesses: contracts. -/
namespace Go.Proofs.YtmfbamiciieooaaGreatDoor
set_option maxRecDepth 100000
set_option maxHeartbeats 16000000
open Go Go.RowKit
set_option linter.unusedSimpArgs false
set_option linter.unusedVariables false
attribute [local irreducible] zY zZ Step zX Sub zD zG Fn zF zR
theorem limbo_fn (e : Int) (h0 : 0 ≤ e) : Fn Tryz.prog 120 [.val (.int .u64 e)] (.p (.val (.int .i64 (yB e)))) := by
  have g1 : e.tmod 3 = e % 3 := Int.tmod_eq_emod_of_nonneg h0
  have g2 : IntKind.i64.wrap (e % 3) = e % 3 := wrap_i64 _ (by omega)
  have g3 : IntKind.i64.wrap (4 + e % 3) = yB e := wrap_i64 _ (by omega)
  refine vW Tryz.func120 rfl Tryz.ntmps120 (Nat.le_of_ble_eq_true rfl) ?_
  repeat' (first | (refine zY.nil ?_) | (refine zZ.is ?_; first | refine zZ.seq ?_ | (refine zZ.isR (id := 0) ?_; refine zZ.rc [0] [] (r := (.v zB .e)) (h := ?_)) | (refine zZ.isR (id := 1) ?_; refine zZ.rc [0, 2] [] (r := (.v zV (.v v34_0 (.v v6_0 (.v wM (.v zB .e)))))) (h := ?_)) | refine zZ.ret ?_) | refine zF.n ?_)
  all_goals exact ⟨.inl rfl, gives1 rfl rfl rfl⟩
def retS (H : Hnd) (t r at_ : Int) (d : Bool) (s : H.σ) : AS :=
  { t := [(0, H.doA), (1, .p (.val (.int .i64 t))), (2, .p (.val (.int .i64 r))), (6, .p (.val (.int .i64 at_))), (7, .p (.val (.bool d)))], s := [(1000, H.b0 s), (1001, H.b1 s), (1002, H.b2 s)] }
/-- what is left behind a round -/
def retRest (t r at_ : Int) (n : Nat) (d : Bool) : Pr Unit := bif d then .ret () else .loop (retRound t r at_) n ()
theorem retire_h (H : Hnd) (s0 : H.σ) {t r : Int} (ht : Small t) (hr : Rf r) : FnH H 125 [H.doA, .p (.val (.int .i64 t)), .p (.val (.int .i64 r))] [] (fun _ => .any) (fun _ => []) yes s0 (retireP t r) := by
  have wr : IntKind.u64.wrap r = r := wrap_u64 _ ⟨hr.lo, by have := hr.hi; omega⟩
  have hru := hr.u
  have cf := qG (hr.rc ht) 7 (by decide)
  unfold Hnd.doA
  refine yH Tryz.func125 rfl Tryz.ntmps125 (Nat.le_of_ble_eq_true rfl) (by decide) (fine_retire t hr.u) fun hok hns => ?_
  repeat' (first | (refine zY.is ?_; first | refine zY.nil ?_ | (refine zY.at_ 6 rfl ?_; refine zY.rc (.v zB .e) ?_) | (refine zY.in_ [11] rfl ?_; refine zY.v rfl rfl (zP (limbo_fn _ (U.lo (by assumption))) rfl rfl rfl (by decide)) ?_) | (refine zY.in_ [10] rfl ?_; refine zY.ofT rfl (zG.hd (i := []) (f := qZ H _ 3) (r := fun x s e g hk => ?_) (p := fun q s e => ?_) (t := ?_)))) | (refine zZ.is ?_; first | refine zZ.seq ?_ | (refine zZ.isR (id := 0) ?_; refine zZ.rc [0, 1, 2] [1000, 1001, 1002] (r := (.v xJ .e)) (h := ?_)) | (refine zZ.isR (id := 1) ?_; refine zZ.rc [0, 1, 2, 6] [1000, 1001, 1002] (r := (.v zB .e)) (h := ?_)) | refine zZ.block ?_) | refine zF.n ?_ | refine zF.p ?_)
  all_goals (first | exact fun e => hns (by clear hns; simp only [retireP, run_bind, zC, zJ, Held.zW, Held.zA, Held.zK, cond_true, cond_false, *]) | exact .pan (q := q) rfl (by repeat' first | exact trivial | rfl | constructor) (by repeat' exact trivial) (by simp only [retireP, run_bind, zC, zJ, Held.zW, Held.zA, Held.zK, cond_true, cond_false, *]) | skip)
  have ho0 : (retireP t r).run H.st s0 = (retLoop t r (yB x)).run H.st s := by simp only [retireP, run_bind, zC, Held.zW, *]
  rw [ho0] at hns ⊢
  generalize yB x = at_ at *
  refine zZ.loop (fun p : Bool × Nat × H.σ => retS H t r at_ p.1 p.2.2) (fun p => H.ok p.2.2 ∧ (retRest t r at_ p.2.1 p.1).run H.st p.2.2 = (retLoop t r at_).run H.st s) (fun p => p.2.1) (false, many, s) ?h0 ⟨by assumption, rfl⟩ ?rd
  case h0 =>
    exact z8 K_z K_0
  case rd =>
    rintro ⟨d, n, s1⟩ ⟨hok1, ho⟩
    dsimp only at hok1 ho ⊢
    unfold retS Hnd.doA
    cases d with
    | true =>
      have ho : Held.done () s1 = (retLoop t r at_).run H.st s := ho
      rw [← ho] at hns ⊢
      repeat' (first | (refine zY.nil ?_) | (refine zZ.is ?_; first | refine zZ.seq ?_ | (refine zZ.isR (id := 2) ?_; refine zZ.rc [0, 1, 2, 6, 7, 8, 13] [1000, 1001, 1002] (r := (.v zV (.v kQ .e))) (h := ?_)) | refine zZ.yG rfl bA ?_ | refine zZ.exit ?_) | refine zF.n ?_ | refine zR.eY ?_ | refine zF.e ?_)
      all_goals (exact .ret (x := ()) (by exact .inr rfl) (by exact .none rfl) (by repeat' first | exact trivial | rfl | constructor) (by simp only [run_bind, zC, zJ, Held.zW, Held.zA, Held.zK, cond_true, cond_false, *] <;> rfl))
    | false =>
      have ho : (Pr.loop (retRound t r at_) n ()).run H.st s1 = (retLoop t r at_).run H.st s := ho
      cases n with
      | zero => exact absurd ho.symm hns
      | succ n =>
        rw [Pr.loop_succ] at ho
        rw [← ho] at hns ⊢
        repeat' (first | (refine zY.is ?_; first | refine zY.nil ?_ | (refine zY.at_ 21 rfl ?_; refine zY.rc (.v zV .e) ?_) | (refine zY.at_ 7 rfl ?_; refine zY.rc (.v zB .e) ?_) | (refine zY.at_ 8 rfl ?_; refine zY.rc (.v zB .e) ?_) | (refine zY.in_ [20] rfl ?_; refine zY.v rfl rfl (zP (cf) rfl rfl rfl (by decide)) ?_) | (refine zY.in_ [16] rfl ?_; refine zY.ofT rfl (zG.hd (i := []) (f := qZ H _ _) (r := fun x s e g hk => ?_) (p := fun q s e => ?_) (t := ?_))) | (refine zY.in_ [22] rfl ?_; refine zY.ofT rfl (zG.hd (i := []) (f := qR H _ _ _ (by assumption)) (r := fun x s e g hk => ?_) (p := fun q s e => ?_) (t := ?_))) | (refine zY.in_ [28] rfl ?_; refine zY.ofT rfl (zG.hd (i := []) (f := cas_h H _ _ _ _ (by assumption) hru) (r := fun x s e g hk => ?_) (p := fun q s e => ?_) (t := ?_)))) | (refine zZ.is ?_; first | refine zZ.seq ?_ | (refine zZ.isR (id := 2) ?_; refine zZ.rc [0, 1, 2, 6, 7, 8, 13] [1000, 1001, 1002] (r := (.v zV (.v v52_4 .e))) (h := ?_)) | (refine zZ.isR (id := 3) ?_; refine zZ.rc [0, 1, 2, 6, 7, 8, 13] [1000, 1001, 1002] (r := (.v xJ (.v zV .e))) (h := ?_)) | (refine zZ.isR (id := 4) ?_; refine zZ.rc [0, 1, 2, 6, 7, 8, 13] [1000, 1001, 1002] (r := (.v xJ (.v zV (.v zV .e)))) (h := ?_)) | (refine zZ.isR (id := 5) ?_; refine zZ.rc [0, 1, 2, 6, 7, 8, 13] [1000, 1001, 1002] (r := (.v xJ (.v zV (.v zV (.v zV (.v v6_0 .e)))))) (h := ?_)) | refine zZ.yN rfl bA ?_ | refine zZ.skip ?_ | refine zZ.block ?_) | refine zF.n ?_ | refine zF.p ?_ | refine zR.n ?_ | refine zR.p ?_)
        all_goals (first | exact fun e => hns (by clear hns; simp only [retRound, run_bind, zC, zJ, Held.zW, Held.zA, Held.zK, cond_true, cond_false, *]) | exact .pan (q := q) rfl (by repeat' first | exact trivial | rfl | constructor) (by repeat' exact trivial) (by simp only [retRound, run_bind, zC, zJ, Held.zW, Held.zA, Held.zK, cond_true, cond_false, *]) | skip)
        refine ⟨(x, n, s), ?_, ⟨by assumption, ?_⟩, Nat.lt_succ_self n⟩
        · exact z8 K_z K_0
        · clear ho hns
          simp only [retRound, run_bind, zC, Held.zW, *]
          cases x <;> rfl
/-! ### A walk's variable, and its steps -/
def vF (H : Hnd) (t p x : Int) : Blk := .box 154 [H.doA, .p (.val (.int .i64 t)), .p (.val (.int .i64 p)), .p (.val (.int .i64 x))]
theorem start_h (H : Hnd) (s0 : H.σ) {t p x : Int} (ht : Small t) : FnH H 114 [.ptr 1003 0] [vF H t p x] (fun _ => .any) (fun w => [vF H t 0 (xQ w)]) U s0 (xD 0) := by
  have cn : Fn Tryz.prog 61 [.val (.int .i64 t), .val (.int .i64 0)] (.p (.val (.int .i64 0))) := cnext_fn t 0 ht (by decide)
  unfold vF Hnd.doA
  refine yH Tryz.func114 rfl Tryz.ntmps114 (Nat.le_of_ble_eq_true rfl) (by decide) (yQ _) fun hok hns => ?_
  repeat' (first | (refine zZ.is ?_; (refine zZ.isR (id := 0) ?_; refine zZ.rk [0] [1000, 1001, 1002, 1003] ?_; refine zZ.drawGo (by kernel_rfl) ?_)) | (refine DGo.at_ [] ?_; refine DGo.fr 0 ?_) | (refine DGo.at_ [0] ?_; refine DGo.fr 1 ?_) | (refine DGo.at_ [1, 0] ?_; refine DGo.fr 2 ?_) | (refine DGo.at_ [2, 1, 0] ?_; refine DGo.fr 3 ?_) | (refine DGo.at_ [3, 2, 1, 0] ?_; refine DGo.fr 4 ?_) | (refine DGo.at_ [4, 3, 2, 1, 0] ?_; refine DGo.fr 6 ?_) | (refine DGo.at_ [6, 4, 3, 2, 1, 0] ?_; refine DGo.fr 7 ?_) | (refine DGo.at_ [7, 6, 4, 3, 2, 1, 0] ?_; refine DGo.fr 8 ?_) | (refine DGo.at_ [8, 7, 6, 4, 3, 2, 1, 0] ?_; refine DGo.all [5, 9] (by kernel_rfl) ?_) | (refine DGo.at_ [9, 8, 7, 6, 4, 3, 2, 1, 0] ?_; refine DGo.all [5, 10] (by kernel_rfl) ?_) | (refine DGo.at_ [10, 9, 8, 7, 6, 4, 3, 2, 1, 0] ?_; refine DGo.all [5] (by kernel_rfl) ?_) | (refine DGo.at_ [5, 10, 9, 8, 7, 6, 4, 3, 2, 1, 0] ?_; refine DGo.all [11] (by kernel_rfl) ?_) | (refine DGo.at_ [11, 5, 10, 9, 8, 7, 6, 4, 3, 2, 1, 0] ?_; refine DGo.all [12] (by kernel_rfl) ?_) | (refine DGo.at_ [12, 11, 5, 10, 9, 8, 7, 6, 4, 3, 2, 1, 0] ?_; refine DGo.fr 13 ?_) | (refine DGo.at_ [13, 12, 11, 5, 10, 9, 8, 7, 6, 4, 3, 2, 1, 0] ?_; refine DGo.fr 14 ?_) | (refine DGo.at_ [14, 13, 12, 11, 5, 10, 9, 8, 7, 6, 4, 3, 2, 1, 0] ?_; refine DGo.all [15] (by kernel_rfl) ?_) | (refine DGo.at_ [15, 14, 13, 12, 11, 5, 10, 9, 8, 7, 6, 4, 3, 2, 1, 0] ?_; refine DGo.fr 16 ?_) | (refine DGo.at_ [16, 15, 14, 13, 12, 11, 5, 10, 9, 8, 7, 6, 4, 3, 2, 1, 0] ?_; refine DGo.fr 17 ?_) | (refine DGo.at_ [17, 16, 15, 14, 13, 12, 11, 5, 10, 9, 8, 7, 6, 4, 3, 2, 1, 0] ?_; refine DGo.all [18] (by kernel_rfl) ?_) | (refine DGo.at_ [18, 17, 16, 15, 14, 13, 12, 11, 5, 10, 9, 8, 7, 6, 4, 3, 2, 1, 0] ?_; refine DGo.fin (by kernel_rfl) ?_) | (refine DGo.at_ [5, 9, 8, 7, 6, 4, 3, 2, 1, 0] ?_; refine DGo.all [10] (by kernel_rfl) ?_) | (refine DGo.at_ [10, 5, 9, 8, 7, 6, 4, 3, 2, 1, 0] ?_; refine DGo.all [11] (by kernel_rfl) ?_) | (refine DGo.at_ [11, 10, 5, 9, 8, 7, 6, 4, 3, 2, 1, 0] ?_; refine DGo.all [12] (by kernel_rfl) ?_) | (refine DGo.at_ [12, 11, 10, 5, 9, 8, 7, 6, 4, 3, 2, 1, 0] ?_; refine DGo.fr 13 ?_) | (refine DGo.at_ [13, 12, 11, 10, 5, 9, 8, 7, 6, 4, 3, 2, 1, 0] ?_; refine DGo.fr 14 ?_) | (refine DGo.at_ [14, 13, 12, 11, 10, 5, 9, 8, 7, 6, 4, 3, 2, 1, 0] ?_; refine DGo.all [15] (by kernel_rfl) ?_) | (refine DGo.at_ [15, 14, 13, 12, 11, 10, 5, 9, 8, 7, 6, 4, 3, 2, 1, 0] ?_; refine DGo.fr 16 ?_) | (refine DGo.at_ [16, 15, 14, 13, 12, 11, 10, 5, 9, 8, 7, 6, 4, 3, 2, 1, 0] ?_; refine DGo.fr 17 ?_) | (refine DGo.at_ [17, 16, 15, 14, 13, 12, 11, 10, 5, 9, 8, 7, 6, 4, 3, 2, 1, 0] ?_; refine DGo.all [18] (by kernel_rfl) ?_) | (refine DGo.at_ [18, 17, 16, 15, 14, 13, 12, 11, 10, 5, 9, 8, 7, 6, 4, 3, 2, 1, 0] ?_; refine DGo.fin (by kernel_rfl) ?_) | (refine DGo.at_ [5, 8, 7, 6, 4, 3, 2, 1, 0] ?_; refine DGo.all [9] (by kernel_rfl) ?_) | (refine DGo.at_ [9, 5, 8, 7, 6, 4, 3, 2, 1, 0] ?_; refine DGo.all [10] (by kernel_rfl) ?_) | (refine DGo.at_ [10, 9, 5, 8, 7, 6, 4, 3, 2, 1, 0] ?_; refine DGo.all [11] (by kernel_rfl) ?_) | (refine DGo.at_ [11, 10, 9, 5, 8, 7, 6, 4, 3, 2, 1, 0] ?_; refine DGo.all [12] (by kernel_rfl) ?_) | (refine DGo.at_ [12, 11, 10, 9, 5, 8, 7, 6, 4, 3, 2, 1, 0] ?_; refine DGo.fr 13 ?_) | (refine DGo.at_ [13, 12, 11, 10, 9, 5, 8, 7, 6, 4, 3, 2, 1, 0] ?_; refine DGo.fr 14 ?_) | (refine DGo.at_ [14, 13, 12, 11, 10, 9, 5, 8, 7, 6, 4, 3, 2, 1, 0] ?_; refine DGo.all [15] (by kernel_rfl) ?_) | (refine DGo.at_ [15, 14, 13, 12, 11, 10, 9, 5, 8, 7, 6, 4, 3, 2, 1, 0] ?_; refine DGo.fr 16 ?_) | (refine DGo.at_ [16, 15, 14, 13, 12, 11, 10, 9, 5, 8, 7, 6, 4, 3, 2, 1, 0] ?_; refine DGo.fr 17 ?_) | (refine DGo.at_ [17, 16, 15, 14, 13, 12, 11, 10, 9, 5, 8, 7, 6, 4, 3, 2, 1, 0] ?_; refine DGo.all [18] (by kernel_rfl) ?_) | (refine DGo.at_ [18, 17, 16, 15, 14, 13, 12, 11, 10, 9, 5, 8, 7, 6, 4, 3, 2, 1, 0] ?_; refine DGo.fin (by kernel_rfl) ?_) | refine zI.cons ?_ ?_ | exact zI.nil | (refine zL.at_ 5 ?_; refine zL.v rfl rfl rfl (yL rfl rfl rfl rfl rfl (by decide)) ?_) | (refine zL.at_ 9 ?_; refine zL.v rfl rfl rfl (yU rfl rfl rfl rfl rfl (by decide)) ?_) | (refine zL.at_ 10 ?_; refine zL.v rfl rfl rfl (by exact zP (cn) rfl rfl rfl (by decide)) ?_) | (refine zL.at_ 11 ?_; refine zL.ofT rfl rfl (zG.hd (i := []) (f := qZ H _ _) (r := fun x s e g hk => ?_) (p := fun q s e => ?_) (t := ?_))) | (refine zL.at_ 12 ?_; refine zL.v rfl rfl rfl (by exact zP (ref_fn _ (U.lo (by assumption)) (U.hi (by assumption))) rfl rfl rfl (by decide)) ?_) | (refine zL.at_ 15 ?_; refine zL.w rfl rfl (by exact yO rfl rfl rfl rfl rfl (by rfl) (by exact Nat.le_of_ble_eq_true rfl) rfl rfl) ?_) | (refine zL.at_ 18 ?_; refine zL.w rfl rfl (by exact yO rfl rfl rfl rfl rfl (by rfl) (by exact Nat.le_of_ble_eq_true rfl) rfl rfl) ?_))
  all_goals (first | exact fun e => hns (by clear hns; simp only [run_bind, zC, zJ, Held.zW, Held.zA, Held.zK, cond_true, cond_false, *]) | exact .pan (q := q) rfl (by repeat' first | exact trivial | rfl | constructor) (by repeat' first | exact trivial | exact ⟨_, rfl, rfl⟩ | constructor) (by simp only [run_bind, zC, zJ, Held.zW, Held.zA, Held.zK, cond_true, cond_false, *]) | exact .ret (x := x) (by exact .inr rfl) (by exact .none rfl) (by repeat' first | exact trivial | rfl | constructor) (by simp only [run_bind, zC, zJ, Held.zW, Held.zA, Held.zK, cond_true, cond_false, *] <;> rfl))
theorem field_h (H : Hnd) (s0 : H.σ) {t p x f : Int} (hx : Rc t x) (hf : 0 ≤ f ∧ f ≤ 7) : FnH H 81 [.ptr 1003 0, .p (.val (.int .i64 f))] [vF H t p x] (fun w => .p (.val (.int .u64 w))) (fun _ => [vF H t p x]) U s0 (xD (zQ t x f)) := by
  have cf := qG hx f hf
  unfold vF Hnd.doA
  refine yH Tryz.func81 rfl Tryz.ntmps81 (Nat.le_of_ble_eq_true rfl) (by decide) (yQ _) fun hok hns => ?_
  repeat' (first | (refine zY.nil ?_) | (refine zZ.is ?_; first | refine zZ.seq ?_ | (refine zZ.isR (id := 0) ?_; refine zZ.rc [0, 1] [1000, 1001, 1002, 1003] (r := (.v zB .e)) (h := ?_)) | (refine zZ.isR (id := 1) ?_; refine zZ.rk [0, 1, 4] [1000, 1001, 1002, 1003] ?_; refine zZ.draws ?_) | refine zZ.ret ?_) | refine zF.n ?_ | refine zF.p ?_ | (refine Draws.is ?_; first | refine Draws.rc (.v v0_2 (.v v4_0 (.v zM (.v wL (.v v0_2 (.v v4_0 (.v zM (.v zO (.v v0_2 (.v v4_0 (.v zM (.v zO (.v zV .e))))))))))))) ?_ | (refine Draws.in_ [18] rfl ?_; refine Draws.v rfl rfl (zP (cf) rfl rfl rfl (by decide)) ?_) | refine Draws.done (by kernel_rfl) (by kernel_rfl) (by kernel_rfl) ?_) | (refine zD.is ?_; first | refine zD.nil ?_ | (refine zD.at_ 4 rfl ?_; refine zD.rc (.v zB .e) ?_) | (refine zD.in_ [19] rfl ?_; refine zD.ofT rfl (zG.hd (i := []) (f := qZ H _ _) (r := fun x s e g hk => ?_) (p := fun q s e => ?_) (t := ?_)))))
  all_goals (first | exact fun e => hns (by clear hns; simp only [run_bind, zC, zJ, Held.zW, Held.zA, Held.zK, cond_true, cond_false, *]) | exact .pan (q := q) rfl (by repeat' first | exact trivial | rfl | constructor) (by repeat' first | exact trivial | exact ⟨_, rfl, rfl⟩ | constructor) (by simp only [run_bind, zC, zJ, Held.zW, Held.zA, Held.zK, cond_true, cond_false, *]) | exact .ret (by exact .inl rfl) (by exact .one rfl rfl) (by repeat' first | exact trivial | rfl | constructor) (by simp only [run_bind, zC, zJ, Held.zW, Held.zA, Held.zK, cond_true, cond_false, *] <;> rfl))
theorem on_h (H : Hnd) (s0 : H.σ) {t p x w : Int} (hw : U w) : FnH H 98 [.ptr 1003 0, .p (.val (.int .u64 w))] [vF H t p x] (fun _ => .any) (fun _ => [vF H t x (xQ w)]) yes s0 (.ret ()) := by
  have cr := ref_fn w hw.1 hw.2
  unfold vF Hnd.doA
  refine yH Tryz.func98 rfl Tryz.ntmps98 (Nat.le_of_ble_eq_true rfl) (by decide) trivial fun hok hns => ?_
  repeat' (first | (refine zZ.is ?_; (refine zZ.isR (id := 0) ?_; refine zZ.rk [0, 1] [1000, 1001, 1002, 1003] ?_; refine zZ.drawGo (by kernel_rfl) ?_)) | (refine DGo.at_ [] ?_; refine DGo.fr 0 ?_) | (refine DGo.at_ [0] ?_; refine DGo.fr 1 ?_) | (refine DGo.at_ [1, 0] ?_; refine DGo.fr 2 ?_) | (refine DGo.at_ [2, 1, 0] ?_; refine DGo.fr 3 ?_) | (refine DGo.at_ [3, 2, 1, 0] ?_; refine DGo.fr 4 ?_) | (refine DGo.at_ [4, 3, 2, 1, 0] ?_; refine DGo.fr 6 ?_) | (refine DGo.at_ [6, 4, 3, 2, 1, 0] ?_; refine DGo.all [5, 7] (by kernel_rfl) ?_) | (refine DGo.at_ [7, 6, 4, 3, 2, 1, 0] ?_; refine DGo.all [5] (by kernel_rfl) ?_) | (refine DGo.at_ [5, 7, 6, 4, 3, 2, 1, 0] ?_; refine DGo.fr 8 ?_) | (refine DGo.at_ [8, 5, 7, 6, 4, 3, 2, 1, 0] ?_; refine DGo.fr 9 ?_) | (refine DGo.at_ [9, 8, 5, 7, 6, 4, 3, 2, 1, 0] ?_; refine DGo.all [10] (by kernel_rfl) ?_) | (refine DGo.at_ [10, 9, 8, 5, 7, 6, 4, 3, 2, 1, 0] ?_; refine DGo.fr 11 ?_) | (refine DGo.at_ [11, 10, 9, 8, 5, 7, 6, 4, 3, 2, 1, 0] ?_; refine DGo.fr 12 ?_) | (refine DGo.at_ [12, 11, 10, 9, 8, 5, 7, 6, 4, 3, 2, 1, 0] ?_; refine DGo.all [13] (by kernel_rfl) ?_) | (refine DGo.at_ [13, 12, 11, 10, 9, 8, 5, 7, 6, 4, 3, 2, 1, 0] ?_; refine DGo.fin (by kernel_rfl) ?_) | (refine DGo.at_ [5, 6, 4, 3, 2, 1, 0] ?_; refine DGo.all [7] (by kernel_rfl) ?_) | (refine DGo.at_ [7, 5, 6, 4, 3, 2, 1, 0] ?_; refine DGo.fr 8 ?_) | (refine DGo.at_ [8, 7, 5, 6, 4, 3, 2, 1, 0] ?_; refine DGo.fr 9 ?_) | (refine DGo.at_ [9, 8, 7, 5, 6, 4, 3, 2, 1, 0] ?_; refine DGo.all [10] (by kernel_rfl) ?_) | (refine DGo.at_ [10, 9, 8, 7, 5, 6, 4, 3, 2, 1, 0] ?_; refine DGo.fr 11 ?_) | (refine DGo.at_ [11, 10, 9, 8, 7, 5, 6, 4, 3, 2, 1, 0] ?_; refine DGo.fr 12 ?_) | (refine DGo.at_ [12, 11, 10, 9, 8, 7, 5, 6, 4, 3, 2, 1, 0] ?_; refine DGo.all [13] (by kernel_rfl) ?_) | (refine DGo.at_ [13, 12, 11, 10, 9, 8, 7, 5, 6, 4, 3, 2, 1, 0] ?_; refine DGo.fin (by kernel_rfl) ?_) | refine zI.cons ?_ ?_ | exact zI.nil | (refine zL.at_ 5 ?_; refine zL.v rfl rfl rfl (yU rfl rfl rfl rfl rfl (by decide)) ?_) | (refine zL.at_ 7 ?_; refine zL.v rfl rfl rfl (by exact zP (cr) rfl rfl rfl (by decide)) ?_) | (refine zL.at_ 10 ?_; refine zL.w rfl rfl (by exact yO rfl rfl rfl rfl rfl (by rfl) (by exact Nat.le_of_ble_eq_true rfl) rfl rfl) ?_) | (refine zL.at_ 13 ?_; refine zL.w rfl rfl (by exact yO rfl rfl rfl rfl rfl (by rfl) (by exact Nat.le_of_ble_eq_true rfl) rfl rfl) ?_))
  all_goals (exact .ret (x := ()) (by exact .inr rfl) (by exact .none rfl) (by repeat' first | exact trivial | rfl | constructor) (by simp only [run_bind, zC, zJ, Held.zW, Held.zA, Held.zK, cond_true, cond_false, *] <;> rfl))
theorem save2_h (H : Hnd) (s0 : H.σ) {t x : Int} (hx : Rc t x) : FnH H 82 [H.doA, .p (.val (.int .i64 t)), .p (.val (.int .i64 x)), .p (.val (.int .i64 2))] [] (fun x => .p (.val (.bool x))) (fun _ => []) yes s0 (saveP t x 2) := save_h H s0 hx (.inr rfl)
def tookB (H : Hnd) (t p x w : Int) (r : Took) : Blk := vF H t p (bif r.d then xQ w else x)
theorem out_h (H : Hnd) (s0 : H.σ) {t p x w : Int} (ht : Small t) (hW : WOK p x) (hw : U w) : FnH H 115 [.ptr 1003 0, .p (.val (.int .u64 w))] [vF H t p x] (fun r => .tup ([.val (.bool r.d), .val (.bool r.ok)].map .p)) (fun r => [tookB H t p x w r]) yes s0 (takeP t p x w) := by
  have cn := cnext_fn t p ht hW.p.le
  have c1 := link_fn x hW.x.le
  have c2 := link_fn (xQ w) (kK w).le
  have c3 := ref_fn w hw.1 hw.2
  have u1 := hW.x.u2
  have u2 := (kK w).u2
  have hf := fine_take t p w hW.x
  have hx := hW.x.rc ht
  unfold tookB vF Hnd.doA
  refine yH Tryz.func115 rfl Tryz.ntmps115 (Nat.le_of_ble_eq_true rfl) (by decide) hf fun hok hns => ?_
  repeat' (first | (refine zY.is ?_; first | refine zY.nil ?_ | (refine zY.at_ 58 rfl ?_; refine zY.rc (.v v4_0 (.v zM (.w zS .e))) ?_) | (refine zY.in_ [57] rfl ?_; refine zY.v rfl rfl (zP (c3) rfl rfl rfl (by decide)) ?_)) | (refine zZ.is ?_; first | refine zZ.seq ?_ | (refine zZ.isR (id := 0) ?_; refine zZ.rc [0, 1] [1000, 1001, 1002, 1003] (r := (.v zB (.v zB .e))) (h := ?_)) | (refine zZ.isR (id := 1) ?_; refine zZ.rk [0, 1, 4, 5] [1000, 1001, 1002, 1003] ?_; refine zZ.draws ?_) | (refine zZ.isR (id := 2) ?_; refine zZ.rc [0, 1, 4, 5] [1000, 1001, 1002, 1003] (r := (.v zB (.v zB .e))) (h := ?_)) | (refine zZ.isR (id := 3) ?_; refine zZ.rc [0, 1, 4, 5] [1000, 1001, 1002, 1003] (r := (.v v0_2 (.v v4_0 (.v zM (.v zO (.v zB .e)))))) (h := ?_)) | (refine zZ.isR (id := 4) ?_; refine zZ.rk [0, 1, 4, 5, 6] [1000, 1001, 1002, 1003] ?_; refine zZ.draws ?_) | (refine zZ.isR (id := 5) ?_; refine zZ.rc [0, 1, 4, 5, 6] [1000, 1001, 1002, 1003] (r := (.v zB (.v zB .e))) (h := ?_)) | (refine zZ.isR (id := 6) ?_; refine zZ.rk [0, 1, 4, 5, 6] [1000, 1001, 1002, 1003] ?_; refine zZ.draws ?_) | (refine zZ.isR (id := 7) ?_; refine zZ.rc [0, 1, 4, 5] [1000, 1001, 1002, 1003] (r := (.v v0_2 (.v zV .e))) (h := ?_)) | (refine zZ.isR (id := 8) ?_; refine zZ.rc [4, 5] [1000, 1001, 1002, 1003] (r := (.v zB (.v zB .e))) (h := ?_)) | refine zZ.cond rfl (fun h => ?_) (fun h => ?_) | refine zZ.skip ?_ | refine zZ.ret ?_) | refine zF.n ?_ | refine zF.r ?_ | refine zF.p ?_ | (refine Draws.is ?_; first | refine Draws.rc (.v zV .e) ?_ | refine Draws.rc (.v v0_2 (.v v4_0 (.v zM (.v wL (.v v0_2 (.v v4_0 (.v zM (.v zO (.v zV .e))))))))) ?_ | refine Draws.rc (.v v0_2 (.v v4_0 (.v zM (.v wL (.v v0_2 (.v v4_0 (.v zM (.v zO (.v v0_2 (.v v4_0 (.v zM (.v zO .e)))))))))))) ?_ | (refine Draws.in_ [37] rfl ?_; refine Draws.v rfl rfl (zP (cn) rfl rfl rfl (by decide)) ?_) | (refine Draws.in_ [39] rfl ?_; refine Draws.v rfl rfl (zP (c1) rfl rfl rfl (by decide)) ?_) | (refine Draws.in_ [42] rfl ?_; refine Draws.v rfl rfl (zP (c2) rfl rfl rfl (by decide)) ?_) | (refine Draws.in_ [41] rfl ?_; refine Draws.v rfl rfl (zP (c3) rfl rfl rfl (by decide)) ?_) | refine Draws.done (by kernel_rfl) (by kernel_rfl) (by kernel_rfl) ?_) | (refine zD.is ?_; first | refine zD.nil ?_ | (refine zD.at_ 20 rfl ?_; refine zD.rc (.v v52_8 .e) ?_) | (refine zD.at_ 44 rfl ?_; refine zD.rc (.v v52_8 .e) ?_) | (refine zD.in_ [19] rfl ?_; refine zD.ofT rfl (zG.hd (i := []) (f := save2_h H _ hx) (r := fun x s e g hk => ?_) (p := fun q s e => ?_) (t := ?_))) | (refine zD.in_ [43] rfl ?_; refine zD.ofT rfl (zG.hd (i := []) (f := cas_h H _ _ _ _ u1 u2) (r := fun x s e g hk => ?_) (p := fun q s e => ?_) (t := ?_))) | (refine zD.in_ [54] rfl ?_; refine zD.ofT rfl (zG.hd (i := []) (f := retire_h H _ ht hW.x) (r := fun x s e g hk => ?_) (p := fun q s e => ?_) (t := ?_)))))
  all_goals try simp only [Bool.not_eq_true', Bool.not_eq_false'] at *
  all_goals first
    | exact .ret (x := .fail) (.inl rfl) (.tup rfl (by decide) (.cons (.tmp rfl) (.cons (.tmp rfl) .nil))) (by repeat' first | exact trivial | rfl | constructor) (by simp only [takeP, run_bind, zC, zJ, Held.zW, cond_true, cond_false, *])
    | exact .ret (x := .miss) (.inl rfl) (.tup rfl (by decide) (.cons (.tmp rfl) (.cons (.tmp rfl) .nil))) (by repeat' first | exact trivial | rfl | constructor) (by simp only [takeP, run_bind, zC, zJ, Held.zW, cond_true, cond_false, *])
    | skip
  all_goals (first | exact fun e => hns (by clear hns; simp only [takeP, run_bind, zC, zJ, Held.zW, Held.zA, Held.zK, cond_true, cond_false, *]) | exact .pan (q := q) rfl (by repeat' first | exact trivial | rfl | constructor) (by repeat' first | exact trivial | exact ⟨_, rfl, rfl⟩ | constructor) (by simp only [takeP, run_bind, zC, zJ, Held.zW, Held.zA, Held.zK, cond_true, cond_false, *]) | exact .ret (x := .done) (by exact .inl rfl) (by exact .tup rfl (by decide) (.cons (.tmp rfl) (.cons (.tmp rfl) .nil))) (by repeat' first | exact trivial | rfl | constructor) (by simp only [takeP, run_bind, zC, zJ, Held.zW, Held.zA, Held.zK, cond_true, cond_false, *] <;> rfl))
end Go.Proofs.YtmfbamiciieooaaGreatDoor
/- The pool; pins: the program's, whatever makes its accesses: contracts. -/
namespace Go.Proofs.YtmfbamiciieooaaGreatDoor
set_option maxRecDepth 100000
set_option maxHeartbeats 16000000
open Go Go.RowKit
set_option linter.unusedSimpArgs false
set_option linter.unusedVariables false
attribute [local irreducible] zY zZ Step zX Sub zD zG Fn zF zR xA
theorem tag1 {w : Int} (h : U w) : 0 ≤ tagF w + 1 := by have := h.1; unfold tagF; omega
theorem wtag1 {w : Int} (h : U w) : IntKind.u64.wrap (tagF w + 1) = tagF w + 1 := by
  have h1 := h.1
  have h2 := h.2
  unfold tagF
  exact wrap_u64 _ (by omega)
theorem wfirst (w : Int) : IntKind.u64.wrap (yM w) = yM w := wrap_u64 _ (by have := firstF_lo w; have := firstF_hi w; omega)
def popS (H : Hnd) (t : Int) (s : H.σ) : AS := { t := [(0, H.doA), (1, .p (.val (.int .i64 t))), (4, .p (.val (.int .i64 0)))], s := [(1000, H.b0 s), (1001, H.b1 s), (1002, H.b2 s)] }
theorem pop_h (H : Hnd) (s0 : H.σ) {t : Int} (ht : Small t) : FnH H 83 [H.doA, .p (.val (.int .i64 t))] [] (fun r => .p (.val (.int .i64 r))) (fun _ => []) Rf s0 (popP t) := by
  unfold Hnd.doA
  refine yH Tryz.func83 rfl Tryz.ntmps83 (Nat.le_of_ble_eq_true rfl) (by decide) (fine_pop t) fun hok hns => ?_
  repeat' (first | (refine zY.nil ?_) | (refine zZ.is ?_; first | refine zZ.seq ?_ | (refine zZ.isR (id := 0) ?_; refine zZ.rc [0, 1] [1000, 1001, 1002] (r := (.v zB .e)) (h := ?_))) | refine zF.n ?_)
  refine zZ.scopeL 0 (fun q : Nat × H.σ => popS H t q.2) (fun q => H.ok q.2 ∧ (Pr.loop (qM t) q.1 ()).run H.st q.2 = (popP t).run H.st s0) (fun q => q.1) (many, s0) ?h0 ⟨hok, rfl⟩ ?rd
  case h0 =>
    exact z8 K_2 K_0
  case rd =>
    rintro ⟨n, s1⟩ ⟨hok1, ho⟩
    dsimp only at hok1 ho ⊢
    rw [← ho] at hns ⊢
    unfold popS Hnd.doA
    cases n with
    | zero => exact absurd rfl hns
    | succ n =>
      rw [vY] at ho hns ⊢
      have F1 := fun (w : Int) (h : U w) => wtag1 h
      repeat' (first | (refine zY.is ?_; first | refine zY.nil ?_ | (refine zY.at_ 25 rfl ?_; refine zY.rc (.v v30_1 .e) ?_) | (refine zY.at_ 5 rfl ?_; refine zY.rc (.v zB .e) ?_) | (refine zY.at_ 6 rfl ?_; refine zY.rc (.v zB .e) ?_) | (refine zY.at_ 7 rfl ?_; refine zY.rc (.v zB .e) ?_) | (refine zY.in_ [11, 19] rfl ?_; refine zY.v rfl rfl (zP (first_fn _ (U.lo (by assumption)) (U.hi (by assumption))) rfl rfl rfl (by decide)) ?_) | (refine zY.in_ [24] rfl ?_; refine zY.v rfl rfl (zP (tag_fn _) rfl rfl rfl (by decide)) ?_) | (refine zY.in_ [26] rfl ?_; refine zY.v rfl rfl (zP (top_fn _ _ (firstF_lo _) (firstF_hi _) (tag1 (by assumption))) rfl rfl rfl (by decide)) ?_) | (refine zY.in_ [17] rfl ?_; refine zY.v rfl rfl (zP (qG ((qL _).rc ht) 7 (by decide)) rfl rfl rfl (by decide)) ?_) | (refine zY.in_ [9, 18] rfl ?_; refine zY.ofT rfl (zG.hd (i := []) (f := qZ H _ _) (r := fun x s e g hk => ?_) (p := fun q s e => ?_) (t := ?_))) | (refine zY.in_ [27] rfl ?_; refine zY.ofT rfl (zG.hd (i := []) (f := cas_h H _ _ _ _ (by assumption) (topF_U (qL _))) (r := fun x s e g hk => ?_) (p := fun q s e => ?_) (t := ?_)))) | (refine zZ.is ?_; first | refine zZ.seq ?_ | (refine zZ.isR (id := 1) ?_; refine zZ.rc [0, 1, 4, 5, 6, 7, 13, 27] [1000, 1001, 1002] (r := (.v xJ .e)) (h := ?_)) | (refine zZ.isR (id := 2) ?_; refine zZ.rc [0, 1, 4, 5, 6, 7, 13, 27] [1000, 1001, 1002] (r := (.v zV .e)) (h := ?_)) | (refine zZ.isR (id := 3) ?_; refine zZ.rc [0, 1, 4, 5, 6, 7, 13, 27] [1000, 1001, 1002] (r := (.v zV (.v v41_8 .e))) (h := ?_)) | (refine zZ.isR (id := 4) ?_; refine zZ.rc [0, 1, 4, 5, 6, 7, 13, 27] [1000, 1001, 1002] (r := (.v zB .e)) (h := ?_)) | (refine zZ.isR (id := 5) ?_; refine zZ.rc [0, 1, 4, 5, 6, 7, 13, 27] [1000, 1001, 1002] (r := (.v xJ (.v zV (.v zV .e)))) (h := ?_)) | (refine zZ.isR (id := 6) ?_; refine zZ.rc [0, 1, 4, 5, 6, 7, 13, 27] [1000, 1001, 1002] (r := (.v xJ (.v zV (.v zV (.v zV .e))))) (h := ?_)) | (refine zZ.isR (id := 7) ?_; refine zZ.rc [0, 1, 4, 5, 6, 7, 13, 27] [1000, 1001, 1002] (r := (.v zV (.v zB .e))) (h := ?_)) | refine zZ.cond rfl (fun h => ?_) (fun h => ?_) | refine zZ.skip ?_ | refine zZ.ret ?_ | refine zZ.goto ?_) | refine zF.n ?_ | refine zF.r ?_ | refine zF.p ?_ | refine xA.r ?_ | refine xA.g ?_ | refine xA.p ?_)
      all_goals (first | exact fun e => hns (by clear hns; simp only [qM, run_bind, zC, zJ, Held.zW, Held.zA, Held.zK, cond_true, cond_false, *]) | exact .pan (q := q) rfl (by repeat' first | exact trivial | rfl | constructor) (by repeat' exact trivial) (by simp only [qM, run_bind, zC, zJ, Held.zW, Held.zA, Held.zK, cond_true, cond_false, *]) | exact .ret (by exact .inl rfl) (by exact .one rfl rfl) (by repeat' first | exact trivial | rfl | constructor) (by simp only [qM, run_bind, zC, zJ, Held.zW, Held.zA, Held.zK, cond_true, cond_false, *] <;> rfl) | skip)
      have e1 : (qM t ()).run H.st s1 = .done (.inl ()) s := by
        clear ho hns
        simp only [qM, run_bind, zC, zJ, Held.zW, cond_true, cond_false, *]
      refine ⟨(n, s), ?_, ⟨by assumption, by rw [run_bind, e1, Held.zW]; rfl⟩, Nat.lt_succ_self n⟩
      exact z8 K_2 K_0
def pushS (H : Hnd) (t r : Int) (s : H.σ) : AS := { t := [(0, H.doA), (1, .p (.val (.int .i64 t))), (2, .p (.val (.int .i64 r)))], s := [(1000, H.b0 s), (1001, H.b1 s), (1002, H.b2 s)] }
theorem push_h (H : Hnd) (s0 : H.σ) {t r : Int} (ht : Small t) (hr : Rf r) : FnH H 52 [H.doA, .p (.val (.int .i64 t)), .p (.val (.int .i64 r))] [] (fun _ => .any) (fun _ => []) yes s0 (pushP t r) := by
  have cf := qG (hr.rc ht) 7 (by decide)
  have ct := fun g => top_fn r g hr.lo (by have := hr.hi; omega)
  unfold Hnd.doA
  refine yH Tryz.func52 rfl Tryz.ntmps52 (Nat.le_of_ble_eq_true rfl) (by decide) (fine_push t hr) fun hok hns => ?_
  refine zZ.scopeL 0 (fun q : Nat × H.σ => pushS H t r q.2) (fun q => H.ok q.2 ∧ (Pr.loop (qA t r) q.1 ()).run H.st q.2 = (pushP t r).run H.st s0) (fun q => q.1) (many, s0) ?h0 ⟨hok, rfl⟩ ?rd
  case h0 =>
    exact z8 K_10 K_0
  case rd =>
    rintro ⟨n, s1⟩ ⟨hok1, ho⟩
    dsimp only at hok1 ho ⊢
    rw [← ho] at hns ⊢
    unfold pushS Hnd.doA
    cases n with
    | zero => exact absurd rfl hns
    | succ n =>
      rw [vY] at ho hns ⊢
      have F1 := fun (w : Int) (h : U w) => wtag1 h
      have F2 := wfirst
      repeat' (first | (refine zY.is ?_; first | refine zY.nil ?_ | (refine zY.at_ 13 rfl ?_; refine zY.rc (.v zV .e) ?_) | (refine zY.at_ 15 rfl ?_; refine zY.rc (.v v6_2 .e) ?_) | (refine zY.at_ 22 rfl ?_; refine zY.rc (.v v30_1 .e) ?_) | (refine zY.at_ 25 rfl ?_; refine zY.rc (.v v52_8 .e) ?_) | (refine zY.at_ 6 rfl ?_; refine zY.rc (.v zB .e) ?_) | (refine zY.in_ [14] rfl ?_; refine zY.v rfl rfl (zP (first_fn _ (U.lo (by assumption)) (U.hi (by assumption))) rfl rfl rfl (by decide)) ?_) | (refine zY.in_ [21] rfl ?_; refine zY.v rfl rfl (zP (tag_fn _) rfl rfl rfl (by decide)) ?_) | (refine zY.in_ [23] rfl ?_; refine zY.v rfl rfl (zP (ct _ (tag1 (by assumption))) rfl rfl rfl (by decide)) ?_) | (refine zY.in_ [12] rfl ?_; refine zY.v rfl rfl (zP (cf) rfl rfl rfl (by decide)) ?_) | (refine zY.in_ [8] rfl ?_; refine zY.ofT rfl (zG.hd (i := []) (f := qZ H _ _) (r := fun x s e g hk => ?_) (p := fun q s e => ?_) (t := ?_))) | (refine zY.in_ [16] rfl ?_; refine zY.ofT rfl (zG.hd (i := []) (f := qR H _ _ _ (Rf.u (qL _))) (r := fun x s e g hk => ?_) (p := fun q s e => ?_) (t := ?_))) | (refine zY.in_ [24] rfl ?_; refine zY.ofT rfl (zG.hd (i := []) (f := cas_h H _ _ _ _ (by assumption) (topF_U hr)) (r := fun x s e g hk => ?_) (p := fun q s e => ?_) (t := ?_)))) | (refine zZ.is ?_; first | refine zZ.seq ?_ | (refine zZ.isR (id := 0) ?_; refine zZ.rc [0, 1, 2, 6, 25] [1000, 1001, 1002] (r := (.v xJ .e)) (h := ?_)) | (refine zZ.isR (id := 1) ?_; refine zZ.rc [0, 1, 2, 6, 25] [1000, 1001, 1002] (r := (.v xJ (.v zV (.v zV .e)))) (h := ?_)) | (refine zZ.isR (id := 2) ?_; refine zZ.rc [0, 1, 2, 6, 25] [1000, 1001, 1002] (r := (.v xJ (.v zV (.v zV (.v zV .e))))) (h := ?_)) | refine zZ.cond rfl (fun h => ?_) (fun h => ?_) | refine zZ.skip ?_ | refine zZ.goto ?_) | refine zF.n ?_ | refine zF.p ?_ | refine xA.n ?_ | refine xA.g ?_ | refine xA.p ?_)
      all_goals try simp only [Bool.not_eq_true', Bool.not_eq_false'] at *
      all_goals (first | exact fun e => hns (by clear hns; simp only [qA, run_bind, zC, zJ, Held.zW, Held.zA, Held.zK, cond_true, cond_false, *]) | exact .pan (q := q) rfl (by repeat' first | exact trivial | rfl | constructor) (by repeat' exact trivial) (by simp only [qA, run_bind, zC, zJ, Held.zW, Held.zA, Held.zK, cond_true, cond_false, *]) | exact .ret (x := ()) (by exact .inr rfl) (by exact .none rfl) (by repeat' first | exact trivial | rfl | constructor) (by simp only [qA, run_bind, zC, zJ, Held.zW, Held.zA, Held.zK, cond_true, cond_false, *] <;> rfl) | skip)
      have e1 : (qA t r ()).run H.st s1 = .done (.inl ()) s := by
        clear ho hns
        simp only [qA, run_bind, zC, zJ, Held.zW, cond_true, cond_false, *]
      refine ⟨(n, s), ?_, ⟨by assumption, by rw [run_bind, e1, Held.zW]; rfl⟩, Nat.lt_succ_self n⟩
      exact z8 K_10 K_0
theorem pin_h (H : Hnd) (s0 : H.σ) {me : Int} (hm : Small me) : FnH H 63 [H.doA, .p (.val (.int .i64 me))] [] (fun _ => .any) (fun _ => []) yes s0 (pinP me) := by
  have cp := pin_fn me hm
  have F1 := fun e : Int => (rfl : IntKind.u64.wrap (e + 1) = wr1 e)
  unfold Hnd.doA
  refine yH Tryz.func63 rfl Tryz.ntmps63 (Nat.le_of_ble_eq_true rfl) (by decide) (fine_pin me) fun hok hns => ?_
  repeat' (first | (refine zY.is ?_; first | refine zY.nil ?_ | (refine zY.at_ 7 rfl ?_; refine zY.rc (.v xJ .e) ?_) | (refine zY.at_ 9 rfl ?_; refine zY.rc (.v v30_1 .e) ?_) | (refine zY.in_ [6] rfl ?_; refine zY.v rfl rfl (zP (cp) rfl rfl rfl (by decide)) ?_) | (refine zY.in_ [8] rfl ?_; refine zY.ofT rfl (zG.hd (i := []) (f := qZ H _ _) (r := fun x s e g hk => ?_) (p := fun q s e => ?_) (t := ?_))) | (refine zY.in_ [10] rfl ?_; refine zY.ofT rfl (zG.hd (i := []) (f := qR H _ _ _ (wr1_U _)) (r := fun x s e g hk => ?_) (p := fun q s e => ?_) (t := ?_)))) | (refine zZ.is ?_; (refine zZ.isR (id := 0) ?_; refine zZ.rc [0, 1] [1000, 1001, 1002] (r := (.v xJ (.v zV .e))) (h := ?_))))
  all_goals (first | exact fun e => hns (by clear hns; simp only [pinP, run_bind, zC, zJ, Held.zW, Held.zA, Held.zK, cond_true, cond_false, *]) | exact .pan (q := q) rfl (by repeat' first | exact trivial | rfl | constructor) (by repeat' exact trivial) (by simp only [pinP, run_bind, zC, zJ, Held.zW, Held.zA, Held.zK, cond_true, cond_false, *]) | exact .ret (x := ()) (by exact .inr rfl) (by exact .none rfl) (by repeat' first | exact trivial | rfl | constructor) (by simp only [pinP, run_bind, zC, zJ, Held.zW, Held.zA, Held.zK, cond_true, cond_false, *] <;> rfl))
theorem unpin_h (H : Hnd) (s0 : H.σ) {me : Int} (hm : Small me) : FnH H 65 [H.doA, .p (.val (.int .i64 me))] [] (fun _ => .any) (fun _ => []) yes s0 (unpinP me) := by
  have cp := pin_fn me hm
  unfold Hnd.doA
  refine yH Tryz.func65 rfl Tryz.ntmps65 (Nat.le_of_ble_eq_true rfl) (by decide) (fine_unpin me) fun hok hns => ?_
  repeat' (first | (refine zY.is ?_; first | refine zY.nil ?_ | (refine zY.in_ [6] rfl ?_; refine zY.v rfl rfl (zP (cp) rfl rfl rfl (by decide)) ?_) | (refine zY.in_ [7] rfl ?_; refine zY.ofT rfl (zG.hd (i := []) (f := qR H _ _ _ U.zero) (r := fun x s e g hk => ?_) (p := fun q s e => ?_) (t := ?_)))) | (refine zZ.is ?_; (refine zZ.isR (id := 0) ?_; refine zZ.rc [0, 1] [1000, 1001, 1002] (r := (.v xJ (.v zV .e))) (h := ?_))))
  all_goals (first | exact fun e => hns (by clear hns; simp only [unpinP, run_bind, zC, zJ, Held.zW, Held.zA, Held.zK, cond_true, cond_false, *]) | exact .pan (q := q) rfl (by repeat' first | exact trivial | rfl | constructor) (by repeat' exact trivial) (by simp only [unpinP, run_bind, zC, zJ, Held.zW, Held.zA, Held.zK, cond_true, cond_false, *]) | exact .ret (x := ()) (by exact .inr rfl) (by exact .none rfl) (by repeat' first | exact trivial | rfl | constructor) (by simp only [unpinP, run_bind, zC, zJ, Held.zW, Held.zA, Held.zK, cond_true, cond_false, *] <;> rfl))
theorem swap_h (H : Hnd) (s0 : H.σ) (c v : Int) (hv : U v) : FnH H 119 [H.doA, .p (.val (.int .i64 c)), .p (.val (.int .u64 v))] [] (fun x => .p (.val (.int .u64 x))) (fun _ => []) U s0 (swapP c v) := by
  unfold Hnd.doA
  refine yH Tryz.func119 rfl Tryz.ntmps119 (Nat.le_of_ble_eq_true rfl) (by decide) (fine_swap c hv) fun hok hns => ?_
  repeat' (first | (refine zY.is ?_; first | refine zY.nil ?_ | (refine zY.at_ 12 rfl ?_; refine zY.rc (.v v11_0 (.v zB .e)) ?_) | (refine zY.in_ [11] rfl ?_; refine zY.ofT rfl (zG.hd (i := []) (f := do_h H s0 (wS 4 c v 0 xZ) (fine_swap c hv).1) (r := fun x s e g hk => ?_) (p := fun q s e => ?_) (t := ?_)))) | (refine zZ.is ?_; first | refine zZ.seq ?_ | (refine zZ.isR (id := 0) ?_; refine zZ.rc [0, 1, 2] [1000, 1001, 1002] (r := (.v zB .e)) (h := ?_)) | (refine zZ.isR (id := 1) ?_; refine zZ.rc [0, 1, 2, 6] [1000, 1001, 1002] (r := (.v xJ (.v zV (.v zV (.v xV .e))))) (h := ?_)) | refine zZ.ret ?_) | refine zF.n ?_ | refine zF.p ?_)
  all_goals first
    | exact fun e => absurd (by show (Pr.bind (.ask (wS 4 c v 0 xZ) .ret) fun r : xO => .ret r.n).run H.st s0 = _; rw [run_bind, e]; rfl) hns
    | exact .pan (q := q) rfl (by repeat' first | exact trivial | rfl | constructor) (by repeat' exact trivial) (by show (Pr.bind (.ask (wS 4 c v 0 xZ) .ret) fun r : xO => .ret r.n).run H.st s0 = _; rw [run_bind, e]; rfl)
    | exact .ret (by exact .inl rfl) (.one rfl rfl) (by repeat' first | exact trivial | rfl | constructor) (by show (Pr.bind (.ask (wS 4 c v 0 xZ) .ret) fun r : xO => .ret r.n).run H.st s0 = _; rw [run_bind, e]; rfl)
end Go.Proofs.YtmfbamiciieooaaGreatDoor
/- Rounds of a range over a function: code in a round; a frame that sleeps while others run. Generic over the program. -/
namespace Go.Proofs.YtmfbamiciieooaaGreatDoor
set_option maxRecDepth 100000
set_option maxHeartbeats 16000000
open Go Go.RowKit
set_option linter.unusedSimpArgs false
set_option linter.unusedVariables false
section
variable {P : Program} {n : Nat} {S : AS}
/-- the wide fence, at a frame of a round or of none -/
def wideF (r : Option Nat) : Fence := { Fence.wide with round := r }
theorem sem_at (r : Option Nat) (ρ : Operand → Value) (o : Oper) (h : ∀ c, o.op ≠ .defer c) : o.semAt r ρ = execOp ρ o := by
  cases r with
  | none => rfl
  | some l => exact Oper.semAt_some l ρ o h
/-- An operation that is no defer statement is carried out in a round as everywhere. -/
theorem wp_in {o : Oper} {a : Act} {w : World} {next next' : Act → World → Prop} {Q Q' : Exit → Act → World → Prop} (r : Option Nat) (hd : ∀ c, o.op ≠ .defer c) (hn : ∀ a w, next a w → next' a w) (hq : ∀ e a w, e ≠ .normal → Q e a w → Q' e a w) (h : o.wp P a w next Q) : o.wpIn (wideF r) 0 P a w next' Q' := by
  refine ⟨fun _ _ => trivial, ?_⟩
  show o.uponIn _ 0 P a next' Q' ((o.semAt r a.eval).run P w)
  rw [sem_at r a.eval o hd]
  unfold Oper.wp at h
  revert h
  cases (execOp a.eval o).run P w with
  | ok x w' =>
    cases x with
    | value v => exact fun h => hn _ _ h
    | skip => exact fun h => hn _ _ h
    | defer d => exact fun h => hn _ _ h
    | enter f args =>
      intro h
      have h1 : CallsIn (wideF r) 0 P f args w' _ := callsIn_wide.2 h
      refine ⟨fun h => (by cases h), h1.mono fun e w'' he => ?_⟩
      cases e with
      | returned v => exact hn _ _ he
      | panicked chain => exact hq _ _ _ (by simp) he
      | outgrown =>
        obtain ⟨a0, w0, h0⟩ := he
        exact ⟨a0, w0, hq _ _ _ (by simp) h0⟩
    | row row args =>
      intro h
      refine ⟨fun h => (by cases h), fun c cs _ => ?_⟩
      obtain ⟨v, w'', h1, h2⟩ := h c cs
      exact ⟨v, w'', hn _ _ h1, stepsIn_wide.2 h2⟩
    | _ => exact fun h => h.elim
  | halt s w' =>
    cases s with
    | panic v => exact fun h => hq _ _ _ (by simp) h
    | _ => exact fun h => h.elim
/-- operations, and others behind them -/
theorem wpList_app {ops : Array Oper} {Q Q' : Exit → Act → World → Prop} {l2 : List Oper} (r : Option Nat) (hq : ∀ a w, ¬ Q .outgrown a w) (hqq : ∀ e a w, e ≠ .normal → Q e a w → Q' e a w) (h2 : ∀ a w, Q .normal a w → wpListIn (wideF r) 0 P ops Q' l2 a w) :
    ∀ {l1 : List Oper} {a : Act} {w : World}, (∀ o ∈ l1, ∀ c, o.op ≠ .defer c) → wpList P ops Q l1 a w → wpListIn (wideF r) 0 P ops Q' (l1 ++ l2) a w
  | [], a, w, _, h => h2 a w h
  | o :: rest, a, w, hd, h => by
    unfold wpList at h
    show wpListIn _ _ _ _ _ (o :: (rest ++ l2)) a w
    unfold wpListIn
    by_cases hw : Region.wanted o (yielded ops a.tmps) = true
    · rw [if_pos hw] at h ⊢
      rcases h with h | ⟨_, a', w', h⟩
      · exact wp_in r (hd o (by simp)) (fun a w h => wpList_app r hq hqq h2 (fun o ho => hd o (by simp [ho])) h) hqq h
      · exact absurd h (hq a' w')
    · rw [if_neg hw] at h ⊢
      exact ⟨fun _ _ => trivial, wpList_app r hq hqq h2 (fun o ho => hd o (by simp [ho])) h⟩
theorem wpList_in {ops : Array Oper} {Q : Exit → Act → World → Prop} (r : Option Nat) (hq : ∀ a w, ¬ Q .outgrown a w) {rest : List Oper} {a : Act} {w : World} (hd : ∀ o ∈ rest, ∀ c, o.op ≠ .defer c) (h : wpList P ops Q rest a w) : wpListIn (wideF r) 0 P ops Q rest a w := by
  have := wpList_app (l2 := []) r hq (fun _ _ _ _ h => h) (fun a w h => h) hd h
  rwa [List.append_nil] at this
/-- Code in a round of loop l. -/
def ACodeR (l : Nat) (P : Program) (n : Nat) (c : Code) (S : AS) (K : Exit → AS → Prop) : Prop :=
  (∀ S, ¬ K .outgrown S) → ∀ (M : Nat → Nat → Prop) (w0 : Home) (ρ : Nat → Value) (a : Act) (w : World) (Q : Exit → Act → World → Prop),
    Sat M n w0 S ρ a w → (∀ e S' ρ' a' w', K (bare e) S' → Sat M n w0 S' ρ' a' w' → ExOK M S' ρ' w' e → Q e a' w') → c.wpIn (Fence.wide.inRound l) 0 P Q a w
def noDefer (l : List Oper) : Bool := l.all fun o => match o.op with
  | .defer _ => false
  | _ => true
theorem noDefer_of {l : List Oper} (h : noDefer l = true) : ∀ o ∈ l, ∀ c, o.op ≠ .defer c := fun o ho c e => by
  have := List.all_eq_true.1 h o ho
  rw [e] at this
  cases this
theorem ACodeR.region {r id : Nat} {l : List Oper} {K : Exit → AS → Prop} (hd : noDefer l = true) (h : zY P n l.toArray l S K) : ACodeR r P n (.region id l.toArray false) S K := by
  intro h0 M w0 ρ a w Q hs hK
  have h1 := h M w0 ρ a w (fun e a' w' => e ≠ .outgrown ∧ Q e a' w') hs fun e S' ρ' a' w' hk hs' hx => ⟨fun e1 => by subst e1; exact h0 _ hk, hK e S' ρ' a' w' hk hs' hx⟩
  have h2 : wpListIn (Fence.wide.inRound r) 0 P _ _ _ _ _ := wpList_in (some r) (fun a w h => h.1 rfl) (noDefer_of hd) h1
  exact wpIn_mono (wpIn_region_lit h2) fun e a w h => h.2
theorem ACodeR.block {r id : Nat} {c : Code} {K : Exit → AS → Prop} (h : ACodeR r P n c S (zR id K)) : ACodeR r P n (.block id c) S K :=
  fun h0 M w0 ρ a w Q hs hK => wpIn_block (h h0 M w0 ρ a w _ hs fun e S' ρ' a' w' hk hs' hx => by
    cases e with
    | exit id' =>
      show if id' = id then Q .normal a' w' else Q (.exit id') a' w'
      have hk' : if id' = id then K .normal S' else K (.exit id') S' := hk
      by_cases h1 : id' = id
      · rw [if_pos h1] at hk' ⊢; exact hK _ _ ρ' a' w' hk' hs' hx
      · rw [if_neg h1] at hk' ⊢; exact hK _ _ ρ' a' w' hk' hs' hx
    | normal => exact hK .normal S' ρ' a' w' hk hs' hx
    | goto l => exact hK (.goto l) S' ρ' a' w' hk hs' hx
    | ret => exact hK .ret S' ρ' a' w' hk hs' hx
    | panic c => exact hK (.panic c) S' ρ' a' w' hk hs' hx
    | outgrown => exact hK .outgrown S' ρ' a' w' hk hs' hx)
/-- at home anew: in the world as it is; its own blocks are handed over to it -/
def Home.anew (h : Home) (w : World) (T : Nat → Prop) (hl : Lays w) (ht : ∀ g, Tabs g → ¬ T g) : Home := ⟨w, T, hl, ht, h.r, h.ptr, h.lo, h.d⟩
end
end Go.Proofs.YtmfbamiciieooaaGreatDoor
/- A struct's literal of which parts are own rows, stored into a new variable; appending to nil. Generic over the program. -/
namespace Go.Proofs.YtmfbamiciieooaaGreatDoor
set_option maxRecDepth 100000
set_option maxHeartbeats 16000000
open Go Go.RowKit
set_option linter.unusedSimpArgs false
theorem cells_own {M : Nat → Nat → Prop} {n : Nat} {w0 : Home} {w : World} {S : AS} {ρ : Nat → Value} {a : Act} (hs : Sat M n w0 S ρ a w) {id2 : Nat} {b2 : Blk} {v : Value} (hb2 : S.blk id2 = some b2) (hrow : b2.isRow = true) (h2 : yV (Mut M S ρ) ρ w (.own id2) v) :
    yK (Mut M S ρ) ρ w (AV.own id2).xP v.cells.toList := own_cells hs hb2 hrow h2
section
variable {P : Program} {n : Nat} {ops : Array Oper} {S : AS} {K : Exit → AS → Prop}
theorem w_makeV1 {o : Oper} {d t e sz by_ m : Nat} {k : IntKind} {z : Value} {xl xc : Operand} [ht : Und P t (.slice e)] [hi : InfoA P e z sz by_] (ho : o.op = .makeSlice t xl xc) (hl : S.get xl = .p (.val (.int k (m : Int)))) (hc : S.get xc = .p (.val (.int k (m : Int)))) (hlim : m * sz ≤ 16777216 ∧ by_ * m ≤ 281474976710656 ∧ m ≤ maxLen)
    (hzs : z.cells.size = sz) (hsz : 0 < sz) (hzp : [z] = z.cells.toList) (h1 : z.cells.toList.all (fun u => u.oneCell') = true) (hd : o.dst = some d) (hn : d < n) : zX P n o S [] (.own d) (some (vG e sz (List.replicate m (.val z)))) :=
  w_makeV ho hl hc hlim hzs hsz (zp := .val z) (by rw [← hzp]; rfl) h1 hd hn
theorem w_makeVN {o : Oper} {d t e sz by_ m : Nat} {k : IntKind} {z : Value} {xl xc : Operand} [ht : Und P t (.slice e)] [hi : InfoA P e z sz by_] (ho : o.op = .makeSlice t xl xc) (hl : S.get xl = .p (.val (.int k (m : Int)))) (hc : S.get xc = .p (.val (.int k (m : Int)))) (hlim : m * sz ≤ 16777216 ∧ by_ * m ≤ 281474976710656 ∧ m ≤ maxLen)
    (hzs : z.cells.size = sz) (hsz : 0 < sz) (h1 : z.cells.toList.all (fun u => u.oneCell') = true) (hd : o.dst = some d) (hn : d < n) : zX P n o S [] (.own d) (some (vG e sz (List.replicate m (.agg (z.cells.toList.map PV.val))))) :=
  w_makeV ho hl hc hlim hzs hsz (zp := .agg (z.cells.toList.map PV.val)) rfl h1 hd hn
end
theorem sub_frzE {S : AS} (id e sz : Nat) (es : List PV) (hb : S.blk id = some (vG e sz es)) : Sub S (S.frz id (.sl es)) := sub_frz hb
end Go.Proofs.YtmfbamiciieooaaGreatDoor
/- Rows of slices that own their rows: a cell read as a slice that nobody turns; a nil in a cell as an own row; code in two parts with a frame between. Generic over the program. -/
namespace Go.Proofs.YtmfbamiciieooaaGreatDoor
set_option maxRecDepth 100000
set_option maxHeartbeats 16000000
open Go Go.RowKit
set_option linter.unusedSimpArgs false
section
variable {P : Program} {n : Nat} {o : Oper} {S : AS} {d : Nat} {t : TypeId} {x : Operand}
end
/-- a goal that a walk leaves -/
def Hold (p : Prop) : Prop := p
theorem Hold.go {p : Prop} (h : p) : Hold p := h
theorem zZ.hold {P : Program} {n id : Nat} {ops : Array Oper} {d : Bool} {S : AS} {c2 : Code} {K : Exit → AS → Prop} (h : Hold (zZ P n (.seq (.region id ops d) c2) S K)) : zZ P n (.seq (.region id ops d) c2) S K := h
attribute [irreducible] Hold
end Go.Proofs.YtmfbamiciieooaaGreatDoor
/- Iterators: code that calls yield between stretches that only make new values. Generic over the program. -/
namespace Go.Proofs.YtmfbamiciieooaaGreatDoor
set_option maxRecDepth 100000
set_option maxHeartbeats 16000000
open Go Go.RowKit
set_option linter.unusedSimpArgs false
set_option linter.unusedVariables false
section
variable {P : Program} {n : Nat} {S S' : AS} {M : Nat → Nat → Prop} {h : Home} {Q : Exit → Act → World → Prop}
/-- a way out, its end told in full -/
def WE (n : Nat) (M : Nat → Nat → Prop) (h : Home) (Q : Exit → Act → World → Prop) (e : Exit) (S : AS) : Prop := e ≠ .outgrown ∧ (∀ c, e ≠ .panic c) ∧ ∀ ρ a w, Sat M n h S ρ a w → Q e a w
/-- code of a frame at a home that is told, its end told in full -/
def WC (P : Program) (n : Nat) (c : Code) (S : AS) (M : Nat → Nat → Prop) (h : Home) (Q : Exit → Act → World → Prop) : Prop := ∀ ρ a w, Sat M n h S ρ a w → c.wp P Q a w
theorem bare_of {e e' : Exit} (h : bare e = e') (hn : ∀ c, e' ≠ .panic c) : e = e' := by
  cases e <;> first | exact h | exact absurd h.symm (hn _)
theorem WC.block {id : Nat} {c : Code} (hc : WC P n c S M h (Exit.inBlock id Q)) : WC P n (.block id c) S M h Q := fun ρ a w hs => wp_block (hc ρ a w hs)
theorem WC.run {c : Code} (hc : WC P n c S M h Q) {ρ : Nat → Value} {a : Act} {w : World} (hs : Sat M n h S ρ a w) : c.wp P Q a w := hc ρ a w hs
theorem WC.mk {c : Code} (hc : ∀ ρ a w, Sat M n h S ρ a w → c.wp P Q a w) : WC P n c S M h Q := hc
theorem WC.sub {c : Code} (hs : Sub S S') (hc : WC P n c S' M h Q) : WC P n c S M h Q := fun ρ a w h1 => by
  obtain ⟨ρ', h2⟩ := hs M n h ρ a w h1
  exact hc ρ' a w h2
/-- The caller's side of a loop over an iterator: J i Z w: i rounds are over; the blocks Z are the caller's to turn. -/
structure Yields (P : Program) (l : Nat) (M0 : Nat → Nat → Prop) (N : Nat) (ys : Nat → List PV) (J : Nat → (Nat → Prop) → World → Prop) : Prop where
  lt : ∀ i Z w k, J i Z w → Z k → k < w.heap.size
  ext : ∀ i Z w w', J i Z w → Below w.heap.size w w' → J i Z w'
  round : ∀ i Z w (vs : List Value), i < N → J i Z w → vs.length = (ys i).length → (∀ (j : Nat) c v, (ys i)[j]? = some c → vs[j]? = some v → Rep (fun k c => M0 k c ∨ Z k) w c v) →
    YieldAt Fence.wide 0 P l vs.toArray w fun e w' => e = .returned (.bool true) ∧ ∃ Z', J (i + 1) Z' w' ∧ w.heap.size ≤ w'.heap.size ∧ (∀ k, k < w.heap.size → ¬ Z k → w'.heap[k]? = w.heap[k]?) ∧ ∀ k, Z' k → Z k ∨ w.heap.size ≤ k
theorem run_yieldOp {o : Oper} {x : Operand} {args : Array Operand} {ts : Array TypeId} {l : Nat} {a : Act} {w : World} (ho : o.op = .call { callee := .value x, args := args, argTypes := ts }) (hx : a.eval x = .func (.yield l) #[] #[]) :
    (execOp a.eval o).run P w = (Instr.yield l (args.map a.eval)).run P w := by
  unfold execOp
  rw [ho]
  simp [resolve, Deferred.ofValue, hx, invoke]
/-- rounds, no more than N -/
theorem wp_loop_iter {c : Code} {N i0 : Nat} {a : Act} {w : World} (I : Nat → Act → World → Prop) (h0 : I i0 a w) (hi0 : i0 ≤ N) (round : ∀ i a w, i ≤ N → I i a w → c.wp P (Exit.then (fun a' w' => ∃ j, i < j ∧ j ≤ N ∧ I j a' w') Q) a w) : (Code.loop c).wp P Q a w := by
  intro b k cs
  have key : ∀ (m i : Nat) (a : Act) (w : World), N - i = m → i ≤ N → I i a w → ∃ e a' w', Q e a' w' ∧ Arrives P (lone (b.at a (.code c :: .inLoop c :: k)) cs w) b k cs e a' w' := by
    intro m
    induction m using Nat.strongRecOn with
    | _ m ih =>
      intro i a w hm hi hI
      obtain ⟨e, a₁, w₁, hq, harr⟩ := round i a w hi hI b (.inLoop c :: k) cs
      cases e with
      | normal =>
        obtain ⟨j, hlt, hj, hI'⟩ := hq
        obtain ⟨e₂, a₂, w₂, hq₂, harr₂⟩ := ih (N - j) (by omega) j a₁ w₁ rfl hj hI'
        exact ⟨e₂, a₂, w₂, hq₂, .of_steps (Steps.trans harr (.one step_inLoop)) harr₂⟩
      | exit id => exact ⟨_, a₁, w₁, hq, .pass (x := .inLoop c) rfl (fun _ _ => .inl (by simp)) harr⟩
      | goto l => exact ⟨_, a₁, w₁, hq, .pass (x := .inLoop c) rfl (fun _ _ => .inl (by simp)) harr⟩
      | ret => exact ⟨_, a₁, w₁, hq, .pass (x := .inLoop c) rfl (fun _ _ => .inl (by simp)) harr⟩
      | panic ch => exact ⟨_, a₁, w₁, hq, .pass (x := .inLoop c) rfl (fun _ _ => .inl (by simp)) harr⟩
      | outgrown => exact ⟨_, a₁, w₁, hq, .pass (x := .inLoop c) rfl (fun _ _ => .inl (by simp)) harr⟩
  obtain ⟨e, a', w', hq, harr⟩ := key _ i0 a w rfl hi0 h0
  exact ⟨e, a', w', hq, .of_steps (.one step_loop) harr⟩
end
attribute [irreducible] WC WE
end Go.Proofs.YtmfbamiciieooaaGreatDoor
/- A loop over an iterator: the caller's side. Generic over the program. -/
namespace Go.Proofs.YtmfbamiciieooaaGreatDoor
set_option maxRecDepth 100000
set_option maxHeartbeats 16000000
open Go Go.RowKit
set_option linter.unusedSimpArgs false
set_option linter.unusedVariables false
section
variable {P : Program} {n : Nat} {S : AS} {M : Nat → Nat → Prop} {h : Home} {ρ : Nat → Value} {a : Act} {w : World}
/-- the same frame, other deferred calls -/
theorem Sat.withD (hs : Sat M n h S ρ a w) (D : List Deferred) : Sat M n { h with d := D } S ρ { a with defers := D } w :=
  ⟨⟨hs.below.os, hs.below.tape, hs.below.output, hs.below.size, hs.below.block⟩, hs.out, hs.tab, hs.size, rfl, hs.tmps, hs.blks, hs.mine, hs.fix, hs.free, hs.dist⟩
end
section
variable {P : Program} {n : Nat} {M : Nat → Nat → Prop} {h : Home} {ρ : Nat → Value} {a : Act} {w : World}
end
end Go.Proofs.YtmfbamiciieooaaGreatDoor
