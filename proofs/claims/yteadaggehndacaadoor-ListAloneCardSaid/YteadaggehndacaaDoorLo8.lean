/- ALONE: records of keys that are told are searched for, linked where the search says, marked, and searched for again: the list is the keys that are in, rising (Part 8 of 8.) -/
import Derived.Test.YteadaggehndacaaDoorLo7
import Derived.ProofKit
import Derived.OpenShut
import Derived.Below
import Derived.LaidMore
import Derived.Deep.Fields
import Derived.Deep.Slices
import Derived.Test.YteadaggehndacaaDoorRows
import Derived.LaidLaws
import Derived.ChangeSame
import Derived.ChangeVars
import Derived.JoinedOf
import Derived.Stop.Joined
import Derived.RowKitTokens
import Derived.Test.YteadaggehndacaaDoorCards
import Derived.Test.YteadaggehndacaaDoorTie
import Derived.SevenTiedAt
/- The law ListSeeks: what a search and a seek alone answer of the records that are laid. -/
namespace Go.Proofs.YteadaggehndacaaDoor
set_option maxRecDepth 100000
set_option maxHeartbeats 16000000
open Go Go.RowKit
set_option linter.unusedSimpArgs false
set_option linter.unusedVariables false
def skWd (m : Int → Int) : Wd := ⟨1, 10, ofM 89 m, 0, [([], 0)], [([], 0)]⟩
section
variable {k : Int} {bs : List Bool} {s : SkS}
theorem SkOK.keys (_ : SkOK k bs s) : ∀ r : Int, 1 ≤ r → s.m (zF 1 r 1) = (fun r => s.m (zF 1 r 1)) r := fun _ _ => rfl
theorem SkOK.fl (h : SkOK k bs s) : ∀ x ∈ nms (skL 0 bs), qL (s.m (zF 1 x 2)) 2 = false := fun x hx => by
  have hb := (skL_nms bs 0 x).1 hx
  rw [h.f x (by omega) (by omega)]
  unfold qL
  rw [decide_eq_false (show ¬ 4 * x / 2 % 2 = 1 by omega)]
  simp
end
end Go.Proofs.YteadaggehndacaaDoor
/- The law ListAlone: what operations alone answer and leave, in worlds whose words are owned. -/
namespace Go.Proofs.YteadaggehndacaaDoor
set_option maxRecDepth 100000
set_option maxHeartbeats 16000000
open Go Go.RowKit
set_option linter.unusedSimpArgs false
set_option linter.unusedVariables false
/-- an operation alone, in a world whose words its caller owns -/
def OneZ (W W' : Wd) (op : PV) (most : Nat) (o : PV) : Prop := FnZL Tryd.prog 9 [W.av, .p (.val (.int .i64 (0 : Nat))), .p op, .p (.val (.int .i64 most))] [] [wS W.ws] [W'.av, .p o, .p (.val (.bool true))] [] [wS W'.ws]
theorem la_run {α : Type} {p : Pr α} {m m' : Int → Int} {x : α} {n b most : Nat} {W : Wd} (hp : Rns 12 p m x m' n) (hm : MemW 12 W m) (hok : WdOK (1000 * b) W) (hs : W.r0.length = 1) (hn : n ≤ most) (hmost : most ≤ 400) (hb : b ≤ 30000)
    {k u v w : Int} (hop : OpL k u v w) (F : α → Pr OutN) (o : OutN) (hF : F x = .ret o) (hq : opL 1 k u v w = p.bind F) :
    ∃ W', MemW 12 W' m' ∧ WdOK (1000 * (b + n)) W' ∧ W'.r0.length = 1 ∧ W'.c = W.c ∧ OneZ W W' (opV k u v w) most (outV o.e o.is o.n o.w) := by
  obtain ⟨W', j, hr, hm', hj⟩ := hp W 0 hm
  have ht : W.t = 1 := hm.t
  have hr2 : (opL W.t k u v w).run (wSt 0 qH) (W, 0) = .done o (W', j) := by
    rw [ht, hq, run_bind]
    rw [show p.run (wSt 0 qH) (W, 0) = .done x (W', j) from hr, Held.zB, hF]
    rfl
  have hk := run_keeps (fine_opL (t := W.t) hop) hok hr2
  exact ⟨W', hm', hk.2.1.le (by omega), hk.2.2.2.2.1.trans hs, hk.2.2.2.1, aloneZ_fn (1000 * b) W W' 0 k u v w most j o hok (by rw [ht]; unfold Small; omega) (by rw [hs]; decide) hop hr2 (by omega) (by omega) (by omega) (by omega)⟩
structure LaI (W : Wd) (m : Int → Int) (ins : List Int) (next : Int) (b : Nat) : Prop where
  mem : MemW 12 W m
  ls : LsI 12 m (inA 0 ins) (fun r => next ≤ r ∧ r ≤ 12)
  key : KeyA (fun r => m (zF 1 r 1)) 0 ins
  len : ins.length = 16
  nx : 1 ≤ next ∧ next ≤ 13
  bd : ∀ v ∈ ins, 0 ≤ v ∧ v < next
  ok : WdOK (1000 * b) W
  s : W.r0.length = 1
  c : W.c = 12
theorem KeyA.cong {key key' : Int → Int} {k : Int} {l : List Int} (h : KeyA key k l) (he : ∀ v ∈ l, v ≠ 0 → key' v = key v) : KeyA key' k l := fun j v hv h0 => (he v (List.mem_of_getElem? hv) h0).trans (h j v hv h0)
section
variable {W : Wd} {m : Int → Int} {a c : List Int} {v next : Int} {b : Nat}
theorem LaI.vb (h : LaI W m (a ++ v :: c) next b) : 0 ≤ v ∧ v < next := h.bd v (by simp)
/-- a search for a key that isn't in -/
theorem LaI.miss (h : LaI W m (a ++ 0 :: c) next b) (hb : b ≤ 30000) : ∃ W' m', LaI W' m' (a ++ 0 :: c) next (b + 177) ∧ OneZ W W' (opV 8 0 0 a.length) 200 (outV 0 false (hd (inA (a.length + 1) c)) (wG 0 (inA 0 a))) := by
  obtain ⟨e1, e2, e3⟩ := srch_none h.key
  have hl := inA_len (a ++ 0 :: c) 0
  rw [h.len] at hl
  obtain ⟨m', hr, ha, hk⟩ := search_run (C := 12) (by decide) (key := fun r => m (zF 1 r 1)) a.length h.ls.lk h.ls.nd h.ls.fl h.ls.e (fun _ _ => rfl) (by omega)
  have hls := h.ls.aft ha hk (srchL_sub _ _ _) (kI _ _ _) (srchT_off _ _ (List.nodup_cons.1 h.ls.nd).2)
  rw [e2, ← e3] at hls
  rw [e1] at hr
  have hal : a.length ≤ 16 := by have := h.len; simp at this; omega
  obtain ⟨W', h1, h2, h3, h4, h5⟩ := la_run (most := 200) (hr.le (show _ ≤ 177 by omega)) h.mem h.ok h.s (by decide) (by decide) hb (k := 8) (u := 0) (v := 0) (w := a.length) ⟨fun _ => ⟨by decide, by decide⟩, fun h => absurd h (by decide), ⟨by omega, by omega⟩⟩ (fun r => bif r.ok then .ret ⟨0, r.is, r.x, r.p⟩ else .ret ⟨7, false, 0, 0⟩) ⟨0, false, hd (inA (a.length + 1) c), wG 0 (inA 0 a)⟩ rfl rfl
  exact ⟨W', m', ⟨h1, hls, h.key.cong fun v hv h0 => ha.f v 1 (by have := h.bd v hv; omega) (by decide) (by decide) (by decide), h.len, h.nx, h.bd, h2, h3, h4.trans h.c⟩, h5⟩
/-- for one that is -/
theorem LaI.hit (h : LaI W m (a ++ v :: c) next b) (hv : v ≠ 0) (hb : b ≤ 30000) : ∃ W' m' p, LaI W' m' (a ++ v :: c) next (b + 177) ∧ OneZ W W' (opV 8 0 0 a.length) 200 (outV 0 true v p) ∧ 0 ≤ p ∧ p ≤ 12 := by
  obtain ⟨e1, e2, e3⟩ := srch_some hv h.key
  have hl := inA_len (a ++ v :: c) 0
  rw [h.len] at hl
  obtain ⟨m', hr, ha, hk⟩ := search_run (C := 12) (by decide) (key := fun r => m (zF 1 r 1)) a.length h.ls.lk h.ls.nd h.ls.fl h.ls.e (fun _ _ => rfl) (by omega)
  have hls := h.ls.aft ha hk (srchL_sub _ _ _) (kI _ _ _) (srchT_off _ _ (List.nodup_cons.1 h.ls.nd).2)
  rw [e2] at hls
  rw [e1] at hr
  have hal : a.length ≤ 16 := by have := h.len; simp at this; omega
  have hpb : 0 ≤ wG 0 (inA 0 a) ∧ wG 0 (inA 0 a) ≤ 12 := by
    rcases lastN_in (inA 0 a) 0 with e | e
    · rw [e]; decide
    · have := h.ls.lk.bnd (wG 0 (inA 0 a)) (by rw [e3, wN]; exact List.mem_append_left _ e); omega
  obtain ⟨W', h1, h2, h3, h4, h5⟩ := la_run (most := 200) (hr.le (show _ ≤ 177 by omega)) h.mem h.ok h.s (by decide) (by decide) hb (k := 8) (u := 0) (v := 0) (w := a.length) ⟨fun _ => ⟨by decide, by decide⟩, fun h => absurd h (by decide), ⟨by omega, by omega⟩⟩ (fun r => bif r.ok then .ret ⟨0, r.is, r.x, r.p⟩ else .ret ⟨7, false, 0, 0⟩) ⟨0, true, v, wG 0 (inA 0 a)⟩ rfl rfl
  exact ⟨W', m', _, ⟨h1, hls, h.key.cong fun v hv h0 => ha.f v 1 (by have := h.bd v hv; omega) (by decide) (by decide) (by decide), h.len, h.nx, h.bd, h2, h3, h4.trans h.c⟩, h5, hpb⟩
/-- the mark, and the search behind it -/
theorem LaI.drop (h : LaI W m (a ++ v :: c) next b) (hv : v ≠ 0) (hb : b ≤ 29000) : ∃ W1 W' m' p x, LaI W' m' (a ++ 0 :: c) next (b + 179) ∧ OneZ W W1 (opV 9 v 0 0) 9 (outV 0 true 0 0) ∧ OneZ W1 W' (opV 8 0 0 a.length) 200 (outV 0 false x p) := by
  have hvb := h.vb
  have hnx := h.nx
  have e3 := inA_set (a := a) (b := c) hv
  have hal : a.length ≤ 16 := by have := h.len; simp at this; omega
  obtain ⟨r1, l1⟩ := h.ls.mark e3
  obtain ⟨W1, h1, h2, h3, h4, h5⟩ := la_run (most := 9) r1 h.mem h.ok h.s (by decide) (by decide) (by omega) (k := 9) (u := v) (v := 0) (w := 0) ⟨fun _ => ⟨by omega, by omega⟩, fun h => absurd h (by decide), U.zero⟩ (fun b => .ret ⟨0, b, 0, 0⟩) ⟨0, true, 0, 0⟩ rfl rfl
  have hf1 : ∀ r f : Int, 1 ≤ r → 1 ≤ f → f ≤ 7 → mrkM m v (zF 1 r f) = m (zF 1 r f) := fun r f hr h1 h2 => yQ _ _ (Ne.symm (nf_ne v r f (by omega) hr ⟨h1, h2⟩))
  have hmem : ∀ {y : Int}, y ∈ a ++ 0 :: c → y = 0 ∨ y ∈ a ++ v :: c := fun {y} hy => by
    simp only [List.mem_append, List.mem_cons] at hy ⊢
    rcases hy with hy | hy | hy
    · exact .inr (.inl hy)
    · exact .inl hy
    · exact .inr (.inr (.inr hy))
  have hkey0 : KeyA (fun r => mrkM m v (zF 1 r 1)) 0 (a ++ 0 :: c) := fun j y hy h0 => by
    have hj : (a ++ v :: c)[j]? = some y := by
      by_cases e : j = a.length
      · subst e
        rw [List.getElem?_append_right (Nat.le_refl _), Nat.sub_self] at hy
        exact absurd (Option.some.inj hy).symm h0
      · by_cases hlt : j < a.length
        · rw [List.getElem?_append_left hlt] at hy ⊢; exact hy
        · rw [List.getElem?_append_right (by omega)] at hy ⊢
          obtain ⟨k, hk⟩ : ∃ k, j - a.length = k + 1 := ⟨j - a.length - 1, by omega⟩
          rw [hk] at hy ⊢
          exact hy
    have hyb := h.bd y (List.mem_of_getElem? hj)
    show mrkM m v (zF 1 y 1) = 0 + (j : Int)
    rw [hf1 y 1 (by omega) (by decide) (by decide)]
    exact h.key j y hj h0
  obtain ⟨d1, d2⟩ := srch_dead (v := v) hkey0
  have hok2 := srch_ok (fun r => mrkM m v (zF 1 r 1)) a.length (inA 0 a ++ (v, true) :: inA (a.length + 1) c) 0
  have hl := inA_len (a ++ v :: c) 0
  rw [h.len, e3] at hl
  have hll : (inA 0 a ++ (v, true) :: inA (a.length + 1) c).length = (inA 0 a ++ (v, false) :: inA (a.length + 1) c).length := by simp
  obtain ⟨m', hr, ha, hk⟩ := search_run (C := 12) (by decide) (key := fun r => mrkM m v (zF 1 r 1)) a.length l1.lk l1.nd l1.fl l1.e (fun _ _ => rfl) (by omega)
  have hls := l1.aft ha hk (srchL_sub _ _ _) (kI _ _ _) (srchT_off _ _ (List.nodup_cons.1 l1.nd).2)
  rw [d2] at hls
  generalize srch (fun r => mrkM m v (zF 1 r 1)) a.length 0 (inA 0 a ++ (v, true) :: inA (a.length + 1) c) = fr at *
  obtain ⟨fp, fx, fis, fok⟩ := fr
  dsimp only at d1 hok2
  subst d1 hok2
  obtain ⟨W2, k1, k2, k3, k4, k5⟩ := la_run (most := 200) (hr.le (show _ ≤ 177 by omega)) h1 h2 h3 (by decide) (by decide) (by omega) (k := 8) (u := 0) (v := 0) (w := a.length) ⟨fun _ => ⟨by decide, by decide⟩, fun h => absurd h (by decide), ⟨by omega, by omega⟩⟩ (fun r => bif r.ok then .ret ⟨0, r.is, r.x, r.p⟩ else .ret ⟨7, false, 0, 0⟩) ⟨0, false, fx, fp⟩ rfl rfl
  refine ⟨W1, W2, m', fp, fx, ⟨k1, hls, hkey0.cong fun y hy h0 => ?_, by have := h.len; simp at this ⊢; omega, h.nx, fun y hy => ?_, k2.le (by omega), k3, (k4.trans h4).trans h.c⟩, h5, k5⟩
  · have hyb : 0 ≤ y := by
      rcases hmem hy with e | e
      · omega
      · exact (h.bd y e).1
    exact ha.f y 1 (by omega) (by decide) (by decide) (by decide)
  · rcases hmem hy with e | e
    · omega
    · exact h.bd y e
/-- a record's key and flags, as the law lays them -/
def layM (m : Int → Int) (r k : Int) : Int → Int := vC (vC m (zF 1 r 1) k) (zF 1 r 2) (4 * r)
/-- they are laid in the world's words, and the record is linked -/
theorem LaI.add (h : LaI W m (a ++ 0 :: c) next b) (hn : next ≤ 12) {W0 : Wd} (hW : W0 = { W with ws := (W.ws.set (zF 1 next 1).toNat (a.length : Int)).set (zF 1 next 2).toNat (4 * next) }) (hb : b ≤ 30000) :
    ∃ W' m', LaI W' m' (a ++ next :: c) (next + 1) (b + 2) ∧ OneZ W0 W' (opV 24 (wG 0 (inA 0 a)) (hd (inA (a.length + 1) c)) next) 9 (outV 0 true 0 0) := by
  have hnx := h.nx
  have hal : a.length ≤ 16 := by have := h.len; simp at this; omega
  obtain ⟨e1, e2, e3⟩ := srch_none h.key
  have i1 : InW 12 (zF 1 next 1) := ⟨by rw [y9]; omega, by rw [y9]; omega⟩
  have i2 : InW 12 (zF 1 next 2) := ⟨by rw [y9]; omega, by rw [y9]; omega⟩
  have hm0 : MemW 12 W0 (layM m next a.length) := by
    rw [hW]
    exact (h.mem.set i1 _).set i2 _
  have hok0 : WdOK (1000 * b) W0 := by
    rw [hW]
    refine ⟨fun x hx => ?_, by show (List.set _ _ _).length ≤ _; rw [List.length_set, List.length_set]; exact h.ok.len, h.ok.root, h.ok.rows, h.ok.str⟩
    rcases List.mem_or_eq_of_mem_set hx with hx | rfl
    · rcases List.mem_or_eq_of_mem_set hx with hx | rfl
      · exact h.ok.ws x hx
      · exact ⟨by omega, by omega⟩
    · exact ⟨by omega, by omega⟩
  have hs0 : W0.r0.length = 1 := by rw [hW]; exact h.s
  have hc0 : W0.c = 12 := by rw [hW]; exact h.c
  have hnn : ∀ r : Int, 0 ≤ r → layM m next a.length (yC 1 r) = m (yC 1 r) := fun r hr => by
    unfold layM
    rw [yQ _ _ (nf_ne r next 2 hr hnx.1 (by decide)), yQ _ _ (nf_ne r next 1 hr hnx.1 (by decide))]
  have hff : ∀ r f : Int, 1 ≤ r → r ≠ next → 1 ≤ f → f ≤ 7 → layM m next a.length (zF 1 r f) = m (zF 1 r f) := fun r f hr hne h1 h2 => by
    unfold layM
    rw [yQ _ _ (ff_ne r next f 2 (.inl hne) (by omega) (by decide)), yQ _ _ (ff_ne r next f 1 (.inl hne) (by omega) (by decide))]
  have hf2 : layM m next a.length (zF 1 next 2) = 4 * next := kW _ _ _
  have hf1 : layM m next a.length (zF 1 next 1) = a.length := by
    unfold layM
    rw [yQ _ _ (ff_ne next next 1 2 (.inr (by decide)) (by decide) (by decide)), kW]
  have h3 : layM m next a.length 3 = m 3 := by
    unfold layM
    rw [yQ _ _ (by rw [y9]; omega), yQ _ _ (by rw [y9]; omega)]
  have hpos := h.ls.lk.pos
  obtain ⟨ho1, ho2⟩ := h.ls.off next hnx.1 ⟨Int.le_refl _, hn⟩
  have hls0 : LsI 12 (layM m next a.length) (inA 0 (a ++ 0 :: c)) (fun r => next ≤ r ∧ r ≤ 12) := by
    refine ⟨h.ls.lk.keep fun r hr => hnn r ?_, h.ls.nd, fun x hx => ?_, by rw [h3]; exact h.ls.e, fun r h1 h2 => ⟨(h.ls.off r h1 h2).1, ?_⟩⟩
    · rcases hr with rfl | hr
      · exact Int.le_refl _
      · have := hpos r hr; omega
    · rw [hff x 2 (hpos x hx) (fun e => ho1 (e ▸ hx)) (by decide) (by decide)]
      exact h.ls.fl x hx
    · by_cases e : r = next
      · rw [e, hf2]; exact hasF_quad
      · rw [hff r 2 h1 e (by decide) (by decide)]; exact (h.ls.off r h1 h2).2
  rw [e3] at hls0
  have hcut : Cut (inA 0 a ++ inA (a.length + 1) c) 0 (hd (inA (a.length + 1) c)) (inA 0 a) (inA (a.length + 1) c) := ⟨rfl, fun y hy => (inA_mem h.key.app.1 y hy).1, rfl⟩
  obtain ⟨r1, l1⟩ := hls0.link hcut rfl ⟨hnx.1, hn⟩ ⟨Int.le_refl _, hn⟩
  have hbd := hls0.lk.bnd
  have hpb : 0 ≤ wG 0 (inA 0 a) ∧ wG 0 (inA 0 a) ≤ 12 := by
    rcases lastN_in (inA 0 a) 0 with e | e
    · rw [e]; decide
    · have := hbd (wG 0 (inA 0 a)) (by rw [wN]; exact List.mem_append_left _ e); omega
  have hxb : 0 ≤ hd (inA (a.length + 1) c) ∧ hd (inA (a.length + 1) c) ≤ 12 := by
    cases hl : inA (a.length + 1) c with
    | nil => decide
    | cons y t =>
      have := hbd y.1 (by rw [wN, hl]; exact List.mem_append_right _ (List.mem_cons_self ..))
      show 0 ≤ y.1 ∧ y.1 ≤ 12
      omega
  obtain ⟨W', k1, k2, k3, k4, k5⟩ := la_run (most := 9) r1 hm0 hok0 hs0 (by decide) (by decide) hb (k := 24) (u := wG 0 (inA 0 a)) (v := hd (inA (a.length + 1) c)) (w := next) ⟨fun _ => ⟨by omega, by omega⟩, fun _ => ⟨⟨by omega, by omega⟩, ⟨by omega, by omega⟩⟩, ⟨by omega, by omega⟩⟩ (fun b => .ret ⟨0, b, 0, 0⟩) ⟨0, true, 0, 0⟩ rfl rfl
  have hn0 : next ≠ 0 := by omega
  refine ⟨W', _, ⟨k1, ?_, ?_, by have := h.len; simp at this ⊢; omega, by omega, fun y hy => ?_, k2, k3, k4.trans hc0⟩, k5⟩
  · rw [inA_set (a := a) (b := c) hn0]
    exact ⟨l1.lk, l1.nd, l1.fl, l1.e, fun r h1 h2 => l1.off r h1 ⟨⟨by omega, h2.2⟩, by omega⟩⟩
  · intro j y hy h0
    have hkl : ∀ r : Int, 1 ≤ r → lnkM (layM m next a.length) (wG 0 (inA 0 a)) (hd (inA (a.length + 1) c)) next (zF 1 r 1) = layM m next a.length (zF 1 r 1) := fun r hr => by
      unfold lnkM
      rw [yQ _ _ (Ne.symm (nf_ne _ r 1 hpb.1 hr (by decide))), yQ _ _ (Ne.symm (nf_ne next r 1 (by omega) hr (by decide)))]
    show lnkM (layM m next a.length) (wG 0 (inA 0 a)) (hd (inA (a.length + 1) c)) next (zF 1 y 1) = 0 + (j : Int)
    by_cases e : j = a.length
    · subst e
      rw [List.getElem?_append_right (Nat.le_refl _), Nat.sub_self] at hy
      have hy : next = y := Option.some.inj hy
      subst hy
      rw [hkl next hnx.1, hf1]; omega
    · have hj : (a ++ 0 :: c)[j]? = some y := by
        by_cases hlt : j < a.length
        · rw [List.getElem?_append_left hlt] at hy ⊢; exact hy
        · rw [List.getElem?_append_right (by omega)] at hy ⊢
          obtain ⟨k, hk⟩ : ∃ k, j - a.length = k + 1 := ⟨j - a.length - 1, by omega⟩
          rw [hk] at hy ⊢
          exact hy
      have hyb := h.bd y (List.mem_of_getElem? hj)
      rw [hkl y (by omega), hff y 1 (by omega) (by omega) (by decide) (by decide)]
      exact h.key j y hj h0
  · simp only [List.mem_append, List.mem_cons] at hy
    rcases hy with hy | hy | hy
    · have := h.bd y (by simp [hy]); omega
    · omega
    · have := h.bd y (by simp [hy]); omega
end
end Go.Proofs.YteadaggehndacaaDoor
/- A row of words, as it is stored in word by word: what the walk asks of it. Generic over the program. -/
namespace Go.Proofs.YteadaggehndacaaDoor
set_option maxRecDepth 100000
set_option maxHeartbeats 16000000
open Go Go.RowKit
set_option linter.unusedSimpArgs false
set_option linter.unusedVariables false
structure RowF (n : Nat) (R : List PV) (m : Int → Int) : Prop where
  e : R = wds (ofM n m)
section
variable {n : Nat} {R : List PV} {m : Int → Int} {p : Int}
theorem RowF.of (n : Nat) (m : Int → Int) : RowF n (wds (ofM n m)) m := ⟨rfl⟩
theorem RowF.set (h : RowF n R m) (hp : 0 ≤ p ∧ p < n) (v : Int) : RowF n (R.set p.toNat (.val (.int .u64 v))) (vC m p v) := ⟨by rw [h.e, kY, ofM_set n m hp.1 hp.2]⟩
theorem RowF.k (h : RowF n R m) : ∀ e ∈ R, e.cells.length = 1 := by rw [h.e]; exact vT _
theorem RowF.c (h : RowF n R m) : ∀ e ∈ R, e.cells = [e] := by
  rw [h.e]
  intro e he
  obtain ⟨x, _, rfl⟩ := List.mem_map.1 he
  rfl
theorem RowF.len (h : RowF n R m) : R.length = n := by rw [h.e, wR, ofM_len]
theorem RowF.r (h : RowF n R m) (hp : 0 ≤ p ∧ p < n) : (0 : Int) ≤ p ∧ p < (R.length : Nat) := by rw [h.len]; exact hp
theorem RowF.i (h : RowF n R m) (hp : 0 ≤ p ∧ p < n) : p.toNat < R.length := by rw [h.len]; omega
theorem RowF.g (h : RowF n R m) (hp : 0 ≤ p ∧ p < n) {v : Int} (hv : m p = v) : R[p.toNat * 1]? = some (.val (.int .u64 v)) := by
  rw [h.e, Nat.mul_one]
  refine wds_at ?_
  rw [ofM_at _ _ (by omega), show ((p.toNat : Nat) : Int) = p by omega, hv]
end
end Go.Proofs.YteadaggehndacaaDoor
/- Two worlds that are the same: contract. -/
namespace Go.Proofs.YteadaggehndacaaDoor
set_option maxRecDepth 100000
set_option maxHeartbeats 16000000
open Go Go.RowKit
set_option linter.unusedSimpArgs false
set_option linter.unusedVariables false
attribute [local irreducible] zY zZ Step zQ Sub zO zR Fn
def sameMS (v : PV) (i : Nat) : AS := { t := [(2, .ptr 2 0), (3, .ptr 3 0), (5, .p (.val (.int .i64 (i : Nat))))], s := [(2, .box 26 (v.cells.map AV.p)), (3, .box 26 (v.cells.map AV.p))] }
def sameRS (v : PV) (i : Nat) : AS := { t := [(0, .p v), (1, .p v), (5, .p (.val (.int .i64 (i : Nat))))], s := [] }
end Go.Proofs.YteadaggehndacaaDoor
/- The records that are linked, as wealdref15.Linked tells them: contract. -/
namespace Go.Proofs.YteadaggehndacaaDoor
set_option maxRecDepth 100000
set_option maxHeartbeats 16000000
open Go Go.RowKit
set_option linter.unusedSimpArgs false
set_option linter.unusedVariables false
attribute [local irreducible] zY zZ Step zQ Sub zO zR Fn zS yA
def yF (l : List Int) : List PV := l.map fun x => .val (.int .i64 x)
theorem qN (l : List Int) : (yF l).length = l.length := by simp [yF]
theorem numsV_app (l : List Int) (x : Int) : yF l ++ [.val (.int .i64 x)] = yF (l ++ [x]) := by simp [yF]
theorem Lnk.nth {C : Nat} {m : Int → Int} : ∀ {l : List (Int × Bool)} {p : Int} {k : Bool} {j : Nat} {x : Int} {b : Bool}, Lnk C m p k l → l[j]? = some (x, b) → (1 ≤ x ∧ x ≤ C) ∧ Lnk C m x b (l.drop (j + 1))
  | [], _, _, _, _, _, _, e => by simp at e
  | (y, c) :: l, p, k, 0, x, b, h, e => by
    simp at e
    obtain ⟨rfl, rfl⟩ := e
    exact ⟨h.2.1, h.2.2⟩
  | (y, c) :: l, p, k, j + 1, x, b, h, e => Lnk.nth (l := l) h.2.2 (by simpa using e)
def lkF (C : Nat) (ws : List Int) (l : List (Int × Bool)) (j : Nat) : AS := { t := [(1, .ptr 1 0), (3, .own 42), (4, .p (.val (.int .i64 (hd (l.drop j)))))], s := [(1, .box 26 [.p (.val (.int .i64 1)), .p (.val (.int .i64 (C : Nat))), .p (.sl (wds ws))]), (42, yG 3 1 (yF (nms (l.take j))))] }
theorem linked_fn {C : Nat} (hC : C ≤ 100000) {m : Int → Int} {l : List (Int × Bool)} (h : Lnk C m 0 false l) (hl : l.length ≤ C) {ws : List Int} (hat : ∀ c : Nat, c < 9 + 8 * C → ws[c]? = some (m c)) : Fn Tryd.prog 11 [.agg [.val (.int .i64 1), .val (.int .i64 (C : Nat)), .sl (wds ws)]] (.p (.sl (yF (nms l)))) := by
  have hw := h.word
  have hb := h.hd_le
  have e0 : (wds ws)[0]? = some (.val (.int .u64 (m 0))) := wds_at (hat 0 (by omega))
  have e1 := vT ws
  have hw0 : m 0 = 2 * hd l := by have e : m 0 = 2 * hd l + bI false := hw; rw [e]; show 2 * hd l + 0 = _; omega
  have c0 : Fn Tryd.prog 27 [.val (.int .u64 (m 0))] (.p (.val (.int .i64 (hd l)))) := by
    have := refRef_fn (m 0) (by omega) (by omega)
    rw [show xL (m 0) = hd l by unfold xL; omega] at this
    exact this
  refine xV Tryd.func11 rfl Tryd.ntmps11 (Nat.le_of_ble_eq_true rfl) ?_
  repeat' (first | (refine zY.is ?_; first | refine zY.nil ?_ | (refine zY.at_ 4 rfl ?_; refine zY.rc (.v yV .e) ?_) | (refine zY.in_ [9] rfl ?_; refine zY.v rfl rfl (yK (c0) rfl rfl rfl (by decide)) ?_)) | (refine zZ.is ?_; first | refine zZ.seq ?_ | (refine zZ.isR (id := 0) ?_; refine zZ.rc [0] [1, 2, 3, 27] (r := (.m m18_0 (.v yV .e))) (h := ?_)) | (refine zZ.isR (id := 1) ?_; refine zZ.rc [1, 2] [1, 2, 3, 27] (r := (.v yV .e)) (h := ?_)) | (refine zZ.isR (id := 2) ?_; refine zZ.rc [1, 2, 3] [1, 2, 3, 27] (r := (.v yR (.v yN (.v v7_18 (.v v2_1 .e))))) (h := ?_)) | refine zZ.block ?_) | refine zS.n ?_)
  refine zZ.loop (lkF C ws l) (fun j => j ≤ l.length) (fun j => l.length - j) 0 ?h0 (Nat.zero_le _) ?rd
  case h0 =>
    unfold lkF
    refine (sub_adopt (d := 3) (id := 42) (ty := 3) (sz := 1) (by decide) rfl).trans ?_
    refine (vH (id := 42) (b := .row 3 1 0 []) (b' := yG 3 1 []) (by rfl) (vO 3 1 [])).sub.trans ?_
    exact yS K_29 K_2a
  case rd =>
    intro j hj
    unfold lkF
    by_cases hlt : j < l.length
    case pos =>
      obtain ⟨⟨x, b⟩, hx⟩ : ∃ p, l[j]? = some p := ⟨_, List.getElem?_eq_getElem hlt⟩
      obtain ⟨hx1, hx2⟩ := h.nth hx
      have hdx : hd (l.drop j) = x := by
        rw [List.drop_eq_getElem_cons hlt]
        rw [List.getElem?_eq_getElem hlt] at hx
        rw [Option.some.inj hx]
        rfl
      have htk : nms (l.take j) ++ [x] = nms (l.take (j + 1)) := by rw [List.take_add_one, hx]; simp [nms]
      have hwx := hx2.word
      have hbx := hx2.hd_le
      rw [nx_pos hx1.1] at hwx
      rw [hdx]
      obtain ⟨pn, hpn⟩ : ∃ pn : Nat, zF 1 x 0 = (pn : Int) := ⟨(zF 1 x 0).toNat, by rw [y9]; omega⟩
      have hpl : pn < 9 + 8 * C := by have := hpn; rw [y9] at this; omega
      have c1 := qD 1 x 0 (by unfold Small; omega) (by omega) (by unfold Small; omega)
      rw [hpn] at c1 hwx
      have e2 : (wds ws)[pn]? = some (.val (.int .u64 (m pn))) := wds_at (hat pn hpl)
      have hbi := bI_lt b
      have c2 : Fn Tryd.prog 27 [.val (.int .u64 (m pn))] (.p (.val (.int .i64 (hd (l.drop (j + 1)))))) := by
        have := refRef_fn (m pn) (by omega) (by omega)
        rw [show xL (m pn) = hd (l.drop (j + 1)) by unfold xL; omega] at this
        exact this
      have g1 : decide (0 < x) = true := decide_eq_true (by omega)
      have g2 : decide (x ≤ (C : Nat)) = true := decide_eq_true (by omega)
      have g3 : decide (((yF (nms (l.take j))).length : Int) ≤ (C : Nat)) = true := decide_eq_true (by rw [qN, nms, List.length_map, List.length_take]; omega)
      have r6 : ∀ z ∈ ([.val (.int .i64 x)] : List PV), z.cells.length = 1 := fun z hz => by rw [List.mem_singleton.1 hz]; rfl
      have r7 : ([.val (.int .i64 x)] : List PV).length * 8 ≤ 140737488355328 ∧ ([.val (.int .i64 x)] : List PV).length ≤ maxLen := by simp [maxLen]
      have r8 : ((yF (nms (l.take j))).length + ([.val (.int .i64 x)] : List PV).length) * 8 ≤ 140737488355328 ∧ (yF (nms (l.take j))).length + ([.val (.int .i64 x)] : List PV).length ≤ maxLen := by
        have e : (yF (nms (l.take j))).length = j := by rw [qN, nms, List.length_map, List.length_take]; omega
        rw [e]
        simp [maxLen]
        omega
      have ps_ := trivial
      repeat' (first | (refine zY.nil ?_) | (refine zZ.is ?_; first | refine zZ.seq ?_ | (refine zZ.isR (id := 3) ?_; refine zZ.rc [1, 2, 3, 4, 24] [1, 2, 3, 27, 42] (r := (.v zC (.v v45_0 (.v zC (.gY zC (.gY yR (.gY yN (.gY v44_0 (.v qI (.v zC (.gY v0_1 (.gY v57_5 (.gY yR (.gY yN (.gY v44_0 (.v qI .e)))))))))))))))) (h := ?_)) | (refine zZ.isR (id := 4) ?_; refine zZ.rc [1, 2, 3, 4, 24] [1, 2, 3, 27, 42] (r := (.v v0_1 (.v zC (.v v20_0 (.w w55_2 (.v v1_1 .e)))))) (h := ?_)) | (refine zZ.isR (id := 5) ?_; refine zZ.rk [1, 2, 3, 4, 24] [1, 2, 3, 27, 42] ?_; refine zZ.draws ?_) | refine zZ.yT rfl bA ?_ | refine zZ.skip ?_ | refine zZ.block ?_) | refine zS.n ?_ | refine yA.n ?_ | (refine Draws.is ?_; first | refine Draws.rc (.v yV .e) ?_ | refine Draws.rc (.v yR (.v yN (.v yR (.v yN (.v zC .e))))) ?_ | refine Draws.rc (.v v7_18 (.v v2_1 .e)) ?_ | (refine Draws.in_ [34] rfl ?_; refine Draws.v rfl rfl (yK (c1) rfl rfl rfl (by decide)) ?_) | (refine Draws.in_ [37] rfl ?_; refine Draws.v rfl rfl (yK (c2) rfl rfl rfl (by decide)) ?_) | refine Draws.done (by kernel_rfl) (by kernel_rfl) (by kernel_rfl) ?_) | (refine zO.nil ?_))
      all_goals
        refine ⟨j + 1, ?_, hlt, by omega⟩
        rw [← htk, ← numsV_app]
        refine yM (is := [1, 3, 4]) (js := [1, 42]) ?_ ?_
        case refine_1 =>
          repeat' first | exact zX.nil | apply zX.p rfl | apply zX.ptr rfl | apply zX.own rfl | apply zX.clo rfl | apply zX.ifp rfl | apply zX.pt rfl | apply zX.tup rfl | apply zX.skip
        case refine_2 =>
          repeat' first | exact zW.nil | apply zW.boxP rfl rfl | apply zW.xG rfl | apply zW.some rfl | apply zW.skip
    case neg =>
      have hd0 : hd (l.drop j) = 0 := by rw [List.drop_of_length_le (by omega)]; rfl
      have htk : l.take j = l := List.take_of_length_le (by omega)
      rw [hd0, htk]
      repeat' (first | (refine zY.nil ?_) | (refine zZ.is ?_; first | refine zZ.seq ?_ | (refine zZ.isR (id := 3) ?_; refine zZ.rc [1, 2, 3, 4, 24] [1, 2, 3, 27, 42] (r := (.v zC (.v v45_5 (.v zC (.gT (.gT (.gT (.gT (.v qY (.v zC (.gT (.gT (.gT (.gT (.gT (.v qY .e)))))))))))))))) (h := ?_)) | (refine zZ.isR (id := 6) ?_; refine zZ.rc [2, 3] [1, 2, 3, 27, 42] (r := (.v v0_1 (.v v1_1 .e))) (h := ?_)) | refine zZ.yU rfl bA ?_ | refine zZ.exit ?_ | refine zZ.ret ?_) | refine zS.n ?_ | refine yA.eY ?_ | refine zS.e ?_)
      all_goals exact ⟨by first | exact .inl rfl | exact .inr rfl, _, sub_frzE 42 3 1 _ rfl, GivesV.p rfl (.tmp rfl)⟩
end Go.Proofs.YteadaggehndacaaDoor
/- Do the keys of the records that are linked rise? wealdref15.Sorted, of a list whose keys do: contract. -/
namespace Go.Proofs.YteadaggehndacaaDoor
set_option maxRecDepth 100000
set_option maxHeartbeats 16000000
open Go Go.RowKit
set_option linter.unusedSimpArgs false
set_option linter.unusedVariables false
attribute [local irreducible] zY zZ Step zQ Sub zO zR Fn zS yA
theorem Lnk.bndA {C : Nat} {m : Int → Int} : ∀ {l : List (Int × Bool)} {p : Int} {k : Bool}, Lnk C m p k l → ∀ y ∈ nms l, 1 ≤ y ∧ y ≤ C
  | [], _, _, _, y, hy => absurd hy (by simp [nms])
  | (x, b) :: l, p, k, h, y, hy => by
    rcases List.mem_cons.1 hy with rfl | hy
    · exact h.2.1
    · exact Lnk.bndA h.2.2 y hy
def srF (C : Nat) (ws : List Int) (xs : List Int) (j : Nat) : AS := { t := [(1, .ptr 1 0), (3, .p (.sl (yF xs))), (4, .p (.val (.int .i64 ((j : Nat) + 1))))], s := [(1, .box 26 [.p (.val (.int .i64 1)), .p (.val (.int .i64 (C : Nat))), .p (.sl (wds ws))])] }
theorem sorted_fn {C : Nat} (hC : C ≤ 100000) {m : Int → Int} {l : List (Int × Bool)} (h : Lnk C m 0 false l) (hl : l.length ≤ C) {ws : List Int} (hat : ∀ c : Nat, c < 9 + 8 * C → ws[c]? = some (m c))
    (hk : ∀ (j : Nat) x y, (nms l)[j]? = some x → (nms l)[j + 1]? = some y → m (zF 1 x 1) < m (zF 1 y 1)) : Fn Tryd.prog 12 [.agg [.val (.int .i64 1), .val (.int .i64 (C : Nat)), .sl (wds ws)]] (.p (.val (.bool true))) := by
  have c0 := linked_fn hC h hl hat
  have hbd := h.bndA
  have hnl : (nms l).length = l.length := by unfold nms; rw [List.length_map]
  have f1 : decide ((C : Int) < ((yF (nms l)).length : Int)) = false := decide_eq_false (by rw [qN]; omega)
  generalize nms l = xs at *
  refine xV Tryd.func12 rfl Tryd.ntmps12 (Nat.le_of_ble_eq_true rfl) ?_
  repeat' (first | (refine zY.is ?_; first | refine zY.nil ?_ | (refine zY.at_ 3 rfl ?_; refine zY.rc (.v yV .e) ?_) | (refine zY.in_ [8] rfl ?_; refine zY.v rfl rfl (yK (c0) rfl rfl rfl (by decide)) ?_)) | (refine zZ.is ?_; first | refine zZ.seq ?_ | (refine zZ.isR (id := 0) ?_; refine zZ.rc [0] [1] (r := (.m m18_0 (.v yV .e))) (h := ?_)) | (refine zZ.isR (id := 1) ?_; refine zZ.rc [1, 2] [1] (r := (.v v2_6 .e)) (h := ?_)) | (refine zZ.isR (id := 2) ?_; refine zZ.rc [1, 2, 3] [1] (r := (.v zC (.v v57_1 (.v yR (.v yN (.v v45_0 .e)))))) (h := ?_)) | (refine zZ.isR (id := 4) ?_; refine zZ.rc [1, 2, 3] [1] (r := (.v yV .e)) (h := ?_)) | refine zZ.yU rfl bA ?_ | refine zZ.skip ?_ | refine zZ.block ?_) | refine zS.n ?_)
  refine zZ.loop (srF C ws xs) (fun j => True) (fun j => xs.length - j) 0 ?h0 trivial ?rd
  case h0 =>
    unfold srF
    refine yM (is := [1, 3, 4]) (js := [1]) ?_ ?_
    case refine_1 =>
      repeat' first | exact zX.nil | apply zX.p rfl | apply zX.ptr rfl | apply zX.own rfl | apply zX.clo rfl | apply zX.ifp rfl | apply zX.pt rfl | apply zX.tup rfl | apply zX.skip
    case refine_2 =>
      repeat' first | exact zW.nil | apply zW.boxP rfl rfl | apply zW.xG rfl | apply zW.some rfl | apply zW.skip
  case rd =>
    intro j _
    unfold srF
    by_cases hlt : j + 1 < xs.length
    case pos =>
      obtain ⟨x, hx⟩ : ∃ x, xs[j]? = some x := ⟨_, List.getElem?_eq_getElem (show j < xs.length by omega)⟩
      obtain ⟨y, hy⟩ : ∃ x, xs[j + 1]? = some x := ⟨_, List.getElem?_eq_getElem hlt⟩
      have hxy := hk j x y hx hy
      have hxb := hbd x (List.mem_of_getElem? hx)
      have hyb := hbd y (List.mem_of_getElem? hy)
      obtain ⟨pn, hpn⟩ : ∃ pn : Nat, zF 1 x 1 = (pn : Int) := ⟨(zF 1 x 1).toNat, by rw [y9]; omega⟩
      obtain ⟨qn, hqn⟩ : ∃ pn : Nat, zF 1 y 1 = (pn : Int) := ⟨(zF 1 y 1).toNat, by rw [y9]; omega⟩
      have hpl : pn < 9 + 8 * C := by have := hpn; rw [y9] at this; omega
      have hql : qn < 9 + 8 * C := by have := hqn; rw [y9] at this; omega
      have c1 := qD 1 x 1 (by unfold Small; omega) (by omega) (by unfold Small; omega)
      have c2 := qD 1 y 1 (by unfold Small; omega) (by omega) (by unfold Small; omega)
      rw [hpn] at c1 hxy
      rw [hqn] at c2 hxy
      have e1 := vT ws
      have e2 : (wds ws)[pn]? = some (.val (.int .u64 (m pn))) := wds_at (hat pn hpl)
      have e3 : (wds ws)[qn]? = some (.val (.int .u64 (m qn))) := wds_at (hat qn hql)
      have e4 : (yF xs)[j]? = some (.val (.int .i64 x)) := by unfold yF; rw [List.getElem?_map, hx]; rfl
      have e5 : (yF xs)[j + 1]? = some (.val (.int .i64 y)) := by unfold yF; rw [List.getElem?_map, hy]; rfl
      have e6 : ∀ z ∈ yF xs, z.cells.length = 1 := fun z hz => by obtain ⟨y, _, rfl⟩ := List.mem_map.1 hz; rfl
      have g1 : decide ((j : Int) + 1 < ((yF xs).length : Int)) = true := decide_eq_true (by rw [qN]; omega)
      have w1 : IntKind.i64.wrap ((j : Int) + 1 - 1) = (j : Int) := by rw [wrap_i64 _ (by omega)]; omega
      have w2 : IntKind.i64.wrap ((j : Int) + 1 + 1) = ((j + 1 : Nat) : Int) + 1 := by rw [wrap_i64 _ (by omega)]; omega
      have g2 : decide (m (qn : Int) ≤ m (pn : Int)) = false := decide_eq_false (by omega)
      have hj : ((j : Int) + 1) = ((j + 1 : Nat) : Int) := by omega
      rw [hj] at g1 w1 w2 ⊢
      repeat' (first | (refine zY.nil ?_) | (refine zZ.is ?_; first | refine zZ.seq ?_ | (refine zZ.isR (id := 5) ?_; refine zZ.rc [1, 2, 3, 4, 5, 6, 17, 45] [1] (r := (.v zC (.v zC (.v v57_1 (.v v43_0 .e))))) (h := ?_)) | (refine zZ.isR (id := 7) ?_; refine zZ.rk [1, 2, 3, 4, 5, 6, 17, 45] [1] ?_; refine zZ.draws ?_) | (refine zZ.isR (id := 8) ?_; refine zZ.rk [1, 2, 3, 4, 5, 6, 17, 45] [1] ?_; refine zZ.draws ?_) | (refine zZ.isR (id := 9) ?_; refine zZ.rc [1, 2, 3, 4, 5, 6, 17, 45] [1] (r := (.v zC (.v zC (.v v46_0 .e)))) (h := ?_)) | (refine zZ.isR (id := 6) ?_; refine zZ.rc [1, 2, 3, 4, 5, 6, 17, 45] [1] (r := (.v zC (.v v30_0 (.v yV .e)))) (h := ?_)) | refine zZ.yT rfl bA ?_ | refine zZ.yU rfl bA ?_ | refine zZ.skip ?_ | refine zZ.block ?_) | refine zS.n ?_ | refine yA.n ?_ | (refine Draws.is ?_; first | refine Draws.rc (.v yR (.v yN (.v yR (.v yN (.v zC (.v zC (.v v7_18 (.v v2_1 .e)))))))) ?_ | refine Draws.rc (.v yR (.v yN (.v yR (.v yN (.v zC (.v zC (.v v31_0 (.v v7_18 (.v v2_1 .e))))))))) ?_ | refine Draws.rc (.v v7_18 (.v v2_1 (.v yV .e))) ?_ | (refine Draws.in_ [29] rfl ?_; refine Draws.v rfl rfl (yK (c1) rfl rfl rfl (by decide)) ?_) | (refine Draws.in_ [40] rfl ?_; refine Draws.v rfl rfl (yK (c2) rfl rfl rfl (by decide)) ?_) | refine Draws.done (by kernel_rfl) (by kernel_rfl) (by kernel_rfl) ?_) | (refine zO.nil ?_))
      all_goals
        refine ⟨j + 1, ?_, trivial, by omega⟩
        refine yM (is := [1, 3, 4]) (js := [1]) ?_ ?_
        case refine_1 =>
          repeat' first | exact zX.nil | apply zX.p rfl | apply zX.ptr rfl | apply zX.own rfl | apply zX.clo rfl | apply zX.ifp rfl | apply zX.pt rfl | apply zX.tup rfl | apply zX.skip
        case refine_2 =>
          repeat' first | exact zW.nil | apply zW.boxP rfl rfl | apply zW.xG rfl | apply zW.some rfl | apply zW.skip
    case neg =>
      have g1 : decide ((j : Int) + 1 < ((yF xs).length : Int)) = false := decide_eq_false (by rw [qN]; omega)
      repeat' (first | (refine zY.nil ?_) | (refine zZ.is ?_; first | refine zZ.seq ?_ | (refine zZ.isR (id := 5) ?_; refine zZ.rc [1, 2, 3, 4, 5, 6, 17, 45] [1] (r := (.v zC (.v zC (.v v57_1 (.v v43_0 .e))))) (h := ?_)) | (refine zZ.isR (id := 11) ?_; refine zZ.rc [2] [1] (r := (.v yV .e)) (h := ?_)) | refine zZ.yU rfl bA ?_ | refine zZ.exit ?_ | refine zZ.ret ?_) | refine zS.n ?_ | refine yA.eY ?_ | refine zS.e ?_)
      all_goals exact ⟨by first | exact .inl rfl | exact .inr rfl, _, Sub.refl _, .p rfl (.tmp rfl)⟩
end Go.Proofs.YteadaggehndacaaDoor
/- The list's example: contract. -/
namespace Go.Proofs.YteadaggehndacaaDoor
set_option maxRecDepth 100000
set_option maxHeartbeats 16000000
open Go Go.RowKit
set_option linter.unusedSimpArgs false
set_option linter.unusedVariables false
attribute [local irreducible] zY zZ Step zQ Sub zO zR Fn zS yA
theorem shown15_fn : Fn Tryd.prog 7 [] (.p (.val (.bool true))) := by
  have c0 := new10A_fn 1 2 (by decide) (by decide) (by decide) (by decide)
  have c6 : Fn Tryd.prog 10 [.val (.int .i64 1), .val (.int .i64 1), .val (.int .i64 1)] (.p (.val (.int .i64 10))) := qD 1 1 1 (by unfold Small; omega) (by omega) (by unfold Small; omega)
  obtain ⟨a1, a2, a3, a4, a5⟩ := al_sl
  have c1 := a1.fn
  have c2 := a2.fn
  have c3 := a3.fn
  have c4 := a4.fn
  have c5 := a5.fn
  clear a1 a2 a3 a4 a5
  obtain ⟨z1, ⟨z2, z3, z4⟩, ⟨z5, z6⟩, ⟨z7, z8, z9⟩, z10, z11⟩ := sl6
  generalize slV = q1 at *
  generalize slB = q2 at *
  generalize slD = q3 at *
  generalize slE = q4 at *
  generalize slF = q5 at *
  obtain ⟨⟨e1, s1, n1, w1⟩, ⟨t1, u1, ws1, root1, r01, r11⟩, m1⟩ := q1
  obtain ⟨⟨e2, s2, n2, w2⟩, ⟨t2, u2, ws2, root2, r02, r12⟩, m2⟩ := q2
  obtain ⟨⟨e3, s3, n3, w3⟩, ⟨t3, u3, ws3, root3, r03, r13⟩, m3⟩ := q3
  obtain ⟨⟨e4, s4, n4, w4⟩, ⟨t4, u4, ws4, root4, r04, r14⟩, m4⟩ := q4
  obtain ⟨⟨e5, s5, n5, w5⟩, ⟨t5, u5, ws5, root5, r05, r15⟩, m5⟩ := q5
  dsimp only at z1 z2 z3 z4 z5 z6 z7 z8 z9 z10 z11
  subst z1 z2 z3 z4 z5 z6 z7 z8 z9 z10 z11
  have hl := newW_len 1 2
  have g0 : slW = ⟨1, 2, (newW 1 2).set 10 5, 0, [([], 0)], [([], 0)]⟩ := rfl
  rw [g0] at c1
  have e0 : (wds (newW 1 2)).set (10 : Int).toNat (.val (.int .u64 5)) = wds ((newW 1 2).set 10 5) := kY _ _ _
  unfold Wd.pv vB at c1
  dsimp only at c1
  rw [← e0] at c1
  have g1 := vT (newW 1 2)
  have g2 : (0 : Int) ≤ 10 ∧ (10 : Int) < (wds (newW 1 2)).length := by rw [wR, hl]; omega
  have g3 : (10 : Int).toNat < (wds (newW 1 2)).length := by rw [wR, hl]; decide
  generalize newW 1 2 = nw at *
  clear e0 g0
  dsimp only [Wd.pv, vB] at c2 c3 c4 c5
  refine xV Tryd.func7 rfl Tryd.ntmps7 (Nat.le_of_ble_eq_true rfl) ?_
  repeat' (first | (refine zY.is ?_; first | refine zY.nil ?_ | (refine zY.at_ 1 rfl ?_; refine zY.rc (.m xY (.w yI .e)) ?_) | (refine zY.at_ 23 rfl ?_; refine zY.rc (.v v0_4 (.v x9 (.v x9 (.v x9 (.m xY (.m xY (.w yI (.w yI (.v yV .e))))))))) ?_) | (refine zY.at_ 30 rfl ?_; refine zY.rc (.v v0_4 (.v x9 (.v x9 (.v x9 (.m xY (.m xY (.w yI (.w yI (.v yV .e))))))))) ?_) | (refine zY.at_ 37 rfl ?_; refine zY.rc (.v v0_4 (.v x9 (.v x9 (.v x9 (.m xY (.m xY (.w yI (.w yI (.v yV .e))))))))) ?_) | (refine zY.at_ 44 rfl ?_; refine zY.rc (.v v0_4 (.v x9 (.v x9 (.v x9 (.m xY (.m xY (.w yI (.w yI (.v yV .e))))))))) ?_) | (refine zY.at_ 51 rfl ?_; refine zY.rc (.v v0_4 (.v x9 (.v x9 (.v x9 (.m xY (.m xY (.w yI (.w yI (.v yV .e))))))))) ?_) | (refine zY.in_ [26] rfl ?_; refine zY.v rfl rfl (xI (c1) rfl rfl rfl (by decide)) ?_) | (refine zY.in_ [33] rfl ?_; refine zY.v rfl rfl (xI (c2) rfl rfl rfl (by decide)) ?_) | (refine zY.in_ [40] rfl ?_; refine zY.v rfl rfl (xI (c3) rfl rfl rfl (by decide)) ?_) | (refine zY.in_ [47] rfl ?_; refine zY.v rfl rfl (xI (c4) rfl rfl rfl (by decide)) ?_) | (refine zY.in_ [54] rfl ?_; refine zY.v rfl rfl (xI (c5) rfl rfl rfl (by decide)) ?_) | (refine zY.in_ [17] rfl ?_; refine zY.m rfl rfl (w_callAg c0 rfl rfl rfl (by decide)) ?_)) | (refine zZ.is ?_; first | refine zZ.seq ?_ | (refine zZ.isR (id := 0) ?_; refine zZ.rc [] [1, 2, 3, 5, 6, 8, 9, 11, 12, 14, 15, 17, 21, 26, 33, 40, 47, 54] (r := (.v yV .e)) (h := ?_)) | (refine zZ.isR (id := 1) ?_; refine zZ.rc [0] [1, 2, 3, 5, 6, 8, 9, 11, 12, 14, 15, 17, 21, 26, 33, 40, 47, 54] (r := .e) (h := ?_)) | (refine zZ.isR (id := 2) ?_; refine zZ.rk [0, 1] [1, 2, 3, 5, 6, 8, 9, 11, 12, 14, 15, 17, 21, 26, 33, 40, 47, 54] ?_; refine zZ.draws ?_) | (refine zZ.isR (id := 3) ?_; refine zZ.sub ((sub_frzE 17 27 1 ((wds nw).set (Int.toNat 10) (.val (.int .u64 5))) rfl)) ?_; refine zZ.rc [0, 1] [1, 2, 3, 5, 6, 8, 9, 11, 12, 14, 15, 17, 21, 26, 33, 40, 47, 54] (r := (.v v2_6 (.v kF .e))) (h := ?_)) | (refine zZ.isR (id := 4) ?_; refine zZ.rc [0, 2, 3, 4] [1, 2, 3, 5, 6, 8, 9, 11, 12, 14, 15, 17, 21, 26, 33, 40, 47, 54] (r := (.v v2_6 (.v kF .e))) (h := ?_)) | (refine zZ.isR (id := 5) ?_; refine zZ.rc [0, 2, 3, 4, 6, 7] [1, 2, 3, 5, 6, 8, 9, 11, 12, 14, 15, 17, 21, 26, 33, 40, 47, 54] (r := (.v v2_6 (.v kF .e))) (h := ?_)) | (refine zZ.isR (id := 6) ?_; refine zZ.rc [0, 2, 3, 4, 6, 7, 9, 10] [1, 2, 3, 5, 6, 8, 9, 11, 12, 14, 15, 17, 21, 26, 33, 40, 47, 54] (r := (.v v2_6 (.v kF .e))) (h := ?_)) | (refine zZ.isR (id := 7) ?_; refine zZ.rc [0, 2, 3, 4, 6, 7, 9, 10, 12, 13] [1, 2, 3, 5, 6, 8, 9, 11, 12, 14, 15, 17, 21, 26, 33, 40, 47, 54] (r := (.v v2_6 (.v kF .e))) (h := ?_)) | (refine zZ.isR (id := 8) ?_; refine zZ.rc [0, 3, 4, 6, 7, 9, 10, 12, 13, 15, 16] [1, 2, 3, 5, 6, 8, 9, 11, 12, 14, 15, 17, 21, 26, 33, 40, 47, 54] (r := (.v zC (.v zC (.gY zC (.v qI (.v zC (.gY zC (.v qI (.v zC (.gY zC (.v qI (.v zC (.gY zC (.v qI (.v zC (.gY yR (.gY yN (.v qI (.v zC (.gY yR (.gY yN (.gY v41_4 (.v qI (.v zC (.gY yR (.gY yN (.gY v41_4 (.v qI (.v zC (.gY yR (.gY yN (.v qI (.v zC (.gY yR (.gY yN (.gY v41_4 (.v qI (.v zC (.gY yR (.gY yN (.gY v52_4 (.v qI (.v zC (.gY yR (.gY yN (.gY v41_4 (.v qI (.v zC (.gY yR (.gY yN (.gY v41_4 (.v qI (.v zC (.gY yR (.gY yN (.gY v52_4 (.v qI (.v zC (.gY yR (.gY yN (.gY v41_4 (.v qI (.v zC (.gY yR (.gY yN (.v qI (.v yV .e))))))))))))))))))))))))))))))))))))))))))))))))))))))))))))))))))) (h := ?_)) | refine zZ.ret ?_) | refine zS.n ?_ | (refine Draws.is ?_; first | refine Draws.rc (.v yR (.v yR (.v v2_8 .e))) ?_ | refine Draws.rc (.v kS .e) ?_ | (refine Draws.in_ [21] rfl ?_; refine Draws.v rfl rfl (yK (c6) rfl rfl rfl (by decide)) ?_) | refine Draws.done (by kernel_rfl) (by kernel_rfl) (by kernel_rfl) ?_) | (refine zO.is ?_; first | refine zO.nil ?_ | refine zO.rc (.w w24_1 .e) ?_))
  all_goals exact ⟨by first | exact .inl rfl | exact .inr rfl, _, Sub.refl _, .p rfl (.tmp rfl)⟩
end Go.Proofs.YteadaggehndacaaDoor
/- A drawn region's orders, joined where the same is done. Generic over the program. -/
namespace Go.Proofs.YteadaggehndacaaDoor
set_option maxRecDepth 100000
set_option maxHeartbeats 16000000
open Go Go.RowKit
def sameB (a b : List Nat) : Bool := a.all b.contains && b.all a.contains
theorem sameB_iff {a b : List Nat} (h : sameB a b = true) (i : Nat) : a.contains i = b.contains i := by
  unfold sameB at h
  rw [Bool.and_eq_true, List.all_eq_true, List.all_eq_true] at h
  cases ha : a.contains i with
  | true => exact (h.1 i (by simpa using ha)).symm
  | false =>
    cases hb : b.contains i with
    | false => rfl
    | true => exact ha.symm.trans (h.2 i (by simpa using hb))
section
variable {P : Program} {n fu : Nat} {l : List Oper} {K : Exit → AS → Prop} {done done' : List Nat} {S S' : AS}
theorem DGo.subp (hp : sameB done done' = true) (hs : Sub S S') (h : DGo P n l K fu done' S') : DGo P n l K fu done S := by
  unfold DGo at h ⊢
  intro M w0 ρ a w listed hz hl h1
  obtain ⟨ρ', h2⟩ := hs M n w0 ρ a w h1
  exact h M w0 ρ' a w listed hz (fun i => (hl i).trans (sameB_iff hp i)) h2
theorem DGo.share {fu' : Nat} {D' : List Nat} {F' : AS} (k : DGo P n l K fu' D' F') (h : DGo P n l K fu' D' F' → DGo P n l K fu done S) : DGo P n l K fu done S := h k
theorem DGo.keep {l0 : List (Nat × AV)} {m0 : List (Nat × Blk)} (is js : List Nat) (h : DGo P n l K fu done' { t := l0, s := m0 }) (hp : sameB done done' = true := by kernel_rfl)
    (ht : zX S is l0 := by repeat' first | exact zX.nil | apply zX.p rfl | apply zX.ptr rfl | apply zX.own rfl | apply zX.ag rfl | apply zX.tup rfl | apply zX.skip)
    (hb : zW S js m0 := by repeat' first | exact zW.nil | apply zW.boxP rfl rfl | apply zW.xG rfl | apply zW.some rfl | apply zW.skip) : DGo P n l K fu done S := DGo.subp hp (yM ht hb) h
theorem f_extractAg {o : Oper} {x : Operand} {avs : List AV} {ix : Nat} {cs : List Cl} (ho : o.op = .extract x ix) (hx : S.get x = .tup avs) (hi : avs[ix]? = some (.ag cs)) : FStep P n o S (.ag cs) := by
  unfold FStep
  intro M w0 ρ a w hs
  have h1 := hs.rep x
  rw [hx] at h1
  generalize hev : a.eval x = ev at h1
  cases h1 with
  | tup _ vs hl h =>
    have hlt : ix < vs.length := by rw [hl]; exact (List.getElem?_eq_some_iff.1 hi).1
    refine ⟨vs[ix], fun w' => ?_, h ix _ _ hi (List.getElem?_eq_getElem hlt)⟩
    unfold execOp
    rw [ho]
    simp [hev, Instr.extract, hlt]
end
end Go.Proofs.YteadaggehndacaaDoor
/- The law ListAlone: its walk. -/
namespace Go.Proofs.YteadaggehndacaaDoor
set_option maxRecDepth 100000
set_option maxHeartbeats 16000000
open Go Go.RowKit
set_option linter.unusedSimpArgs false
set_option linter.unusedVariables false
attribute [local irreducible] zY zZ Step zQ Sub zO zR Fn zS yA
def laF (l : List Int) (i : Nat) (W : Wd) (ins : List Int) (next : Int) : AS :=
  { t := [(0, .p (.sl (byts l))), (3, .p (.val (.bool true))), (4, .p (.val (.int .i64 12))), (5, .ptr 5 0), (6, .own 32), (7, .p (.val (.int .i64 next))), (8, .p (.val (.int .i64 (i : Nat))))],
    s := [(5, .box 33 [.p (.val (.int .i64 W.t)), .p (.val (.int .i64 W.c)), .own 31, .p (.val (.int .u64 W.root)), .p (.sl (strs W.r0)), .p (.sl (strs W.r1))]), (31, yG 27 1 (wds W.ws)), (32, yG 3 1 (yF ins))] }
def laW : Wd := ⟨1, 12, newW 1 12, 0, [([], 0)], [([], 0)]⟩
theorem laI0 : LaI laW (memOf (newW 1 12)) (List.replicate 16 0) 1 0 := by
  have hf : ∀ r : Fin 13, memOf (newW 1 12) (zF 1 (r.val : Int) 2) = 0 := by decide
  have hlen : (newW 1 12).length = 105 := newW_len 1 12
  have hat : ∀ c : Nat, c < 105 → (newW 1 12)[c]? = some (memOf (newW 1 12) c) := fun c hc => by
    unfold memOf
    rw [Int.toNat_natCast, List.getElem?_eq_getElem (by omega)]
    rfl
  refine ⟨⟨rfl, hlen, fun c hc => hat c hc, by decide⟩, ⟨(by show memOf (newW 1 12) (yC 1 0) = 0; decide), (by show ([0] : List Int).Nodup; decide), (fun x hx => by cases hx), (by decide), fun r h1 h2 => ⟨(fun h => by cases h), ?_⟩⟩, fun j v hv h0 => ?_, rfl, by decide, fun v hv => ?_, ⟨fun x hx => newW_U (by decide) x hx, by show (newW 1 12).length ≤ _; rw [hlen]; decide, rfl, by show 1 ≤ 1000000; decide, fun p hp => ?_⟩, rfl, rfl⟩
  · have := hf ⟨r.toNat, by omega⟩
    rw [show (((⟨r.toNat, by omega⟩ : Fin 13).val : Nat) : Int) = r from by show ((r.toNat : Nat) : Int) = r; omega] at this
    rw [this]
    exact hasF_quad (q := 0)
  · exact absurd (List.eq_of_mem_replicate (List.mem_of_getElem? hv)) h0
  · rw [List.eq_of_mem_replicate hv]; decide
  · have hp : p ∈ [(([] : List Int), (0 : Int))] := hp
    rw [List.mem_singleton] at hp
    subst hp
    exact Nat.le_refl _
theorem LaI.le {W : Wd} {m : Int → Int} {ins : List Int} {next : Int} {b b' : Nat} (h : LaI W m ins next b) (hb : b ≤ b') : LaI W m ins next b' := ⟨h.mem, h.ls, h.key, h.len, h.nx, h.bd, h.ok.le (by omega), h.s, h.c⟩
theorem inA_rise {key : Int → Int} : ∀ {l : List Int} {k : Int}, KeyA key k l → ∀ (j : Nat) x y, (nms (inA k l))[j]? = some x → (nms (inA k l))[j + 1]? = some y → key x < key y
  | [], k, h, j, x, y, hx, hy => by simp [inA, nms] at hx
  | v :: l, k, h, j, x, y, hx, hy => by
    have ih := inA_rise (key := key) h.tail
    have e : inA k (v :: l) = bif decide (v = 0) then inA (k + 1) l else (v, false) :: inA (k + 1) l := rfl
    rw [e] at hx hy
    cases hv : decide (v = 0) with
    | true => rw [hv] at hx hy; exact ih j x y hx hy
    | false =>
      rw [hv] at hx hy
      cases j with
      | zero =>
        have hx : v = x := Option.some.inj hx
        subst hx
        have hy : (nms (inA (k + 1) l))[0]? = some y := hy
        have h1 := h 0 v rfl (of_decide_eq_false hv)
        obtain ⟨z, hz, rfl⟩ := List.mem_map.1 (List.mem_of_getElem? hy)
        have := inA_mem h.tail z hz
        omega
      | succ j => exact ih j x y hx hy
theorem nodup_cnt {C : Nat} : ∀ {l : List (Int × Bool)}, (nms l).Nodup → (∀ y ∈ nms l, 1 ≤ y ∧ y ≤ C) → l.length ≤ C := by
  induction C with
  | zero =>
      intro l _ h
      cases l with
      | nil => exact Nat.le_refl _
      | cons y t =>
        have := h y.1 (List.mem_cons_self ..)
        omega
  | succ C ih =>
      intro l hn h
      have h2 : l.length ≤ (l.filter fun y => decide (y.1 ≤ (C : Int))).length + 1 := by
        clear ih
        induction l with
        | nil => exact Nat.zero_le _
        | cons y t iht =>
          have hn' : y.1 ∉ nms t ∧ (nms t).Nodup := List.nodup_cons.1 hn
          by_cases hy : y.1 ≤ (C : Int)
          · have := iht hn'.2 fun z hz => h z (List.mem_cons_of_mem _ hz)
            rw [List.filter_cons_of_pos (by simpa using hy)]
            simp only [List.length_cons]; omega
          · have hyC : y.1 = C + 1 := by have := h y.1 (List.mem_cons_self ..); omega
            have : t.filter (fun y => decide (y.1 ≤ (C : Int))) = t := List.filter_eq_self.2 fun z hz => by
              have hz' := h z.1 (List.mem_cons_of_mem _ (List.mem_map.2 ⟨z, hz, rfl⟩))
              have hne : z.1 ≠ y.1 := fun e => hn'.1 (e ▸ List.mem_map.2 ⟨z, hz, rfl⟩)
              simp only [decide_eq_true_eq]; omega
            rw [List.filter_cons_of_neg (by simpa using hy), this]
            simp
      have h1 := ih (l := l.filter fun y => decide (y.1 ≤ (C : Int))) (by
        have hs : (nms (l.filter fun y => decide (y.1 ≤ (C : Int)))).Sublist (nms l) := List.Sublist.map _ List.filter_sublist
        exact hn.sublist hs) (fun y hy => by
        obtain ⟨z, hz, rfl⟩ := List.mem_map.1 hy
        obtain ⟨hz1, hz2⟩ := List.mem_filter.1 hz
        exact ⟨(h z.1 (List.mem_map.2 ⟨z, hz1, rfl⟩)).1, by simpa using hz2⟩)
      omega
def laG (R ins : List Int) (W : Wd) (k a : Nat) : AS :=
  { t := [(3, .p (.val (.bool true))), (5, .ptr 5 0), (6, .p (.sl (yF ins))), (22, .p (.sl (yF R))), (23, .p (.val (.int .i64 (a : Nat)))), (24, .p (.val (.int .i64 (k : Nat))))],
    s := [(5, .box 33 ([.val (.int .i64 W.t), .val (.int .i64 W.c), .sl (wds W.ws), .val (.int .u64 W.root), .sl (strs W.r0), .sl (strs W.r1)].map AV.p))] }
theorem listAlone_start (l : List Int) (hl : ∀ x ∈ l, 0 ≤ x ∧ x < 256) (hn : l.length ≤ 30) : Fn Tryd.prog 3 [.sl (byts l)] (.p (.val (.bool true))) := by
  have c0 := shown15_fn
  have c1 := new10A_fn 1 12 (by decide) (by decide) (by decide) (by decide)
  have f1 : decide ((30 : Int) < (l.length : Nat)) = false := decide_eq_false (by omega)
  have hL : 16 * 1 ≤ 16777216 ∧ 8 * 16 ≤ 281474976710656 ∧ 16 ≤ maxLen := by decide
  refine xV Tryd.func3 rfl Tryd.ntmps3 (Nat.le_of_ble_eq_true rfl) ?_
  repeat' (first | (refine zY.is ?_; first | refine zY.nil ?_ | (refine zY.at_ 3 rfl ?_; refine zY.rc (.v yV .e) ?_) | (refine zY.at_ 5 rfl ?_; refine zY.rc (.m xY (.w yI .e)) ?_) | (refine zY.in_ [25] rfl ?_; refine zY.v rfl rfl (yK (c0) rfl rfl rfl (by decide)) ?_) | (refine zY.in_ [31] rfl ?_; refine zY.m rfl rfl (w_callAg c1 rfl rfl rfl (by decide)) ?_)) | (refine zZ.is ?_; first | refine zZ.seq ?_ | (refine zZ.isR (id := 0) ?_; refine zZ.rc [0] [5, 10, 11, 13, 14, 16, 17, 19, 20, 25, 27, 31, 32, 35, 51, 103, 111, 126, 164, 173, 198, 210, 229, 235] (r := (.v yV .e)) (h := ?_)) | (refine zZ.isR (id := 1) ?_; refine zZ.rc [0, 2] [5, 10, 11, 13, 14, 16, 17, 19, 20, 25, 27, 31, 32, 35, 51, 103, 111, 126, 164, 173, 198, 210, 229, 235] (r := .e) (h := ?_)) | (refine zZ.isR (id := 2) ?_; refine zZ.rc [0, 2, 3] [5, 10, 11, 13, 14, 16, 17, 19, 20, 25, 27, 31, 32, 35, 51, 103, 111, 126, 164, 173, 198, 210, 229, 235] (r := (.v zC (.v v57_0 (.v v45_0 .e)))) (h := ?_)) | (refine zZ.isR (id := 4) ?_; refine zZ.rc [0, 2, 3] [5, 10, 11, 13, 14, 16, 17, 19, 20, 25, 27, 31, 32, 35, 51, 103, 111, 126, 164, 173, 198, 210, 229, 235] (r := (.v yV .e)) (h := ?_)) | (refine zZ.isR (id := 5) ?_; refine zZ.rc [0, 2, 3, 4] [5, 10, 11, 13, 14, 16, 17, 19, 20, 25, 27, 31, 32, 35, 51, 103, 111, 126, 164, 173, 198, 210, 229, 235] (r := (.v zC .e)) (h := ?_)) | (refine zZ.isR (id := 6) ?_; refine zZ.rc [0, 2, 3, 4, 5] [5, 10, 11, 13, 14, 16, 17, 19, 20, 25, 27, 31, 32, 35, 51, 103, 111, 126, 164, 173, 198, 210, 229, 235] (r := (.m m21_0 (.v v1_1 .e))) (h := ?_)) | (refine zZ.isR (id := 7) ?_; refine zZ.rc [0, 2, 3, 4, 5, 6] [5, 10, 11, 13, 14, 16, 17, 19, 20, 25, 27, 31, 32, 35, 51, 103, 111, 126, 164, 173, 198, 210, 229, 235] (r := (.v yV .e)) (h := ?_)) | (refine zZ.isR (id := 8) ?_; refine zZ.rc [0, 2, 3, 4, 5, 6, 7] [5, 10, 11, 13, 14, 16, 17, 19, 20, 25, 27, 31, 32, 35, 51, 103, 111, 126, 164, 173, 198, 210, 229, 235] (r := (.v yV .e)) (h := ?_)) | refine zZ.yU rfl bA ?_ | refine zZ.skip ?_ | refine zZ.block ?_) | refine zS.n ?_)
  refine zZ.loop (fun y : Nat × Wd × List Int × Int => laF l y.1 y.2.1 y.2.2.1 y.2.2.2) (fun y => y.1 ≤ l.length ∧ ∃ m, LaI y.2.1 m y.2.2.1 y.2.2.2 (360 * y.1)) (fun y => l.length - y.1) (0, laW, List.replicate 16 0, 1) ?h0 ⟨Nat.zero_le _, _, laI0⟩ ?rd
  case h0 =>
    show Sub _ (laF l 0 laW (List.replicate 16 0) 1)
    unfold laF laW
    refine yM (is := [0, 3, 4, 5, 6, 7, 8]) (js := [5, 31, 32]) ?_ ?_
    case refine_1 =>
      repeat' first | exact zX.nil | apply zX.p rfl | apply zX.ptr rfl | apply zX.own rfl | apply zX.clo rfl | apply zX.ifp rfl | apply zX.pt rfl | apply zX.tup rfl | apply zX.skip
    case refine_2 =>
      repeat' first | exact zW.nil | apply zW.boxP rfl rfl | apply zW.xG rfl | (apply zW.at0; exact yX rfl (H.nk _).1 (by repeat' fail)) | (apply zW.at1; exact yX rfl (H.nk _).2.1 (by repeat' fail)) | (apply zW.at2; exact yX rfl (H.nk _).2.2 (by repeat' fail)) | apply zW.some rfl | apply zW.skip
  case rd =>
    clear c0 c1 f1 hL
    rintro ⟨i, W, ins, next⟩ ⟨hi, m, hI⟩
    dsimp only at hi hI
    change zZ _ _ _ (laF l i W ins next) _
    by_cases hlt : i < l.length
    case neg =>
      have f3 : decide ((i : Int) < (l.length : Nat)) = false := decide_eq_false (by omega)
      have hil := inA_len ins 0
      rw [hI.len] at hil
      have hlc : (inA 0 ins).length ≤ 12 := nodup_cnt (List.nodup_cons.1 hI.ls.nd).2 hI.ls.lk.bnd
      have cL := linked_fn (C := 12) (by decide) hI.ls.lk hlc hI.mem.at_
      have cT := sorted_fn (C := 12) (by decide) hI.ls.lk hlc hI.mem.at_ (inA_rise hI.key)
      have hRat : ∀ k v, ins[k]? = some v → v ≠ 0 → (nms (inA 0 ins))[(inA 0 (ins.take k)).length]? = some v ∧ (inA 0 (ins.take (k + 1))).length = (inA 0 (ins.take k)).length + 1 := fun k v hv h0 => by
        have hk := (List.getElem?_eq_some_iff.1 hv).1
        have e1 : ins[k]'hk = v := Option.some.inj ((List.getElem?_eq_getElem hk).symm.trans hv)
        have e2 : ins = ins.take k ++ v :: ins.drop (k + 1) := by rw [← e1, ← List.drop_eq_getElem_cons hk, List.take_append_drop]
        have e3 : ins.take (k + 1) = ins.take k ++ [v] := by rw [List.take_add_one, hv]; rfl
        refine ⟨?_, ?_⟩
        · conv => lhs; rw [e2]
          rw [inA_set h0, wN]
          have : (nms (inA 0 (ins.take k))).length = (inA 0 (ins.take k)).length := by unfold nms; rw [List.length_map]
          rw [List.take_left' (by rw [List.length_take]; omega), ← this, List.getElem?_append_right (Nat.le_refl _), Nat.sub_self]
          rfl
        · rw [e3, inA_set h0, List.length_append]
          rfl
      have hRz : ∀ k, ins[k]? = some 0 → (inA 0 (ins.take (k + 1))).length = (inA 0 (ins.take k)).length := fun k hv => by
        have e3 : ins.take (k + 1) = ins.take k ++ [0] := by rw [List.take_add_one, hv]; rfl
        rw [e3, inA_app]
        simp [inA]
      have hRe : (inA 0 (ins.take 16)).length = (nms (inA 0 ins)).length := by
        rw [List.take_of_length_le (by rw [hI.len]; decide)]
        unfold nms
        rw [List.length_map]
      have hi16 := hI.len
      have ht := hI.mem.t
      have hc := hI.c
      clear hI
      generalize nms (inA 0 ins) = R at *
      obtain ⟨t0, u0, ws0, root0, r00, r10⟩ := W
      dsimp only at ht hc
      subst ht hc
      unfold laF
      dsimp only at cL cT ⊢
      have x1 : ∀ z ∈ yF R, z.cells.length = 1 := fun z hz => by obtain ⟨y, _, rfl⟩ := List.mem_map.1 hz; rfl
      have x2 : ∀ z ∈ yF ins, z.cells.length = 1 := fun z hz => by obtain ⟨y, _, rfl⟩ := List.mem_map.1 hz; rfl
      repeat' (first | (refine zY.is ?_; first | refine zY.nil ?_ | (refine zY.at_ 22 rfl ?_; refine zY.rc (.v yV .e) ?_) | (refine zY.in_ [198] rfl ?_; refine zY.v rfl rfl (yK (cL) rfl rfl rfl (by decide)) ?_)) | (refine zZ.is ?_; first | refine zZ.seq ?_ | (refine zZ.isR (id := 9) ?_; refine zZ.rc [0, 2, 3, 4, 5, 6, 7, 8, 9, 10, 11, 12, 13, 14, 15, 16, 17, 18, 19, 20, 21, 36, 79, 98, 136, 156, 191] [5, 10, 11, 13, 14, 16, 17, 19, 20, 25, 27, 31, 32, 35, 51, 103, 111, 126, 164, 173, 198, 210, 229, 235] (r := (.v zC (.v zC (.v v57_0 (.v v43_0 .e))))) (h := ?_)) | (refine zZ.isR (id := 32) ?_; refine zZ.sub ((sub_frzE 31 27 1 (wds ws0) rfl)) ?_; refine zZ.sub ((sub_frzE 32 3 1 (yF ins) rfl)) ?_; refine zZ.rc [2, 3, 5, 6] [5, 10, 11, 13, 14, 16, 17, 19, 20, 25, 27, 31, 32, 35, 51, 103, 111, 126, 164, 173, 198, 210, 229, 235] (r := (.v yR (.v v2_6 .e))) (h := ?_)) | (refine zZ.isR (id := 33) ?_; refine zZ.rc [2, 3, 5, 6, 22] [5, 10, 11, 13, 14, 16, 17, 19, 20, 25, 27, 31, 32, 35, 51, 103, 111, 126, 164, 173, 198, 210, 229, 235] (r := (.v yV .e)) (h := ?_)) | (refine zZ.isR (id := 34) ?_; refine zZ.rc [2, 3, 5, 6, 22, 23] [5, 10, 11, 13, 14, 16, 17, 19, 20, 25, 27, 31, 32, 35, 51, 103, 111, 126, 164, 173, 198, 210, 229, 235] (r := (.v yV .e)) (h := ?_)) | refine zZ.yU rfl bA ?_ | refine zZ.block ?_ | refine zZ.exit ?_) | refine zS.n ?_ | refine yA.eY ?_ | refine zS.e ?_)
      refine zZ.loop (fun k => laG R ins ⟨1, 12, ws0, root0, r00, r10⟩ k (inA 0 (ins.take k)).length) (fun k => k ≤ 16) (fun k => 16 - k) 0 ?h1 (Nat.zero_le _) ?rd1
      case h1 =>
        show Sub _ (laG R ins ⟨1, 12, ws0, root0, r00, r10⟩ 0 0)
        unfold laG
        refine yM (is := [3, 5, 6, 22, 23, 24]) (js := [5]) ?_ ?_
        case refine_1 =>
          repeat' first | exact zX.nil | apply zX.p rfl | apply zX.ptr rfl | apply zX.own rfl | apply zX.clo rfl | apply zX.ifp rfl | apply zX.pt rfl | apply zX.tup rfl | apply zX.skip
        case refine_2 =>
          repeat' first | exact zW.nil | apply zW.boxP rfl rfl | apply zW.xG rfl | (apply zW.at0; exact yX rfl (H.nk _).1 (by repeat' fail)) | (apply zW.at1; exact yX rfl (H.nk _).2.1 (by repeat' fail)) | (apply zW.at2; exact yX rfl (H.nk _).2.2 (by repeat' fail)) | apply zW.some rfl | apply zW.skip
      case rd1 =>
        intro k hk
        unfold laG
        dsimp only
        by_cases hkl : k < 16
        case neg =>
          obtain rfl : k = 16 := by omega
          have g1 : decide (((16 : Nat) : Int) < 16) = false := rfl
          have g2 : decide (((inA 0 (ins.take 16)).length : Int) = ((yF R).length : Int)) = true := decide_eq_true (by rw [hRe, qN])
          repeat' (first | (refine zY.is ?_; first | refine zY.nil ?_ | (refine zY.at_ 236 rfl ?_; refine zY.rc (.v qI (.v yV .e)) ?_) | (refine zY.in_ [235] rfl ?_; refine zY.gY rfl rfl (by decide) rfl bA rfl (by decide) (yK (cT) rfl rfl rfl (by decide)) ?_)) | (refine zZ.is ?_; first | refine zZ.seq ?_ | (refine zZ.isR (id := 35) ?_; refine zZ.rc [2, 3, 5, 6, 22, 23, 24, 200, 207, 222] [5, 10, 11, 13, 14, 16, 17, 19, 20, 25, 27, 31, 32, 35, 51, 103, 111, 126, 164, 173, 198, 210, 229, 235] (r := (.v zC (.v v43_0 .e))) (h := ?_)) | (refine zZ.isR (id := 41) ?_; refine zZ.rc [2, 3, 5, 22, 23] [5, 10, 11, 13, 14, 16, 17, 19, 20, 25, 27, 31, 32, 35, 51, 103, 111, 126, 164, 173, 198, 210, 229, 235] (r := (.v zC (.v zC (.gY zC (.gY zC (.gY v57_1 (.gY v41_0 (.v qI (.v zC (.gY yR (.gY v2_6 .e))))))))))) (h := ?_)) | refine zZ.yU rfl bA ?_ | refine zZ.exit ?_ | refine zZ.ret ?_) | refine zS.n ?_ | refine yA.eY ?_ | refine zS.e ?_)
          all_goals exact ⟨by first | exact .inl rfl | exact .inr rfl, _, Sub.refl _, .p rfl (.tmp rfl)⟩
        case pos =>
          have g1 : decide ((k : Int) < 16) = true := decide_eq_true (by omega)
          obtain ⟨v, hv⟩ : ∃ v, ins[k]? = some v := ⟨_, List.getElem?_eq_getElem (show k < ins.length by omega)⟩
          have e4 : (yF ins)[k]? = some (.val (.int .i64 v)) := by unfold yF; rw [List.getElem?_map, hv]; rfl
          have w1 : IntKind.i64.wrap ((k : Int) + 1) = ((k + 1 : Nat) : Int) := by rw [wrap_i64 _ (by omega)]; omega
          have hal := inA_len (ins.take k) 0
          rw [List.length_take] at hal
          have w2 : IntKind.i64.wrap (((inA 0 (ins.take k)).length : Int) + 1) = (((inA 0 (ins.take k)).length + 1 : Nat) : Int) := by rw [wrap_i64 _ (by omega)]; omega
          by_cases hv0 : v = 0
          case pos =>
            subst hv0
            have hz := hRz k hv
            repeat' (first | (refine zY.nil ?_) | (refine zZ.is ?_; first | refine zZ.seq ?_ | (refine zZ.isR (id := 35) ?_; refine zZ.rc [2, 3, 5, 6, 22, 23, 24, 200, 207, 222] [5, 10, 11, 13, 14, 16, 17, 19, 20, 25, 27, 31, 32, 35, 51, 103, 111, 126, 164, 173, 198, 210, 229, 235] (r := (.v zC (.v v43_0 .e))) (h := ?_)) | (refine zZ.isR (id := 37) ?_; refine zZ.rc [2, 3, 5, 6, 22, 23, 24, 200, 207, 222] [5, 10, 11, 13, 14, 16, 17, 19, 20, 25, 27, 31, 32, 35, 51, 103, 111, 126, 164, 173, 198, 210, 229, 235] (r := (.v zC (.v zC (.v v7_18 (.v v2_1 (.v v41_4 .e)))))) (h := ?_)) | (refine zZ.isR (id := 36) ?_; refine zZ.rc [2, 3, 5, 6, 22, 23, 24, 200, 207, 222] [5, 10, 11, 13, 14, 16, 17, 19, 20, 25, 27, 31, 32, 35, 51, 103, 111, 126, 164, 173, 198, 210, 229, 235] (r := (.v zC (.v v30_0 (.v yV .e)))) (h := ?_)) | refine zZ.yT rfl bA ?_ | refine zZ.skip ?_ | refine zZ.block ?_ | refine zZ.exit ?_) | refine zS.n ?_ | refine yA.eY ?_ | refine zS.e ?_)
            all_goals
              refine ⟨k + 1, ?_, by omega, by omega⟩
              rw [hz]
              refine yM (is := [3, 5, 6, 22, 23, 24]) (js := [5]) ?_ ?_
              case refine_1 =>
                repeat' first | exact zX.nil | apply zX.p rfl | apply zX.ptr rfl | apply zX.own rfl | apply zX.clo rfl | apply zX.ifp rfl | apply zX.pt rfl | apply zX.tup rfl | apply zX.skip
              case refine_2 =>
                repeat' first | exact zW.nil | apply zW.boxP rfl rfl | apply zW.xG rfl | (apply zW.at0; exact yX rfl (H.nk _).1 (by repeat' fail)) | (apply zW.at1; exact yX rfl (H.nk _).2.1 (by repeat' fail)) | (apply zW.at2; exact yX rfl (H.nk _).2.2 (by repeat' fail)) | apply zW.some rfl | apply zW.skip
          case neg =>
            obtain ⟨hr1, hr2⟩ := hRat k v hv hv0
            rw [← hr2] at w2
            generalize hb2 : (inA 0 (ins.take (k + 1))).length = b2 at *
            generalize (inA 0 (ins.take k)).length = b1 at *
            have hb := (List.getElem?_eq_some_iff.1 hr1).1
            have e5 : (yF R)[b1]? = some (.val (.int .i64 v)) := by unfold yF; rw [List.getElem?_map, hr1]; rfl
            have g2 : decide (v = 0) = false := decide_eq_false hv0
            have g3 : decide (((yF R).length : Int) ≤ (b1 : Int)) = false := decide_eq_false (by rw [qN]; omega)
            have g4 : (!decide (v = v)) = false := by simp
            repeat' (first | (refine zY.nil ?_) | (refine zZ.is ?_; first | refine zZ.seq ?_ | (refine zZ.isR (id := 35) ?_; refine zZ.rc [2, 3, 5, 6, 22, 23, 24, 200, 207, 222] [5, 10, 11, 13, 14, 16, 17, 19, 20, 25, 27, 31, 32, 35, 51, 103, 111, 126, 164, 173, 198, 210, 229, 235] (r := (.v zC (.v v43_0 .e))) (h := ?_)) | (refine zZ.isR (id := 37) ?_; refine zZ.rc [2, 3, 5, 6, 22, 23, 24, 200, 207, 222] [5, 10, 11, 13, 14, 16, 17, 19, 20, 25, 27, 31, 32, 35, 51, 103, 111, 126, 164, 173, 198, 210, 229, 235] (r := (.v zC (.v zC (.v v7_18 (.v v2_1 (.v v41_0 .e)))))) (h := ?_)) | (refine zZ.isR (id := 38) ?_; refine zZ.dc [2, 3, 5, 6, 22, 23, 24, 200, 207, 222] [5, 10, 11, 13, 14, 16, 17, 19, 20, 25, 27, 31, 32, 35, 51, 103, 111, 126, 164, 173, 198, 210, 229, 235] (r := (.v zC (.v zC (.v v57_1 (.v v46_0 (.v zC (.gY zC (.gY zC (.gY v7_18 (.gY v2_1 (.gY zC (.gY zC (.gY v7_18 (.gY v2_1 (.gY v42_0 (.v qY .e)))))))))))))))) (q := .e) (h := ?_)) | (refine zZ.isR (id := 40) ?_; refine zZ.rc [2, 3, 5, 6, 22, 23, 24, 200, 207, 222] [5, 10, 11, 13, 14, 16, 17, 19, 20, 25, 27, 31, 32, 35, 51, 103, 111, 126, 164, 173, 198, 210, 229, 235] (r := (.v zC (.v v30_0 (.v yV .e)))) (h := ?_)) | (refine zZ.isR (id := 36) ?_; refine zZ.rc [2, 3, 5, 6, 22, 23, 24, 200, 207, 222] [5, 10, 11, 13, 14, 16, 17, 19, 20, 25, 27, 31, 32, 35, 51, 103, 111, 126, 164, 173, 198, 210, 229, 235] (r := (.v zC (.v v30_0 (.v yV .e)))) (h := ?_)) | refine zZ.yT rfl bA ?_ | refine zZ.yU rfl bA ?_ | refine zZ.skip ?_ | refine zZ.block ?_) | refine zS.n ?_ | refine yA.n ?_ | (refine zO.nil ?_))
            all_goals
              refine ⟨k + 1, ?_, by omega, by omega⟩
              rw [hb2]
              refine yM (is := [3, 5, 6, 22, 23, 24]) (js := [5]) ?_ ?_
              case refine_1 =>
                repeat' first | exact zX.nil | apply zX.p rfl | apply zX.ptr rfl | apply zX.own rfl | apply zX.clo rfl | apply zX.ifp rfl | apply zX.pt rfl | apply zX.tup rfl | apply zX.skip
              case refine_2 =>
                repeat' first | exact zW.nil | apply zW.boxP rfl rfl | apply zW.xG rfl | (apply zW.at0; exact yX rfl (H.nk _).1 (by repeat' fail)) | (apply zW.at1; exact yX rfl (H.nk _).2.1 (by repeat' fail)) | (apply zW.at2; exact yX rfl (H.nk _).2.2 (by repeat' fail)) | apply zW.some rfl | apply zW.skip
    case pos =>
      have hgi : l.getD i 0 = l[i]'hlt := by simp [List.getD, hlt]
      have he := hl _ (List.getElem_mem hlt)
      rw [← hgi] at he
      have y0 : (0 : Int) ≤ (i : Int) ∧ (i : Int) < ((l.length : Nat) : Int) := by omega
      generalize hge : l.getD i 0 = e at *
      have hge : l.getD ((i : Int)).toNat 0 = e := hge
      clear hgi
      have f3 : decide ((i : Int) < (l.length : Nat)) = true := decide_eq_true (by omega)
      have g1 : IntKind.i64.wrap ((i : Int) + 1) = ((i + 1 : Nat) : Int) := by rw [wrap_i64 _ (by omega)]; omega
      obtain ⟨q, hq⟩ : ∃ q : Nat, e / 2 % 16 = (q : Int) := ⟨(e / 2 % 16).toNat, by omega⟩
      have hql : q < 16 := by omega
      have y1 : IntKind.i64.wrap e = e := wrap_i64 _ (by omega)
      have y2 : IntKind.i64.wrap (e.tdiv 2) = e / 2 := by rw [Int.tdiv_eq_ediv_of_nonneg he.1]; exact wrap_i64 _ (by omega)
      have y3 : (e / 2).tmod 16 = (q : Int) := by rw [Int.tmod_eq_emod_of_nonneg (by omega), hq]
      have y4 : IntKind.u64.wrap (q : Int) = (q : Int) := wrap_u64 _ (by omega)
      have y5 : e.tmod 2 = e % 2 := Int.tmod_eq_emod_of_nonneg he.1
      obtain ⟨v, hv⟩ : ∃ v, ins[q]? = some v := ⟨_, List.getElem?_eq_getElem (show q < ins.length by rw [hI.len]; exact hql)⟩
      have hql2 : q < ins.length := by rw [hI.len]; exact hql
      obtain ⟨a, c, hac, hqa⟩ : ∃ a c, ins = a ++ v :: c ∧ a.length = q := ⟨ins.take q, ins.drop (q + 1), by
        have e1 : ins[q]'hql2 = v := Option.some.inj ((List.getElem?_eq_getElem hql2).symm.trans hv)
        rw [← e1, ← List.drop_eq_getElem_cons hql2, List.take_append_drop], by rw [List.length_take]; omega⟩
      have k1 : (0 : Int) ≤ (q : Int) ∧ (q : Int) < ((yF ins).length : Nat) := by rw [qN]; omega
      have k2 : (yF ins)[((q : Nat) : Int).toNat * 1]? = some (.val (.int .i64 v)) := by rw [Int.toNat_natCast, Nat.mul_one]; unfold yF; rw [List.getElem?_map, hv]; rfl
      have k3 : ∀ e ∈ yF ins, e.cells = [e] := fun e he => by
        obtain ⟨b, _, rfl⟩ := List.mem_map.1 he
        rfl
      have k4 : ∀ e ∈ yF ins, e.cells.length = 1 := fun e he => by rw [k3 e he]; rfl
      have k5 : ((q : Nat) : Int).toNat < (yF ins).length := by rw [qN]; omega
      clear hq
      have ht2 : e % 2 = 0 ∨ e % 2 = 1 := by omega
      by_cases hv0 : v = 0
      case pos =>
        subst hv0
        subst hac
        obtain ⟨W1, m1, hI1, cS⟩ := hI.miss (by omega)
        rw [hqa] at cS
        have d2 := True.intro
        rcases ht2 with hte | hte
        case inl =>
          have d0 : decide (e % 2 = 0) = true := decide_eq_true hte
          have d1 : decide (e % 2 = 1) = false := decide_eq_false (by omega)
          by_cases hnx : next ≤ 12
          case pos =>
            have d2 : decide (next ≤ 12) = true := decide_eq_true hnx
            have hnb := hI1.nx
            have hlen1 := hI1.mem.len
            obtain ⟨W2, m2, hI2, cA⟩ := hI1.add hnx rfl (by omega)
            obtain ⟨p, hp⟩ : ∃ p, wG 0 (inA 0 a) = p := ⟨_, rfl⟩
            obtain ⟨x, hx⟩ : ∃ x, hd (inA (a.length + 1) c) = x := ⟨_, rfl⟩
            have hpb : 0 ≤ p ∧ p ≤ 1048575 := by
              rw [← hp]
              rcases lastN_in (inA 0 a) 0 with e | e
              · rw [e]; decide
              · have := hI1.ls.lk.bnd (wG 0 (inA 0 a)) (by rw [inA_app, wN]; exact List.mem_append_left _ e); omega
            rw [hp, hx, hqa] at cA
            rw [hp, ← hqa, hx, hqa] at cS
            have c2 := qD 1 next 1 (by unfold Small; omega) (by omega) (by unfold Small; omega)
            have c3 := qD 1 next 2 (by unfold Small; omega) (by omega) (by unfold Small; omega)
            have b1 : 0 ≤ zF 1 next 1 ∧ zF 1 next 1 < 105 := by rw [y9]; omega
            have b2 : 0 ≤ zF 1 next 2 ∧ zF 1 next 2 < 105 := by rw [y9]; omega
            generalize zF 1 next 1 = p1 at *
            generalize zF 1 next 2 = p2 at *
            have w1 : IntKind.i64.wrap (4 * next) = 4 * next := wrap_i64 _ (by omega)
            have w2 : IntKind.u64.wrap (4 * next) = 4 * next := wrap_u64 _ (by omega)
            have w3 : IntKind.u64.wrap next = next := wrap_u64 _ (by omega)
            have w4 : IntKind.i64.wrap p = p := wrap_i64 _ (by omega)
            have w5 : IntKind.i64.wrap (next + 1) = next + 1 := wrap_i64 _ (by omega)
            have hset : (yF (a ++ 0 :: c)).set ((q : Nat) : Int).toNat (.val (.int .i64 next)) = yF (a ++ next :: c) := by
              unfold yF
              rw [Int.toNat_natCast, ← hqa]
              simp
            clear hI
            obtain ⟨t0, u0, ws0, root0, r00, r10⟩ := W
            obtain ⟨t1, u1, ws1, root1, r01, r11⟩ := W1
            obtain ⟨t2, u2, ws2, root2, r02, r12⟩ := W2
            unfold OneZ at cS cA
            subst hge
            unfold laF
            dsimp only
            unfold wS at cA
            dsimp only at cA hlen1
            rw [← kY, ← kY] at cA
            have q1 := vT ws1
            have q2 : (0 : Int) ≤ p1 ∧ p1 < ((wds ws1).length : Nat) := by rw [wR, hlen1]; exact b1
            have q3 : p1.toNat < (wds ws1).length := by rw [wR, hlen1]; omega
            have q4 : ∀ z ∈ (wds ws1).set p1.toNat (.val (.int .u64 (q : Int))), z.cells.length = 1 := by rw [kY]; exact vT _
            have q5 : (0 : Int) ≤ p2 ∧ p2 < (((wds ws1).set p1.toNat (.val (.int .u64 (q : Int)))).length : Nat) := by rw [List.length_set, wR, hlen1]; exact b2
            have q6 : p2.toNat < ((wds ws1).set p1.toNat (.val (.int .u64 (q : Int)))).length := by rw [List.length_set, wR, hlen1]; omega
            repeat' (first | (refine zY.is ?_; first | refine zY.nil ?_ | (refine zY.at_ 116 rfl ?_; refine zY.rc (.v v0_4 (.v v9_2 (.v x9 (.v x9 (.m xY (.m xY (.w yI (.w yI (.v yV .e))))))))) ?_) | (refine zY.at_ 46 rfl ?_; refine zY.rc (.v v0_4 (.v v9_2 (.v x9 (.v x9 (.m xY (.m xY (.w yI (.w yI (.v yV .e))))))))) ?_) | (refine zY.ofT rfl (zR.zL [] [31] [31] (cS) rfl (by decide) (wW rfl) (by rfl) (yD (by decide) rfl (by repeat' first | exact trivial | rfl | constructor)) rfl rfl rfl (by decide) rfl rfl (by decide) rfl rfl rfl ?_)) | (refine zY.ofT rfl (zR.zL [] [31] [31] (cA) rfl (by decide) (wW rfl) (by rfl) (yD (by decide) rfl (by repeat' first | exact trivial | rfl | constructor)) rfl rfl rfl (by decide) rfl rfl (by decide) rfl rfl rfl ?_))) | (refine zZ.is ?_; first | refine zZ.seq ?_ | (refine zZ.isR (id := 9) ?_; refine zZ.rc [0, 2, 3, 4, 5, 6, 7, 8, 9, 10, 11, 12, 13, 14, 15, 16, 17, 18, 19, 20, 21, 36, 79, 98, 136, 156, 191] [5, 10, 11, 13, 14, 16, 17, 19, 20, 25, 27, 31, 32, 35, 51, 103, 111, 126, 164, 173, 198, 210, 229, 235] (r := (.v zC (.v zC (.v v57_0 (.v v43_0 .e))))) (h := ?_)) | (refine zZ.isR (id := 11) ?_; refine zZ.rc [0, 2, 3, 4, 5, 6, 7, 8, 9, 10, 11, 12, 13, 14, 15, 16, 17, 18, 19, 20, 21, 36, 79, 98, 136, 156, 191] [5, 10, 11, 13, 14, 16, 17, 19, 20, 25, 27, 31, 32, 35, 51, 103, 111, 126, 164, 173, 198, 210, 229, 235] (r := (.v zC (.v zC (.v v7_0 (.v v2_1 (.v v6_0 (.v v33_0 (.v v34_0 (.v yV .e))))))))) (h := ?_)) | (refine zZ.isR (id := 12) ?_; refine zZ.rc [0, 2, 3, 4, 5, 6, 7, 8, 9, 10, 11, 12, 13, 14, 15, 16, 17, 18, 19, 20, 21, 36, 79, 98, 136, 156, 191] [5, 10, 11, 13, 14, 16, 17, 19, 20, 25, 27, 31, 32, 35, 51, 103, 111, 126, 164, 173, 198, 210, 229, 235] (r := (.v v2_19 (.v zC (.v v6_0 (.v kF .e))))) (h := ?_)) | (refine zZ.isR (id := 13) ?_; refine zZ.dc [0, 2, 3, 4, 5, 6, 7, 8, 9, 10, 11, 12, 13, 14, 15, 16, 17, 18, 19, 20, 21, 36, 79, 98, 136, 156, 191] [5, 10, 11, 13, 14, 16, 17, 19, 20, 25, 27, 31, 32, 35, 51, 103, 111, 126, 164, 173, 198, 210, 229, 235] (r := (.v zC (.v v52_5 (.v zC (.gY yR (.gY yN (.gY v0_1 (.gY zC (.gY kS (.gY v2_15 (.gY v45_5 (.gY v42_14 (.v qY (.v zC (.gY yR (.gY yN (.gY zC (.gT (.gT (.gT (.gT (.gT (.gT (.gT (.gY qY (.v qY .e)))))))))))))))))))))))))) (q := .e) (h := ?_)) | (refine zZ.isR (id := 15) ?_; refine zZ.rc [0, 2, 3, 4, 5, 6, 7, 8, 9, 10, 11, 12, 13, 14, 15, 16, 17, 18, 19, 20, 21, 36, 79, 98, 136, 156, 191] [5, 10, 11, 13, 14, 16, 17, 19, 20, 25, 27, 31, 32, 35, 51, 103, 111, 126, 164, 173, 198, 210, 229, 235] (r := (.v v2_19 (.w yI .e))) (h := ?_)) | (refine zZ.isR (id := 16) ?_; refine zZ.rc [0, 2, 3, 4, 5, 6, 7, 8, 9, 10, 11, 12, 13, 14, 15, 16, 17, 18, 19, 20, 21, 36, 79, 98, 136, 156, 191] [5, 10, 11, 13, 14, 16, 17, 19, 20, 25, 27, 31, 32, 35, 51, 103, 111, 126, 164, 173, 198, 210, 229, 235] (r := (.v zC (.v zC (.v v7_0 (.v v2_1 (.v v34_0 (.v v41_0 (.v zC (.gY v0_1 (.gY zC (.gY kS (.gY v2_15 (.gY v41_4 (.v qI (.v zC (.gY zC (.gY zC (.gY v44_0 (.v qI .e))))))))))))))))))) (h := ?_)) | (refine zZ.isR (id := 17) ?_; refine zZ.rk [0, 2, 3, 4, 5, 6, 7, 8, 9, 10, 11, 12, 13, 14, 15, 16, 17, 18, 19, 20, 21, 36, 79, 98, 136, 156, 191] [5, 10, 11, 13, 14, 16, 17, 19, 20, 25, 27, 31, 32, 35, 51, 103, 111, 126, 164, 173, 198, 210, 229, 235] ?_; refine zZ.draws ?_) | (refine zZ.isR (id := 18) ?_; refine zZ.rk [0, 2, 3, 4, 5, 6, 7, 8, 9, 10, 11, 12, 13, 14, 15, 16, 17, 18, 19, 20, 21, 36, 79, 98, 136, 156, 191] [5, 10, 11, 13, 14, 16, 17, 19, 20, 25, 27, 31, 32, 35, 51, 103, 111, 126, 164, 173, 198, 210, 229, 235] ?_; refine zZ.draws ?_) | (refine zZ.isR (id := 19) ?_; refine zZ.rc [0, 2, 3, 4, 5, 6, 7, 8, 9, 10, 11, 12, 13, 14, 15, 16, 17, 18, 19, 20, 21, 36, 79, 98, 136, 156, 191] [5, 10, 11, 13, 14, 16, 17, 19, 20, 25, 27, 31, 32, 35, 51, 103, 111, 126, 164, 173, 198, 210, 229, 235] (r := (.v v2_19 (.v yR (.v yN (.v v6_0 (.v yR (.v yN (.v zC (.v v6_0 (.v kF .e)))))))))) (h := ?_)) | (refine zZ.isR (id := 20) ?_; refine zZ.rc [0, 2, 3, 4, 5, 6, 7, 8, 9, 10, 11, 12, 13, 14, 15, 16, 17, 18, 19, 20, 21, 36, 79, 98, 136, 156, 191] [5, 10, 11, 13, 14, 16, 17, 19, 20, 25, 27, 31, 32, 35, 51, 103, 111, 126, 164, 173, 198, 210, 229, 235] (r := (.v zC (.v v52_5 (.v zC (.gY yR (.gY yN (.gY v52_5 (.v qY .e)))))))) (h := ?_)) | (refine zZ.isR (id := 22) ?_; refine zZ.rc [0, 2, 3, 4, 5, 6, 7, 8, 9, 10, 11, 12, 13, 14, 15, 16, 17, 18, 19, 20, 21, 36, 79, 98, 136, 156, 191] [5, 10, 11, 13, 14, 16, 17, 19, 20, 25, 27, 31, 32, 35, 51, 103, 111, 126, 164, 173, 198, 210, 229, 235] (r := (.v v2_19 (.w yI .e))) (h := ?_)) | (refine zZ.isR (id := 23) ?_; refine zZ.rc [0, 2, 3, 4, 5, 6, 7, 8, 9, 10, 11, 12, 13, 14, 15, 16, 17, 18, 19, 20, 21, 36, 79, 98, 136, 156, 191] [5, 10, 11, 13, 14, 16, 17, 19, 20, 25, 27, 31, 32, 35, 51, 103, 111, 126, 164, 173, 198, 210, 229, 235] (r := (.v v0_1 (.v zC (.v zC (.v kS (.w w24_1 .e)))))) (h := ?_)) | (refine zZ.isR (id := 24) ?_; refine zZ.rc [0, 2, 3, 4, 5, 6, 7, 8, 9, 10, 11, 12, 13, 14, 15, 16, 17, 18, 19, 20, 21, 36, 79, 98, 136, 156, 191] [5, 10, 11, 13, 14, 16, 17, 19, 20, 25, 27, 31, 32, 35, 51, 103, 111, 126, 164, 173, 198, 210, 229, 235] (r := (.v zC (.v v30_0 (.v yV .e)))) (h := ?_)) | (refine zZ.isR (id := 25) ?_; refine zZ.rc [0, 2, 3, 4, 5, 6, 7, 8, 9, 10, 11, 12, 13, 14, 15, 16, 17, 18, 19, 20, 21, 36, 79, 98, 136, 156, 191] [5, 10, 11, 13, 14, 16, 17, 19, 20, 25, 27, 31, 32, 35, 51, 103, 111, 126, 164, 173, 198, 210, 229, 235] (r := (.v zC (.v zC (.v v7_0 (.v v2_1 (.v v34_0 (.v v41_0 (.v zC (.gT (.gT (.gT (.gT (.gT (.v qY .e)))))))))))))) (h := ?_)) | (refine zZ.isR (id := 10) ?_; refine zZ.rc [0, 2, 3, 4, 5, 6, 7, 8, 9, 10, 11, 12, 13, 14, 15, 16, 17, 18, 19, 20, 21, 36, 79, 98, 136, 156, 191] [5, 10, 11, 13, 14, 16, 17, 19, 20, 25, 27, 31, 32, 35, 51, 103, 111, 126, 164, 173, 198, 210, 229, 235] (r := (.v zC (.v v30_0 (.v yV .e)))) (h := ?_)) | refine zZ.yT rfl bA ?_ | refine zZ.yU rfl bA ?_ | refine zZ.skip ?_ | refine zZ.block ?_) | refine zS.n ?_ | refine yA.n ?_ | (refine Draws.is ?_; first | refine Draws.rc (.v zC (.v v6_0 (.v kS .e))) ?_ | refine Draws.rc (.v zC (.v v32_0 (.v v6_0 (.v kS .e)))) ?_ | refine Draws.rc (.v yR (.v yR (.v v2_8 (.v zC .e)))) ?_ | (refine Draws.in_ [103] rfl ?_; refine Draws.v rfl rfl (yK (c2) rfl rfl rfl (by decide)) ?_) | (refine Draws.in_ [111] rfl ?_; refine Draws.v rfl rfl (yK (c3) rfl rfl rfl (by decide)) ?_) | refine Draws.done (by kernel_rfl) (by kernel_rfl) (by kernel_rfl) ?_) | (refine zO.is ?_; first | refine zO.nil ?_ | refine zO.rc (.w w24_1 .e) ?_))
            all_goals
              refine ⟨(i + 1, ⟨t2, u2, ws2, root2, r02, r12⟩, a ++ next :: c, next + 1), ?_, ⟨by show i + 1 ≤ l.length; omega, _, hI2.le (by omega)⟩, by show l.length - (i + 1) < l.length - i; omega⟩
              show Sub _ (laF l (i + 1) ⟨t2, u2, ws2, root2, r02, r12⟩ (a ++ next :: c) (next + 1))
              unfold laF
              rw [← hset]
              refine yM (is := [0, 3, 4, 5, 6, 7, 8]) (js := [5, 31, 32]) ?_ ?_
              case refine_1 =>
                repeat' first | exact zX.nil | apply zX.p rfl | apply zX.ptr rfl | apply zX.own rfl | apply zX.clo rfl | apply zX.ifp rfl | apply zX.pt rfl | apply zX.tup rfl | apply zX.skip
              case refine_2 =>
                repeat' first | exact zW.nil | apply zW.boxP rfl rfl | apply zW.xG rfl | (apply zW.at0; exact yX rfl (H.nk _).1 (by repeat' fail)) | (apply zW.at1; exact yX rfl (H.nk _).2.1 (by repeat' fail)) | (apply zW.at2; exact yX rfl (H.nk _).2.2 (by repeat' fail)) | apply zW.some rfl | apply zW.skip
          case neg =>
            have d2 : decide (next ≤ 12) = false := decide_eq_false hnx
            clear hI
            obtain ⟨t0, u0, ws0, root0, r00, r10⟩ := W
            obtain ⟨t1, u1, ws1, root1, r01, r11⟩ := W1
            unfold OneZ at cS
            subst hge
            unfold laF
            dsimp only
            repeat' (first | (refine zY.is ?_; first | refine zY.nil ?_ | (refine zY.at_ 46 rfl ?_; refine zY.rc (.v v0_4 (.v v9_2 (.v x9 (.v x9 (.m xY (.m xY (.w yI (.w yI (.v yV .e))))))))) ?_) | (refine zY.ofT rfl (zR.zL [] [31] [31] (cS) rfl (by decide) (wW rfl) (by rfl) (yD (by decide) rfl (by repeat' first | exact trivial | rfl | constructor)) rfl rfl rfl (by decide) rfl rfl (by decide) rfl rfl rfl ?_))) | (refine zZ.is ?_; first | refine zZ.seq ?_ | (refine zZ.isR (id := 9) ?_; refine zZ.rc [0, 2, 3, 4, 5, 6, 7, 8, 9, 10, 11, 12, 13, 14, 15, 16, 17, 18, 19, 20, 21, 36, 79, 98, 136, 156, 191] [5, 10, 11, 13, 14, 16, 17, 19, 20, 25, 27, 31, 32, 35, 51, 103, 111, 126, 164, 173, 198, 210, 229, 235] (r := (.v zC (.v zC (.v v57_0 (.v v43_0 .e))))) (h := ?_)) | (refine zZ.isR (id := 11) ?_; refine zZ.rc [0, 2, 3, 4, 5, 6, 7, 8, 9, 10, 11, 12, 13, 14, 15, 16, 17, 18, 19, 20, 21, 36, 79, 98, 136, 156, 191] [5, 10, 11, 13, 14, 16, 17, 19, 20, 25, 27, 31, 32, 35, 51, 103, 111, 126, 164, 173, 198, 210, 229, 235] (r := (.v zC (.v zC (.v v7_0 (.v v2_1 (.v v6_0 (.v v33_0 (.v v34_0 (.v yV .e))))))))) (h := ?_)) | (refine zZ.isR (id := 12) ?_; refine zZ.rc [0, 2, 3, 4, 5, 6, 7, 8, 9, 10, 11, 12, 13, 14, 15, 16, 17, 18, 19, 20, 21, 36, 79, 98, 136, 156, 191] [5, 10, 11, 13, 14, 16, 17, 19, 20, 25, 27, 31, 32, 35, 51, 103, 111, 126, 164, 173, 198, 210, 229, 235] (r := (.v v2_19 (.v zC (.v v6_0 (.v kF .e))))) (h := ?_)) | (refine zZ.isR (id := 13) ?_; refine zZ.dc [0, 2, 3, 4, 5, 6, 7, 8, 9, 10, 11, 12, 13, 14, 15, 16, 17, 18, 19, 20, 21, 36, 79, 98, 136, 156, 191] [5, 10, 11, 13, 14, 16, 17, 19, 20, 25, 27, 31, 32, 35, 51, 103, 111, 126, 164, 173, 198, 210, 229, 235] (r := (.v zC (.v v52_5 (.v zC (.gY yR (.gY yN (.gY v0_1 (.gY zC (.gY kS (.gY v2_15 (.gY v45_5 (.gY v42_14 (.v qY (.v zC (.gY yR (.gY yN (.gY zC (.gT (.gT (.gT (.gT (.gT (.gT (.gT (.gY qY (.v qY .e)))))))))))))))))))))))))) (q := .e) (h := ?_)) | (refine zZ.isR (id := 15) ?_; refine zZ.rc [0, 2, 3, 4, 5, 6, 7, 8, 9, 10, 11, 12, 13, 14, 15, 16, 17, 18, 19, 20, 21, 36, 79, 98, 136, 156, 191] [5, 10, 11, 13, 14, 16, 17, 19, 20, 25, 27, 31, 32, 35, 51, 103, 111, 126, 164, 173, 198, 210, 229, 235] (r := (.v v2_19 (.w yI .e))) (h := ?_)) | (refine zZ.isR (id := 16) ?_; refine zZ.rc [0, 2, 3, 4, 5, 6, 7, 8, 9, 10, 11, 12, 13, 14, 15, 16, 17, 18, 19, 20, 21, 36, 79, 98, 136, 156, 191] [5, 10, 11, 13, 14, 16, 17, 19, 20, 25, 27, 31, 32, 35, 51, 103, 111, 126, 164, 173, 198, 210, 229, 235] (r := (.v zC (.v zC (.v v7_0 (.v v2_1 (.v v34_0 (.v v41_0 (.v zC (.gY v0_1 (.gY zC (.gY kS (.gY v2_15 (.gY v41_4 (.v qI (.v zC (.gY zC (.gY zC (.gY v44_0 (.v qI .e))))))))))))))))))) (h := ?_)) | (refine zZ.isR (id := 25) ?_; refine zZ.rc [0, 2, 3, 4, 5, 6, 7, 8, 9, 10, 11, 12, 13, 14, 15, 16, 17, 18, 19, 20, 21, 36, 79, 98, 136, 156, 191] [5, 10, 11, 13, 14, 16, 17, 19, 20, 25, 27, 31, 32, 35, 51, 103, 111, 126, 164, 173, 198, 210, 229, 235] (r := (.v zC (.v zC (.v v7_0 (.v v2_1 (.v v34_0 (.v v41_0 (.v zC (.gT (.gT (.gT (.gT (.gT (.v qY .e)))))))))))))) (h := ?_)) | (refine zZ.isR (id := 10) ?_; refine zZ.rc [0, 2, 3, 4, 5, 6, 7, 8, 9, 10, 11, 12, 13, 14, 15, 16, 17, 18, 19, 20, 21, 36, 79, 98, 136, 156, 191] [5, 10, 11, 13, 14, 16, 17, 19, 20, 25, 27, 31, 32, 35, 51, 103, 111, 126, 164, 173, 198, 210, 229, 235] (r := (.v zC (.v v30_0 (.v yV .e)))) (h := ?_)) | refine zZ.yT rfl bA ?_ | refine zZ.yU rfl bA ?_ | refine zZ.skip ?_ | refine zZ.block ?_) | refine zS.n ?_ | refine yA.n ?_ | (refine zO.nil ?_))
            all_goals
              refine ⟨(i + 1, ⟨t1, u1, ws1, root1, r01, r11⟩, a ++ 0 :: c, next), ?_, ⟨by show i + 1 ≤ l.length; omega, _, hI1.le (by omega)⟩, by show l.length - (i + 1) < l.length - i; omega⟩
              show Sub _ (laF l (i + 1) ⟨t1, u1, ws1, root1, r01, r11⟩ (a ++ 0 :: c) (next))
              unfold laF
              refine yM (is := [0, 3, 4, 5, 6, 7, 8]) (js := [5, 31, 32]) ?_ ?_
              case refine_1 =>
                repeat' first | exact zX.nil | apply zX.p rfl | apply zX.ptr rfl | apply zX.own rfl | apply zX.clo rfl | apply zX.ifp rfl | apply zX.pt rfl | apply zX.tup rfl | apply zX.skip
              case refine_2 =>
                repeat' first | exact zW.nil | apply zW.boxP rfl rfl | apply zW.xG rfl | (apply zW.at0; exact yX rfl (H.nk _).1 (by repeat' fail)) | (apply zW.at1; exact yX rfl (H.nk _).2.1 (by repeat' fail)) | (apply zW.at2; exact yX rfl (H.nk _).2.2 (by repeat' fail)) | apply zW.some rfl | apply zW.skip
        case inr =>
          have d0 : decide (e % 2 = 0) = false := decide_eq_false (by omega)
          have d1 : decide (e % 2 = 1) = true := decide_eq_true hte
          clear hI
          obtain ⟨t0, u0, ws0, root0, r00, r10⟩ := W
          obtain ⟨t1, u1, ws1, root1, r01, r11⟩ := W1
          unfold OneZ at cS
          subst hge
          unfold laF
          dsimp only
          repeat' (first | (refine zY.is ?_; first | refine zY.nil ?_ | (refine zY.at_ 46 rfl ?_; refine zY.rc (.v v0_4 (.v v9_2 (.v x9 (.v x9 (.m xY (.m xY (.w yI (.w yI (.v yV .e))))))))) ?_) | (refine zY.ofT rfl (zR.zL [] [31] [31] (cS) rfl (by decide) (wW rfl) (by rfl) (yD (by decide) rfl (by repeat' first | exact trivial | rfl | constructor)) rfl rfl rfl (by decide) rfl rfl (by decide) rfl rfl rfl ?_))) | (refine zZ.is ?_; first | refine zZ.seq ?_ | (refine zZ.isR (id := 9) ?_; refine zZ.rc [0, 2, 3, 4, 5, 6, 7, 8, 9, 10, 11, 12, 13, 14, 15, 16, 17, 18, 19, 20, 21, 36, 79, 98, 136, 156, 191] [5, 10, 11, 13, 14, 16, 17, 19, 20, 25, 27, 31, 32, 35, 51, 103, 111, 126, 164, 173, 198, 210, 229, 235] (r := (.v zC (.v zC (.v v57_0 (.v v43_0 .e))))) (h := ?_)) | (refine zZ.isR (id := 11) ?_; refine zZ.rc [0, 2, 3, 4, 5, 6, 7, 8, 9, 10, 11, 12, 13, 14, 15, 16, 17, 18, 19, 20, 21, 36, 79, 98, 136, 156, 191] [5, 10, 11, 13, 14, 16, 17, 19, 20, 25, 27, 31, 32, 35, 51, 103, 111, 126, 164, 173, 198, 210, 229, 235] (r := (.v zC (.v zC (.v v7_0 (.v v2_1 (.v v6_0 (.v v33_0 (.v v34_0 (.v yV .e))))))))) (h := ?_)) | (refine zZ.isR (id := 12) ?_; refine zZ.rc [0, 2, 3, 4, 5, 6, 7, 8, 9, 10, 11, 12, 13, 14, 15, 16, 17, 18, 19, 20, 21, 36, 79, 98, 136, 156, 191] [5, 10, 11, 13, 14, 16, 17, 19, 20, 25, 27, 31, 32, 35, 51, 103, 111, 126, 164, 173, 198, 210, 229, 235] (r := (.v v2_19 (.v zC (.v v6_0 (.v kF .e))))) (h := ?_)) | (refine zZ.isR (id := 13) ?_; refine zZ.dc [0, 2, 3, 4, 5, 6, 7, 8, 9, 10, 11, 12, 13, 14, 15, 16, 17, 18, 19, 20, 21, 36, 79, 98, 136, 156, 191] [5, 10, 11, 13, 14, 16, 17, 19, 20, 25, 27, 31, 32, 35, 51, 103, 111, 126, 164, 173, 198, 210, 229, 235] (r := (.v zC (.v v52_5 (.v zC (.gY yR (.gY yN (.gY v0_1 (.gY zC (.gY kS (.gY v2_15 (.gY v45_5 (.gY v42_14 (.v qY (.v zC (.gY yR (.gY yN (.gY zC (.gT (.gT (.gT (.gT (.gT (.gT (.gT (.gY qY (.v qY .e)))))))))))))))))))))))))) (q := .e) (h := ?_)) | (refine zZ.isR (id := 15) ?_; refine zZ.rc [0, 2, 3, 4, 5, 6, 7, 8, 9, 10, 11, 12, 13, 14, 15, 16, 17, 18, 19, 20, 21, 36, 79, 98, 136, 156, 191] [5, 10, 11, 13, 14, 16, 17, 19, 20, 25, 27, 31, 32, 35, 51, 103, 111, 126, 164, 173, 198, 210, 229, 235] (r := (.v v2_19 (.w yI .e))) (h := ?_)) | (refine zZ.isR (id := 16) ?_; refine zZ.rc [0, 2, 3, 4, 5, 6, 7, 8, 9, 10, 11, 12, 13, 14, 15, 16, 17, 18, 19, 20, 21, 36, 79, 98, 136, 156, 191] [5, 10, 11, 13, 14, 16, 17, 19, 20, 25, 27, 31, 32, 35, 51, 103, 111, 126, 164, 173, 198, 210, 229, 235] (r := (.v zC (.v zC (.v v7_0 (.v v2_1 (.v v34_0 (.v v41_0 (.v zC (.gT (.gT (.gT (.gT (.gT (.v qY (.v zC (.gT (.gT (.gT (.v qY .e))))))))))))))))))) (h := ?_)) | (refine zZ.isR (id := 25) ?_; refine zZ.rc [0, 2, 3, 4, 5, 6, 7, 8, 9, 10, 11, 12, 13, 14, 15, 16, 17, 18, 19, 20, 21, 36, 79, 98, 136, 156, 191] [5, 10, 11, 13, 14, 16, 17, 19, 20, 25, 27, 31, 32, 35, 51, 103, 111, 126, 164, 173, 198, 210, 229, 235] (r := (.v zC (.v zC (.v v7_0 (.v v2_1 (.v v34_0 (.v v41_0 (.v zC (.gY v0_1 (.gY zC (.gY kS (.gY v2_15 (.gY v45_5 (.v qI .e)))))))))))))) (h := ?_)) | (refine zZ.isR (id := 10) ?_; refine zZ.rc [0, 2, 3, 4, 5, 6, 7, 8, 9, 10, 11, 12, 13, 14, 15, 16, 17, 18, 19, 20, 21, 36, 79, 98, 136, 156, 191] [5, 10, 11, 13, 14, 16, 17, 19, 20, 25, 27, 31, 32, 35, 51, 103, 111, 126, 164, 173, 198, 210, 229, 235] (r := (.v zC (.v v30_0 (.v yV .e)))) (h := ?_)) | refine zZ.yT rfl bA ?_ | refine zZ.yU rfl bA ?_ | refine zZ.skip ?_ | refine zZ.block ?_) | refine zS.n ?_ | refine yA.n ?_ | (refine zO.nil ?_))
          all_goals
            refine ⟨(i + 1, ⟨t1, u1, ws1, root1, r01, r11⟩, a ++ 0 :: c, next), ?_, ⟨by show i + 1 ≤ l.length; omega, _, hI1.le (by omega)⟩, by show l.length - (i + 1) < l.length - i; omega⟩
            show Sub _ (laF l (i + 1) ⟨t1, u1, ws1, root1, r01, r11⟩ (a ++ 0 :: c) (next))
            unfold laF
            refine yM (is := [0, 3, 4, 5, 6, 7, 8]) (js := [5, 31, 32]) ?_ ?_
            case refine_1 =>
              repeat' first | exact zX.nil | apply zX.p rfl | apply zX.ptr rfl | apply zX.own rfl | apply zX.clo rfl | apply zX.ifp rfl | apply zX.pt rfl | apply zX.tup rfl | apply zX.skip
            case refine_2 =>
              repeat' first | exact zW.nil | apply zW.boxP rfl rfl | apply zW.xG rfl | (apply zW.at0; exact yX rfl (H.nk _).1 (by repeat' fail)) | (apply zW.at1; exact yX rfl (H.nk _).2.1 (by repeat' fail)) | (apply zW.at2; exact yX rfl (H.nk _).2.2 (by repeat' fail)) | apply zW.some rfl | apply zW.skip
      case neg =>
        subst hac
        have hvb := hI.vb
        have hv2 : decide (0 < v) = true := decide_eq_true (by omega)
        have hv3 : decide (v = 0) = false := decide_eq_false hv0
        have hv4 : (!decide (v = v)) = false := by simp
        obtain ⟨W1, m1, p, hI1, cS, hpb⟩ := hI.hit hv0 (by omega)
        rw [hqa] at cS
        have d2 := True.intro
        rcases ht2 with hte | hte
        case inl =>
          have d0 : decide (e % 2 = 0) = true := decide_eq_true hte
          have d1 : decide (e % 2 = 1) = false := decide_eq_false (by omega)
          clear hI
          obtain ⟨t0, u0, ws0, root0, r00, r10⟩ := W
          obtain ⟨t1, u1, ws1, root1, r01, r11⟩ := W1
          unfold OneZ at cS
          subst hge
          unfold laF
          dsimp only
          repeat' (first | (refine zY.is ?_; first | refine zY.nil ?_ | (refine zY.at_ 46 rfl ?_; refine zY.rc (.v v0_4 (.v v9_2 (.v x9 (.v x9 (.m xY (.m xY (.w yI (.w yI (.v yV .e))))))))) ?_) | (refine zY.ofT rfl (zR.zL [] [31] [31] (cS) rfl (by decide) (wW rfl) (by rfl) (yD (by decide) rfl (by repeat' first | exact trivial | rfl | constructor)) rfl rfl rfl (by decide) rfl rfl (by decide) rfl rfl rfl ?_))) | (refine zZ.is ?_; first | refine zZ.seq ?_ | (refine zZ.isR (id := 9) ?_; refine zZ.rc [0, 2, 3, 4, 5, 6, 7, 8, 9, 10, 11, 12, 13, 14, 15, 16, 17, 18, 19, 20, 21, 36, 79, 98, 136, 156, 191] [5, 10, 11, 13, 14, 16, 17, 19, 20, 25, 27, 31, 32, 35, 51, 103, 111, 126, 164, 173, 198, 210, 229, 235] (r := (.v zC (.v zC (.v v57_0 (.v v43_0 .e))))) (h := ?_)) | (refine zZ.isR (id := 11) ?_; refine zZ.rc [0, 2, 3, 4, 5, 6, 7, 8, 9, 10, 11, 12, 13, 14, 15, 16, 17, 18, 19, 20, 21, 36, 79, 98, 136, 156, 191] [5, 10, 11, 13, 14, 16, 17, 19, 20, 25, 27, 31, 32, 35, 51, 103, 111, 126, 164, 173, 198, 210, 229, 235] (r := (.v zC (.v zC (.v v7_0 (.v v2_1 (.v v6_0 (.v v33_0 (.v v34_0 (.v yV .e))))))))) (h := ?_)) | (refine zZ.isR (id := 12) ?_; refine zZ.rc [0, 2, 3, 4, 5, 6, 7, 8, 9, 10, 11, 12, 13, 14, 15, 16, 17, 18, 19, 20, 21, 36, 79, 98, 136, 156, 191] [5, 10, 11, 13, 14, 16, 17, 19, 20, 25, 27, 31, 32, 35, 51, 103, 111, 126, 164, 173, 198, 210, 229, 235] (r := (.v v2_19 (.v zC (.v v6_0 (.v kF .e))))) (h := ?_)) | (refine zZ.isR (id := 13) ?_; refine zZ.dc [0, 2, 3, 4, 5, 6, 7, 8, 9, 10, 11, 12, 13, 14, 15, 16, 17, 18, 19, 20, 21, 36, 79, 98, 136, 156, 191] [5, 10, 11, 13, 14, 16, 17, 19, 20, 25, 27, 31, 32, 35, 51, 103, 111, 126, 164, 173, 198, 210, 229, 235] (r := (.v zC (.v v52_5 (.v zC (.gY yR (.gY yN (.gY v0_1 (.gY zC (.gY kS (.gY v2_15 (.gY v45_0 (.gY v42_14 (.v qY (.v zC (.gY yR (.gY yN (.gY zC (.gY yR (.gY yN (.gY v0_1 (.gY zC (.gY kS (.gY v2_15 (.gY v42_0 (.gY qI (.v qY .e)))))))))))))))))))))))))) (q := .e) (h := ?_)) | (refine zZ.isR (id := 15) ?_; refine zZ.rc [0, 2, 3, 4, 5, 6, 7, 8, 9, 10, 11, 12, 13, 14, 15, 16, 17, 18, 19, 20, 21, 36, 79, 98, 136, 156, 191] [5, 10, 11, 13, 14, 16, 17, 19, 20, 25, 27, 31, 32, 35, 51, 103, 111, 126, 164, 173, 198, 210, 229, 235] (r := (.v v2_19 (.w yI .e))) (h := ?_)) | (refine zZ.isR (id := 16) ?_; refine zZ.rc [0, 2, 3, 4, 5, 6, 7, 8, 9, 10, 11, 12, 13, 14, 15, 16, 17, 18, 19, 20, 21, 36, 79, 98, 136, 156, 191] [5, 10, 11, 13, 14, 16, 17, 19, 20, 25, 27, 31, 32, 35, 51, 103, 111, 126, 164, 173, 198, 210, 229, 235] (r := (.v zC (.v zC (.v v7_0 (.v v2_1 (.v v34_0 (.v v41_0 (.v zC (.gY v0_1 (.gY zC (.gY kS (.gY v2_15 (.gY v41_0 (.v qI (.v zC (.gT (.gT (.gT (.v qY .e))))))))))))))))))) (h := ?_)) | (refine zZ.isR (id := 25) ?_; refine zZ.rc [0, 2, 3, 4, 5, 6, 7, 8, 9, 10, 11, 12, 13, 14, 15, 16, 17, 18, 19, 20, 21, 36, 79, 98, 136, 156, 191] [5, 10, 11, 13, 14, 16, 17, 19, 20, 25, 27, 31, 32, 35, 51, 103, 111, 126, 164, 173, 198, 210, 229, 235] (r := (.v zC (.v zC (.v v7_0 (.v v2_1 (.v v34_0 (.v v41_0 (.v zC (.gT (.gT (.gT (.gT (.gT (.v qY .e)))))))))))))) (h := ?_)) | (refine zZ.isR (id := 10) ?_; refine zZ.rc [0, 2, 3, 4, 5, 6, 7, 8, 9, 10, 11, 12, 13, 14, 15, 16, 17, 18, 19, 20, 21, 36, 79, 98, 136, 156, 191] [5, 10, 11, 13, 14, 16, 17, 19, 20, 25, 27, 31, 32, 35, 51, 103, 111, 126, 164, 173, 198, 210, 229, 235] (r := (.v zC (.v v30_0 (.v yV .e)))) (h := ?_)) | refine zZ.yT rfl bA ?_ | refine zZ.yU rfl bA ?_ | refine zZ.skip ?_ | refine zZ.block ?_) | refine zS.n ?_ | refine yA.n ?_ | (refine zO.nil ?_))
          all_goals
            refine ⟨(i + 1, ⟨t1, u1, ws1, root1, r01, r11⟩, a ++ v :: c, next), ?_, ⟨by show i + 1 ≤ l.length; omega, _, hI1.le (by omega)⟩, by show l.length - (i + 1) < l.length - i; omega⟩
            show Sub _ (laF l (i + 1) ⟨t1, u1, ws1, root1, r01, r11⟩ (a ++ v :: c) (next))
            unfold laF
            refine yM (is := [0, 3, 4, 5, 6, 7, 8]) (js := [5, 31, 32]) ?_ ?_
            case refine_1 =>
              repeat' first | exact zX.nil | apply zX.p rfl | apply zX.ptr rfl | apply zX.own rfl | apply zX.clo rfl | apply zX.ifp rfl | apply zX.pt rfl | apply zX.tup rfl | apply zX.skip
            case refine_2 =>
              repeat' first | exact zW.nil | apply zW.boxP rfl rfl | apply zW.xG rfl | (apply zW.at0; exact yX rfl (H.nk _).1 (by repeat' fail)) | (apply zW.at1; exact yX rfl (H.nk _).2.1 (by repeat' fail)) | (apply zW.at2; exact yX rfl (H.nk _).2.2 (by repeat' fail)) | apply zW.some rfl | apply zW.skip
        case inr =>
          have d0 : decide (e % 2 = 0) = false := decide_eq_false (by omega)
          have d1 : decide (e % 2 = 1) = true := decide_eq_true hte
          obtain ⟨W2, W3, m3, p3, x3, hI3, cM, cF⟩ := hI1.drop hv0 (by omega)
          rw [hqa] at cF
          have hset : (yF (a ++ v :: c)).set ((q : Nat) : Int).toNat (.val (.int .i64 0)) = yF (a ++ 0 :: c) := by
            unfold yF
            rw [Int.toNat_natCast, ← hqa]
            simp
          clear hI
          obtain ⟨t0, u0, ws0, root0, r00, r10⟩ := W
          obtain ⟨t1, u1, ws1, root1, r01, r11⟩ := W1
          obtain ⟨t2, u2, ws2, root2, r02, r12⟩ := W2
          obtain ⟨t3, u3, ws3, root3, r03, r13⟩ := W3
          unfold OneZ at cS cM cF
          subst hge
          unfold laF
          dsimp only
          repeat' (first | refine zZ.hold (id := 26) ?_ | (refine zY.is ?_; first | refine zY.nil ?_ | (refine zY.at_ 46 rfl ?_; refine zY.rc (.v v0_4 (.v v9_2 (.v x9 (.v x9 (.m xY (.m xY (.w yI (.w yI (.v yV .e))))))))) ?_) | (refine zY.ofT rfl (zR.zL [] [31] [31] (cS) rfl (by decide) (wW rfl) (by rfl) (yD (by decide) rfl (by repeat' first | exact trivial | rfl | constructor)) rfl rfl rfl (by decide) rfl rfl (by decide) rfl rfl rfl ?_))) | (refine zZ.is ?_; first | refine zZ.seq ?_ | (refine zZ.isR (id := 9) ?_; refine zZ.rc [0, 2, 3, 4, 5, 6, 7, 8, 9, 10, 11, 12, 13, 14, 15, 16, 17, 18, 19, 20, 21, 36, 79, 98, 136, 156, 191] [5, 10, 11, 13, 14, 16, 17, 19, 20, 25, 27, 31, 32, 35, 51, 103, 111, 126, 164, 173, 198, 210, 229, 235] (r := (.v zC (.v zC (.v v57_0 (.v v43_0 .e))))) (h := ?_)) | (refine zZ.isR (id := 11) ?_; refine zZ.rc [0, 2, 3, 4, 5, 6, 7, 8, 9, 10, 11, 12, 13, 14, 15, 16, 17, 18, 19, 20, 21, 36, 79, 98, 136, 156, 191] [5, 10, 11, 13, 14, 16, 17, 19, 20, 25, 27, 31, 32, 35, 51, 103, 111, 126, 164, 173, 198, 210, 229, 235] (r := (.v zC (.v zC (.v v7_0 (.v v2_1 (.v v6_0 (.v v33_0 (.v v34_0 (.v yV .e))))))))) (h := ?_)) | (refine zZ.isR (id := 12) ?_; refine zZ.rc [0, 2, 3, 4, 5, 6, 7, 8, 9, 10, 11, 12, 13, 14, 15, 16, 17, 18, 19, 20, 21, 36, 79, 98, 136, 156, 191] [5, 10, 11, 13, 14, 16, 17, 19, 20, 25, 27, 31, 32, 35, 51, 103, 111, 126, 164, 173, 198, 210, 229, 235] (r := (.v v2_19 (.v zC (.v v6_0 (.v kF .e))))) (h := ?_)) | (refine zZ.isR (id := 13) ?_; refine zZ.dc [0, 2, 3, 4, 5, 6, 7, 8, 9, 10, 11, 12, 13, 14, 15, 16, 17, 18, 19, 20, 21, 36, 79, 98, 136, 156, 191] [5, 10, 11, 13, 14, 16, 17, 19, 20, 25, 27, 31, 32, 35, 51, 103, 111, 126, 164, 173, 198, 210, 229, 235] (r := (.v zC (.v v52_5 (.v zC (.gY yR (.gY yN (.gY v0_1 (.gY zC (.gY kS (.gY v2_15 (.gY v45_0 (.gY v42_14 (.v qY (.v zC (.gY yR (.gY yN (.gY zC (.gY yR (.gY yN (.gY v0_1 (.gY zC (.gY kS (.gY v2_15 (.gY v42_0 (.gY qI (.v qY .e)))))))))))))))))))))))))) (q := .e) (h := ?_)) | (refine zZ.isR (id := 15) ?_; refine zZ.rc [0, 2, 3, 4, 5, 6, 7, 8, 9, 10, 11, 12, 13, 14, 15, 16, 17, 18, 19, 20, 21, 36, 79, 98, 136, 156, 191] [5, 10, 11, 13, 14, 16, 17, 19, 20, 25, 27, 31, 32, 35, 51, 103, 111, 126, 164, 173, 198, 210, 229, 235] (r := (.v v2_19 (.w yI .e))) (h := ?_)) | (refine zZ.isR (id := 16) ?_; refine zZ.rc [0, 2, 3, 4, 5, 6, 7, 8, 9, 10, 11, 12, 13, 14, 15, 16, 17, 18, 19, 20, 21, 36, 79, 98, 136, 156, 191] [5, 10, 11, 13, 14, 16, 17, 19, 20, 25, 27, 31, 32, 35, 51, 103, 111, 126, 164, 173, 198, 210, 229, 235] (r := (.v zC (.v zC (.v v7_0 (.v v2_1 (.v v34_0 (.v v41_0 (.v zC (.gT (.gT (.gT (.gT (.gT (.v qY (.v zC (.gT (.gT (.gT (.v qY .e))))))))))))))))))) (h := ?_)) | (refine zZ.isR (id := 25) ?_; refine zZ.rc [0, 2, 3, 4, 5, 6, 7, 8, 9, 10, 11, 12, 13, 14, 15, 16, 17, 18, 19, 20, 21, 36, 79, 98, 136, 156, 191] [5, 10, 11, 13, 14, 16, 17, 19, 20, 25, 27, 31, 32, 35, 51, 103, 111, 126, 164, 173, 198, 210, 229, 235] (r := (.v zC (.v zC (.v v7_0 (.v v2_1 (.v v34_0 (.v v41_0 (.v zC (.gY v0_1 (.gY zC (.gY kS (.gY v2_15 (.gY v45_0 (.v qI .e)))))))))))))) (h := ?_)) | refine zZ.yT rfl bA ?_ | refine zZ.yU rfl bA ?_ | refine zZ.skip ?_ | refine zZ.block ?_) | refine zS.n ?_ | (refine zO.nil ?_))
          refine Hold.go ?_
          refine zZ.cutR (id := 26) (M := { t := [(0, .p (.sl (byts l))), (3, .p (.val (.bool true))), (4, .p (.val (.int .i64 12))), (5, .ptr 5 0), (6, .own 32), (7, .p (.val (.int .i64 next))), (8, .p (.val (.int .i64 (i : Nat)))), (9, .p (.val (.int .i64 (q : Nat)))), (16, .ptr 16 0), (17, .ptr 17 0), (18, .p (.val (.bool true)))], s := [(5, .box 33 [.p (.val (.int .i64 t1)), .p (.val (.int .i64 u1)), .any, .p (.val (.int .u64 root1)), .p (.sl (strs r01)), .p (.sl (strs r11))]), (16, .box 33 [.p (.val (.int .i64 t2)), .p (.val (.int .i64 u2)), .own 31, .p (.val (.int .u64 root2)), .p (.sl (strs r02)), .p (.sl (strs r12))]), (17, .box 38 ([.val (.int .i64 0), .val (.bool true), .val (.int .i64 0), .val (.int .u64 0), xJ].map AV.p)), (31, yG 27 1 (wds ws2)), (32, yG 3 1 (yF (a ++ v :: c)))] }) ?k1 ?k2
          case k1 =>
            refine zZ.rk [0, 3, 4, 5, 6, 7, 8, 9] [5, 31, 32] ?_
            refine zZ.drawGo (by kernel_rfl) ?_
            refine DGo.fr 1 ?_ (h := f_mv (.inl rfl) rfl)
            refine DGo.fr 2 ?_
            refine DGo.share (fu' := 2) (D' := [13, 12, 11, 6, 5, 4, 3, 0, 1, 2, 7, 8, 9, 10]) (F' := { t := [(0, .p (.sl (byts l))), (3, .p (.val (.bool true))), (4, .p (.val (.int .i64 12))), (5, .ptr 5 0), (6, .own 32), (7, .p (.val (.int .i64 next))), (8, .p (.val (.int .i64 (i : Nat)))), (9, .p (.val (.int .i64 (q : Nat)))), (166, .p (.agg [.val (.int .i64 0), .val (.bool true), .val (.int .i64 0), .val (.int .u64 0), xJ])), (167, .p (.val (.bool true))), (16, .ptr 16 0), (17, .ptr 17 0)], s := [(5, .box 33 [.p (.val (.int .i64 t1)), .p (.val (.int .i64 u1)), .any, .p (.val (.int .u64 root1)), .p (.sl (strs r01)), .p (.sl (strs r11))]), (16, .box 33 [.p (.val (.int .i64 t2)), .p (.val (.int .i64 u2)), .own 31, .p (.val (.int .u64 root2)), .p (.sl (strs r02)), .p (.sl (strs r12))]), (17, .box 38 ([.val (.int .i64 0), .val (.bool false), .val (.int .i64 0), .val (.int .u64 0), .val (.slice none 0 0)].map AV.p)), (31, yG 27 1 (wds ws2)), (32, yG 3 1 (yF (a ++ v :: c)))] }) ?Hadefglmn (fun Hadefglmn => ?_)
            case Hadefglmn =>
              refine DGo.all [14] (by kernel_rfl) ?_
              refine zP.cons ?_ (zP.nil)
              · refine zU.at_ 14 ?_
                refine zU.w rfl rfl (by exact zH rfl rfl rfl rfl rfl (by rfl) (by exact Nat.le_of_ble_eq_true rfl) rfl rfl) ?_
                refine DGo.fr 15 ?_
                refine DGo.fin (by kernel_rfl) (zS.n ?_)
                refine yM (is := [0, 3, 4, 5, 6, 7, 8, 9, 16, 17, 18]) (js := [5, 16, 17, 31, 32]) ?_ ?_
                case refine_1 =>
                  repeat' first | exact zX.nil | apply zX.p rfl | apply zX.ptr rfl | apply zX.own rfl | apply zX.ag rfl | apply zX.tup rfl | apply zX.skip
                case refine_2 =>
                  repeat' first | exact zW.nil | apply zW.boxP rfl rfl | apply zW.xG rfl | (apply zW.at0; exact yX rfl (H.nk _).1 (by repeat' fail)) | (apply zW.at1; exact yX rfl (H.nk _).2.1 (by repeat' fail)) | (apply zW.at2; exact yX rfl (H.nk _).2.2 (by repeat' fail)) | apply zW.some rfl | apply zW.skip
            refine DGo.share (fu' := 3) (D' := [12, 11, 6, 5, 4, 3, 0, 1, 2, 7, 8, 9, 10]) (F' := { t := [(0, .p (.sl (byts l))), (3, .p (.val (.bool true))), (4, .p (.val (.int .i64 12))), (5, .ptr 5 0), (6, .own 32), (7, .p (.val (.int .i64 next))), (8, .p (.val (.int .i64 (i : Nat)))), (9, .p (.val (.int .i64 (q : Nat)))), (165, .ag [.p (.val (.int .i64 t2)), .p (.val (.int .i64 u2)), .o 31, .p (.val (.int .u64 root2)), .p (.sl (strs r02)), .p (.sl (strs r12))]), (166, .p (.agg [.val (.int .i64 0), .val (.bool true), .val (.int .i64 0), .val (.int .u64 0), xJ])), (167, .p (.val (.bool true))), (16, .ptr 16 0), (17, .ptr 17 0)], s := [(5, .box 33 [.p (.val (.int .i64 t1)), .p (.val (.int .i64 u1)), .any, .p (.val (.int .u64 root1)), .p (.sl (strs r01)), .p (.sl (strs r11))]), (16, .box 33 ([.val (.int .i64 0), .val (.int .i64 0), .val (.slice none 0 0), .val (.int .u64 0), .val (.slice none 0 0), .val (.slice none 0 0)].map AV.p)), (17, .box 38 ([.val (.int .i64 0), .val (.bool false), .val (.int .i64 0), .val (.int .u64 0), .val (.slice none 0 0)].map AV.p)), (31, yG 27 1 (wds ws2)), (32, yG 3 1 (yF (a ++ v :: c)))] }) ?Hadefglm (fun Hadefglm => ?_)
            case Hadefglm =>
              refine DGo.all [13] (by kernel_rfl) ?_
              refine zP.cons ?_ (zP.nil)
              · refine zU.at_ 13 ?_
                refine zU.w rfl rfl (by exact zH rfl rfl rfl rfl rfl (by rfl) (by exact Nat.le_of_ble_eq_true rfl) rfl rfl) ?_
                exact DGo.keep [0, 3, 4, 5, 6, 7, 8, 9, 166, 167, 16, 17] [5, 16, 17, 31, 32] Hadefglmn
            refine DGo.share (fu' := 4) (D' := [11, 6, 5, 4, 3, 0, 1, 2, 7, 8, 9, 10]) (F' := { t := [(0, .p (.sl (byts l))), (3, .p (.val (.bool true))), (4, .p (.val (.int .i64 12))), (5, .ptr 5 0), (6, .own 32), (7, .p (.val (.int .i64 next))), (8, .p (.val (.int .i64 (i : Nat)))), (9, .p (.val (.int .i64 (q : Nat)))), (165, .ag [.p (.val (.int .i64 t2)), .p (.val (.int .i64 u2)), .o 31, .p (.val (.int .u64 root2)), .p (.sl (strs r02)), .p (.sl (strs r12))]), (166, .p (.agg [.val (.int .i64 0), .val (.bool true), .val (.int .i64 0), .val (.int .u64 0), xJ])), (167, .p (.val (.bool true))), (16, .ptr 16 0)], s := [(5, .box 33 [.p (.val (.int .i64 t1)), .p (.val (.int .i64 u1)), .any, .p (.val (.int .u64 root1)), .p (.sl (strs r01)), .p (.sl (strs r11))]), (16, .box 33 ([.val (.int .i64 0), .val (.int .i64 0), .val (.slice none 0 0), .val (.int .u64 0), .val (.slice none 0 0), .val (.slice none 0 0)].map AV.p)), (31, yG 27 1 (wds ws2)), (32, yG 3 1 (yF (a ++ v :: c)))] }) ?Hadefgl (fun Hadefgl => ?_)
            case Hadefgl =>
              refine DGo.all [12] (by kernel_rfl) ?_
              refine zP.cons ?_ (zP.nil)
              · refine zU.at_ 12 ?_
                refine zU.m rfl rfl rfl (zG rfl (by decide) rfl (by decide)) ?_
                exact DGo.keep [0, 3, 4, 5, 6, 7, 8, 9, 165, 166, 167, 16, 17] [5, 16, 17, 31, 32] Hadefglm
            refine DGo.share (fu' := 4) (D' := [12, 6, 5, 4, 3, 0, 1, 2, 7, 8, 9, 10]) (F' := { t := [(0, .p (.sl (byts l))), (3, .p (.val (.bool true))), (4, .p (.val (.int .i64 12))), (5, .ptr 5 0), (6, .own 32), (7, .p (.val (.int .i64 next))), (8, .p (.val (.int .i64 (i : Nat)))), (9, .p (.val (.int .i64 (q : Nat)))), (165, .ag [.p (.val (.int .i64 t2)), .p (.val (.int .i64 u2)), .o 31, .p (.val (.int .u64 root2)), .p (.sl (strs r02)), .p (.sl (strs r12))]), (166, .p (.agg [.val (.int .i64 0), .val (.bool true), .val (.int .i64 0), .val (.int .u64 0), xJ])), (167, .p (.val (.bool true))), (17, .ptr 17 0)], s := [(5, .box 33 [.p (.val (.int .i64 t1)), .p (.val (.int .i64 u1)), .any, .p (.val (.int .u64 root1)), .p (.sl (strs r01)), .p (.sl (strs r11))]), (17, .box 38 ([.val (.int .i64 0), .val (.bool false), .val (.int .i64 0), .val (.int .u64 0), .val (.slice none 0 0)].map AV.p)), (31, yG 27 1 (wds ws2)), (32, yG 3 1 (yF (a ++ v :: c)))] }) ?Hadefgm (fun Hadefgm => ?_)
            case Hadefgm =>
              refine DGo.all [11] (by kernel_rfl) ?_
              refine zP.cons ?_ (zP.nil)
              · refine zU.at_ 11 ?_
                refine zU.m rfl rfl rfl (zG rfl (by decide) rfl (by decide)) ?_
                exact DGo.keep [0, 3, 4, 5, 6, 7, 8, 9, 165, 166, 167, 16, 17] [5, 16, 17, 31, 32] Hadefglm
            refine DGo.share (fu' := 8) (D' := [12, 11, 5, 4, 3, 0, 1, 2]) (F' := { t := [(0, .p (.sl (byts l))), (3, .p (.val (.bool true))), (4, .p (.val (.int .i64 12))), (5, .ptr 5 0), (6, .own 32), (7, .p (.val (.int .i64 next))), (8, .p (.val (.int .i64 (i : Nat)))), (9, .p (.val (.int .i64 (q : Nat)))), (163, .p (.agg [.val (.int .i64 9), .val (.int .i64 v), .val (.int .i64 0), .val (.int .u64 0)])), (158, .ag [.p (.val (.int .i64 t1)), .p (.val (.int .i64 u1)), .o 31, .p (.val (.int .u64 root1)), .p (.sl (strs r01)), .p (.sl (strs r11))]), (16, .ptr 16 0), (17, .ptr 17 0)], s := [(5, .box 33 [.p (.val (.int .i64 t1)), .p (.val (.int .i64 u1)), .own 31, .p (.val (.int .u64 root1)), .p (.sl (strs r01)), .p (.sl (strs r11))]), (16, .box 33 ([.val (.int .i64 0), .val (.int .i64 0), .val (.slice none 0 0), .val (.int .u64 0), .val (.slice none 0 0), .val (.slice none 0 0)].map AV.p)), (17, .box 38 ([.val (.int .i64 0), .val (.bool false), .val (.int .i64 0), .val (.int .u64 0), .val (.slice none 0 0)].map AV.p)), (31, yG 27 1 (wds ws1)), (32, yG 3 1 (yF (a ++ v :: c)))] }) ?Hadeflm (fun Hadeflm => ?_)
            case Hadeflm =>
              refine DGo.all [6] (by kernel_rfl) ?_
              refine zP.cons ?_ (zP.nil)
              · refine zU.at_ 6 ?_
                refine zU.ofT rfl rfl (zR.zL [] [31] [31] (cM) rfl (by decide) (wW rfl) (by rfl) (yD (by decide) rfl (by repeat' first | exact trivial | rfl | constructor)) rfl rfl rfl (by decide) rfl rfl (by decide) rfl rfl rfl ?_)
                show DGo _ _ _ _ _ _ _
                refine DGo.fr 7 ?_
                refine DGo.fr 8 ?_ (h := f_extractAg rfl rfl rfl)
                refine DGo.fr 9 ?_
                refine DGo.fr 10 ?_
                exact DGo.keep [0, 3, 4, 5, 6, 7, 8, 9, 165, 166, 167, 16, 17] [5, 16, 17, 31, 32] Hadefglm
            refine DGo.share (fu' := 5) (D' := [6, 5, 4, 3, 0, 1, 2, 7, 8, 9, 10]) (F' := { t := [(0, .p (.sl (byts l))), (3, .p (.val (.bool true))), (4, .p (.val (.int .i64 12))), (5, .ptr 5 0), (6, .own 32), (7, .p (.val (.int .i64 next))), (8, .p (.val (.int .i64 (i : Nat)))), (9, .p (.val (.int .i64 (q : Nat)))), (165, .ag [.p (.val (.int .i64 t2)), .p (.val (.int .i64 u2)), .o 31, .p (.val (.int .u64 root2)), .p (.sl (strs r02)), .p (.sl (strs r12))]), (166, .p (.agg [.val (.int .i64 0), .val (.bool true), .val (.int .i64 0), .val (.int .u64 0), xJ])), (167, .p (.val (.bool true)))], s := [(5, .box 33 [.p (.val (.int .i64 t1)), .p (.val (.int .i64 u1)), .any, .p (.val (.int .u64 root1)), .p (.sl (strs r01)), .p (.sl (strs r11))]), (31, yG 27 1 (wds ws2)), (32, yG 3 1 (yF (a ++ v :: c)))] }) ?Hadefg (fun Hadefg => ?_)
            case Hadefg =>
              refine DGo.all [11, 12] (by kernel_rfl) ?_
              refine zP.cons ?_ (zP.cons ?_ (zP.nil))
              · refine zU.at_ 11 ?_
                refine zU.m rfl rfl rfl (zG rfl (by decide) rfl (by decide)) ?_
                exact DGo.keep [0, 3, 4, 5, 6, 7, 8, 9, 165, 166, 167, 16] [5, 16, 31, 32] Hadefgl
              · refine zU.at_ 12 ?_
                refine zU.m rfl rfl rfl (zG rfl (by decide) rfl (by decide)) ?_
                exact DGo.keep [0, 3, 4, 5, 6, 7, 8, 9, 165, 166, 167, 17] [5, 17, 31, 32] Hadefgm
            refine DGo.share (fu' := 9) (D' := [11, 5, 4, 3, 0, 1, 2]) (F' := { t := [(0, .p (.sl (byts l))), (3, .p (.val (.bool true))), (4, .p (.val (.int .i64 12))), (5, .ptr 5 0), (6, .own 32), (7, .p (.val (.int .i64 next))), (8, .p (.val (.int .i64 (i : Nat)))), (9, .p (.val (.int .i64 (q : Nat)))), (163, .p (.agg [.val (.int .i64 9), .val (.int .i64 v), .val (.int .i64 0), .val (.int .u64 0)])), (158, .ag [.p (.val (.int .i64 t1)), .p (.val (.int .i64 u1)), .o 31, .p (.val (.int .u64 root1)), .p (.sl (strs r01)), .p (.sl (strs r11))]), (16, .ptr 16 0)], s := [(5, .box 33 [.p (.val (.int .i64 t1)), .p (.val (.int .i64 u1)), .own 31, .p (.val (.int .u64 root1)), .p (.sl (strs r01)), .p (.sl (strs r11))]), (16, .box 33 ([.val (.int .i64 0), .val (.int .i64 0), .val (.slice none 0 0), .val (.int .u64 0), .val (.slice none 0 0), .val (.slice none 0 0)].map AV.p)), (31, yG 27 1 (wds ws1)), (32, yG 3 1 (yF (a ++ v :: c)))] }) ?Hadefl (fun Hadefl => ?_)
            case Hadefl =>
              refine DGo.all [6, 12] (by kernel_rfl) ?_
              refine zP.cons ?_ (zP.cons ?_ (zP.nil))
              · refine zU.at_ 6 ?_
                refine zU.ofT rfl rfl (zR.zL [] [31] [31] (cM) rfl (by decide) (wW rfl) (by rfl) (yD (by decide) rfl (by repeat' first | exact trivial | rfl | constructor)) rfl rfl rfl (by decide) rfl rfl (by decide) rfl rfl rfl ?_)
                show DGo _ _ _ _ _ _ _
                refine DGo.fr 7 ?_
                refine DGo.fr 8 ?_ (h := f_extractAg rfl rfl rfl)
                refine DGo.fr 9 ?_
                refine DGo.fr 10 ?_
                exact DGo.keep [0, 3, 4, 5, 6, 7, 8, 9, 165, 166, 167, 16] [5, 16, 31, 32] Hadefgl
              · refine zU.at_ 12 ?_
                refine zU.m rfl rfl rfl (zG rfl (by decide) rfl (by decide)) ?_
                exact DGo.keep [0, 3, 4, 5, 6, 7, 8, 9, 163, 158, 16, 17] [5, 16, 17, 31, 32] Hadeflm
            refine DGo.share (fu' := 9) (D' := [12, 5, 4, 3, 0, 1, 2]) (F' := { t := [(0, .p (.sl (byts l))), (3, .p (.val (.bool true))), (4, .p (.val (.int .i64 12))), (5, .ptr 5 0), (6, .own 32), (7, .p (.val (.int .i64 next))), (8, .p (.val (.int .i64 (i : Nat)))), (9, .p (.val (.int .i64 (q : Nat)))), (163, .p (.agg [.val (.int .i64 9), .val (.int .i64 v), .val (.int .i64 0), .val (.int .u64 0)])), (158, .ag [.p (.val (.int .i64 t1)), .p (.val (.int .i64 u1)), .o 31, .p (.val (.int .u64 root1)), .p (.sl (strs r01)), .p (.sl (strs r11))]), (17, .ptr 17 0)], s := [(5, .box 33 [.p (.val (.int .i64 t1)), .p (.val (.int .i64 u1)), .own 31, .p (.val (.int .u64 root1)), .p (.sl (strs r01)), .p (.sl (strs r11))]), (17, .box 38 ([.val (.int .i64 0), .val (.bool false), .val (.int .i64 0), .val (.int .u64 0), .val (.slice none 0 0)].map AV.p)), (31, yG 27 1 (wds ws1)), (32, yG 3 1 (yF (a ++ v :: c)))] }) ?Hadefm (fun Hadefm => ?_)
            case Hadefm =>
              refine DGo.all [6, 11] (by kernel_rfl) ?_
              refine zP.cons ?_ (zP.cons ?_ (zP.nil))
              · refine zU.at_ 6 ?_
                refine zU.ofT rfl rfl (zR.zL [] [31] [31] (cM) rfl (by decide) (wW rfl) (by rfl) (yD (by decide) rfl (by repeat' first | exact trivial | rfl | constructor)) rfl rfl rfl (by decide) rfl rfl (by decide) rfl rfl rfl ?_)
                show DGo _ _ _ _ _ _ _
                refine DGo.fr 7 ?_
                refine DGo.fr 8 ?_ (h := f_extractAg rfl rfl rfl)
                refine DGo.fr 9 ?_
                refine DGo.fr 10 ?_
                exact DGo.keep [0, 3, 4, 5, 6, 7, 8, 9, 165, 166, 167, 17] [5, 17, 31, 32] Hadefgm
              · refine zU.at_ 11 ?_
                refine zU.m rfl rfl rfl (zG rfl (by decide) rfl (by decide)) ?_
                exact DGo.keep [0, 3, 4, 5, 6, 7, 8, 9, 163, 158, 16, 17] [5, 16, 17, 31, 32] Hadeflm
            refine DGo.share (fu' := 9) (D' := [12, 11, 4, 3, 0, 1, 2]) (F' := { t := [(0, .p (.sl (byts l))), (3, .p (.val (.bool true))), (4, .p (.val (.int .i64 12))), (5, .ptr 5 0), (6, .own 32), (7, .p (.val (.int .i64 next))), (8, .p (.val (.int .i64 (i : Nat)))), (9, .p (.val (.int .i64 (q : Nat)))), (162, .p (.val (.int .i64 v))), (158, .ag [.p (.val (.int .i64 t1)), .p (.val (.int .i64 u1)), .o 31, .p (.val (.int .u64 root1)), .p (.sl (strs r01)), .p (.sl (strs r11))]), (16, .ptr 16 0), (17, .ptr 17 0)], s := [(5, .box 33 [.p (.val (.int .i64 t1)), .p (.val (.int .i64 u1)), .own 31, .p (.val (.int .u64 root1)), .p (.sl (strs r01)), .p (.sl (strs r11))]), (16, .box 33 ([.val (.int .i64 0), .val (.int .i64 0), .val (.slice none 0 0), .val (.int .u64 0), .val (.slice none 0 0), .val (.slice none 0 0)].map AV.p)), (17, .box 38 ([.val (.int .i64 0), .val (.bool false), .val (.int .i64 0), .val (.int .u64 0), .val (.slice none 0 0)].map AV.p)), (31, yG 27 1 (wds ws1)), (32, yG 3 1 (yF (a ++ v :: c)))] }) ?Hadelm (fun Hadelm => ?_)
            case Hadelm =>
              refine DGo.all [5] (by kernel_rfl) ?_
              refine zP.cons ?_ (zP.nil)
              · refine zU.at_ 5 ?_
                refine zU.v rfl rfl rfl (y8 rfl (by rfl) (by rfl) (by rfl) (by rfl) rfl (by decide)) ?_
                exact DGo.keep [0, 3, 4, 5, 6, 7, 8, 9, 163, 158, 16, 17] [5, 16, 17, 31, 32] Hadeflm
            refine DGo.share (fu' := 9) (D' := [12, 11, 5, 4, 3, 1, 2]) (F' := { t := [(0, .p (.sl (byts l))), (3, .p (.val (.bool true))), (4, .p (.val (.int .i64 12))), (5, .ptr 5 0), (6, .own 32), (7, .p (.val (.int .i64 next))), (8, .p (.val (.int .i64 (i : Nat)))), (9, .p (.val (.int .i64 (q : Nat)))), (163, .p (.agg [.val (.int .i64 9), .val (.int .i64 v), .val (.int .i64 0), .val (.int .u64 0)])), (16, .ptr 16 0), (17, .ptr 17 0)], s := [(5, .box 33 [.p (.val (.int .i64 t1)), .p (.val (.int .i64 u1)), .own 31, .p (.val (.int .u64 root1)), .p (.sl (strs r01)), .p (.sl (strs r11))]), (16, .box 33 ([.val (.int .i64 0), .val (.int .i64 0), .val (.slice none 0 0), .val (.int .u64 0), .val (.slice none 0 0), .val (.slice none 0 0)].map AV.p)), (17, .box 38 ([.val (.int .i64 0), .val (.bool false), .val (.int .i64 0), .val (.int .u64 0), .val (.slice none 0 0)].map AV.p)), (31, yG 27 1 (wds ws1)), (32, yG 3 1 (yF (a ++ v :: c)))] }) ?Hdeflm (fun Hdeflm => ?_)
            case Hdeflm =>
              refine DGo.all [0] (by kernel_rfl) ?_
              refine zP.cons ?_ (zP.nil)
              · refine zU.at_ 0 ?_
                refine zU.v rfl rfl rfl (yO rfl rfl rfl (by rfl) (by rfl) rfl (by decide)) ?_
                exact DGo.keep [0, 3, 4, 5, 6, 7, 8, 9, 163, 158, 16, 17] [5, 16, 17, 31, 32] Hadeflm
            refine DGo.share (fu' := 10) (D' := [5, 4, 3, 0, 1, 2]) (F' := { t := [(0, .p (.sl (byts l))), (3, .p (.val (.bool true))), (4, .p (.val (.int .i64 12))), (5, .ptr 5 0), (6, .own 32), (7, .p (.val (.int .i64 next))), (8, .p (.val (.int .i64 (i : Nat)))), (9, .p (.val (.int .i64 (q : Nat)))), (163, .p (.agg [.val (.int .i64 9), .val (.int .i64 v), .val (.int .i64 0), .val (.int .u64 0)])), (158, .ag [.p (.val (.int .i64 t1)), .p (.val (.int .i64 u1)), .o 31, .p (.val (.int .u64 root1)), .p (.sl (strs r01)), .p (.sl (strs r11))])], s := [(5, .box 33 [.p (.val (.int .i64 t1)), .p (.val (.int .i64 u1)), .own 31, .p (.val (.int .u64 root1)), .p (.sl (strs r01)), .p (.sl (strs r11))]), (31, yG 27 1 (wds ws1)), (32, yG 3 1 (yF (a ++ v :: c)))] }) ?Hadef (fun Hadef => ?_)
            case Hadef =>
              refine DGo.all [6, 11, 12] (by kernel_rfl) ?_
              refine zP.cons ?_ (zP.cons ?_ (zP.cons ?_ (zP.nil)))
              · refine zU.at_ 6 ?_
                refine zU.ofT rfl rfl (zR.zL [] [31] [31] (cM) rfl (by decide) (wW rfl) (by rfl) (yD (by decide) rfl (by repeat' first | exact trivial | rfl | constructor)) rfl rfl rfl (by decide) rfl rfl (by decide) rfl rfl rfl ?_)
                show DGo _ _ _ _ _ _ _
                refine DGo.fr 7 ?_
                refine DGo.fr 8 ?_ (h := f_extractAg rfl rfl rfl)
                refine DGo.fr 9 ?_
                refine DGo.fr 10 ?_
                exact DGo.keep [0, 3, 4, 5, 6, 7, 8, 9, 165, 166, 167] [5, 31, 32] Hadefg
              · refine zU.at_ 11 ?_
                refine zU.m rfl rfl rfl (zG rfl (by decide) rfl (by decide)) ?_
                exact DGo.keep [0, 3, 4, 5, 6, 7, 8, 9, 163, 158, 16] [5, 16, 31, 32] Hadefl
              · refine zU.at_ 12 ?_
                refine zU.m rfl rfl rfl (zG rfl (by decide) rfl (by decide)) ?_
                exact DGo.keep [0, 3, 4, 5, 6, 7, 8, 9, 163, 158, 17] [5, 17, 31, 32] Hadefm
            refine DGo.share (fu' := 10) (D' := [11, 4, 3, 0, 1, 2]) (F' := { t := [(0, .p (.sl (byts l))), (3, .p (.val (.bool true))), (4, .p (.val (.int .i64 12))), (5, .ptr 5 0), (6, .own 32), (7, .p (.val (.int .i64 next))), (8, .p (.val (.int .i64 (i : Nat)))), (9, .p (.val (.int .i64 (q : Nat)))), (162, .p (.val (.int .i64 v))), (158, .ag [.p (.val (.int .i64 t1)), .p (.val (.int .i64 u1)), .o 31, .p (.val (.int .u64 root1)), .p (.sl (strs r01)), .p (.sl (strs r11))]), (16, .ptr 16 0)], s := [(5, .box 33 [.p (.val (.int .i64 t1)), .p (.val (.int .i64 u1)), .own 31, .p (.val (.int .u64 root1)), .p (.sl (strs r01)), .p (.sl (strs r11))]), (16, .box 33 ([.val (.int .i64 0), .val (.int .i64 0), .val (.slice none 0 0), .val (.int .u64 0), .val (.slice none 0 0), .val (.slice none 0 0)].map AV.p)), (31, yG 27 1 (wds ws1)), (32, yG 3 1 (yF (a ++ v :: c)))] }) ?Hadel (fun Hadel => ?_)
            case Hadel =>
              refine DGo.all [5, 12] (by kernel_rfl) ?_
              refine zP.cons ?_ (zP.cons ?_ (zP.nil))
              · refine zU.at_ 5 ?_
                refine zU.v rfl rfl rfl (y8 rfl (by rfl) (by rfl) (by rfl) (by rfl) rfl (by decide)) ?_
                exact DGo.keep [0, 3, 4, 5, 6, 7, 8, 9, 163, 158, 16] [5, 16, 31, 32] Hadefl
              · refine zU.at_ 12 ?_
                refine zU.m rfl rfl rfl (zG rfl (by decide) rfl (by decide)) ?_
                exact DGo.keep [0, 3, 4, 5, 6, 7, 8, 9, 162, 158, 16, 17] [5, 16, 17, 31, 32] Hadelm
            refine DGo.share (fu' := 10) (D' := [12, 4, 3, 0, 1, 2]) (F' := { t := [(0, .p (.sl (byts l))), (3, .p (.val (.bool true))), (4, .p (.val (.int .i64 12))), (5, .ptr 5 0), (6, .own 32), (7, .p (.val (.int .i64 next))), (8, .p (.val (.int .i64 (i : Nat)))), (9, .p (.val (.int .i64 (q : Nat)))), (162, .p (.val (.int .i64 v))), (158, .ag [.p (.val (.int .i64 t1)), .p (.val (.int .i64 u1)), .o 31, .p (.val (.int .u64 root1)), .p (.sl (strs r01)), .p (.sl (strs r11))]), (17, .ptr 17 0)], s := [(5, .box 33 [.p (.val (.int .i64 t1)), .p (.val (.int .i64 u1)), .own 31, .p (.val (.int .u64 root1)), .p (.sl (strs r01)), .p (.sl (strs r11))]), (17, .box 38 ([.val (.int .i64 0), .val (.bool false), .val (.int .i64 0), .val (.int .u64 0), .val (.slice none 0 0)].map AV.p)), (31, yG 27 1 (wds ws1)), (32, yG 3 1 (yF (a ++ v :: c)))] }) ?Hadem (fun Hadem => ?_)
            case Hadem =>
              refine DGo.all [5, 11] (by kernel_rfl) ?_
              refine zP.cons ?_ (zP.cons ?_ (zP.nil))
              · refine zU.at_ 5 ?_
                refine zU.v rfl rfl rfl (y8 rfl (by rfl) (by rfl) (by rfl) (by rfl) rfl (by decide)) ?_
                exact DGo.keep [0, 3, 4, 5, 6, 7, 8, 9, 163, 158, 17] [5, 17, 31, 32] Hadefm
              · refine zU.at_ 11 ?_
                refine zU.m rfl rfl rfl (zG rfl (by decide) rfl (by decide)) ?_
                exact DGo.keep [0, 3, 4, 5, 6, 7, 8, 9, 162, 158, 16, 17] [5, 16, 17, 31, 32] Hadelm
            refine DGo.share (fu' := 10) (D' := [12, 11, 3, 0, 1, 2]) (F' := { t := [(0, .p (.sl (byts l))), (3, .p (.val (.bool true))), (4, .p (.val (.int .i64 12))), (5, .ptr 5 0), (6, .own 32), (7, .p (.val (.int .i64 next))), (8, .p (.val (.int .i64 (i : Nat)))), (9, .p (.val (.int .i64 (q : Nat)))), (161, .ptr 32 (((q : Nat) : Int).toNat * 1)), (158, .ag [.p (.val (.int .i64 t1)), .p (.val (.int .i64 u1)), .o 31, .p (.val (.int .u64 root1)), .p (.sl (strs r01)), .p (.sl (strs r11))]), (16, .ptr 16 0), (17, .ptr 17 0)], s := [(5, .box 33 [.p (.val (.int .i64 t1)), .p (.val (.int .i64 u1)), .own 31, .p (.val (.int .u64 root1)), .p (.sl (strs r01)), .p (.sl (strs r11))]), (16, .box 33 ([.val (.int .i64 0), .val (.int .i64 0), .val (.slice none 0 0), .val (.int .u64 0), .val (.slice none 0 0), .val (.slice none 0 0)].map AV.p)), (17, .box 38 ([.val (.int .i64 0), .val (.bool false), .val (.int .i64 0), .val (.int .u64 0), .val (.slice none 0 0)].map AV.p)), (31, yG 27 1 (wds ws1)), (32, yG 3 1 (yF (a ++ v :: c)))] }) ?Hadlm (fun Hadlm => ?_)
            case Hadlm =>
              refine DGo.all [4] (by kernel_rfl) ?_
              refine zP.cons ?_ (zP.nil)
              · refine zU.at_ 4 ?_
                refine zU.v rfl rfl rfl (by exact kZ rfl rfl rfl k3 k2 rfl (by decide)) ?_
                exact DGo.keep [0, 3, 4, 5, 6, 7, 8, 9, 162, 158, 16, 17] [5, 16, 17, 31, 32] Hadelm
            refine DGo.share (fu' := 10) (D' := [11, 5, 4, 3, 1, 2]) (F' := { t := [(0, .p (.sl (byts l))), (3, .p (.val (.bool true))), (4, .p (.val (.int .i64 12))), (5, .ptr 5 0), (6, .own 32), (7, .p (.val (.int .i64 next))), (8, .p (.val (.int .i64 (i : Nat)))), (9, .p (.val (.int .i64 (q : Nat)))), (163, .p (.agg [.val (.int .i64 9), .val (.int .i64 v), .val (.int .i64 0), .val (.int .u64 0)])), (16, .ptr 16 0)], s := [(5, .box 33 [.p (.val (.int .i64 t1)), .p (.val (.int .i64 u1)), .own 31, .p (.val (.int .u64 root1)), .p (.sl (strs r01)), .p (.sl (strs r11))]), (16, .box 33 ([.val (.int .i64 0), .val (.int .i64 0), .val (.slice none 0 0), .val (.int .u64 0), .val (.slice none 0 0), .val (.slice none 0 0)].map AV.p)), (31, yG 27 1 (wds ws1)), (32, yG 3 1 (yF (a ++ v :: c)))] }) ?Hdefl (fun Hdefl => ?_)
            case Hdefl =>
              refine DGo.all [0, 12] (by kernel_rfl) ?_
              refine zP.cons ?_ (zP.cons ?_ (zP.nil))
              · refine zU.at_ 0 ?_
                refine zU.v rfl rfl rfl (yO rfl rfl rfl (by rfl) (by rfl) rfl (by decide)) ?_
                exact DGo.keep [0, 3, 4, 5, 6, 7, 8, 9, 163, 158, 16] [5, 16, 31, 32] Hadefl
              · refine zU.at_ 12 ?_
                refine zU.m rfl rfl rfl (zG rfl (by decide) rfl (by decide)) ?_
                exact DGo.keep [0, 3, 4, 5, 6, 7, 8, 9, 163, 16, 17] [5, 16, 17, 31, 32] Hdeflm
            refine DGo.share (fu' := 10) (D' := [12, 5, 4, 3, 1, 2]) (F' := { t := [(0, .p (.sl (byts l))), (3, .p (.val (.bool true))), (4, .p (.val (.int .i64 12))), (5, .ptr 5 0), (6, .own 32), (7, .p (.val (.int .i64 next))), (8, .p (.val (.int .i64 (i : Nat)))), (9, .p (.val (.int .i64 (q : Nat)))), (163, .p (.agg [.val (.int .i64 9), .val (.int .i64 v), .val (.int .i64 0), .val (.int .u64 0)])), (17, .ptr 17 0)], s := [(5, .box 33 [.p (.val (.int .i64 t1)), .p (.val (.int .i64 u1)), .own 31, .p (.val (.int .u64 root1)), .p (.sl (strs r01)), .p (.sl (strs r11))]), (17, .box 38 ([.val (.int .i64 0), .val (.bool false), .val (.int .i64 0), .val (.int .u64 0), .val (.slice none 0 0)].map AV.p)), (31, yG 27 1 (wds ws1)), (32, yG 3 1 (yF (a ++ v :: c)))] }) ?Hdefm (fun Hdefm => ?_)
            case Hdefm =>
              refine DGo.all [0, 11] (by kernel_rfl) ?_
              refine zP.cons ?_ (zP.cons ?_ (zP.nil))
              · refine zU.at_ 0 ?_
                refine zU.v rfl rfl rfl (yO rfl rfl rfl (by rfl) (by rfl) rfl (by decide)) ?_
                exact DGo.keep [0, 3, 4, 5, 6, 7, 8, 9, 163, 158, 17] [5, 17, 31, 32] Hadefm
              · refine zU.at_ 11 ?_
                refine zU.m rfl rfl rfl (zG rfl (by decide) rfl (by decide)) ?_
                exact DGo.keep [0, 3, 4, 5, 6, 7, 8, 9, 163, 16, 17] [5, 16, 17, 31, 32] Hdeflm
            refine DGo.share (fu' := 10) (D' := [12, 11, 4, 3, 1, 2]) (F' := { t := [(0, .p (.sl (byts l))), (3, .p (.val (.bool true))), (4, .p (.val (.int .i64 12))), (5, .ptr 5 0), (6, .own 32), (7, .p (.val (.int .i64 next))), (8, .p (.val (.int .i64 (i : Nat)))), (9, .p (.val (.int .i64 (q : Nat)))), (162, .p (.val (.int .i64 v))), (16, .ptr 16 0), (17, .ptr 17 0)], s := [(5, .box 33 [.p (.val (.int .i64 t1)), .p (.val (.int .i64 u1)), .own 31, .p (.val (.int .u64 root1)), .p (.sl (strs r01)), .p (.sl (strs r11))]), (16, .box 33 ([.val (.int .i64 0), .val (.int .i64 0), .val (.slice none 0 0), .val (.int .u64 0), .val (.slice none 0 0), .val (.slice none 0 0)].map AV.p)), (17, .box 38 ([.val (.int .i64 0), .val (.bool false), .val (.int .i64 0), .val (.int .u64 0), .val (.slice none 0 0)].map AV.p)), (31, yG 27 1 (wds ws1)), (32, yG 3 1 (yF (a ++ v :: c)))] }) ?Hdelm (fun Hdelm => ?_)
            case Hdelm =>
              refine DGo.all [0, 5] (by kernel_rfl) ?_
              refine zP.cons ?_ (zP.cons ?_ (zP.nil))
              · refine zU.at_ 0 ?_
                refine zU.v rfl rfl rfl (yO rfl rfl rfl (by rfl) (by rfl) rfl (by decide)) ?_
                exact DGo.keep [0, 3, 4, 5, 6, 7, 8, 9, 162, 158, 16, 17] [5, 16, 17, 31, 32] Hadelm
              · refine zU.at_ 5 ?_
                refine zU.v rfl rfl rfl (y8 rfl (by rfl) (by rfl) (by rfl) (by rfl) rfl (by decide)) ?_
                exact DGo.keep [0, 3, 4, 5, 6, 7, 8, 9, 163, 16, 17] [5, 16, 17, 31, 32] Hdeflm
            refine DGo.share (fu' := 11) (D' := [4, 3, 0, 1, 2]) (F' := { t := [(0, .p (.sl (byts l))), (3, .p (.val (.bool true))), (4, .p (.val (.int .i64 12))), (5, .ptr 5 0), (6, .own 32), (7, .p (.val (.int .i64 next))), (8, .p (.val (.int .i64 (i : Nat)))), (9, .p (.val (.int .i64 (q : Nat)))), (162, .p (.val (.int .i64 v))), (158, .ag [.p (.val (.int .i64 t1)), .p (.val (.int .i64 u1)), .o 31, .p (.val (.int .u64 root1)), .p (.sl (strs r01)), .p (.sl (strs r11))])], s := [(5, .box 33 [.p (.val (.int .i64 t1)), .p (.val (.int .i64 u1)), .own 31, .p (.val (.int .u64 root1)), .p (.sl (strs r01)), .p (.sl (strs r11))]), (31, yG 27 1 (wds ws1)), (32, yG 3 1 (yF (a ++ v :: c)))] }) ?Hade (fun Hade => ?_)
            case Hade =>
              refine DGo.all [5, 11, 12] (by kernel_rfl) ?_
              refine zP.cons ?_ (zP.cons ?_ (zP.cons ?_ (zP.nil)))
              · refine zU.at_ 5 ?_
                refine zU.v rfl rfl rfl (y8 rfl (by rfl) (by rfl) (by rfl) (by rfl) rfl (by decide)) ?_
                exact DGo.keep [0, 3, 4, 5, 6, 7, 8, 9, 163, 158] [5, 31, 32] Hadef
              · refine zU.at_ 11 ?_
                refine zU.m rfl rfl rfl (zG rfl (by decide) rfl (by decide)) ?_
                exact DGo.keep [0, 3, 4, 5, 6, 7, 8, 9, 162, 158, 16] [5, 16, 31, 32] Hadel
              · refine zU.at_ 12 ?_
                refine zU.m rfl rfl rfl (zG rfl (by decide) rfl (by decide)) ?_
                exact DGo.keep [0, 3, 4, 5, 6, 7, 8, 9, 162, 158, 17] [5, 17, 31, 32] Hadem
            refine DGo.share (fu' := 11) (D' := [11, 3, 0, 1, 2]) (F' := { t := [(0, .p (.sl (byts l))), (3, .p (.val (.bool true))), (4, .p (.val (.int .i64 12))), (5, .ptr 5 0), (6, .own 32), (7, .p (.val (.int .i64 next))), (8, .p (.val (.int .i64 (i : Nat)))), (9, .p (.val (.int .i64 (q : Nat)))), (161, .ptr 32 (((q : Nat) : Int).toNat * 1)), (158, .ag [.p (.val (.int .i64 t1)), .p (.val (.int .i64 u1)), .o 31, .p (.val (.int .u64 root1)), .p (.sl (strs r01)), .p (.sl (strs r11))]), (16, .ptr 16 0)], s := [(5, .box 33 [.p (.val (.int .i64 t1)), .p (.val (.int .i64 u1)), .own 31, .p (.val (.int .u64 root1)), .p (.sl (strs r01)), .p (.sl (strs r11))]), (16, .box 33 ([.val (.int .i64 0), .val (.int .i64 0), .val (.slice none 0 0), .val (.int .u64 0), .val (.slice none 0 0), .val (.slice none 0 0)].map AV.p)), (31, yG 27 1 (wds ws1)), (32, yG 3 1 (yF (a ++ v :: c)))] }) ?Hadl (fun Hadl => ?_)
            case Hadl =>
              refine DGo.all [4, 12] (by kernel_rfl) ?_
              refine zP.cons ?_ (zP.cons ?_ (zP.nil))
              · refine zU.at_ 4 ?_
                refine zU.v rfl rfl rfl (by exact kZ rfl rfl rfl k3 k2 rfl (by decide)) ?_
                exact DGo.keep [0, 3, 4, 5, 6, 7, 8, 9, 162, 158, 16] [5, 16, 31, 32] Hadel
              · refine zU.at_ 12 ?_
                refine zU.m rfl rfl rfl (zG rfl (by decide) rfl (by decide)) ?_
                exact DGo.keep [0, 3, 4, 5, 6, 7, 8, 9, 161, 158, 16, 17] [5, 16, 17, 31, 32] Hadlm
            refine DGo.share (fu' := 11) (D' := [12, 3, 0, 1, 2]) (F' := { t := [(0, .p (.sl (byts l))), (3, .p (.val (.bool true))), (4, .p (.val (.int .i64 12))), (5, .ptr 5 0), (6, .own 32), (7, .p (.val (.int .i64 next))), (8, .p (.val (.int .i64 (i : Nat)))), (9, .p (.val (.int .i64 (q : Nat)))), (161, .ptr 32 (((q : Nat) : Int).toNat * 1)), (158, .ag [.p (.val (.int .i64 t1)), .p (.val (.int .i64 u1)), .o 31, .p (.val (.int .u64 root1)), .p (.sl (strs r01)), .p (.sl (strs r11))]), (17, .ptr 17 0)], s := [(5, .box 33 [.p (.val (.int .i64 t1)), .p (.val (.int .i64 u1)), .own 31, .p (.val (.int .u64 root1)), .p (.sl (strs r01)), .p (.sl (strs r11))]), (17, .box 38 ([.val (.int .i64 0), .val (.bool false), .val (.int .i64 0), .val (.int .u64 0), .val (.slice none 0 0)].map AV.p)), (31, yG 27 1 (wds ws1)), (32, yG 3 1 (yF (a ++ v :: c)))] }) ?Hadm (fun Hadm => ?_)
            case Hadm =>
              refine DGo.all [4, 11] (by kernel_rfl) ?_
              refine zP.cons ?_ (zP.cons ?_ (zP.nil))
              · refine zU.at_ 4 ?_
                refine zU.v rfl rfl rfl (by exact kZ rfl rfl rfl k3 k2 rfl (by decide)) ?_
                exact DGo.keep [0, 3, 4, 5, 6, 7, 8, 9, 162, 158, 17] [5, 17, 31, 32] Hadem
              · refine zU.at_ 11 ?_
                refine zU.m rfl rfl rfl (zG rfl (by decide) rfl (by decide)) ?_
                exact DGo.keep [0, 3, 4, 5, 6, 7, 8, 9, 161, 158, 16, 17] [5, 16, 17, 31, 32] Hadlm
            refine DGo.share (fu' := 11) (D' := [12, 11, 0, 1, 2]) (F' := { t := [(0, .p (.sl (byts l))), (3, .p (.val (.bool true))), (4, .p (.val (.int .i64 12))), (5, .ptr 5 0), (6, .own 32), (7, .p (.val (.int .i64 next))), (8, .p (.val (.int .i64 (i : Nat)))), (9, .p (.val (.int .i64 (q : Nat)))), (159, .own 32), (160, .p (.val (.int .i64 (q : Nat)))), (158, .ag [.p (.val (.int .i64 t1)), .p (.val (.int .i64 u1)), .o 31, .p (.val (.int .u64 root1)), .p (.sl (strs r01)), .p (.sl (strs r11))]), (16, .ptr 16 0), (17, .ptr 17 0)], s := [(5, .box 33 [.p (.val (.int .i64 t1)), .p (.val (.int .i64 u1)), .own 31, .p (.val (.int .u64 root1)), .p (.sl (strs r01)), .p (.sl (strs r11))]), (16, .box 33 ([.val (.int .i64 0), .val (.int .i64 0), .val (.slice none 0 0), .val (.int .u64 0), .val (.slice none 0 0), .val (.slice none 0 0)].map AV.p)), (17, .box 38 ([.val (.int .i64 0), .val (.bool false), .val (.int .i64 0), .val (.int .u64 0), .val (.slice none 0 0)].map AV.p)), (31, yG 27 1 (wds ws1)), (32, yG 3 1 (yF (a ++ v :: c)))] }) ?Halm (fun Halm => ?_)
            case Halm =>
              refine DGo.all [3] (by kernel_rfl) ?_
              refine zP.cons ?_ (zP.nil)
              · refine zU.at_ 3 ?_
                refine zU.v rfl rfl rfl (by exact xH rfl rfl rfl rfl k1 rfl (by decide)) ?_
                exact DGo.keep [0, 3, 4, 5, 6, 7, 8, 9, 161, 158, 16, 17] [5, 16, 17, 31, 32] Hadlm
            refine DGo.share (fu' := 11) (D' := [5, 4, 3, 1, 2]) (F' := { t := [(0, .p (.sl (byts l))), (3, .p (.val (.bool true))), (4, .p (.val (.int .i64 12))), (5, .ptr 5 0), (6, .own 32), (7, .p (.val (.int .i64 next))), (8, .p (.val (.int .i64 (i : Nat)))), (9, .p (.val (.int .i64 (q : Nat)))), (163, .p (.agg [.val (.int .i64 9), .val (.int .i64 v), .val (.int .i64 0), .val (.int .u64 0)]))], s := [(5, .box 33 [.p (.val (.int .i64 t1)), .p (.val (.int .i64 u1)), .own 31, .p (.val (.int .u64 root1)), .p (.sl (strs r01)), .p (.sl (strs r11))]), (31, yG 27 1 (wds ws1)), (32, yG 3 1 (yF (a ++ v :: c)))] }) ?Hdef (fun Hdef => ?_)
            case Hdef =>
              refine DGo.all [0, 11, 12] (by kernel_rfl) ?_
              refine zP.cons ?_ (zP.cons ?_ (zP.cons ?_ (zP.nil)))
              · refine zU.at_ 0 ?_
                refine zU.v rfl rfl rfl (yO rfl rfl rfl (by rfl) (by rfl) rfl (by decide)) ?_
                exact DGo.keep [0, 3, 4, 5, 6, 7, 8, 9, 163, 158] [5, 31, 32] Hadef
              · refine zU.at_ 11 ?_
                refine zU.m rfl rfl rfl (zG rfl (by decide) rfl (by decide)) ?_
                exact DGo.keep [0, 3, 4, 5, 6, 7, 8, 9, 163, 16] [5, 16, 31, 32] Hdefl
              · refine zU.at_ 12 ?_
                refine zU.m rfl rfl rfl (zG rfl (by decide) rfl (by decide)) ?_
                exact DGo.keep [0, 3, 4, 5, 6, 7, 8, 9, 163, 17] [5, 17, 31, 32] Hdefm
            refine DGo.share (fu' := 11) (D' := [11, 4, 3, 1, 2]) (F' := { t := [(0, .p (.sl (byts l))), (3, .p (.val (.bool true))), (4, .p (.val (.int .i64 12))), (5, .ptr 5 0), (6, .own 32), (7, .p (.val (.int .i64 next))), (8, .p (.val (.int .i64 (i : Nat)))), (9, .p (.val (.int .i64 (q : Nat)))), (162, .p (.val (.int .i64 v))), (16, .ptr 16 0)], s := [(5, .box 33 [.p (.val (.int .i64 t1)), .p (.val (.int .i64 u1)), .own 31, .p (.val (.int .u64 root1)), .p (.sl (strs r01)), .p (.sl (strs r11))]), (16, .box 33 ([.val (.int .i64 0), .val (.int .i64 0), .val (.slice none 0 0), .val (.int .u64 0), .val (.slice none 0 0), .val (.slice none 0 0)].map AV.p)), (31, yG 27 1 (wds ws1)), (32, yG 3 1 (yF (a ++ v :: c)))] }) ?Hdel (fun Hdel => ?_)
            case Hdel =>
              refine DGo.all [0, 5, 12] (by kernel_rfl) ?_
              refine zP.cons ?_ (zP.cons ?_ (zP.cons ?_ (zP.nil)))
              · refine zU.at_ 0 ?_
                refine zU.v rfl rfl rfl (yO rfl rfl rfl (by rfl) (by rfl) rfl (by decide)) ?_
                exact DGo.keep [0, 3, 4, 5, 6, 7, 8, 9, 162, 158, 16] [5, 16, 31, 32] Hadel
              · refine zU.at_ 5 ?_
                refine zU.v rfl rfl rfl (y8 rfl (by rfl) (by rfl) (by rfl) (by rfl) rfl (by decide)) ?_
                exact DGo.keep [0, 3, 4, 5, 6, 7, 8, 9, 163, 16] [5, 16, 31, 32] Hdefl
              · refine zU.at_ 12 ?_
                refine zU.m rfl rfl rfl (zG rfl (by decide) rfl (by decide)) ?_
                exact DGo.keep [0, 3, 4, 5, 6, 7, 8, 9, 162, 16, 17] [5, 16, 17, 31, 32] Hdelm
            refine DGo.share (fu' := 11) (D' := [12, 4, 3, 1, 2]) (F' := { t := [(0, .p (.sl (byts l))), (3, .p (.val (.bool true))), (4, .p (.val (.int .i64 12))), (5, .ptr 5 0), (6, .own 32), (7, .p (.val (.int .i64 next))), (8, .p (.val (.int .i64 (i : Nat)))), (9, .p (.val (.int .i64 (q : Nat)))), (162, .p (.val (.int .i64 v))), (17, .ptr 17 0)], s := [(5, .box 33 [.p (.val (.int .i64 t1)), .p (.val (.int .i64 u1)), .own 31, .p (.val (.int .u64 root1)), .p (.sl (strs r01)), .p (.sl (strs r11))]), (17, .box 38 ([.val (.int .i64 0), .val (.bool false), .val (.int .i64 0), .val (.int .u64 0), .val (.slice none 0 0)].map AV.p)), (31, yG 27 1 (wds ws1)), (32, yG 3 1 (yF (a ++ v :: c)))] }) ?Hdem (fun Hdem => ?_)
            case Hdem =>
              refine DGo.all [0, 5, 11] (by kernel_rfl) ?_
              refine zP.cons ?_ (zP.cons ?_ (zP.cons ?_ (zP.nil)))
              · refine zU.at_ 0 ?_
                refine zU.v rfl rfl rfl (yO rfl rfl rfl (by rfl) (by rfl) rfl (by decide)) ?_
                exact DGo.keep [0, 3, 4, 5, 6, 7, 8, 9, 162, 158, 17] [5, 17, 31, 32] Hadem
              · refine zU.at_ 5 ?_
                refine zU.v rfl rfl rfl (y8 rfl (by rfl) (by rfl) (by rfl) (by rfl) rfl (by decide)) ?_
                exact DGo.keep [0, 3, 4, 5, 6, 7, 8, 9, 163, 17] [5, 17, 31, 32] Hdefm
              · refine zU.at_ 11 ?_
                refine zU.m rfl rfl rfl (zG rfl (by decide) rfl (by decide)) ?_
                exact DGo.keep [0, 3, 4, 5, 6, 7, 8, 9, 162, 16, 17] [5, 16, 17, 31, 32] Hdelm
            refine DGo.share (fu' := 11) (D' := [12, 11, 3, 1, 2]) (F' := { t := [(0, .p (.sl (byts l))), (3, .p (.val (.bool true))), (4, .p (.val (.int .i64 12))), (5, .ptr 5 0), (6, .own 32), (7, .p (.val (.int .i64 next))), (8, .p (.val (.int .i64 (i : Nat)))), (9, .p (.val (.int .i64 (q : Nat)))), (161, .ptr 32 (((q : Nat) : Int).toNat * 1)), (16, .ptr 16 0), (17, .ptr 17 0)], s := [(5, .box 33 [.p (.val (.int .i64 t1)), .p (.val (.int .i64 u1)), .own 31, .p (.val (.int .u64 root1)), .p (.sl (strs r01)), .p (.sl (strs r11))]), (16, .box 33 ([.val (.int .i64 0), .val (.int .i64 0), .val (.slice none 0 0), .val (.int .u64 0), .val (.slice none 0 0), .val (.slice none 0 0)].map AV.p)), (17, .box 38 ([.val (.int .i64 0), .val (.bool false), .val (.int .i64 0), .val (.int .u64 0), .val (.slice none 0 0)].map AV.p)), (31, yG 27 1 (wds ws1)), (32, yG 3 1 (yF (a ++ v :: c)))] }) ?Hdlm (fun Hdlm => ?_)
            case Hdlm =>
              refine DGo.all [0, 4] (by kernel_rfl) ?_
              refine zP.cons ?_ (zP.cons ?_ (zP.nil))
              · refine zU.at_ 0 ?_
                refine zU.v rfl rfl rfl (yO rfl rfl rfl (by rfl) (by rfl) rfl (by decide)) ?_
                exact DGo.keep [0, 3, 4, 5, 6, 7, 8, 9, 161, 158, 16, 17] [5, 16, 17, 31, 32] Hadlm
              · refine zU.at_ 4 ?_
                refine zU.v rfl rfl rfl (by exact kZ rfl rfl rfl k3 k2 rfl (by decide)) ?_
                exact DGo.keep [0, 3, 4, 5, 6, 7, 8, 9, 162, 16, 17] [5, 16, 17, 31, 32] Hdelm
            refine DGo.share (fu' := 12) (D' := [3, 0, 1, 2]) (F' := { t := [(0, .p (.sl (byts l))), (3, .p (.val (.bool true))), (4, .p (.val (.int .i64 12))), (5, .ptr 5 0), (6, .own 32), (7, .p (.val (.int .i64 next))), (8, .p (.val (.int .i64 (i : Nat)))), (9, .p (.val (.int .i64 (q : Nat)))), (161, .ptr 32 (((q : Nat) : Int).toNat * 1)), (158, .ag [.p (.val (.int .i64 t1)), .p (.val (.int .i64 u1)), .o 31, .p (.val (.int .u64 root1)), .p (.sl (strs r01)), .p (.sl (strs r11))])], s := [(5, .box 33 [.p (.val (.int .i64 t1)), .p (.val (.int .i64 u1)), .own 31, .p (.val (.int .u64 root1)), .p (.sl (strs r01)), .p (.sl (strs r11))]), (31, yG 27 1 (wds ws1)), (32, yG 3 1 (yF (a ++ v :: c)))] }) ?Had (fun Had => ?_)
            case Had =>
              refine DGo.all [4, 11, 12] (by kernel_rfl) ?_
              refine zP.cons ?_ (zP.cons ?_ (zP.cons ?_ (zP.nil)))
              · refine zU.at_ 4 ?_
                refine zU.v rfl rfl rfl (by exact kZ rfl rfl rfl k3 k2 rfl (by decide)) ?_
                exact DGo.keep [0, 3, 4, 5, 6, 7, 8, 9, 162, 158] [5, 31, 32] Hade
              · refine zU.at_ 11 ?_
                refine zU.m rfl rfl rfl (zG rfl (by decide) rfl (by decide)) ?_
                exact DGo.keep [0, 3, 4, 5, 6, 7, 8, 9, 161, 158, 16] [5, 16, 31, 32] Hadl
              · refine zU.at_ 12 ?_
                refine zU.m rfl rfl rfl (zG rfl (by decide) rfl (by decide)) ?_
                exact DGo.keep [0, 3, 4, 5, 6, 7, 8, 9, 161, 158, 17] [5, 17, 31, 32] Hadm
            refine DGo.share (fu' := 12) (D' := [11, 0, 1, 2]) (F' := { t := [(0, .p (.sl (byts l))), (3, .p (.val (.bool true))), (4, .p (.val (.int .i64 12))), (5, .ptr 5 0), (6, .own 32), (7, .p (.val (.int .i64 next))), (8, .p (.val (.int .i64 (i : Nat)))), (9, .p (.val (.int .i64 (q : Nat)))), (159, .own 32), (160, .p (.val (.int .i64 (q : Nat)))), (158, .ag [.p (.val (.int .i64 t1)), .p (.val (.int .i64 u1)), .o 31, .p (.val (.int .u64 root1)), .p (.sl (strs r01)), .p (.sl (strs r11))]), (16, .ptr 16 0)], s := [(5, .box 33 [.p (.val (.int .i64 t1)), .p (.val (.int .i64 u1)), .own 31, .p (.val (.int .u64 root1)), .p (.sl (strs r01)), .p (.sl (strs r11))]), (16, .box 33 ([.val (.int .i64 0), .val (.int .i64 0), .val (.slice none 0 0), .val (.int .u64 0), .val (.slice none 0 0), .val (.slice none 0 0)].map AV.p)), (31, yG 27 1 (wds ws1)), (32, yG 3 1 (yF (a ++ v :: c)))] }) ?Hal (fun Hal => ?_)
            case Hal =>
              refine DGo.all [3, 12] (by kernel_rfl) ?_
              refine zP.cons ?_ (zP.cons ?_ (zP.nil))
              · refine zU.at_ 3 ?_
                refine zU.v rfl rfl rfl (by exact xH rfl rfl rfl rfl k1 rfl (by decide)) ?_
                exact DGo.keep [0, 3, 4, 5, 6, 7, 8, 9, 161, 158, 16] [5, 16, 31, 32] Hadl
              · refine zU.at_ 12 ?_
                refine zU.m rfl rfl rfl (zG rfl (by decide) rfl (by decide)) ?_
                exact DGo.keep [0, 3, 4, 5, 6, 7, 8, 9, 159, 160, 158, 16, 17] [5, 16, 17, 31, 32] Halm
            refine DGo.share (fu' := 12) (D' := [12, 0, 1, 2]) (F' := { t := [(0, .p (.sl (byts l))), (3, .p (.val (.bool true))), (4, .p (.val (.int .i64 12))), (5, .ptr 5 0), (6, .own 32), (7, .p (.val (.int .i64 next))), (8, .p (.val (.int .i64 (i : Nat)))), (9, .p (.val (.int .i64 (q : Nat)))), (159, .own 32), (160, .p (.val (.int .i64 (q : Nat)))), (158, .ag [.p (.val (.int .i64 t1)), .p (.val (.int .i64 u1)), .o 31, .p (.val (.int .u64 root1)), .p (.sl (strs r01)), .p (.sl (strs r11))]), (17, .ptr 17 0)], s := [(5, .box 33 [.p (.val (.int .i64 t1)), .p (.val (.int .i64 u1)), .own 31, .p (.val (.int .u64 root1)), .p (.sl (strs r01)), .p (.sl (strs r11))]), (17, .box 38 ([.val (.int .i64 0), .val (.bool false), .val (.int .i64 0), .val (.int .u64 0), .val (.slice none 0 0)].map AV.p)), (31, yG 27 1 (wds ws1)), (32, yG 3 1 (yF (a ++ v :: c)))] }) ?Ham (fun Ham => ?_)
            case Ham =>
              refine DGo.all [3, 11] (by kernel_rfl) ?_
              refine zP.cons ?_ (zP.cons ?_ (zP.nil))
              · refine zU.at_ 3 ?_
                refine zU.v rfl rfl rfl (by exact xH rfl rfl rfl rfl k1 rfl (by decide)) ?_
                exact DGo.keep [0, 3, 4, 5, 6, 7, 8, 9, 161, 158, 17] [5, 17, 31, 32] Hadm
              · refine zU.at_ 11 ?_
                refine zU.m rfl rfl rfl (zG rfl (by decide) rfl (by decide)) ?_
                exact DGo.keep [0, 3, 4, 5, 6, 7, 8, 9, 159, 160, 158, 16, 17] [5, 16, 17, 31, 32] Halm
            refine DGo.share (fu' := 12) (D' := [4, 3, 1, 2]) (F' := { t := [(0, .p (.sl (byts l))), (3, .p (.val (.bool true))), (4, .p (.val (.int .i64 12))), (5, .ptr 5 0), (6, .own 32), (7, .p (.val (.int .i64 next))), (8, .p (.val (.int .i64 (i : Nat)))), (9, .p (.val (.int .i64 (q : Nat)))), (162, .p (.val (.int .i64 v)))], s := [(5, .box 33 [.p (.val (.int .i64 t1)), .p (.val (.int .i64 u1)), .own 31, .p (.val (.int .u64 root1)), .p (.sl (strs r01)), .p (.sl (strs r11))]), (31, yG 27 1 (wds ws1)), (32, yG 3 1 (yF (a ++ v :: c)))] }) ?Hde (fun Hde => ?_)
            case Hde =>
              refine DGo.all [0, 5, 11, 12] (by kernel_rfl) ?_
              refine zP.cons ?_ (zP.cons ?_ (zP.cons ?_ (zP.cons ?_ (zP.nil))))
              · refine zU.at_ 0 ?_
                refine zU.v rfl rfl rfl (yO rfl rfl rfl (by rfl) (by rfl) rfl (by decide)) ?_
                exact DGo.keep [0, 3, 4, 5, 6, 7, 8, 9, 162, 158] [5, 31, 32] Hade
              · refine zU.at_ 5 ?_
                refine zU.v rfl rfl rfl (y8 rfl (by rfl) (by rfl) (by rfl) (by rfl) rfl (by decide)) ?_
                exact DGo.keep [0, 3, 4, 5, 6, 7, 8, 9, 163] [5, 31, 32] Hdef
              · refine zU.at_ 11 ?_
                refine zU.m rfl rfl rfl (zG rfl (by decide) rfl (by decide)) ?_
                exact DGo.keep [0, 3, 4, 5, 6, 7, 8, 9, 162, 16] [5, 16, 31, 32] Hdel
              · refine zU.at_ 12 ?_
                refine zU.m rfl rfl rfl (zG rfl (by decide) rfl (by decide)) ?_
                exact DGo.keep [0, 3, 4, 5, 6, 7, 8, 9, 162, 17] [5, 17, 31, 32] Hdem
            refine DGo.share (fu' := 12) (D' := [11, 3, 1, 2]) (F' := { t := [(0, .p (.sl (byts l))), (3, .p (.val (.bool true))), (4, .p (.val (.int .i64 12))), (5, .ptr 5 0), (6, .own 32), (7, .p (.val (.int .i64 next))), (8, .p (.val (.int .i64 (i : Nat)))), (9, .p (.val (.int .i64 (q : Nat)))), (161, .ptr 32 (((q : Nat) : Int).toNat * 1)), (16, .ptr 16 0)], s := [(5, .box 33 [.p (.val (.int .i64 t1)), .p (.val (.int .i64 u1)), .own 31, .p (.val (.int .u64 root1)), .p (.sl (strs r01)), .p (.sl (strs r11))]), (16, .box 33 ([.val (.int .i64 0), .val (.int .i64 0), .val (.slice none 0 0), .val (.int .u64 0), .val (.slice none 0 0), .val (.slice none 0 0)].map AV.p)), (31, yG 27 1 (wds ws1)), (32, yG 3 1 (yF (a ++ v :: c)))] }) ?Hdl (fun Hdl => ?_)
            case Hdl =>
              refine DGo.all [0, 4, 12] (by kernel_rfl) ?_
              refine zP.cons ?_ (zP.cons ?_ (zP.cons ?_ (zP.nil)))
              · refine zU.at_ 0 ?_
                refine zU.v rfl rfl rfl (yO rfl rfl rfl (by rfl) (by rfl) rfl (by decide)) ?_
                exact DGo.keep [0, 3, 4, 5, 6, 7, 8, 9, 161, 158, 16] [5, 16, 31, 32] Hadl
              · refine zU.at_ 4 ?_
                refine zU.v rfl rfl rfl (by exact kZ rfl rfl rfl k3 k2 rfl (by decide)) ?_
                exact DGo.keep [0, 3, 4, 5, 6, 7, 8, 9, 162, 16] [5, 16, 31, 32] Hdel
              · refine zU.at_ 12 ?_
                refine zU.m rfl rfl rfl (zG rfl (by decide) rfl (by decide)) ?_
                exact DGo.keep [0, 3, 4, 5, 6, 7, 8, 9, 161, 16, 17] [5, 16, 17, 31, 32] Hdlm
            refine DGo.share (fu' := 12) (D' := [12, 3, 1, 2]) (F' := { t := [(0, .p (.sl (byts l))), (3, .p (.val (.bool true))), (4, .p (.val (.int .i64 12))), (5, .ptr 5 0), (6, .own 32), (7, .p (.val (.int .i64 next))), (8, .p (.val (.int .i64 (i : Nat)))), (9, .p (.val (.int .i64 (q : Nat)))), (161, .ptr 32 (((q : Nat) : Int).toNat * 1)), (17, .ptr 17 0)], s := [(5, .box 33 [.p (.val (.int .i64 t1)), .p (.val (.int .i64 u1)), .own 31, .p (.val (.int .u64 root1)), .p (.sl (strs r01)), .p (.sl (strs r11))]), (17, .box 38 ([.val (.int .i64 0), .val (.bool false), .val (.int .i64 0), .val (.int .u64 0), .val (.slice none 0 0)].map AV.p)), (31, yG 27 1 (wds ws1)), (32, yG 3 1 (yF (a ++ v :: c)))] }) ?Hdm (fun Hdm => ?_)
            case Hdm =>
              refine DGo.all [0, 4, 11] (by kernel_rfl) ?_
              refine zP.cons ?_ (zP.cons ?_ (zP.cons ?_ (zP.nil)))
              · refine zU.at_ 0 ?_
                refine zU.v rfl rfl rfl (yO rfl rfl rfl (by rfl) (by rfl) rfl (by decide)) ?_
                exact DGo.keep [0, 3, 4, 5, 6, 7, 8, 9, 161, 158, 17] [5, 17, 31, 32] Hadm
              · refine zU.at_ 4 ?_
                refine zU.v rfl rfl rfl (by exact kZ rfl rfl rfl k3 k2 rfl (by decide)) ?_
                exact DGo.keep [0, 3, 4, 5, 6, 7, 8, 9, 162, 17] [5, 17, 31, 32] Hdem
              · refine zU.at_ 11 ?_
                refine zU.m rfl rfl rfl (zG rfl (by decide) rfl (by decide)) ?_
                exact DGo.keep [0, 3, 4, 5, 6, 7, 8, 9, 161, 16, 17] [5, 16, 17, 31, 32] Hdlm
            refine DGo.share (fu' := 12) (D' := [12, 11, 1, 2]) (F' := { t := [(0, .p (.sl (byts l))), (3, .p (.val (.bool true))), (4, .p (.val (.int .i64 12))), (5, .ptr 5 0), (6, .own 32), (7, .p (.val (.int .i64 next))), (8, .p (.val (.int .i64 (i : Nat)))), (9, .p (.val (.int .i64 (q : Nat)))), (159, .own 32), (160, .p (.val (.int .i64 (q : Nat)))), (16, .ptr 16 0), (17, .ptr 17 0)], s := [(5, .box 33 [.p (.val (.int .i64 t1)), .p (.val (.int .i64 u1)), .own 31, .p (.val (.int .u64 root1)), .p (.sl (strs r01)), .p (.sl (strs r11))]), (16, .box 33 ([.val (.int .i64 0), .val (.int .i64 0), .val (.slice none 0 0), .val (.int .u64 0), .val (.slice none 0 0), .val (.slice none 0 0)].map AV.p)), (17, .box 38 ([.val (.int .i64 0), .val (.bool false), .val (.int .i64 0), .val (.int .u64 0), .val (.slice none 0 0)].map AV.p)), (31, yG 27 1 (wds ws1)), (32, yG 3 1 (yF (a ++ v :: c)))] }) ?Hlm (fun Hlm => ?_)
            case Hlm =>
              refine DGo.all [0, 3] (by kernel_rfl) ?_
              refine zP.cons ?_ (zP.cons ?_ (zP.nil))
              · refine zU.at_ 0 ?_
                refine zU.v rfl rfl rfl (yO rfl rfl rfl (by rfl) (by rfl) rfl (by decide)) ?_
                exact DGo.keep [0, 3, 4, 5, 6, 7, 8, 9, 159, 160, 158, 16, 17] [5, 16, 17, 31, 32] Halm
              · refine zU.at_ 3 ?_
                refine zU.v rfl rfl rfl (by exact xH rfl rfl rfl rfl k1 rfl (by decide)) ?_
                exact DGo.keep [0, 3, 4, 5, 6, 7, 8, 9, 161, 16, 17] [5, 16, 17, 31, 32] Hdlm
            refine DGo.share (fu' := 13) (D' := [0, 1, 2]) (F' := { t := [(0, .p (.sl (byts l))), (3, .p (.val (.bool true))), (4, .p (.val (.int .i64 12))), (5, .ptr 5 0), (6, .own 32), (7, .p (.val (.int .i64 next))), (8, .p (.val (.int .i64 (i : Nat)))), (9, .p (.val (.int .i64 (q : Nat)))), (159, .own 32), (160, .p (.val (.int .i64 (q : Nat)))), (158, .ag [.p (.val (.int .i64 t1)), .p (.val (.int .i64 u1)), .o 31, .p (.val (.int .u64 root1)), .p (.sl (strs r01)), .p (.sl (strs r11))])], s := [(5, .box 33 [.p (.val (.int .i64 t1)), .p (.val (.int .i64 u1)), .own 31, .p (.val (.int .u64 root1)), .p (.sl (strs r01)), .p (.sl (strs r11))]), (31, yG 27 1 (wds ws1)), (32, yG 3 1 (yF (a ++ v :: c)))] }) ?Ha (fun Ha => ?_)
            case Ha =>
              refine DGo.all [3, 11, 12] (by kernel_rfl) ?_
              refine zP.cons ?_ (zP.cons ?_ (zP.cons ?_ (zP.nil)))
              · refine zU.at_ 3 ?_
                refine zU.v rfl rfl rfl (by exact xH rfl rfl rfl rfl k1 rfl (by decide)) ?_
                exact DGo.keep [0, 3, 4, 5, 6, 7, 8, 9, 161, 158] [5, 31, 32] Had
              · refine zU.at_ 11 ?_
                refine zU.m rfl rfl rfl (zG rfl (by decide) rfl (by decide)) ?_
                exact DGo.keep [0, 3, 4, 5, 6, 7, 8, 9, 159, 160, 158, 16] [5, 16, 31, 32] Hal
              · refine zU.at_ 12 ?_
                refine zU.m rfl rfl rfl (zG rfl (by decide) rfl (by decide)) ?_
                exact DGo.keep [0, 3, 4, 5, 6, 7, 8, 9, 159, 160, 158, 17] [5, 17, 31, 32] Ham
            refine DGo.share (fu' := 13) (D' := [3, 1, 2]) (F' := { t := [(0, .p (.sl (byts l))), (3, .p (.val (.bool true))), (4, .p (.val (.int .i64 12))), (5, .ptr 5 0), (6, .own 32), (7, .p (.val (.int .i64 next))), (8, .p (.val (.int .i64 (i : Nat)))), (9, .p (.val (.int .i64 (q : Nat)))), (161, .ptr 32 (((q : Nat) : Int).toNat * 1))], s := [(5, .box 33 [.p (.val (.int .i64 t1)), .p (.val (.int .i64 u1)), .own 31, .p (.val (.int .u64 root1)), .p (.sl (strs r01)), .p (.sl (strs r11))]), (31, yG 27 1 (wds ws1)), (32, yG 3 1 (yF (a ++ v :: c)))] }) ?Hd (fun Hd => ?_)
            case Hd =>
              refine DGo.all [0, 4, 11, 12] (by kernel_rfl) ?_
              refine zP.cons ?_ (zP.cons ?_ (zP.cons ?_ (zP.cons ?_ (zP.nil))))
              · refine zU.at_ 0 ?_
                refine zU.v rfl rfl rfl (yO rfl rfl rfl (by rfl) (by rfl) rfl (by decide)) ?_
                exact DGo.keep [0, 3, 4, 5, 6, 7, 8, 9, 161, 158] [5, 31, 32] Had
              · refine zU.at_ 4 ?_
                refine zU.v rfl rfl rfl (by exact kZ rfl rfl rfl k3 k2 rfl (by decide)) ?_
                exact DGo.keep [0, 3, 4, 5, 6, 7, 8, 9, 162] [5, 31, 32] Hde
              · refine zU.at_ 11 ?_
                refine zU.m rfl rfl rfl (zG rfl (by decide) rfl (by decide)) ?_
                exact DGo.keep [0, 3, 4, 5, 6, 7, 8, 9, 161, 16] [5, 16, 31, 32] Hdl
              · refine zU.at_ 12 ?_
                refine zU.m rfl rfl rfl (zG rfl (by decide) rfl (by decide)) ?_
                exact DGo.keep [0, 3, 4, 5, 6, 7, 8, 9, 161, 17] [5, 17, 31, 32] Hdm
            refine DGo.share (fu' := 13) (D' := [11, 1, 2]) (F' := { t := [(0, .p (.sl (byts l))), (3, .p (.val (.bool true))), (4, .p (.val (.int .i64 12))), (5, .ptr 5 0), (6, .own 32), (7, .p (.val (.int .i64 next))), (8, .p (.val (.int .i64 (i : Nat)))), (9, .p (.val (.int .i64 (q : Nat)))), (159, .own 32), (160, .p (.val (.int .i64 (q : Nat)))), (16, .ptr 16 0)], s := [(5, .box 33 [.p (.val (.int .i64 t1)), .p (.val (.int .i64 u1)), .own 31, .p (.val (.int .u64 root1)), .p (.sl (strs r01)), .p (.sl (strs r11))]), (16, .box 33 ([.val (.int .i64 0), .val (.int .i64 0), .val (.slice none 0 0), .val (.int .u64 0), .val (.slice none 0 0), .val (.slice none 0 0)].map AV.p)), (31, yG 27 1 (wds ws1)), (32, yG 3 1 (yF (a ++ v :: c)))] }) ?Hl (fun Hl => ?_)
            case Hl =>
              refine DGo.all [0, 3, 12] (by kernel_rfl) ?_
              refine zP.cons ?_ (zP.cons ?_ (zP.cons ?_ (zP.nil)))
              · refine zU.at_ 0 ?_
                refine zU.v rfl rfl rfl (yO rfl rfl rfl (by rfl) (by rfl) rfl (by decide)) ?_
                exact DGo.keep [0, 3, 4, 5, 6, 7, 8, 9, 159, 160, 158, 16] [5, 16, 31, 32] Hal
              · refine zU.at_ 3 ?_
                refine zU.v rfl rfl rfl (by exact xH rfl rfl rfl rfl k1 rfl (by decide)) ?_
                exact DGo.keep [0, 3, 4, 5, 6, 7, 8, 9, 161, 16] [5, 16, 31, 32] Hdl
              · refine zU.at_ 12 ?_
                refine zU.m rfl rfl rfl (zG rfl (by decide) rfl (by decide)) ?_
                exact DGo.keep [0, 3, 4, 5, 6, 7, 8, 9, 159, 160, 16, 17] [5, 16, 17, 31, 32] Hlm
            refine DGo.share (fu' := 13) (D' := [12, 1, 2]) (F' := { t := [(0, .p (.sl (byts l))), (3, .p (.val (.bool true))), (4, .p (.val (.int .i64 12))), (5, .ptr 5 0), (6, .own 32), (7, .p (.val (.int .i64 next))), (8, .p (.val (.int .i64 (i : Nat)))), (9, .p (.val (.int .i64 (q : Nat)))), (159, .own 32), (160, .p (.val (.int .i64 (q : Nat)))), (17, .ptr 17 0)], s := [(5, .box 33 [.p (.val (.int .i64 t1)), .p (.val (.int .i64 u1)), .own 31, .p (.val (.int .u64 root1)), .p (.sl (strs r01)), .p (.sl (strs r11))]), (17, .box 38 ([.val (.int .i64 0), .val (.bool false), .val (.int .i64 0), .val (.int .u64 0), .val (.slice none 0 0)].map AV.p)), (31, yG 27 1 (wds ws1)), (32, yG 3 1 (yF (a ++ v :: c)))] }) ?Hm (fun Hm => ?_)
            case Hm =>
              refine DGo.all [0, 3, 11] (by kernel_rfl) ?_
              refine zP.cons ?_ (zP.cons ?_ (zP.cons ?_ (zP.nil)))
              · refine zU.at_ 0 ?_
                refine zU.v rfl rfl rfl (yO rfl rfl rfl (by rfl) (by rfl) rfl (by decide)) ?_
                exact DGo.keep [0, 3, 4, 5, 6, 7, 8, 9, 159, 160, 158, 17] [5, 17, 31, 32] Ham
              · refine zU.at_ 3 ?_
                refine zU.v rfl rfl rfl (by exact xH rfl rfl rfl rfl k1 rfl (by decide)) ?_
                exact DGo.keep [0, 3, 4, 5, 6, 7, 8, 9, 161, 17] [5, 17, 31, 32] Hdm
              · refine zU.at_ 11 ?_
                refine zU.m rfl rfl rfl (zG rfl (by decide) rfl (by decide)) ?_
                exact DGo.keep [0, 3, 4, 5, 6, 7, 8, 9, 159, 160, 16, 17] [5, 16, 17, 31, 32] Hlm
            refine DGo.share (fu' := 14) (D' := [1, 2]) (F' := { t := [(0, .p (.sl (byts l))), (3, .p (.val (.bool true))), (4, .p (.val (.int .i64 12))), (5, .ptr 5 0), (6, .own 32), (7, .p (.val (.int .i64 next))), (8, .p (.val (.int .i64 (i : Nat)))), (9, .p (.val (.int .i64 (q : Nat)))), (159, .own 32), (160, .p (.val (.int .i64 (q : Nat))))], s := [(5, .box 33 [.p (.val (.int .i64 t1)), .p (.val (.int .i64 u1)), .own 31, .p (.val (.int .u64 root1)), .p (.sl (strs r01)), .p (.sl (strs r11))]), (31, yG 27 1 (wds ws1)), (32, yG 3 1 (yF (a ++ v :: c)))] }) ?H (fun H => ?_)
            case H =>
              refine DGo.all [0, 3, 11, 12] (by kernel_rfl) ?_
              refine zP.cons ?_ (zP.cons ?_ (zP.cons ?_ (zP.cons ?_ (zP.nil))))
              · refine zU.at_ 0 ?_
                refine zU.v rfl rfl rfl (yO rfl rfl rfl (by rfl) (by rfl) rfl (by decide)) ?_
                exact DGo.keep [0, 3, 4, 5, 6, 7, 8, 9, 159, 160, 158] [5, 31, 32] Ha
              · refine zU.at_ 3 ?_
                refine zU.v rfl rfl rfl (by exact xH rfl rfl rfl rfl k1 rfl (by decide)) ?_
                exact DGo.keep [0, 3, 4, 5, 6, 7, 8, 9, 161] [5, 31, 32] Hd
              · refine zU.at_ 11 ?_
                refine zU.m rfl rfl rfl (zG rfl (by decide) rfl (by decide)) ?_
                exact DGo.keep [0, 3, 4, 5, 6, 7, 8, 9, 159, 160, 16] [5, 16, 31, 32] Hl
              · refine zU.at_ 12 ?_
                refine zU.m rfl rfl rfl (zG rfl (by decide) rfl (by decide)) ?_
                exact DGo.keep [0, 3, 4, 5, 6, 7, 8, 9, 159, 160, 17] [5, 17, 31, 32] Hm
            exact DGo.keep [0, 3, 4, 5, 6, 7, 8, 9, 159, 160] [5, 31, 32] H
          case k2 =>
            repeat' (first | (refine zY.is ?_; first | refine zY.nil ?_ | (refine zY.at_ 168 rfl ?_; refine zY.rc (.v v0_4 (.v v9_2 (.v x9 (.v x9 (.m xY (.m xY (.w yI (.w yI (.v yV .e))))))))) ?_) | (refine zY.ofT rfl (zR.zL [] [31] [31] (cF) rfl (by decide) (wW rfl) (by rfl) (yD (by decide) rfl (by repeat' first | exact trivial | rfl | constructor)) rfl rfl rfl (by decide) rfl rfl (by decide) rfl rfl rfl ?_))) | (refine zZ.is ?_; first | refine zZ.seq ?_ | (refine zZ.isR (id := 27) ?_; refine zZ.rc [0, 2, 3, 4, 5, 6, 7, 8, 9, 10, 11, 12, 13, 14, 15, 16, 17, 18, 19, 20, 21, 36, 79, 98, 136, 156, 191] [5, 10, 11, 13, 14, 16, 17, 19, 20, 25, 27, 31, 32, 35, 51, 103, 111, 126, 164, 173, 198, 210, 229, 235] (r := (.v v2_19 (.v zC (.v v6_0 (.v kF .e))))) (h := ?_)) | (refine zZ.isR (id := 28) ?_; refine zZ.rc [0, 2, 3, 4, 5, 6, 7, 8, 9, 10, 11, 12, 13, 14, 15, 16, 17, 18, 19, 20, 21, 36, 79, 98, 136, 156, 191] [5, 10, 11, 13, 14, 16, 17, 19, 20, 25, 27, 31, 32, 35, 51, 103, 111, 126, 164, 173, 198, 210, 229, 235] (r := (.v zC (.v v52_5 (.v zC (.gY yR (.gY yN (.gY v52_5 (.v qY (.v zC (.gY zC (.gY v52_5 (.v qY (.v zC (.gY yR (.gY yN (.v qY .e)))))))))))))))) (h := ?_)) | (refine zZ.isR (id := 30) ?_; refine zZ.rc [0, 2, 3, 4, 5, 6, 7, 8, 9, 10, 11, 12, 13, 14, 15, 16, 17, 18, 19, 20, 21, 36, 79, 98, 136, 156, 191] [5, 10, 11, 13, 14, 16, 17, 19, 20, 25, 27, 31, 32, 35, 51, 103, 111, 126, 164, 173, 198, 210, 229, 235] (r := (.v v2_19 (.w yI .e))) (h := ?_)) | (refine zZ.isR (id := 31) ?_; refine zZ.rc [0, 2, 3, 4, 5, 6, 7, 8, 9, 10, 11, 12, 13, 14, 15, 16, 17, 18, 19, 20, 21, 36, 79, 98, 136, 156, 191] [5, 10, 11, 13, 14, 16, 17, 19, 20, 25, 27, 31, 32, 35, 51, 103, 111, 126, 164, 173, 198, 210, 229, 235] (r := (.v v0_1 (.v zC (.v kS (.w w24_1 .e))))) (h := ?_)) | (refine zZ.isR (id := 10) ?_; refine zZ.rc [0, 2, 3, 4, 5, 6, 7, 8, 9, 10, 11, 12, 13, 14, 15, 16, 17, 18, 19, 20, 21, 36, 79, 98, 136, 156, 191] [5, 10, 11, 13, 14, 16, 17, 19, 20, 25, 27, 31, 32, 35, 51, 103, 111, 126, 164, 173, 198, 210, 229, 235] (r := (.v zC (.v v30_0 (.v yV .e)))) (h := ?_)) | refine zZ.yU rfl bA ?_ | refine zZ.skip ?_) | refine zS.n ?_ | refine yA.n ?_)
            all_goals
              refine ⟨(i + 1, ⟨t3, u3, ws3, root3, r03, r13⟩, a ++ 0 :: c, next), ?_, ⟨by show i + 1 ≤ l.length; omega, _, hI3.le (by omega)⟩, by show l.length - (i + 1) < l.length - i; omega⟩
              show Sub _ (laF l (i + 1) ⟨t3, u3, ws3, root3, r03, r13⟩ (a ++ 0 :: c) next)
              unfold laF
              rw [← hset]
              refine yM (is := [0, 3, 4, 5, 6, 7, 8]) (js := [5, 31, 32]) ?_ ?_
              case refine_1 =>
                repeat' first | exact zX.nil | apply zX.p rfl | apply zX.ptr rfl | apply zX.own rfl | apply zX.clo rfl | apply zX.ifp rfl | apply zX.pt rfl | apply zX.tup rfl | apply zX.skip
              case refine_2 =>
                repeat' first | exact zW.nil | apply zW.boxP rfl rfl | apply zW.xG rfl | (apply zW.at0; exact yX rfl (H.nk _).1 (by repeat' fail)) | (apply zW.at1; exact yX rfl (H.nk _).2.1 (by repeat' fail)) | (apply zW.at2; exact yX rfl (H.nk _).2.2 (by repeat' fail)) | apply zW.some rfl | apply zW.skip
end Go.Proofs.YteadaggehndacaaDoor
/- The law ListAlone: its contract. -/
namespace Go.Proofs.YteadaggehndacaaDoor
set_option maxRecDepth 100000
set_option maxHeartbeats 16000000
open Go Go.RowKit
set_option linter.unusedSimpArgs false
set_option linter.unusedVariables false
attribute [local irreducible] zY zZ Step zQ Sub zO zR Fn zS yA
theorem listAlone_fn (l : List Int) (hl : ∀ x ∈ l, 0 ≤ x ∧ x < 256) (hll : l.length ≤ maxLen) : Fn Tryd.prog 3 [.sl (byts l)] (.p (.val (.bool true))) := by
  by_cases h1 : l.length ≤ 30
  · exact listAlone_start l hl h1
  · have c0 := shown15_fn
    have f1 : decide ((30 : Int) < (l.length : Nat)) = true := decide_eq_true (by omega)
    refine xV Tryd.func3 rfl Tryd.ntmps3 (Nat.le_of_ble_eq_true rfl) ?_
    repeat' (first | (refine zY.is ?_; first | refine zY.nil ?_ | (refine zY.at_ 3 rfl ?_; refine zY.rc (.v yV .e) ?_) | (refine zY.in_ [25] rfl ?_; refine zY.v rfl rfl (yK (c0) rfl rfl rfl (by decide)) ?_)) | (refine zZ.is ?_; first | refine zZ.seq ?_ | (refine zZ.isR (id := 0) ?_; refine zZ.rc [0] [5, 10, 11, 13, 14, 16, 17, 19, 20, 32] (r := (.v yV .e)) (h := ?_)) | (refine zZ.isR (id := 1) ?_; refine zZ.rc [0, 2] [5, 10, 11, 13, 14, 16, 17, 19, 20, 32] (r := .e) (h := ?_)) | (refine zZ.isR (id := 2) ?_; refine zZ.rc [0, 2, 3] [5, 10, 11, 13, 14, 16, 17, 19, 20, 32] (r := (.v zC (.v v57_0 (.v v45_0 .e)))) (h := ?_)) | (refine zZ.isR (id := 3) ?_; refine zZ.rc [0, 2, 3] [5, 10, 11, 13, 14, 16, 17, 19, 20, 32] (r := (.v zC (.v yV .e))) (h := ?_)) | refine zZ.yT rfl bA ?_ | refine zZ.ret ?_) | refine zS.n ?_ | refine zS.r ?_)
    all_goals exact ⟨by first | exact .inl rfl | exact .inr rfl, _, Sub.refl _, .p rfl (.tmp rfl)⟩
end Go.Proofs.YteadaggehndacaaDoor
/- A law's arguments, as they come in, by their shapes. Generic over the program. -/
namespace Go.Proofs.YteadaggehndacaaDoor
set_option maxRecDepth 100000
set_option maxHeartbeats 16000000
open Go Go.RowKit Go.ChangeShapes Go.WideShapes Go.ChangeAt
def NoM : Nat → Nat → Prop := fun _ _ => False
/-- what a cell may hold -/
inductive Leaf where
  | int (k : IntKind)
  | bool
  | any
deriving DecidableEq
def leafOK : Leaf → Value → Prop
  | .int k, v => ∃ n, v = .int k n ∧ (Lit.int k n).wf = true
  | .bool, v => ∃ b, v = .bool b
  | .any, v => v.oneCell' = true
/-- type t's cells, one behind the other, are of these kinds (any: a slice) -/
def flatB (P : Program) : Nat → TypeId → List Leaf → Bool
  | 0, _, _ => false
  | d + 1, t, ls => match P.underlying t with
    | some (.int k) => decide (ls = [.int k])
    | some .bool => decide (ls = [.bool])
    | some (.slice _) => decide (ls = [.any])
    | some (.struct fs) => (ls.length == P.cellsOf t) && (fs.toList.all fun f => flatB P d f.type ((ls.drop f.offset).take (P.cellsOf f.type)) && (((ls.drop f.offset).take (P.cellsOf f.type)).length == P.cellsOf f.type)) &&
      (List.range ls.length).all fun c => fs.toList.any fun f => decide (f.offset ≤ c) && decide (c < f.offset + P.cellsOf f.type)
    | _ => false
section
variable {H : Type} {enc : TypeId × Value → H} {P : Program} {W : World} {base : Nat} {spare : Nat → Bool} {held : Bool}
theorem flat_trod : ∀ (d : Nat) {t : TypeId} {ls : List Leaf}, flatB P d t ls = true → ∀ {fuel : Nat} {cs : List Value} {x : DataW H × List MemPlace}, DataW.trod enc P W base spare held fuel t cs = some x →
    cs.length = ls.length ∧ ∀ (i : Nat) l v, ls[i]? = some l → cs[i]? = some v → leafOK l v
  | 0, _, _, h, _, _, _, _ => by cases h
  | d + 1, t, ls, h, fuel, cs, x, hx => by
    unfold flatB at h
    cases hu : P.underlying t with
    | none => rw [hu] at h; cases h
    | some ds =>
      rw [hu] at h
      cases ds with
      | int k =>
        obtain rfl : ls = [.int k] := of_decide_eq_true h
        obtain ⟨n, rfl, _, hw⟩ := DataW.trod_int hu hx
        refine ⟨rfl, fun i l v hl hv => ?_⟩
        match i with
        | 0 => simp at hl hv; subst hl hv; exact ⟨n, rfl, hw⟩
        | i + 1 => simp at hl
      | bool =>
        obtain rfl : ls = [.bool] := of_decide_eq_true h
        obtain ⟨b, rfl, _⟩ := DataW.trod_bool hu hx
        refine ⟨rfl, fun i l v hl hv => ?_⟩
        match i with
        | 0 => simp at hl hv; subst hl hv; exact ⟨b, rfl⟩
        | i + 1 => simp at hl
      | slice e =>
        obtain rfl : ls = [.any] := of_decide_eq_true h
        have key : ∀ w : Value, w.oneCell' = true → cs = [w] → cs.length = [Leaf.any].length ∧ ∀ (i : Nat) l v, [Leaf.any][i]? = some l → cs[i]? = some v → leafOK l v := fun w hw e => by
          subst e
          refine ⟨rfl, fun i l v hl hv => ?_⟩
          match i with
          | 0 => simp at hl hv; subst hl hv; exact hw
          | i + 1 => simp at hl
        rcases DataW.trod_slice hu hx with ⟨e, _⟩ | ⟨a, len, cap, _, _, _, _, e, _⟩
        · exact key _ rfl e
        · exact key _ rfl e
      | struct fs =>
        simp only [Bool.and_eq_true, beq_iff_eq, List.all_eq_true, List.mem_range, List.any_eq_true, decide_eq_true_eq] at h
        obtain ⟨⟨hlen, hfs⟩, hcov⟩ := h
        obtain ⟨xs, n, _, _, hcl, hxl, hg⟩ := DataW.trod_struct hu hx
        refine ⟨by omega, fun i l v hl hv => ?_⟩
        have hil : i < ls.length := (List.getElem?_eq_some_iff.1 hl).1
        obtain ⟨f, hf, hf1, hf2⟩ := hcov i hil
        obtain ⟨hfl, hfn⟩ := hfs f hf
        obtain ⟨j, hj, hfj⟩ := List.getElem_of_mem hf
        have hfj2 : fs[j]? = some f := by
          rw [← hfj, Array.getElem_toList]
          exact Array.getElem?_eq_getElem _
        have h2 := hg j f hfj2
        have hjx : j < xs.length := by rw [hxl]; simpa using hj
        rw [List.getElem?_eq_getElem hjx] at h2
        obtain ⟨_, h3⟩ := flat_trod d hfl h2
        refine h3 (i - f.offset) l v ?_ ?_
        · rw [List.getElem?_take_of_lt (by omega), List.getElem?_drop, show f.offset + (i - f.offset) = i by omega]
          exact hl
        · rw [List.getElem?_take_of_lt (by omega), List.getElem?_drop, show f.offset + (i - f.offset) = i by omega]
          exact hv
      | _ => cases h
theorem has_block {r : Reach} {a : Addr} {e : TypeId} {n : Nat} (h : W.has P r base a e n) : a.spot = none ∧ a.block < W.heap.size := by
  obtain ⟨_, h1, row, cells, h2, _⟩ := h
  refine ⟨h1, ?_⟩
  unfold World.shape? at h2
  cases hb : W.heap[a.block]? with
  | none => rw [hb] at h2; cases h2
  | some o => exact (Array.getElem?_eq_some_iff.1 hb).1
theorem cell_slice {t e : TypeId} {a : Addr} {len cap : Nat} (ht : P.underlying t = some (.slice e)) (h : Cell.okWide P W .any base t (.slice (some a) len cap)) : a.spot = none ∧ a.block < W.heap.size ∧ len ≤ cap := by
  simp only [Cell.okWide, ht, Cell.ok] at h
  exact ⟨(has_block h.2.2).1, (has_block h.2.2).2, h.1⟩
theorem wide_slice {t e : TypeId} {a : Addr} {len cap : Nat} (ht : P.underlying t = some (.slice e)) (h : Value.okWide P W .any base t (.slice (some a) len cap)) : a.spot = none ∧ a.block < W.heap.size ∧ len ≤ cap :=
  cell_slice ht (by simpa only [Value.okWide, ht] using h)
theorem leaf_one {l : Leaf} {v : Value} (h : leafOK l v) : v.oneCell' = true := by
  cases l with
  | int k => obtain ⟨n, rfl, _⟩ := h; rfl
  | bool => obtain ⟨b, rfl⟩ := h; rfl
  | any => exact h
theorem flatten_len {n : Nat} : ∀ {rs : List (List Value)}, (∀ r ∈ rs, r.length = n) → rs.flatten.length = rs.length * n
  | [], _ => by simp
  | r :: rs, h => by
    rw [List.flatten_cons, List.length_append, h r (by simp), flatten_len fun x hx => h x (by simp [hx]), List.length_cons, Nat.add_mul]
    omega
theorem flatten_get {n : Nat} : ∀ {rs : List (List Value)}, (∀ r ∈ rs, r.length = n) → ∀ (i c : Nat), c < n → rs.flatten[i * n + c]? = (rs[i]?).bind (·[c]?)
  | [], _, i, c, _ => by simp
  | r :: rs, h, 0, c, hc => by
    rw [List.flatten_cons, Nat.zero_mul, Nat.zero_add, List.getElem?_append_left (by rw [h r (by simp)]; exact hc)]
    rfl
  | r :: rs, h, i + 1, c, hc => by
    have hr := h r (by simp)
    rw [List.flatten_cons, List.getElem?_append_right (by rw [hr, Nat.add_mul]; omega), hr]
    have e : (i + 1) * n + c - n = i * n + c := by rw [Nat.add_mul]; omega
    rw [e, flatten_get (fun x hx => h x (by simp [hx])) i c hc]
    rfl
/-- a slice of plain structs (of slices, as they are) that came in -/
theorem arg_rows {t e : TypeId} {ls : List Leaf} {dep : Nat} {v : Value} {fuel : Nat} {x : DataW H × List MemPlace} (ht : P.underlying t = some (.slice e)) (hfl : flatB P dep e ls = true) (hn : P.cellsOf e = ls.length)
    (hok : ∀ a len cap, v = .slice (some a) len cap → a.spot = none ∧ a.block < W.heap.size) (h : DataW.trod enc P W base (fun _ => true) held fuel t [v] = some x) :
    ∃ rows : List (List Value), (∀ r ∈ rows, r.length = ls.length ∧ ∀ (i : Nat) l u, ls[i]? = some l → r[i]? = some u → leafOK l u) ∧ rows.length ≤ maxLen ∧
      ∀ es : List PV, es.map PV.cells = rows.map (fun r => r.map PV.val) → Rep NoM W (.sl es) v := by
  rcases DataW.trod_slice ht h with ⟨hv, _⟩ | ⟨a, len, cap, elems, rest, n, _, hv, _, hb, hlc, hm, hlen, hel, _⟩
  · simp only [List.cons.injEq, and_true] at hv
    subst hv
    refine ⟨[], fun r hr => by simp at hr, Nat.zero_le _, fun es he => ?_⟩
    have : es = [] := by simpa using he
    subst this
    exact .nil
  · simp only [List.cons.injEq, and_true] at hv
    subst hv
    obtain ⟨hs, hbk⟩ := hok a len cap rfl
    obtain ⟨g, off, spot⟩ := a
    simp only at hs hbk
    subst hs
    have row : ∀ i, i < len → ∃ r : List Value, W.cells? base (Addr.add ⟨g, off, none⟩ (i * P.cellsOf e)) (P.cellsOf e) = some r ∧ r.length = ls.length ∧ ∀ (j : Nat) l u, ls[j]? = some l → r[j]? = some u → leafOK l u := by
      intro i hi
      have h1 := hel i hi
      rw [List.getElem?_eq_getElem (by omega : i < elems.length)] at h1
      obtain ⟨r, hr, h2⟩ := Option.bind_eq_some_iff.1 h1
      obtain ⟨h3, h4⟩ := flat_trod dep hfl h2
      exact ⟨r, hr, h3, h4⟩
    have rows : ∀ m, m ≤ len → ∃ rs : List (List Value), rs.length = m ∧ ∀ (i : Nat) r, rs[i]? = some r → W.cells? base (Addr.add ⟨g, off, none⟩ (i * P.cellsOf e)) (P.cellsOf e) = some r ∧ r.length = ls.length ∧ ∀ (j : Nat) l u, ls[j]? = some l → r[j]? = some u → leafOK l u := by
      intro m
      induction m with
      | zero => exact fun _ => ⟨[], rfl, fun i r h => by simp at h⟩
      | succ m ih =>
        intro hm2
        obtain ⟨rs, h1, h2⟩ := ih (by omega)
        obtain ⟨r, hr⟩ := row m (by omega)
        refine ⟨rs ++ [r], by simp [h1], fun i r' hi => ?_⟩
        rcases Nat.lt_or_ge i rs.length with h3 | h3
        · rw [List.getElem?_append_left h3] at hi
          exact h2 i r' hi
        · rw [List.getElem?_append_right h3] at hi
          have e0 : i - rs.length = 0 := by
            rcases Nat.eq_zero_or_pos (i - rs.length) with h | h
            · exact h
            · rw [List.getElem?_eq_none (by simp; omega)] at hi; cases hi
          rw [e0] at hi
          simp at hi
          subst hi
          rw [show i = m by omega]
          exact hr
    obtain ⟨rs, hrl, hrs⟩ := rows len (Nat.le_refl _)
    refine ⟨rs, fun r hr => ?_, by omega, fun es he => ?_⟩
    · obtain ⟨i, hi, rfl⟩ := List.getElem_of_mem hr
      exact (hrs i _ (List.getElem?_eq_getElem hi)).2
    · have hn0 : P.cellsOf e = ls.length := hn
      have hesl : es.length = rs.length := by simpa using congrArg List.length he
      have hflat : flat es = rs.flatten.map PV.val := by
        show es.flatMap PV.cells = _
        rw [List.flatMap_def, he, List.map_flatten]
      have hrn : ∀ r ∈ rs, r.length = ls.length := fun r hr => by
        obtain ⟨i, hi, rfl⟩ := List.getElem_of_mem hr
        exact (hrs i _ (List.getElem?_eq_getElem hi)).2.1
      have hyl : rs.flatten.length = rs.length * ls.length := flatten_len hrn
      have at_ : ∀ (j : Nat) y, rs.flatten[j]? = some y → ∃ i c r, j = i * ls.length + c ∧ rs[i]? = some r ∧ r[c]? = some y := fun j y hy => by
        have hj : j < rs.length * ls.length := by rw [← hyl]; exact (List.getElem?_eq_some_iff.1 hy).1
        have hpos : 0 < ls.length := by
          rcases Nat.eq_zero_or_pos ls.length with h | h
          · rw [h] at hj; omega
          · exact h
        have e1 : j = (j / ls.length) * ls.length + j % ls.length := by
          have := Nat.div_add_mod j ls.length
          rw [Nat.mul_comm] at this
          omega
        have hi : j / ls.length < rs.length := (Nat.div_lt_iff_lt_mul hpos).2 hj
        have hc : j % ls.length < ls.length := Nat.mod_lt _ hpos
        have h1 := flatten_get hrn (j / ls.length) (j % ls.length) hc
        rw [← e1, hy, List.getElem?_eq_getElem hi] at h1
        exact ⟨_, _, _, e1, List.getElem?_eq_getElem hi, h1.symm⟩
      refine .sl es g off len cap rs.flatten (by omega) (by rw [hflat, List.length_map]) (fun j y hy => ?_) (fun j c y hc hy => ?_) (fun y hy => ?_) (fun _ _ h => h) hbk hlc hm
      · obtain ⟨i, c, r, rfl, hr, hc⟩ := at_ j y hy
        have h1 := World.cells?_some (hrs i r hr).1
        have hcl : c < P.cellsOf e := by
          rw [hn0, ← (hrs i r hr).2.1]
          exact (List.getElem?_eq_some_iff.1 hc).1
        have h2 := h1.2.2 c hcl
        rw [hc, add_lit, add_lit, hn0, Nat.add_assoc] at h2
        exact h2
      · rw [hflat, List.getElem?_map, hy] at hc
        simp only [Option.map_some, Option.some.injEq] at hc
        subst hc
        exact .val _
      · obtain ⟨j, hj, rfl⟩ := List.getElem_of_mem hy
        obtain ⟨i, c, r, _, hr, hc⟩ := at_ j _ (List.getElem?_eq_getElem hj)
        have hcl : c < ls.length := by
          rw [← (hrs i r hr).2.1]
          exact (List.getElem?_eq_some_iff.1 hc).1
        exact leaf_one ((hrs i r hr).2.2 c _ _ (List.getElem?_eq_getElem hcl) hc)
end
end Go.Proofs.YteadaggehndacaaDoor
/- A law's call, by its contract; the table that the row lists; a world that fits. -/
namespace Go.Proofs.YteadaggehndacaaDoor
set_option maxRecDepth 100000
set_option maxHeartbeats 16000000
open Go Go.RowKit Go.ChangeShapes Go.WideShapes Go.ChangeAt
set_option linter.unusedVariables false
theorem ownT : ownKnob Tryd.prog.godebug = none := by kernel_rfl
theorem laidOutT : laidOutB Tryd.prog = true := by kernel_rfl
section
variable {P : Program} {W : World}
/-- A law's call, by its contract. -/
theorem Fn.law {f : FuncId} {args : List PV} (h : Fn P f args (.p (.val (.bool true)))) (hlay : Lays W) {vs : List Value} (hl : vs.length = args.length) (hr : ∀ (i : Nat) x v, args[i]? = some x → vs[i]? = some v → Rep NoM W x v) :
    Calls P f vs.toArray W fun e W' => e = .returned (.bool true) ∧ Below W.heap.size W W' :=
  (h NoM W vs ⟨hlay, fun _ _ _ h => h⟩ (fun _ _ h => h.elim) hl hr).mono fun e W' ⟨v, he, hv, hb⟩ => by
    cases hv
    exact ⟨he, hb⟩
theorem reps1 {M : Nat → Nat → Prop} {x0 : PV} {v0 : Value} (h0 : Rep M W x0 v0) : ∀ (i : Nat) x v, [x0][i]? = some x → [v0][i]? = some v → Rep M W x v := by
  intro i x v hx hv
  match i with
  | 0 => simp at hx hv; subst hx; subst hv; exact h0
  | i + 1 => simp at hx
end
/-! ### The listed table -/
theorem gTbl : Tryd.prog.globalNamed "weald/crc.halves" = some 0 := by kernel_rfl
theorem tTbl : (Tryd.prog.globals[0]?).map (·.type) = some 161 := by kernel_rfl
def laidL : List (String × DataW Unit) := [("weald/crc.halves", Rows.laid_weald_crc_halves)]
theorem lays_of_laid {W : World} (h : laidMetH Tryd.prog laidL W) : Lays W := by
  rw [MakeChecks.laidMetH_plain _ _ _ (by kernel_rfl)] at h
  obtain ⟨ps, ⟨g0, t0, cs0, f0, p0, q0, hg0, ht0, hv0, hd0, _, _⟩, _⟩ := h
  obtain rfl := Option.some.inj (gTbl.symm.trans hg0)
  obtain rfl := Option.some.inj (tTbl.symm.trans ht0)
  have hcell := World.var?_cell hg0 hv0
  obtain ⟨xs, m1, _, hx1, hlen, hn, hel⟩ := DataW.trod_array Tryd.underlying161 hd0
  have c1 : Tryd.prog.cellsOf 155 = 1 := by kernel_rfl
  have c16 : Tryd.prog.cellsOf 161 = 16 := by kernel_rfl
  rw [c16] at hlen
  have hdat : Rows.laid_weald_crc_halves (H := Unit) = .agg (tbl0.map fun p => .lit (.int p.1 p.2)) := by kernel_rfl
  simp only [Prod.mk.injEq] at hx1
  have hxs : xs.map (·.1) = tbl0.map fun p => .lit (.int p.1 p.2) := by
    have := hx1.1
    rw [hdat] at this
    simpa using this.symm
  have hk : ∀ p ∈ tbl0, p.1 = .u32 := by decide +kernel
  intro g ys hg
  have hgy : g = 0 ∧ ys = tbl0 := by
    unfold seatTbl at hg
    split at hg
    · next h => exact ⟨h, (Option.some.inj hg).symm⟩
    · cases hg
  obtain ⟨rfl, rfl⟩ := hgy
  have at_ : ∀ (j : Nat) p, tbl0[j]? = some p → W.cell? ⟨0, j, none⟩ = some (.int p.1 p.2) := by
    intro j p hp
    have hj : j < 16 := (List.getElem?_eq_some_iff.1 hp).1
    have h1 := hel j hj
    have hxj : xs[j]? = some xs[j] := List.getElem?_eq_getElem (by omega)
    rw [hxj, c1, Nat.mul_one] at h1
    obtain ⟨k, e1, e2, _⟩ := DataW.trod_int Tryd.underlying155 h1
    have h3 : (xs.map (·.1))[j]? = some (.lit (.int .u32 k)) := by rw [List.getElem?_map, hxj, e2]; rfl
    rw [hxs, List.getElem?_map, hp] at h3
    simp only [Option.map_some, Option.some.injEq, DataW.lit.injEq, Lit.int.injEq] at h3
    obtain ⟨h4, h5⟩ := h3
    have h6 : cs0[j]? = some (.int .u32 k) := by
      have : (cs0.toList.drop j).take 1 = [cs0.toList[j]'(by rw [hlen]; exact hj)] := by
        rw [List.drop_eq_getElem_cons (by rw [hlen]; exact hj)]
        rfl
      rw [this] at e1
      simp only [List.cons.injEq, and_true] at e1
      rw [← e1]
      simp [Array.getElem?_eq_getElem (show j < cs0.size by simpa using (by rw [hlen]; exact hj : j < cs0.toList.length))]
    rw [hcell j, h6, h4, h5]
  refine ⟨?_, at_⟩
  have h0 := at_ 0 _ rfl
  unfold World.cell? at h0
  cases hh : W.heap[0]? with
  | none => rw [hh] at h0; cases h0
  | some o => exact (Array.getElem?_eq_some_iff.1 hh).1
/-- The door's own heap fits. -/
theorem door_met (os : Os) (args : Array Value) : laidMetH Tryd.prog laidL ((World.doorLaid Tryd.prog 400 os).forCall (fun _ _ => 0) ⟨#[], args, []⟩).memory :=
  laidMetH_of_parts3 (fuel := 8) (laidMet_of_run' 8 (by kernel_rfl) (by kernel_rfl)) (by kernel_rfl) (by kernel_rfl)
end Go.Proofs.YteadaggehndacaaDoor
/- Arguments: rows of truth values, and of bytes. Generic over the program. -/
namespace Go.Proofs.YteadaggehndacaaDoor
set_option maxRecDepth 100000
set_option maxHeartbeats 16000000
open Go Go.RowKit Go.ChangeShapes Go.WideShapes Go.ChangeAt
set_option linter.unusedVariables false
section
variable {P : Program} {W : World} {H : Type} {enc : TypeId × Value → H}
theorem arg_one {t e : TypeId} {l : Leaf} {v : Value} {d : DataW H} {p : List MemPlace} {base : Nat} (ht : P.underlying t = some (.slice e)) (hfl : flatB P 3 e [l] = true) (hn : P.cellsOf e = 1) (hv : Value.okWide P W .any base t v)
    (h : DataW.Trod enc P W 0 (fun _ => true) true t v d p) : ∃ xs : List Value, (∀ x ∈ xs, leafOK l x) ∧ xs.length ≤ maxLen ∧ Rep NoM W (.sl (xs.map PV.val)) v := by
  obtain ⟨a, len, cap, rfl⟩ := okWide_slice ht hv
  obtain ⟨fuel, hf⟩ := h
  have hf' : DataW.trod enc P W 0 (fun _ => true) true fuel t [Value.slice a len cap] = some (d, p) := hf
  obtain ⟨rows, h1, h2, h3⟩ := arg_rows (ls := [l]) ht hfl hn (fun a' len' cap' e' => by
    injection e' with e1 e2 e3
    subst e1 e2 e3
    have := wide_slice ht hv
    exact ⟨this.1, this.2.1⟩) hf'
  have hr : ∀ r ∈ rows, ∃ x, r = [x] ∧ leafOK l x := fun r hr => by
    obtain ⟨hl, hx⟩ := h1 r hr
    match r, hl with
    | [x], _ => exact ⟨x, rfl, hx 0 l x rfl rfl⟩
  refine ⟨rows.flatten, fun x hx => ?_, ?_, h3 _ ?_⟩
  · obtain ⟨r, h4, h5⟩ := List.mem_flatten.1 hx
    obtain ⟨y, rfl, h6⟩ := hr r h4
    simp at h5; subst h5; exact h6
  · have : rows.flatten.length = rows.length * 1 := flatten_len fun r h => (h1 r h).1
    omega
  · clear h3 h2 h1 hf hf'
    induction rows with
    | nil => rfl
    | cons r rs ih =>
      obtain ⟨y, rfl, _⟩ := hr r (by simp)
      have := ih fun r h => hr r (by simp [h])
      show (PV.val y).cells :: (rs.flatten.map PV.val).map PV.cells = [PV.val y] :: rs.map fun r => r.map PV.val
      rw [this]
      rfl
theorem arg_u8s {t e : TypeId} {v : Value} {d : DataW H} {p : List MemPlace} {base : Nat} (ht : P.underlying t = some (.slice e)) (hfl : flatB P 3 e [.int .u8] = true) (hn : P.cellsOf e = 1) (hv : Value.okWide P W .any base t v)
    (h : DataW.Trod enc P W 0 (fun _ => true) true t v d p) : ∃ l : List Int, Rep NoM W (.sl (byts l)) v ∧ (∀ x ∈ l, 0 ≤ x ∧ x < 256) ∧ l.length ≤ maxLen := by
  obtain ⟨xs, h1, h2, h3⟩ := arg_one ht hfl hn hv h
  suffices ∃ l : List Int, xs = l.map (Value.int .u8) ∧ ∀ x ∈ l, 0 ≤ x ∧ x < 256 by
    obtain ⟨l, rfl, h4⟩ := this
    exact ⟨l, by rw [List.map_map] at h3; exact h3, h4, by simpa using h2⟩
  clear h3 h2
  induction xs with
  | nil => exact ⟨[], rfl, fun x hx => by simp at hx⟩
  | cons x r ih =>
    obtain ⟨b, rfl, hb⟩ := h1 x (by simp)
    obtain ⟨l, rfl, hl⟩ := ih fun y hy => h1 y (by simp [hy])
    refine ⟨b :: l, rfl, fun y hy => ?_⟩
    rcases List.mem_cons.1 hy with rfl | hy
    · have := bounds_u8 hb
      omega
    · exact hl y hy
end
end Go.Proofs.YteadaggehndacaaDoor
/- For every input ListAlone returns true, and leaves its arguments as they were; tied: Rows.ListAloneCardSaid. Conditions: none beyond the given statement's own. -/
namespace Go.Proofs.YteadaggehndacaaDoor
set_option maxRecDepth 100000
set_option maxHeartbeats 16000000
open Go Go.RowKit Go.ChangeShapes Go.WideShapes Go.ChangeAt
set_option linter.unusedVariables false
theorem listAlone_lifted (os : Os) (started : os.Started) (H : Type) (enc : TypeId × Value → H) :
    ReturnsInHanded {} Tryd.checked os 3 .any (fun w args => (Rows.listAloneSpec.pre enc Tryd.prog Tryd.f3 [] false w args ∧ laidMetH Tryd.prog laidL w) ∧ sizedMet enc Tryd.prog Tryd.f3 (OpenSpec.ofChange Rows.listAloneSpec) false w args)
      (Rows.listAloneSpec.post enc Tryd.prog Tryd.f3 false true false false) := by
  refine returnsInHanded_of_change_and (C := Tryd.checked) (X := fun w _ => laidMetH Tryd.prog laidL w) (fun _ _ _ hh h => h.of_heap hh) ownT started (by kernel_rfl) Tryd.func3
    (ChangeSpec.witness_shaped (enc := enc) (C := Tryd.checked) (os := os) (X := fun w _ => laidMetH Tryd.prog laidL w) false (World.doorLaid Tryd.prog 400 os) #[.slice none 0 0] 8 rfl (World.shaped_of_RefB (by kernel_rfl) (by kernel_rfl)) (by kernel_rfl) (by kernel_rfl) (by kernel_rfl) (door_met os _)) ?_
  intro W base args ds gs before hval0 hW hcnd hwt hL _
  have hval : ∀ (j : Nat) t v, Tryd.f3.params[j]? = some t → args[j]? = some v → Value.okWide Tryd.prog W .any base t v := hval0
  have hW' := hW
  obtain ⟨p, q, hA0, hV, rfl, hfz, hnd⟩ := hW
  have hA : DataW.TrodAll enc Tryd.prog W 0 (fun _ => true) true Tryd.f3.params.toList args.toList ds p := hA0
  rw [Tryd.params3] at hA hval
  obtain ⟨v0, vs0, d0, ds0, p0, q0, hargs, rfl, rfl, h0, r0⟩ := trodAll_cons hA
  obtain ⟨rfl, rfl, rfl⟩ := trodAll_nil r0
  obtain rfl : args = #[v0] := by cases args; simp_all
  obtain ⟨rfl, rfl⟩ := trodVars_none hV
  have lt0 : ∀ x ∈ p0, x.block < W.heap.size := by obtain ⟨m, hm⟩ := h0; exact DataW.trod_lt m _ _ _ hm
  have o0 := hval 0 22 v0 rfl rfl
  obtain ⟨a0, rp0, g0, l0⟩ := arg_u8s Tryd.underlying22 (by kernel_rfl) (by kernel_rfl) o0 h0
  clear hA0 hval0
  refine ((listAlone_fn a0 g0 l0).law (lays_of_laid hL) (vs := [v0]) rfl (reps1 rp0)).mono fun e W' ⟨he, bel⟩ => ?_
  subst he
  exact ⟨_, rfl, _, _, _, [], _, [], hW', trodAll_mk1 (shut_bool Tryd.underlying4 _), (trodAll_cons_mk (Below.trod laidOutT (by kernel_rfl) (of_decide_eq_true (by kernel_rfl)) h0 bel lt0) trodAll_mk0), rfl, bel.frame _, fun h => by cases h⟩
theorem listAlone_holds : Rows.ListAloneSaid :=
  OpenClaim.holds_of_wide 3 Tryd.f3 rfl rfl rfl rfl rfl rfl rfl ⟨rfl, rfl, rfl, rfl, rfl⟩ rfl rfl rfl rfl rfl (by kernel_rfl) Tryd.func3 (by kernel_rfl)
    (of_decide_eq_true (by kernel_rfl)) (by unfold Func.isWrapper; first | (rw [if_pos (by decide +kernel)]; kernel_rfl) | (rw [if_neg (by decide +kernel)]; exact ⟨rfl, rfl⟩))
    (fun os started H enc _ => listAlone_lifted os started H enc)
theorem listAloneCard_holds : Rows.ListAloneCardSaid :=
  Claim7.holds_tied_plain_at .later [] [.data] true _ true
    listAlone_holds (fun _ h => by cases h) (by kernel_rfl) (fun _ h => by cases h) listAlone_row_tie rfl ⟨rfl, rfl⟩ (by kernel_rfl) rfl
    (fun f fn hf hfn => by
      obtain rfl : f = 3 := Option.some.inj ((show Tryd.prog.funcNamed "weald/wealdlaw15.ListAlone" = some 3 by kernel_rfl).symm.trans hf) |>.symm
      obtain rfl : fn = Tryd.f3 := (Option.some.inj (Tryd.func3.symm.trans hfn)).symm
      exact ⟨by kernel_rfl, fun j t ht => by
        rw [Tryd.params3] at ht
        have hm : t ∈ [22] := by simpa using Array.mem_of_getElem? ht
        have hall : ([22].all fun u => !Tryd.prog.wantsStandIn u) = true := by kernel_rfl
        exact (show Tryd.prog.wantsStandIn t = false by simpa using List.all_eq_true.1 hall t hm)⟩)
    (by kernel_rfl)
#print axioms listAloneCard_holds
end Go.Proofs.YteadaggehndacaaDoor
