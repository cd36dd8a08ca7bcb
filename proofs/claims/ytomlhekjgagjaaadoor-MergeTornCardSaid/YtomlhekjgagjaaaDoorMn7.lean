/- For every input MergeTorn returns true, and leaves its argument as it was. Conditions: none beyond the given statement. (Part 7 of 9.) -/
import Derived.Test.YtomlhekjgagjaaaDoorMn6
namespace Go.Proofs.YtomlhekjgagjaaaDoor
set_option maxRecDepth 100000
set_option maxHeartbeats 16000000
open Go Go.RowKit
attribute [local irreducible] zZ zY Step zA Sub zL z8 Fn
theorem live_bad_fn (ss : List (List Int)) (c : Int) (hb : ∀ s ∈ ss, yI s) (hn : ss.length ≤ 1000000) (ht : total ss ≤ 1000000) (hg : (xB ss).bad = true) : Fn Tryd.prog 12 [vS ss, .val (.int .i64 c)] (.tup [.sl [], .val (.int .i64 8)]) := by
  have p1 := gather_fn ss hb hn ht
  generalize xB ss = g at *
  obtain ⟨gb, gd, gx⟩ := g
  simp only at hg
  subst hg
  refine wU Tryd.func12 rfl Tryd.ntmps12 (Nat.le_of_ble_eq_true rfl) ?_
  unfold gB at p1
  repeat' (first | (refine zY.is ?_; first | refine zY.seq ?_ | (refine zY.iq 0 ?_; refine zY.rqa _ K_h K_1b ?_; refine zZ.va rfl rfl rfl rfl (by decide) ?_; refine zZ.va rfl rfl rfl rfl (by decide) ?_; refine zZ.nil ?_) | (refine zY.iq 1 ?_; refine zY.rqa _ K_30 K_1b ?_; refine zZ.vm rfl rfl rfl rfl (by decide) ?_; refine zZ.ofT rfl (z8.z [] [] [16, 10, 11] (p1) rfl (by decide) (yT rfl) (by rfl) (zG (by decide) rfl (by repeat' exact trivial)) rfl rfl rfl (by decide) rfl rfl (by decide) rfl rfl rfl ?_); refine zZ.v rfl rfl (a_assignR rfl rfl rfl (by decide)) ?_; refine zZ.nil ?_) | (refine zY.iq 2 ?_; refine zY.rqi _ K_1j K_1b ?_; refine zZ.v rfl rfl (zO rfl rfl rfl (by decide)) ?_; refine zZ.v rfl rfl (yD rfl rfl rfl (by decide)) ?_; refine zZ.v rfl rfl (zJ rfl rfl rfl (by decide)) ?_; refine zZ.v rfl rfl (zB rfl rfl rfl rfl rfl (by decide)) ?_; refine zZ.nil ?_) | (refine zY.iq 3 ?_; refine zY.rqi _ K_1j K_1b ?_; refine zZ.va rfl rfl rfl rfl (by decide) ?_; refine zZ.va rfl rfl rfl rfl (by decide) ?_; refine zZ.nil ?_) | refine zY.yC rfl (by rfl) ?_ | refine zY.ret ?_) | refine zH.r ?_)
  all_goals exact ⟨.inl rfl, _, qU (d := 4) rfl, xG.tupE (rs := [.tmp 4, .tmp 5]) rfl (by decide) (.cons (.tmp rfl) (.cons (.tmp rfl) .nil)) rfl⟩
theorem bLenO_fn (L : List zV) : FnZ Tryd.prog 31 [.own 1001] [.box 67 [.own 1001]] [hpR L] (.p (.val (.int .i64 ((L.map zV.V).length : Nat)))) [.box 67 [.own 1001]] [hpR L] := by
 refine vO [1000, 1001] Tryd.func31 rfl Tryd.ntmps31 (Nat.le_of_ble_eq_true rfl) (Nat.le_of_ble_eq_true rfl) rfl rfl ?_
 unfold hpR
 repeat' ((refine zY.is ?_; first | refine zY.seq ?_ | (refine zY.isR (id := 0) ?_; refine zY.zK [0] [1000, 1001] (by repeat' first | exact zX.nil | apply zX.own rfl) (by repeat' first | exact zW.nil | apply zW.some rfl) ?_; refine zZ.va rfl rfl rfl rfl (by decide) ?_; refine zZ.nil ?_) | (refine zY.isR (id := 1) ?_; refine zY.zK [0, 2] [1000, 1001] (by repeat' first | exact zX.nil | apply zX.p rfl | apply zX.own rfl) (by repeat' first | exact zW.nil | apply zW.some rfl) ?_; refine zZ.v rfl rfl (yJ rfl rfl rfl (by decide)) ?_; refine zZ.v rfl rfl (w_lenV rfl rfl rfl rfl (by decide)) ?_; refine zZ.va rfl rfl rfl rfl (by decide) ?_; refine zZ.nil ?_) | refine zY.ret ?_))
 all_goals exact ⟨(by exact .inl rfl), _, Sub.refl _, .one rfl rfl, zG (by decide) rfl (by repeat' first | exact trivial | rfl | constructor)⟩
def rgS (g : GD) (c : Int) (m clock : Nat) (es : Array MapEntry) (p : List Nat × List zV) : AS := { t := [(1, .p (.val (.int .i64 c))), (6, .ptr 16 0), (7, .ptr 20 0), (25, .own 25)], s := [(16, .box 65 [.own 10, .own 11, .p (.val (.bool g.bad))]), (10, mapAt m es clock), (11, mapB (vZ g.dead)), (20, .box 67 [.own 19]), (19, hpR p.2), (25, iterB m clock p.1)] }
def lvS (c : Int) (p : List zV × List zV) : AS := { t := [(1, .p (.val (.int .i64 c))), (7, .ptr 20 0), (10, .own 42)], s := [(20, .box 67 [.own 19]), (19, hpR p.1), (42, x9 46 6 (p.2.map zV.V))] }
theorem live_good_fn (ss : List (List Int)) (c : Int) (hb : ∀ s ∈ ss, yI s) (hn : ss.length ≤ 1000000) (ht : total ss ≤ 1000000) (hg : (xB ss).bad = false) (hk : (xB ss).born.length ≤ 100000) (hok : ∀ e ∈ (xB ss).born, e.ok) : Fn Tryd.prog 12 [vS ss, .val (.int .i64 c)] (.tup [.sl ((kG (xB ss).lives c).1.map zV.V), .val (.int .i64 (kG (xB ss).lives c).2)]) := by
 have p1 := gather_fn ss hb hn ht
 generalize xB ss = g at *
 obtain ⟨gb, gd, gx⟩ := g
 simp only at hg hk hok
 subst hg
 refine wU Tryd.func12 rfl Tryd.ntmps12 (Nat.le_of_ble_eq_true rfl) ?_
 unfold gB at p1
 repeat' (first | refine zY.hold (id := 5) ?_ | (refine zY.is ?_; first | refine zY.seq ?_ | (refine zY.iq 0 ?_; refine zY.rqa _ K_h K_1b ?_; refine zZ.va rfl rfl rfl rfl (by decide) ?_; refine zZ.va rfl rfl rfl rfl (by decide) ?_; refine zZ.nil ?_) | (refine zY.iq 1 ?_; refine zY.rqa _ K_30 K_1b ?_; refine zZ.vm rfl rfl rfl rfl (by decide) ?_; refine zZ.ofT rfl (z8.z [] [] [16, 10, 11] (p1) rfl (by decide) (yT rfl) (by rfl) (zG (by decide) rfl (by repeat' exact trivial)) rfl rfl rfl (by decide) rfl rfl (by decide) rfl rfl rfl ?_); refine zZ.v rfl rfl (a_assignR rfl rfl rfl (by decide)) ?_; refine zZ.nil ?_) | (refine zY.iq 2 ?_; refine zY.rqi _ K_1j K_1b ?_; refine zZ.v rfl rfl (zO rfl rfl rfl (by decide)) ?_; refine zZ.v rfl rfl (yD rfl rfl rfl (by decide)) ?_; refine zZ.v rfl rfl (zJ rfl rfl rfl (by decide)) ?_; refine zZ.v rfl rfl (zB rfl rfl rfl rfl rfl (by decide)) ?_; refine zZ.nil ?_) | (refine zY.iq 4 ?_; refine zY.rqi _ K_1j K_1b ?_; refine zZ.m rfl rfl (wC rfl rfl (by decide)) ?_; refine zZ.m rfl rfl (w_boxOwn rfl rfl rfl rfl rfl (by decide)) ?_; refine zZ.v rfl rfl (a_assignR rfl rfl rfl (by decide)) ?_; refine zZ.nil ?_) | refine zY.yF rfl (by rfl) ?_ | refine zY.skip ?_))
 refine Hold.go ?_
 refine zY.num (id := 10) rfl ?_
 rintro m o ⟨es, clock, rfl, hq⟩
 obtain ⟨f, hf1, hf2⟩ := map_ents es.toList gb hq.is hq.nodup
 repeat' ((refine zY.is ?_; first | refine zY.seq ?_ | (refine zY.iq 5 ?_; refine zY.rqi _ K_1y K_1c ?_; refine zZ.v rfl rfl (zO rfl rfl rfl (by decide)) ?_; refine zZ.v rfl rfl (yD rfl rfl rfl (by decide)) ?_; refine zZ.v rfl rfl (zJ rfl rfl rfl (by decide)) ?_; refine zZ.v rfl rfl (y8 rfl rfl rfl rfl rfl (by decide)) ?_; refine zZ.m rfl rfl (w_range rfl rfl rfl rfl (by decide)) ?_; refine zZ.nil ?_) | refine zY.block ?_))
 have hborn : (es.toList.map (·.born)).length = gb.length := by rw [← hf1, List.length_map, List.length_map]
 refine zY.loop (rgS ⟨gb, gd, false⟩ c m clock es) (fun p => Along ⟨gb, gd, false⟩ (es.toList.map (·.born)) f p.1 p.2) (fun p => gb.length - p.1.length) ([], []) ?h0 (.start _ _ _) ?rd
 case h0 =>
  unfold rgS hpR
  exact zD K_2e K_2f
 case rd =>
  rintro ⟨sn, H⟩ ha
  simp only at ha
  have hlen := ha.few hq.nodup
  have hHl := ha.len
  rw [hborn] at hlen
  unfold rgS
  repeat' (first | refine zZ.ofT rfl (z8.next (id := 10) rfl rfl rfl rfl hq.old rfl (by decide) (fun hall => Hold.out ?nx0) (fun e he hne => Hold.out ?nx1)) | (refine zY.is ?_; first | refine zY.seq ?_ | (refine zY.iq 6 ?_; refine zY.rqm _ K_1o K_1c ?_)))
  case nx1 =>
   refine Hold.go ?_
   have k1 : (PV.val (.int .u64 (f e.born).s)).plain = true := rfl
   have v1 : (f e.born).V.plain = true := rfl
   have k2 : e.key = (PV.val (.int .u64 (f e.born).s)).vv := (hf2 e he).1
   have v2 : e.val = (f e.born).V.vv := (hf2 e he).2
   have hin : f e.born ∈ gb := by rw [← hf1]; exact List.mem_map.2 ⟨e, he, rfl⟩
   have hmem : e.born ∈ es.toList.map (·.born) := List.mem_map.2 ⟨e, he, rfl⟩
   have lv := live_fn ⟨gb, gd, false⟩ (fun g' o' => g' = m ∧ o' = .map es clock) (fun g o h => by rw [h.2]; exact ⟨es, clock, rfl, hq⟩) (f e.born) (hok _ hin)
   have pu := hpush_fn H (f e.born) (by omega)
   unfold gBq at lv
   generalize hd : f e.born = d at *
   cases hl : GD.live ⟨gb, gd, false⟩ d
   ·rw [hl] at lv
    obtain ⟨dk, ds, dy, du, dv, dx⟩ := d
    repeat' (first | refine zZ.v rfl rfl (w_entry (id := 10) rfl rfl rfl rfl he hq.nodup k1 v1 k2 v2 rfl (by decide)) ?_ | (refine zZ.is ?_; first | refine zZ.nil ?_ | refine zZ.v rfl rfl (zC rfl rfl rfl rfl (by decide)) ?_ | refine zZ.m rfl rfl (xW rfl (by decide) rfl (by decide)) ?_ | refine zZ.w rfl (by exact yB rfl rfl rfl rfl rfl (by rfl) (by exact Nat.le_of_ble_eq_true rfl) rfl rfl) ?_) | (refine zY.is ?_; first | refine zY.seq ?_ | (refine zY.iq 7 ?_; refine zY.rqm _ K_1o K_1c ?_) | (refine zY.iq 8 ?_; refine zY.rqe _ K_1o K_1c ?_; refine zZ.v rfl rfl (zO rfl rfl rfl (by decide)) ?_; refine zZ.v rfl rfl (xY rfl rfl rfl (by rfl) (by rfl) rfl (by decide)) ?_; refine zZ.ofT rfl (z8.z [16, 10, 11] [] [] (lv) rfl (by decide) (yT rfl) (by rfl) (zG (by decide) rfl (by repeat' first | exact trivial | rfl | constructor)) rfl rfl rfl (by decide) rfl rfl (by decide) rfl rfl rfl ?_); refine zZ.nil ?_) | refine zY.yC rfl (by assumption) ?_ | refine zY.yF rfl (by first | assumption | with_reducible rfl) ?_ | refine zY.skip ?_ | refine zY.block ?_) | refine zH.n ?_ | refine zS.n ?_)
    all_goals
     have ha' := ha.skip hmem hne (by rw [hd]; exact hl)
     have hlen' := ha'.few hq.nodup
     rw [hborn, List.length_append] at hlen'
     refine ⟨(sn ++ [e.born], H), ?_, ha', by show gb.length - (sn ++ [e.born]).length < gb.length - sn.length; rw [List.length_append]; simp only [List.length_cons, List.length_nil] at hlen' ⊢; omega⟩
     dsimp only
     exact zD K_2e K_2f
   ·rw [hl] at lv
    obtain ⟨dk, ds, dy, du, dv, dx⟩ := d
    repeat' (first | refine zZ.v rfl rfl (w_entry (id := 10) rfl rfl rfl rfl he hq.nodup k1 v1 k2 v2 rfl (by decide)) ?_ | (refine zZ.is ?_; first | refine zZ.nil ?_ | refine zZ.v rfl rfl (zC rfl rfl rfl rfl (by decide)) ?_ | refine zZ.m rfl rfl (xW rfl (by decide) rfl (by decide)) ?_ | refine zZ.w rfl (by exact yB rfl rfl rfl rfl rfl (by rfl) (by exact Nat.le_of_ble_eq_true rfl) rfl rfl) ?_) | (refine zY.is ?_; first | refine zY.seq ?_ | (refine zY.iq 7 ?_; refine zY.rqm _ K_1o K_1c ?_) | (refine zY.iq 8 ?_; refine zY.rqe _ K_1o K_1c ?_; refine zZ.v rfl rfl (zO rfl rfl rfl (by decide)) ?_; refine zZ.v rfl rfl (xY rfl rfl rfl (by rfl) (by rfl) rfl (by decide)) ?_; refine zZ.ofT rfl (z8.z [16, 10, 11] [] [] (lv) rfl (by decide) (yT rfl) (by rfl) (zG (by decide) rfl (by repeat' first | exact trivial | rfl | constructor)) rfl rfl rfl (by decide) rfl rfl (by decide) rfl rfl rfl ?_); refine zZ.nil ?_) | (refine zY.iq 9 ?_; refine zY.rqe _ K_1o K_1c ?_; refine zZ.v rfl rfl (zO rfl rfl rfl (by decide)) ?_; refine zZ.v rfl rfl (by exact w_ifp (by kernel_rfl) rfl rfl rfl (by decide)) ?_; refine zZ.v rfl rfl (xY rfl rfl rfl (by rfl) (by rfl) rfl (by decide)) ?_; refine zZ.v rfl rfl (by exact w_iface (by kernel_rfl) rfl rfl rfl (by decide)) ?_; refine zZ.ofT rfl (z8.z [20] [19] [19] (pu) rfl (by decide) (yT rfl) (by rfl) (zG (by decide) rfl (by repeat' first | exact trivial | rfl | constructor)) rfl rfl rfl (by decide) rfl rfl (by decide) rfl rfl rfl ?_); refine zZ.nil ?_) | refine zY.yC rfl (by assumption) ?_ | refine zY.skip ?_ | refine zY.block ?_) | refine zH.n ?_ | refine zS.n ?_)
    all_goals
     have ha' := ha.push hmem hne (by rw [hd]; exact hl)
     have hlen' := ha'.few hq.nodup
     rw [hborn, List.length_append] at hlen'
     refine ⟨(sn ++ [e.born], pushL H (f e.born)), ?_, ha', by show gb.length - (sn ++ [e.born]).length < gb.length - sn.length; rw [List.length_append]; simp only [List.length_cons, List.length_nil] at hlen' ⊢; omega⟩
     rw [hd]
     dsimp only
     exact zD K_2e K_2f
  case nx0 =>
   refine Hold.go ?_
   have hp := ha.done hq.nodup (fun n hn => by obtain ⟨e, he, rfl⟩ := List.mem_map.1 hn; exact hall e he) (by rw [List.map_map]; exact hf1) c
   generalize GD.lives ⟨gb, gd, false⟩ = F at hp ⊢
   have hHb : H.length ≤ 100000 := by omega
   clear ha hlen hHl hall
   repeat' (first | (refine zZ.is ?_; first | refine zZ.nil ?_ | refine zZ.v rfl rfl (zC rfl rfl rfl rfl (by decide)) ?_) | (refine zY.is ?_; first | refine zY.seq ?_ | (refine zY.iq 10 ?_; refine zY.rqk _ K_3s K_1c ?_; refine zZ.va rfl rfl rfl rfl (by decide) ?_; refine zZ.nil ?_) | refine zY.yF rfl (by rfl) ?_ | refine zY.block ?_ | refine zY.exit ?_))
   refine zY.loop (lvS c) (fun p => Pop F c p.1 p.2 ∧ p.1.length ≤ 100000 ∧ p.1.length + p.2.length ≤ 100000) (fun p => p.1.length) (H, []) ?q0 ⟨hp, hHb, by simpa using hHb⟩ ?qr
   case q0 =>
    refine (sub_adoptV (d := 10) (id := 42) (ty := 46) (sz := 6) (by decide) rfl).trans ?_
    unfold lvS
    exact zD K_2g K_2h
   case qr =>
    clear hp hHb hborn hf1 hf2 hq hk hok p1 hb hn ht
    rintro ⟨H, out⟩ ⟨hp, hHb, hHo⟩
    simp only at hp hHb hHo
    have b1 := bLenO_fn H
    unfold lvS
    dsimp only
    cases H with
    | nil =>
     have g1 : decide ((((([] : List zV).map zV.V).length : Nat) : Int) > 0) = false := rfl
     rw [hp.done]
     by_cases hc : c < 0
     ·have g2 : decide (c < 0) = true := decide_eq_true hc
      rw [if_neg (by omega)]
      repeat' (first | (refine zY.is ?_; first | refine zY.seq ?_ | (refine zY.iq 11 ?_; refine zY.rqm _ K_e K_c ?_; refine zZ.v rfl rfl (zO rfl rfl rfl (by decide)) ?_; refine zZ.v rfl rfl (yD rfl rfl rfl (by decide)) ?_; refine zZ.v rfl rfl (y8 rfl rfl rfl rfl rfl (by decide)) ?_; refine zZ.ofT rfl (z8.z [20] [19] [19] (b1) rfl (by decide) (yT rfl) (by rfl) (zG (by decide) rfl (by repeat' first | exact trivial | rfl | constructor)) rfl rfl rfl (by decide) rfl rfl (by decide) rfl rfl rfl ?_); refine zZ.v rfl rfl (qL rfl rfl rfl g1 rfl (by decide)) ?_; refine zZ.nil ?_) | (refine zY.iq 17 ?_; refine zY.rqb _ K_31 K_c ?_; refine zZ.vm rfl rfl rfl rfl (by decide) ?_; refine zZ.v rfl rfl (yZ rfl rfl rfl g2 rfl (by decide)) ?_; refine zZ.nil ?_) | (refine zY.isR (id := 18) ?_; refine zY.zK [4, 5, 10] [4, 9, 10, 11, 19, 20, 42, 69] (by repeat' first | exact zX.nil | apply zX.own rfl | apply zX.skip) (by repeat' first | exact zW.nil | apply zW.some rfl | apply zW.skip) ?_; refine zZ.va rfl rfl rfl rfl (by decide) ?_; refine zZ.va rfl rfl rfl rfl (by decide) ?_; refine zZ.nil ?_) | refine zY.yC rfl (by first | assumption | with_reducible rfl) ?_ | refine zY.yF rfl (by assumption) ?_ | refine zY.exit ?_ | refine zY.ret ?_) | refine zH.r ?_)
      all_goals exact ⟨.inl rfl, _, qU (d := 4) rfl, xG.tupE (rs := [.tmp 4, .tmp 5]) rfl (by decide) (.cons (.tmp rfl) (.cons (.tmp rfl) .nil)) rfl⟩
     ·have g2 : decide (c < 0) = false := decide_eq_false hc
      rw [if_pos (by omega)]
      repeat' ((refine zY.is ?_; first | refine zY.seq ?_ | (refine zY.iq 11 ?_; refine zY.rqm _ K_e K_c ?_; refine zZ.v rfl rfl (zO rfl rfl rfl (by decide)) ?_; refine zZ.v rfl rfl (yD rfl rfl rfl (by decide)) ?_; refine zZ.v rfl rfl (y8 rfl rfl rfl rfl rfl (by decide)) ?_; refine zZ.ofT rfl (z8.z [20] [19] [19] (b1) rfl (by decide) (yT rfl) (by rfl) (zG (by decide) rfl (by repeat' first | exact trivial | rfl | constructor)) rfl rfl rfl (by decide) rfl rfl (by decide) rfl rfl rfl ?_); refine zZ.v rfl rfl (qL rfl rfl rfl g1 rfl (by decide)) ?_; refine zZ.nil ?_) | (refine zY.iq 17 ?_; refine zY.rqb _ K_31 K_c ?_; refine zZ.vm rfl rfl rfl rfl (by decide) ?_; refine zZ.v rfl rfl (yZ rfl rfl rfl g2 rfl (by decide)) ?_; refine zZ.nil ?_) | (refine zY.isR (id := 19) ?_; refine zY.sub ((wS 42 46 6 (out.map zV.V) rfl)) ?_; refine zY.zK [4, 5, 10] [4, 9, 10, 11, 19, 20, 42, 69] (by repeat' first | exact zX.nil | apply zX.p rfl | apply zX.skip) (by repeat' first | exact zW.nil | apply zW.some rfl | apply zW.skip) ?_; refine zZ.vm rfl rfl rfl rfl (by decide) ?_; refine zZ.va rfl rfl rfl rfl (by decide) ?_; refine zZ.va rfl rfl rfl rfl (by decide) ?_; refine zZ.nil ?_) | refine zY.yF rfl (by assumption) ?_ | refine zY.skip ?_ | refine zY.exit ?_ | refine zY.ret ?_))
      all_goals exact ⟨.inl rfl, _, Sub.refl _, xG.tupE (rs := [.tmp 4, .tmp 5]) rfl (by decide) (.cons (.tmp rfl) (.cons (.tmp rfl) .nil)) rfl⟩
    | cons e H' =>
     have g1 : decide (((((e :: H').map zV.V).length : Nat) : Int) > 0) = true := decide_eq_true (by simp)
     have po := hpop_fn (e :: H') e rfl hHb
     have hol : (out.map zV.V).length = out.length := by rw [List.length_map]
     obtain ⟨ek, es', ey, eu, ev, ex⟩ := e
     by_cases hnc : (out.length : Int) = c
     ·have c1 : decide ((((out.map zV.V).length : Nat) : Int) = c) = true := decide_eq_true (by rw [hol]; exact hnc)
      rw [hp.full (by simp) hnc]
      repeat' (first | (refine zY.is ?_; first | refine zY.seq ?_ | (refine zY.iq 11 ?_; refine zY.rqm _ K_e K_c ?_; refine zZ.v rfl rfl (zO rfl rfl rfl (by decide)) ?_; refine zZ.v rfl rfl (yD rfl rfl rfl (by decide)) ?_; refine zZ.v rfl rfl (y8 rfl rfl rfl rfl rfl (by decide)) ?_; refine zZ.ofT rfl (z8.z [20] [19] [19] (b1) rfl (by decide) (yT rfl) (by rfl) (zG (by decide) rfl (by repeat' first | exact trivial | rfl | constructor)) rfl rfl rfl (by decide) rfl rfl (by decide) rfl rfl rfl ?_); refine zZ.v rfl rfl (qL rfl rfl rfl g1 rfl (by decide)) ?_; refine zZ.nil ?_) | (refine zY.iq 12 ?_; refine zY.rqm _ K_e K_c ?_; refine zZ.v rfl rfl (zO rfl rfl rfl (by decide)) ?_; refine zZ.v rfl rfl (by exact w_ifp (by kernel_rfl) rfl rfl rfl (by decide)) ?_; refine zZ.ofT rfl (z8.z [20] [19] [19] (po) rfl (by decide) (yT rfl) (by rfl) (zG (by decide) rfl (by repeat' first | exact trivial | rfl | constructor)) rfl rfl rfl (by decide) rfl rfl (by decide) rfl rfl rfl ?_); refine zZ.v rfl rfl (w_assert1 rfl rfl rfl (by decide)) ?_; refine zZ.m rfl rfl (xW rfl (by decide) rfl (by decide)) ?_; refine zZ.w rfl (by exact yB rfl rfl rfl rfl rfl (by rfl) (by exact Nat.le_of_ble_eq_true rfl) rfl rfl) ?_; refine zZ.nil ?_) | (refine zY.iq 13 ?_; refine zY.rqe _ K_e K_c ?_; refine zZ.v rfl rfl (yJ rfl rfl rfl (by decide)) ?_; refine zZ.v rfl rfl (w_lenV rfl rfl rfl rfl (by decide)) ?_; refine zZ.va rfl rfl rfl rfl (by decide) ?_; refine zZ.nil ?_) | (refine zY.isR (id := 14) ?_; refine zY.xE [1, 4, 5, 7, 10, 11, 12, 42, 66] [4, 9, 10, 11, 19, 20, 42, 69] (by repeat' first | exact zX.nil | apply zX.p rfl | apply zX.ptr rfl | apply zX.own rfl | apply zX.skip) (by repeat' first | exact zW.nil | apply zW.boxP rfl rfl | apply zW.some rfl | apply zW.skip) (zY.draws ?_); all_goals (refine Draws.v rfl rfl (zQ rfl rfl rfl (by decide)) ?_); all_goals (refine Draws.v rfl rfl (zQ rfl rfl rfl (by decide)) ?_); all_goals (refine Draws.v rfl rfl (yM rfl rfl rfl c1 rfl (by decide)) ?_); all_goals (refine Draws.v rfl rfl (zQ rfl rfl rfl (by decide)) ?_); all_goals (refine Draws.gNF rfl rfl (by decide) rfl (by rfl) rfl (by decide) ?_); all_goals (refine Draws.gNF rfl rfl (by decide) rfl (by rfl) rfl (by decide) ?_); all_goals (refine Draws.gNF rfl rfl (by decide) rfl (by rfl) rfl (by decide) ?_); all_goals (refine Draws.gU rfl rfl (by decide) (by rfl) rfl (by decide) ?_); all_goals (refine Draws.gU rfl rfl (by decide) (by rfl) rfl (by decide) ?_); all_goals (refine Draws.gU rfl rfl (by decide) (by rfl) rfl (by decide) ?_); all_goals (refine Draws.gU rfl rfl (by decide) (by rfl) rfl (by decide) ?_); all_goals (refine Draws.gU rfl rfl (by decide) (by rfl) rfl (by decide) ?_); all_goals (refine Draws.gU rfl rfl (by decide) (by rfl) rfl (by decide) ?_); all_goals (refine Draws.gU rfl rfl (by decide) (by rfl) rfl (by decide) ?_); all_goals (refine Draws.gU rfl rfl (by decide) (by rfl) rfl (by decide) ?_); all_goals (refine Draws.gU rfl rfl (by decide) (by rfl) rfl (by decide) ?_); all_goals (refine Draws.gNF rfl rfl (by decide) rfl (by rfl) rfl (by decide) ?_); all_goals (refine Draws.v rfl rfl (zR rfl rfl (by rfl) rfl rfl (by decide)) ?_); all_goals ((refine Draws.done (by kernel_rfl) (by kernel_rfl) (by kernel_rfl) ?_; refine zL.nil ?_))) | (refine zY.iq 15 ?_; refine zY.rqe _ K_e K_c ?_; refine zZ.va rfl rfl rfl rfl (by decide) ?_; refine zZ.va rfl rfl rfl rfl (by decide) ?_; refine zZ.nil ?_) | refine zY.yC rfl (by first | assumption | with_reducible rfl) ?_ | refine zY.skip ?_ | refine zY.block ?_ | refine zY.ret ?_) | refine zH.r ?_ | refine zS.r ?_)
      all_goals exact ⟨.inl rfl, _, qU (d := 4) rfl, xG.tupE (rs := [.tmp 4, .tmp 5]) rfl (by decide) (.cons (.tmp rfl) (.cons (.tmp rfl) .nil)) rfl⟩
     ·have c1 : decide ((((out.map zV.V).length : Nat) : Int) = c) = false := decide_eq_false (by rw [hol]; exact hnc)
      have hpl := popL_len (⟨ek, es', ey, eu, ev, ex⟩ :: H')
      have q6 : ∀ x ∈ [(⟨ek, es', ey, eu, ev, ex⟩ : zV).V], x.cells.length = 6 := fun x hx => by simp at hx; subst hx; rfl
      have q7 : ([(⟨ek, es', ey, eu, ev, ex⟩ : zV).V] : List PV).length * 48 ≤ 140737488355328 ∧ ([(⟨ek, es', ey, eu, ev, ex⟩ : zV).V] : List PV).length ≤ maxLen := by simp [maxLen]
      have q8 : ((out.map zV.V).length + ([(⟨ek, es', ey, eu, ev, ex⟩ : zV).V] : List PV).length) * 48 ≤ 140737488355328 ∧ (out.map zV.V).length + ([(⟨ek, es', ey, eu, ev, ex⟩ : zV).V] : List PV).length ≤ maxLen := by simp [maxLen]; omega
      have hm : (out ++ [(⟨ek, es', ey, eu, ev, ex⟩ : zV)]).map zV.V = out.map zV.V ++ [(⟨ek, es', ey, eu, ev, ex⟩ : zV).V] := by simp
      by_cases h0 : out.length = 0
      ·have c2 : decide ((((out.map zV.V).length : Nat) : Int) > 0) = false := decide_eq_false (by rw [hol]; omega)
       have hst := hp.step rfl hnc (fun l hl => by rw [List.getElem?_eq_none (by omega)] at hl; cases hl)
       repeat' (first | (refine zY.is ?_; first | refine zY.seq ?_ | (refine zY.iq 11 ?_; refine zY.rqm _ K_e K_c ?_; refine zZ.v rfl rfl (zO rfl rfl rfl (by decide)) ?_; refine zZ.v rfl rfl (yD rfl rfl rfl (by decide)) ?_; refine zZ.v rfl rfl (y8 rfl rfl rfl rfl rfl (by decide)) ?_; refine zZ.ofT rfl (z8.z [20] [19] [19] (b1) rfl (by decide) (yT rfl) (by rfl) (zG (by decide) rfl (by repeat' first | exact trivial | rfl | constructor)) rfl rfl rfl (by decide) rfl rfl (by decide) rfl rfl rfl ?_); refine zZ.v rfl rfl (qL rfl rfl rfl g1 rfl (by decide)) ?_; refine zZ.nil ?_) | (refine zY.iq 12 ?_; refine zY.rqm _ K_e K_c ?_; refine zZ.v rfl rfl (zO rfl rfl rfl (by decide)) ?_; refine zZ.v rfl rfl (by exact w_ifp (by kernel_rfl) rfl rfl rfl (by decide)) ?_; refine zZ.ofT rfl (z8.z [20] [19] [19] (po) rfl (by decide) (yT rfl) (by rfl) (zG (by decide) rfl (by repeat' first | exact trivial | rfl | constructor)) rfl rfl rfl (by decide) rfl rfl (by decide) rfl rfl rfl ?_); refine zZ.v rfl rfl (w_assert1 rfl rfl rfl (by decide)) ?_; refine zZ.m rfl rfl (xW rfl (by decide) rfl (by decide)) ?_; refine zZ.w rfl (by exact yB rfl rfl rfl rfl rfl (by rfl) (by exact Nat.le_of_ble_eq_true rfl) rfl rfl) ?_; refine zZ.nil ?_) | (refine zY.iq 13 ?_; refine zY.rqe _ K_e K_c ?_; refine zZ.v rfl rfl (yJ rfl rfl rfl (by decide)) ?_; refine zZ.v rfl rfl (w_lenV rfl rfl rfl rfl (by decide)) ?_; refine zZ.va rfl rfl rfl rfl (by decide) ?_; refine zZ.nil ?_) | (refine zY.isR (id := 14) ?_; refine zY.xE [1, 4, 5, 7, 10, 11, 12, 42, 66] [4, 9, 10, 11, 19, 20, 42, 69] (by repeat' first | exact zX.nil | apply zX.p rfl | apply zX.ptr rfl | apply zX.own rfl | apply zX.skip) (by repeat' first | exact zW.nil | apply zW.boxP rfl rfl | apply zW.some rfl | apply zW.skip) (zY.draws ?_); all_goals (refine Draws.v rfl rfl (zQ rfl rfl rfl (by decide)) ?_); all_goals (refine Draws.v rfl rfl (zQ rfl rfl rfl (by decide)) ?_); all_goals (refine Draws.v rfl rfl (yM rfl rfl rfl c1 rfl (by decide)) ?_); all_goals (refine Draws.v rfl rfl (zQ rfl rfl rfl (by decide)) ?_); all_goals (refine Draws.gY rfl rfl (by decide) rfl (by rfl) rfl (zQ rfl rfl rfl (by decide)) ?_); all_goals (refine Draws.gY rfl rfl (by decide) rfl (by rfl) rfl (qL rfl rfl rfl c2 rfl (by decide)) ?_); all_goals (refine Draws.gY rfl rfl (by decide) rfl (by rfl) rfl (zQ rfl rfl rfl (by decide)) ?_); all_goals (refine Draws.gNT rfl rfl (by decide) rfl (by rfl) rfl (by decide) ?_); all_goals (refine Draws.gNT rfl rfl (by decide) rfl (by rfl) rfl (by decide) ?_); all_goals (refine Draws.gNT rfl rfl (by decide) rfl (by rfl) rfl (by decide) ?_); all_goals (refine Draws.gNT rfl rfl (by decide) rfl (by rfl) rfl (by decide) ?_); all_goals (refine Draws.gNT rfl rfl (by decide) rfl (by rfl) rfl (by decide) ?_); all_goals (refine Draws.gNT rfl rfl (by decide) rfl (by rfl) rfl (by decide) ?_); all_goals (refine Draws.gNT rfl rfl (by decide) rfl (by rfl) rfl (by decide) ?_); all_goals (refine Draws.gNT rfl rfl (by decide) rfl (by rfl) rfl (by decide) ?_); all_goals (refine Draws.gNT rfl rfl (by decide) rfl (by rfl) rfl (by decide) ?_); all_goals (refine Draws.gY rfl rfl (by decide) rfl (by rfl) rfl (zM rfl rfl (by rfl) rfl rfl (by decide)) ?_); all_goals (refine Draws.v rfl rfl (zM rfl rfl (by rfl) rfl rfl (by decide)) ?_); all_goals ((refine Draws.done (by kernel_rfl) (by kernel_rfl) (by kernel_rfl) ?_; refine zL.nil ?_))) | (refine zY.iq 16 ?_; refine zY.rqe _ K_e K_c ?_; refine zZ.v rfl rfl (yJ rfl rfl rfl (by decide)) ?_; refine zZ.v rfl rfl (xY rfl rfl rfl (by rfl) (by rfl) rfl (by decide)) ?_; refine zZ.v rfl rfl (wO rfl (by decide) (by decide) (by decide) (by decide) (by rfl) (by rfl) (by rfl) (by rfl) (by rfl) (by rfl) (by rfl) rfl (by decide)) ?_; refine zZ.w rfl (qF rfl rfl rfl rfl q6 q8 rfl (by decide) rfl (by decide)) ?_; refine zZ.v rfl rfl (zN rfl rfl rfl (by decide)) ?_; refine zZ.nil ?_) | refine zY.yC rfl (by first | assumption | with_reducible rfl) ?_ | refine zY.yF rfl (by first | assumption | with_reducible rfl) ?_ | refine zY.skip ?_ | refine zY.block ?_) | refine zH.n ?_ | refine zS.n ?_)
       all_goals
        refine ⟨(popL (⟨ek, es', ey, eu, ev, ex⟩ :: H'), out ++ [⟨ek, es', ey, eu, ev, ex⟩]), ?_, ⟨hst, by show (popL _).length ≤ _; rw [hpl]; omega, by show (popL _).length + (out ++ _).length ≤ _; rw [hpl, List.length_append]; simp only [List.length_cons, List.length_nil] at hHo ⊢; omega⟩, by show (popL _).length < _; rw [hpl]; simp⟩
        dsimp only
        rw [hm]
        exact zD K_2g K_2h
      ·have c2 : decide ((((out.map zV.V).length : Nat) : Int) > 0) = true := decide_eq_true (by rw [hol]; omega)
       have c3 : IntKind.i64.wrap ((((out.map zV.V).length : Nat) : Int) - 1) = ((out.length - 1 : Nat) : Int) := by rw [hol, wrap_i64 _ (by omega)]; omega
       have hl : out[out.length - 1]? = some (out[out.length - 1]'(by omega)) := List.getElem?_eq_getElem _
       have hlm : out[out.length - 1]'(by omega) ∈ out := List.getElem_mem _
       generalize out[out.length - 1]'(by omega) = l at hl hlm
       have c4 : (out.map zV.V)[out.length - 1]? = some l.V := by rw [List.getElem?_map, hl]; rfl
       have c5 := yU out
       obtain ⟨lk, ls, ly, lu, lv', lx⟩ := l
       have c7 : (flat (out.map zV.V))[((out.length - 1 : Nat) : Int).toNat * 6 + 2]? = some (.val (.int .u64 ly)) := flat_field c5 c4 rfl
       have c8 : (0 : Int) ≤ ((out.length - 1 : Nat) : Int) ∧ ((out.length - 1 : Nat) : Int) < (((out.map zV.V).length : Nat) : Int) := by rw [hol]; omega
       by_cases hy : ly = ey
       ·have c6 : decide (ly = ey) = true := decide_eq_true hy
        rw [hp.twice rfl hlm hy]
        repeat' (first | (refine zY.is ?_; first | refine zY.seq ?_ | (refine zY.iq 11 ?_; refine zY.rqm _ K_e K_c ?_; refine zZ.v rfl rfl (zO rfl rfl rfl (by decide)) ?_; refine zZ.v rfl rfl (yD rfl rfl rfl (by decide)) ?_; refine zZ.v rfl rfl (y8 rfl rfl rfl rfl rfl (by decide)) ?_; refine zZ.ofT rfl (z8.z [20] [19] [19] (b1) rfl (by decide) (yT rfl) (by rfl) (zG (by decide) rfl (by repeat' first | exact trivial | rfl | constructor)) rfl rfl rfl (by decide) rfl rfl (by decide) rfl rfl rfl ?_); refine zZ.v rfl rfl (qL rfl rfl rfl g1 rfl (by decide)) ?_; refine zZ.nil ?_) | (refine zY.iq 12 ?_; refine zY.rqm _ K_e K_c ?_; refine zZ.v rfl rfl (zO rfl rfl rfl (by decide)) ?_; refine zZ.v rfl rfl (by exact w_ifp (by kernel_rfl) rfl rfl rfl (by decide)) ?_; refine zZ.ofT rfl (z8.z [20] [19] [19] (po) rfl (by decide) (yT rfl) (by rfl) (zG (by decide) rfl (by repeat' first | exact trivial | rfl | constructor)) rfl rfl rfl (by decide) rfl rfl (by decide) rfl rfl rfl ?_); refine zZ.v rfl rfl (w_assert1 rfl rfl rfl (by decide)) ?_; refine zZ.m rfl rfl (xW rfl (by decide) rfl (by decide)) ?_; refine zZ.w rfl (by exact yB rfl rfl rfl rfl rfl (by rfl) (by exact Nat.le_of_ble_eq_true rfl) rfl rfl) ?_; refine zZ.nil ?_) | (refine zY.iq 13 ?_; refine zY.rqe _ K_e K_c ?_; refine zZ.v rfl rfl (yJ rfl rfl rfl (by decide)) ?_; refine zZ.v rfl rfl (w_lenV rfl rfl rfl rfl (by decide)) ?_; refine zZ.va rfl rfl rfl rfl (by decide) ?_; refine zZ.nil ?_) | (refine zY.isR (id := 14) ?_; refine zY.xE [1, 4, 5, 7, 10, 11, 12, 42, 66] [4, 9, 10, 11, 19, 20, 42, 69] (by repeat' first | exact zX.nil | apply zX.p rfl | apply zX.ptr rfl | apply zX.own rfl | apply zX.skip) (by repeat' first | exact zW.nil | apply zW.boxP rfl rfl | apply zW.some rfl | apply zW.skip) (zY.draws ?_); all_goals (refine Draws.v rfl rfl (zQ rfl rfl rfl (by decide)) ?_); all_goals (refine Draws.v rfl rfl (zQ rfl rfl rfl (by decide)) ?_); all_goals (refine Draws.v rfl rfl (yM rfl rfl rfl c1 rfl (by decide)) ?_); all_goals (refine Draws.v rfl rfl (zQ rfl rfl rfl (by decide)) ?_); all_goals (refine Draws.gY rfl rfl (by decide) rfl (by rfl) rfl (zQ rfl rfl rfl (by decide)) ?_); all_goals (refine Draws.gY rfl rfl (by decide) rfl (by rfl) rfl (qL rfl rfl rfl c2 rfl (by decide)) ?_); all_goals (refine Draws.gY rfl rfl (by decide) rfl (by rfl) rfl (zQ rfl rfl rfl (by decide)) ?_); all_goals (refine Draws.gY rfl rfl (by decide) rfl (by rfl) rfl (yJ rfl rfl rfl (by decide)) ?_); all_goals (refine Draws.gY rfl rfl (by decide) rfl (by rfl) rfl (zQ rfl rfl rfl (by decide)) ?_); all_goals (refine Draws.gY rfl rfl (by decide) rfl (by rfl) rfl (w9 rfl rfl rfl c3 rfl (by decide)) ?_); all_goals (refine Draws.gY rfl rfl (by decide) rfl (by rfl) rfl (qO rfl rfl rfl rfl c8 rfl (by decide)) ?_); all_goals (refine Draws.gY rfl rfl (by decide) rfl (by rfl) rfl (zJ rfl rfl rfl (by decide)) ?_); all_goals (refine Draws.gY rfl rfl (by decide) rfl (by rfl) rfl (w_loadVF rfl rfl rfl c7 rfl (by decide)) ?_); all_goals (refine Draws.gY rfl rfl (by decide) rfl (by rfl) rfl (zJ rfl rfl rfl (by decide)) ?_); all_goals (refine Draws.gY rfl rfl (by decide) rfl (by rfl) rfl (zB rfl rfl rfl (by rfl) rfl (by decide)) ?_); all_goals (refine Draws.gY rfl rfl (by decide) rfl (by rfl) rfl (yM rfl rfl rfl c6 rfl (by decide)) ?_); all_goals (refine Draws.gY rfl rfl (by decide) rfl (by rfl) rfl (zR rfl rfl (by rfl) rfl rfl (by decide)) ?_); all_goals (refine Draws.v rfl rfl (zM rfl rfl (by rfl) rfl rfl (by decide)) ?_); all_goals ((refine Draws.done (by kernel_rfl) (by kernel_rfl) (by kernel_rfl) ?_; refine zL.nil ?_))) | (refine zY.iq 15 ?_; refine zY.rqe _ K_e K_c ?_; refine zZ.va rfl rfl rfl rfl (by decide) ?_; refine zZ.va rfl rfl rfl rfl (by decide) ?_; refine zZ.nil ?_) | refine zY.yC rfl (by first | assumption | with_reducible rfl) ?_ | refine zY.skip ?_ | refine zY.block ?_ | refine zY.ret ?_) | refine zH.r ?_ | refine zS.r ?_)
        all_goals exact ⟨.inl rfl, _, qU (d := 4) rfl, xG.tupE (rs := [.tmp 4, .tmp 5]) rfl (by decide) (.cons (.tmp rfl) (.cons (.tmp rfl) .nil)) rfl⟩
       ·have c6 : decide (ly = ey) = false := decide_eq_false hy
        have hst := hp.step rfl hnc (fun l hl' => by rw [hl] at hl'; cases hl'; exact hy)
        repeat' (first | (refine zY.is ?_; first | refine zY.seq ?_ | (refine zY.iq 11 ?_; refine zY.rqm _ K_e K_c ?_; refine zZ.v rfl rfl (zO rfl rfl rfl (by decide)) ?_; refine zZ.v rfl rfl (yD rfl rfl rfl (by decide)) ?_; refine zZ.v rfl rfl (y8 rfl rfl rfl rfl rfl (by decide)) ?_; refine zZ.ofT rfl (z8.z [20] [19] [19] (b1) rfl (by decide) (yT rfl) (by rfl) (zG (by decide) rfl (by repeat' first | exact trivial | rfl | constructor)) rfl rfl rfl (by decide) rfl rfl (by decide) rfl rfl rfl ?_); refine zZ.v rfl rfl (qL rfl rfl rfl g1 rfl (by decide)) ?_; refine zZ.nil ?_) | (refine zY.iq 12 ?_; refine zY.rqm _ K_e K_c ?_; refine zZ.v rfl rfl (zO rfl rfl rfl (by decide)) ?_; refine zZ.v rfl rfl (by exact w_ifp (by kernel_rfl) rfl rfl rfl (by decide)) ?_; refine zZ.ofT rfl (z8.z [20] [19] [19] (po) rfl (by decide) (yT rfl) (by rfl) (zG (by decide) rfl (by repeat' first | exact trivial | rfl | constructor)) rfl rfl rfl (by decide) rfl rfl (by decide) rfl rfl rfl ?_); refine zZ.v rfl rfl (w_assert1 rfl rfl rfl (by decide)) ?_; refine zZ.m rfl rfl (xW rfl (by decide) rfl (by decide)) ?_; refine zZ.w rfl (by exact yB rfl rfl rfl rfl rfl (by rfl) (by exact Nat.le_of_ble_eq_true rfl) rfl rfl) ?_; refine zZ.nil ?_) | (refine zY.iq 13 ?_; refine zY.rqe _ K_e K_c ?_; refine zZ.v rfl rfl (yJ rfl rfl rfl (by decide)) ?_; refine zZ.v rfl rfl (w_lenV rfl rfl rfl rfl (by decide)) ?_; refine zZ.va rfl rfl rfl rfl (by decide) ?_; refine zZ.nil ?_) | (refine zY.isR (id := 14) ?_; refine zY.xE [1, 4, 5, 7, 10, 11, 12, 42, 66] [4, 9, 10, 11, 19, 20, 42, 69] (by repeat' first | exact zX.nil | apply zX.p rfl | apply zX.ptr rfl | apply zX.own rfl | apply zX.skip) (by repeat' first | exact zW.nil | apply zW.boxP rfl rfl | apply zW.some rfl | apply zW.skip) (zY.draws ?_); all_goals (refine Draws.v rfl rfl (zQ rfl rfl rfl (by decide)) ?_); all_goals (refine Draws.v rfl rfl (zQ rfl rfl rfl (by decide)) ?_); all_goals (refine Draws.v rfl rfl (yM rfl rfl rfl c1 rfl (by decide)) ?_); all_goals (refine Draws.v rfl rfl (zQ rfl rfl rfl (by decide)) ?_); all_goals (refine Draws.gY rfl rfl (by decide) rfl (by rfl) rfl (zQ rfl rfl rfl (by decide)) ?_); all_goals (refine Draws.gY rfl rfl (by decide) rfl (by rfl) rfl (qL rfl rfl rfl c2 rfl (by decide)) ?_); all_goals (refine Draws.gY rfl rfl (by decide) rfl (by rfl) rfl (zQ rfl rfl rfl (by decide)) ?_); all_goals (refine Draws.gY rfl rfl (by decide) rfl (by rfl) rfl (yJ rfl rfl rfl (by decide)) ?_); all_goals (refine Draws.gY rfl rfl (by decide) rfl (by rfl) rfl (zQ rfl rfl rfl (by decide)) ?_); all_goals (refine Draws.gY rfl rfl (by decide) rfl (by rfl) rfl (w9 rfl rfl rfl c3 rfl (by decide)) ?_); all_goals (refine Draws.gY rfl rfl (by decide) rfl (by rfl) rfl (qO rfl rfl rfl rfl c8 rfl (by decide)) ?_); all_goals (refine Draws.gY rfl rfl (by decide) rfl (by rfl) rfl (zJ rfl rfl rfl (by decide)) ?_); all_goals (refine Draws.gY rfl rfl (by decide) rfl (by rfl) rfl (w_loadVF rfl rfl rfl c7 rfl (by decide)) ?_); all_goals (refine Draws.gY rfl rfl (by decide) rfl (by rfl) rfl (zJ rfl rfl rfl (by decide)) ?_); all_goals (refine Draws.gY rfl rfl (by decide) rfl (by rfl) rfl (zB rfl rfl rfl (by rfl) rfl (by decide)) ?_); all_goals (refine Draws.gY rfl rfl (by decide) rfl (by rfl) rfl (yM rfl rfl rfl c6 rfl (by decide)) ?_); all_goals (refine Draws.gY rfl rfl (by decide) rfl (by rfl) rfl (zR rfl rfl (by rfl) rfl rfl (by decide)) ?_); all_goals (refine Draws.v rfl rfl (zM rfl rfl (by rfl) rfl rfl (by decide)) ?_); all_goals ((refine Draws.done (by kernel_rfl) (by kernel_rfl) (by kernel_rfl) ?_; refine zL.nil ?_))) | (refine zY.iq 16 ?_; refine zY.rqe _ K_e K_c ?_; refine zZ.v rfl rfl (yJ rfl rfl rfl (by decide)) ?_; refine zZ.v rfl rfl (xY rfl rfl rfl (by rfl) (by rfl) rfl (by decide)) ?_; refine zZ.v rfl rfl (wO rfl (by decide) (by decide) (by decide) (by decide) (by rfl) (by rfl) (by rfl) (by rfl) (by rfl) (by rfl) (by rfl) rfl (by decide)) ?_; refine zZ.w rfl (qF rfl rfl rfl rfl q6 q8 rfl (by decide) rfl (by decide)) ?_; refine zZ.v rfl rfl (zN rfl rfl rfl (by decide)) ?_; refine zZ.nil ?_) | refine zY.yC rfl (by first | assumption | with_reducible rfl) ?_ | refine zY.yF rfl (by first | assumption | with_reducible rfl) ?_ | refine zY.skip ?_ | refine zY.block ?_) | refine zH.n ?_ | refine zS.n ?_)
        all_goals
         refine ⟨(popL (⟨ek, es', ey, eu, ev, ex⟩ :: H'), out ++ [⟨ek, es', ey, eu, ev, ex⟩]), ?_, ⟨hst, by show (popL _).length ≤ _; rw [hpl]; omega, by show (popL _).length + (out ++ _).length ≤ _; rw [hpl, List.length_append]; simp only [List.length_cons, List.length_nil] at hHo ⊢; omega⟩, by show (popL _).length < _; rw [hpl]; simp⟩
         dsimp only
         rw [hm]
         exact zD K_2g K_2h
theorem born_ok (ss : List (List Int)) (hb : ∀ s ∈ ss, yI s) : (xB ss).born.length ≤ total ss ∧ ∀ e ∈ (xB ss).born, e.ok := by
  have hput : ∀ (L : List zV) (e : zV), (bput L e).length ≤ L.length + 1 ∧ ∀ x ∈ bput L e, x = e ∨ x ∈ L := by
    intro L
    induction L with
    | nil => intro e; exact ⟨by simp [bput], fun x hx => .inl (by simpa [bput] using hx)⟩
    | cons a r ih =>
      intro e
      unfold bput
      split
      · exact ⟨by simp, fun x hx => (List.mem_cons.1 hx).imp id (List.mem_cons_of_mem _)⟩
      · have := ih e
        refine ⟨by simp only [List.length_cons]; omega, fun x hx => ?_⟩
        rcases List.mem_cons.1 hx with rfl | hx
        · exact .inr (by simp)
        · exact (this.2 x hx).imp id (List.mem_cons_of_mem _)
  have hg : ∀ (g : GD) (e : zV), (gput g e).born.length ≤ g.born.length + 1 ∧ ∀ x ∈ (gput g e).born, x = e ∨ x ∈ g.born := by
    intro g e
    unfold gput
    split
    · exact hput g.born e
    · split
      · exact ⟨Nat.le_succ _, fun x hx => .inr hx⟩
      · exact ⟨Nat.le_succ _, fun x hx => .inr hx⟩
  have hf : ∀ (L : List zV) (g : GD), (∀ e ∈ L, e.ok) → (∀ e ∈ g.born, e.ok) → (L.foldl gput g).born.length ≤ g.born.length + L.length ∧ ∀ e ∈ (L.foldl gput g).born, e.ok := by
    intro L
    induction L with
    | nil => intro g _ h; exact ⟨Nat.le_refl _, h⟩
    | cons a r ih =>
      intro g hL h
      have h1 := hg g a
      have h2 := ih (gput g a) (fun e he => hL e (by simp [he])) fun e he => by
        rcases h1.2 e he with rfl | he
        · exact hL _ (by simp)
        · exact h e he
      refine ⟨?_, h2.2⟩
      have := h2.1
      have := h1.1
      simp only [List.foldl_cons, List.length_cons]
      omega
  have hall : ∀ (ss : List (List Int)) (g : GD) (i : Nat), (∀ s ∈ ss, yI s) → (∀ e ∈ g.born, e.ok) → (gfrom g i ss).born.length ≤ g.born.length + total ss ∧ ∀ e ∈ (gfrom g i ss).born, e.ok := by
    intro ss
    induction ss with
    | nil => intro g i _ h; exact ⟨Nat.le_add_right _ _, h⟩
    | cons s r ih =>
      intro g i hb h
      have hs := streamEnts_ok (i := i) (hb s (by simp))
      have h1 := hf (yA i s).1 { g with bad := g.bad || !(yA i s).2 } (fun e he => (hs.1 e he).1) h
      have h2 := ih (gstep g (yA i s)) (i + 1) (fun c hc => hb c (by simp [hc])) h1.2
      refine ⟨?_, h2.2⟩
      have h3 := h2.1
      have h4 := h1.1
      have h5 := hs.2
      simp only [total, List.map_cons, List.sum_cons] at *
      show (gfrom (gstep g (yA i s)) (i + 1) r).born.length ≤ _
      have h6 : (gstep g (yA i s)).born.length ≤ g.born.length + (yA i s).1.length := h4
      omega
  have := hall ss ⟨[], [], decide (ss.length = 0)⟩ 0 hb (fun e he => by cases he)
  exact ⟨Nat.le_trans this.1 (by simp), this.2⟩
theorem mLive_fn (ss : List (List Int)) (c : Int) (hb : ∀ s ∈ ss, yI s) (hn : ss.length ≤ 1000000) (ht : total ss ≤ 100000) : Fn Tryd.prog 12 [vS ss, .val (.int .i64 c)] (.tup [.sl ((wV ss c).1.map zV.V), .val (.int .i64 (wV ss c).2)]) := by
  have hk := born_ok ss hb
  unfold wV
  cases hg : (xB ss).bad
  · exact live_good_fn ss c hb hn (by omega) hg (by omega) hk.2
  · exact live_bad_fn ss c hb hn (by omega) hg
end Go.Proofs.YtomlhekjgagjaaaDoor
namespace Go.Proofs.YtomlhekjgagjaaaDoor
set_option maxRecDepth 100000
set_option maxHeartbeats 16000000
open Go Go.RowKit
variable {P : Program} {n : Nat} {o : Oper} {S : AS} {d : Nat} {t : TypeId} {x y : Operand}
theorem w_storeVF {id off e sz : Nat} {es es' : List PV} {v : PV} {agg : Bool} [h : TyA P t agg 1] (ho : o.op = .store t x y) (hx : S.get x = .ptr id off) (hb : S.blk id = some (x9 e sz es)) (hy : S.get y = .p v) (hk : (AV.p v).kD = true) (hv : v.cells.length = 1) (hlt : off < (flat es).length) (he : splice (flat es) off v.cells = flat es') (hl : es'.length = es.length) (hd : o.dst = none) :
    Step P n o S (S.tag id (x9 e sz es')) := by
  have h1 := yB (P := P) (n := n) (S := S.tag id (.row e sz es.length ((flat es).map AV.p))) (o := o) (agg := agg) (m := 1) ho (by rw [AS.wQ]; exact hx) (by rw [AS.xQ, if_pos rfl]) (by rw [AS.wQ, hy]) hk (by show (v.cells.map AV.p).length = 1; rw [List.length_map, hv]) (by show off + 1 ≤ ((flat es).map AV.p).length; rw [List.length_map]; exact hlt) rfl hd
  have e1 : (Blk.row e sz es.length ((flat es).map AV.p)).setXs (splice (Blk.row e sz es.length ((flat es).map AV.p)).xs off (AV.p v).xU) = .row e sz es'.length ((flat es').map AV.p) := by
    show Blk.row e sz es.length (splice ((flat es).map AV.p) off (v.cells.map AV.p)) = _
    rw [splice_map, he, hl]
  rw [e1] at h1
  refine h1.same (vK hb (qQ e sz es)) ⟨fun _ => rfl, fun j => ?_⟩
  show (if id = j then some _ else if id = j then some _ else S.blk j) = none ∧ (if id = j then some _ else S.blk j) = none ∨ ∃ b b', (if id = j then some _ else if id = j then some _ else S.blk j) = some b ∧ (if id = j then some _ else S.blk j) = some b' ∧ Alike b b'
  by_cases hj : id = j
  · subst hj
    rw [if_pos rfl, if_pos rfl]
    exact .inr ⟨_, _, rfl, rfl, vI e sz es'⟩
  · rw [if_neg hj, if_neg hj, if_neg hj]
    cases S.blk j with
    | none => exact .inl ⟨rfl, rfl⟩
    | some b => exact .inr ⟨b, b, rfl, rfl, .refl b⟩
theorem flat_put {sz : Nat} {es : List PV} (hes : ∀ e ∈ es, e.cells.length = sz) {i k : Nat} {v v' c : PV} (hv : es[i]? = some v) (hk : k < sz) (hc : v'.cells = v.cells.set k c) (hc1 : c.cells = [c]) : splice (flat es) (i * sz + k) c.cells = flat (es.set i v') := by
  have hlen := hes v (List.mem_of_getElem? hv)
  have hi : i < es.length := (List.getElem?_eq_some_iff.1 hv).1
  have h1 := flat_set hes (v := v') (by rw [hc, List.length_set]; exact hlen) hi
  rw [← h1, hc]
  have h2 := flat_at hes hv
  have hfl := flat_len hes
  have hle : i * sz + sz ≤ (flat es).length := by
    rw [hfl]
    have : (i + 1) * sz ≤ es.length * sz := Nat.mul_le_mul_right _ hi
    rw [Nat.add_mul] at this
    omega
  have hspl : ∀ (l w : List PV) (o : Nat), splice l o w = l.take o ++ w ++ l.drop (o + w.length) := fun l w o => by simp [splice]
  rw [hspl, hspl, hc1, List.length_set, hlen]
  have e1 : (flat es).take (i * sz + k) = (flat es).take (i * sz) ++ v.cells.take k := by
    rw [← h2, List.take_take, Nat.min_eq_left (by omega), ← List.take_add]
  have e2 : (flat es).drop (i * sz + k + [c].length) = v.cells.drop (k + 1) ++ (flat es).drop (i * sz + sz) := by
    rw [← h2, List.drop_take]
    have : (flat es).drop (i * sz + sz) = (((flat es).drop (i * sz)).drop (k + 1)).drop (sz - (k + 1)) := by
      rw [List.drop_drop, List.drop_drop]
      congr 1
      omega
    rw [this, List.take_append_drop, List.drop_drop]
    rfl
  rw [e1, e2, List.set_eq_take_append_cons_drop, if_pos (by omega)]
  simp [List.append_assoc]
theorem w_lookZ {k : Operand} {id key e : Nat} {j : Int} {Q : Nat → Obj → Prop} {L : ML} {zv : Value} {v : PV} [ht : Und P t (.map key e)] [hk : Und P key (.int .u64)] [hz : ZeroA P e zv] (ho : o.op = .lookup t x k false) (hx : S.get x = .own id) (hb : S.blk id = some (.obj true Q)) (hQ : ∀ g o, Q g o → IsMap L g o) (hj : S.get k = .p (.val (.int .u64 j)))
    (hm : mget L j = some v ∨ (mget L j = none ∧ v = PV.ofV zv)) (hzp : (PV.ofV zv).plain = true) (hzv : (PV.ofV zv).vv = zv) (hd : o.dst = some d) (hn : d < n) : zA P n o S [id] (.p v) none := by
  rcases hm with hm | ⟨hm, rfl⟩
  · exact w_lookY ho hx hb hQ hj hm hzp hzv hd hn
  · exact w_lookN ho hx hb hQ hj hm hzp hzv hd hn
theorem z8.eqlNil {yt : TypeId} {e : TypeId} {K : Exit → AS → Prop} {N : AS → Prop} [ht : Und P t (.slice e)] (ho : o.op = .binOp .eql t x y yt) (hx : S.get x = .p (.sl [])) (hy : S.get y = .p (.val (.slice none 0 0))) (hd : o.dst = some d) (hn : d < n) (h : ∀ b : Bool, N (S.put d (.p (.val (.bool b))))) : z8 P n o S K N := by
  intro M w0 ρ a w KK Q hs hK _
  have r1 := xJ hs hx
  have r2 := hs.val hy
  have hex : ∃ b : Bool, (execOp a.eval o).run P w = .ok (.value (.bool b)) w := by
    rcases rep_sl r1 with ⟨⟨b, hv⟩, h0⟩ | ⟨g, off, cap, ys, hv, _⟩
    · refine ⟨b.isNone, ?_⟩
      unfold execOp
      rw [ho]
      simp only [hv, r2, Sem.run_bind]
      simp [eqGuard, binOp, run_equal_slice_nil w t e b 0 0 ht.h]
    · refine ⟨false, ?_⟩
      unfold execOp
      rw [ho]
      simp only [hv, r2, Sem.run_bind]
      simp [eqGuard, binOp, run_equal_slice_nil w t e (some ⟨g, off, none⟩) _ cap ht.h]
  obtain ⟨b, hb⟩ := hex
  unfold Oper.wp
  rw [hb]
  show KK (a.put o.dst _) w
  rw [hd]
  exact hK _ ρ _ w (h b) (hs.put hn (.p (.val _)))
end Go.Proofs.YtomlhekjgagjaaaDoor
namespace Go.Proofs.YtomlhekjgagjaaaDoor
set_option maxRecDepth 100000
set_option maxHeartbeats 16000000
open Go Go.RowKit
attribute [local irreducible] zZ zY Step zA Sub zL z8 Fn zH zS
theorem gives_sub {P : Program} {fn : Func} {S S1 : AS} {r : RV} (h : Sub S S1) (h1 : ∃ S', Sub S1 S' ∧ xG P fn S' r) : ∃ S', Sub S S' ∧ xG P fn S' r := by
  obtain ⟨S', h2, h3⟩ := h1
  exact ⟨S', h.trans h2, h3⟩
theorem clone_fn (L : List zV) (hl : L.length ≤ 1000000) : Fn Tryd.prog 36 [.sl (L.map zV.V)] (.row 46 6 (L.map zV.V).length (flat (L.map zV.V))) := by
  have hc := yU L
  refine wU Tryd.func36 rfl Tryd.ntmps36 (Nat.le_of_ble_eq_true rfl) ?_
  have q8 : (([] : List PV).length + (L.map zV.V).length) * 48 ≤ 140737488355328 ∧ ([] : List PV).length + (L.map zV.V).length ≤ maxLen := by
    simp only [List.length_nil, List.length_map, maxLen]
    omega
  cases L with
  | nil =>
    repeat' (first | refine zZ.ofT rfl (z8.eqlNil rfl rfl rfl rfl (by decide) fun b => ?_) | (refine zZ.is ?_; first | refine zZ.nil ?_ | refine zZ.vm rfl rfl rfl rfl (by decide) ?_) | (refine zY.is ?_; first | refine zY.seq ?_ | (refine zY.iq 0 ?_; refine zY.rqa _ K_5 K_w ?_; refine zZ.va rfl rfl rfl rfl (by decide) ?_; refine zZ.nil ?_) | (refine zY.iq 1 ?_; refine zY.rqa _ K_s K_w ?_) | (refine zY.iq 2 ?_; refine zY.rqa _ K_s K_w ?_; refine zZ.va rfl rfl rfl rfl (by decide) ?_; refine zZ.nil ?_) | (refine zY.iq 3 ?_; refine zY.rqa _ K_s K_w ?_; refine zZ.m rfl rfl (wC rfl rfl (by decide)) ?_; refine zZ.vm rfl rfl rfl rfl (by decide) ?_; refine zZ.w rfl (qF rfl rfl rfl rfl hc q8 rfl (by decide) rfl (by decide)) ?_; refine zZ.v rfl rfl (zN rfl rfl rfl (by decide)) ?_; refine zZ.nil ?_) | refine zY.cond rfl (fun h => ?_) (fun h => ?_) | refine zY.skip ?_ | refine zY.ret ?_) | refine zH.n ?_ | refine zH.r ?_)
    all_goals first
      | exact ⟨.inl rfl, givesRowV rfl rfl rfl⟩
      | exact ⟨.inl rfl, gives_sub (sub_adoptV (d := 2) (id := 42) (ty := 46) (sz := 6) (by decide) rfl) (givesRowV rfl rfl rfl)⟩
  | cons e r =>
    have hne : (e :: r).map zV.V ≠ [] := by simp
    have q9 : ([] ++ (e :: r).map zV.V) = (e :: r).map zV.V := rfl
    repeat' (first | (refine zY.is ?_; first | refine zY.seq ?_ | (refine zY.iq 0 ?_; refine zY.rqa _ K_5 K_w ?_; refine zZ.va rfl rfl rfl rfl (by decide) ?_; refine zZ.nil ?_) | (refine zY.iq 1 ?_; refine zY.rqa _ K_s K_w ?_; refine zZ.vm rfl rfl rfl rfl (by decide) ?_; refine zZ.v rfl rfl (by exact r_eqlNil rfl rfl rfl hne (by exact bF (by decide)) rfl (by decide)) ?_; refine zZ.nil ?_) | (refine zY.iq 3 ?_; refine zY.rqa _ K_s K_w ?_; refine zZ.m rfl rfl (wC rfl rfl (by decide)) ?_; refine zZ.vm rfl rfl rfl rfl (by decide) ?_; refine zZ.w rfl (qF rfl rfl rfl rfl hc q8 rfl (by decide) rfl (by decide)) ?_; refine zZ.v rfl rfl (zN rfl rfl rfl (by decide)) ?_; refine zZ.nil ?_) | refine zY.yF rfl (by rfl) ?_ | refine zY.skip ?_ | refine zY.ret ?_) | refine zH.n ?_)
    all_goals exact ⟨.inl rfl, givesRowV rfl rfl rfl⟩
end Go.Proofs.YtomlhekjgagjaaaDoor
namespace Go.Proofs.YtomlhekjgagjaaaDoor
set_option maxRecDepth 100000
set_option maxHeartbeats 16000000
open Go Go.RowKit
attribute [local irreducible] zZ zY Step zA Sub zL z8 Fn zH zS
def newM (l : List (Int × Int)) : ML := l.map fun p => (p.1, .val (.int .u64 p.2))
theorem mgetN : ∀ (l : List (Int × Int)) (j : Int), mget (newM l) j = (dget l j).map fun n => .val (.int .u64 n)
  | [], _ => rfl
  | x :: r, j => by
    show (if x.1 = j then some _ else mget (newM r) j) = _
    unfold dget
    split
    · rfl
    · exact mgetN r j
theorem mputN : ∀ (l : List (Int × Int)) (j n : Int), mput (newM l) j (.val (.int .u64 n)) = newM (dset l j n)
  | [], _, _ => rfl
  | x :: r, j, n => by
    show (if x.1 = j then _ :: newM r else _ :: mput (newM r) j _) = _
    unfold dset
    split
    · rfl
    · rw [mputN r j n]; rfl
def stampsF : List (Int × Int) → Nat → List zV → List (Int × Int)
  | d, _, [] => d
  | d, i, e :: r => stampsF (dset d e.s ((i + 1 : Nat) : Int)) (i + 1) r
def stampsL (L : List zV) : List (Int × Int) := stampsF [] 0 L
def newOf (d : List (Int × Int)) (j : Int) : Int := (dget d j).getD 0
def anewE (d : List (Int × Int)) (e : zV) : zV := { e with s := newOf d e.s, u := newOf d e.u, v := newOf d e.v }
def anewL (L : List zV) : List zV := L.map (anewE (stampsL L))
theorem new_look (d : List (Int × Int)) (j : Int) : mget (newM d) j = some (.val (.int .u64 (newOf d j))) ∨ (mget (newM d) j = none ∧ PV.val (.int .u64 (newOf d j)) = PV.ofV (.int .u64 0)) := by
  rw [mgetN]
  unfold newOf
  cases dget d j with
  | none => exact .inr ⟨rfl, rfl⟩
  | some n => exact .inl rfl
def an1 (L : List zV) (p : Nat × List (Int × Int)) : AS := { t := [(0, .p (.sl (L.map zV.V))), (3, .own 9), (10, .p (.sl (L.map zV.V))), (11, .p (.val (.int .i64 (L.length : Nat)))), (12, .p (.val (.int .i64 (p.1 : Nat))))], s := [(9, mapB (newM p.2))] }
def anX (d : List (Int × Int)) (L : List zV) (i : Nat) : List zV := (L.take i).map (anewE d) ++ L.drop i
def an2 (L : List zV) (d : List (Int × Int)) (i : Nat) : AS := { t := [(3, .own 9), (6, .own 25), (26, .p (.sl (L.map zV.V))), (27, .p (.val (.int .i64 (L.length : Nat)))), (28, .p (.val (.int .i64 (i : Nat))))], s := [(9, mapB (newM d)), (25, x9 46 6 ((anX d L i).map zV.V))] }
theorem anX_len (d : List (Int × Int)) (L : List zV) (i : Nat) (h : i ≤ L.length) : (anX d L i).length = L.length := by
  simp [anX]
  omega
theorem anX_at (d : List (Int × Int)) (L : List zV) (i : Nat) {e : zV} (he : L[i]? = some e) : (anX d L i)[i]? = some e ∧ anX d L (i + 1) = (anX d L i).set i (anewE d e) := by
  have hlt : i < L.length := (List.getElem?_eq_some_iff.1 he).1
  have hl : ((L.take i).map (anewE d)).length = i := by simp; omega
  have hd : L.drop i = e :: L.drop (i + 1) := by
    rw [List.drop_eq_getElem_cons hlt]
    rw [List.getElem?_eq_getElem hlt] at he
    rw [Option.some.inj he]
  unfold anX
  constructor
  · rw [List.getElem?_append_right (by omega), hl, Nat.sub_self, hd]
    rfl
  · rw [List.set_append_right _ _ (by omega), hl, Nat.sub_self, hd, List.take_add_one, he]
    simp
theorem set_V (X : List zV) (i : Nat) (e : zV) : (X.set i e).map zV.V = (X.map zV.V).set i e.V := by rw [List.map_set]
theorem put_field {X : List zV} {i k : Nat} {e e' : zV} {c : PV} (he : X[i]? = some e) (hk : k < 6) (hc : e'.V.cells = e.V.cells.set k c) (hc1 : c.cells = [c]) : splice (flat (X.map zV.V)) (((i : Nat) : Int).toNat * 6 + k) c.cells = flat ((X.set i e').map zV.V) := by
  rw [set_V, Int.toNat_natCast]
  exact flat_put (yU X) (v := e.V) (by rw [List.getElem?_map, he]; rfl) hk hc hc1
theorem flat_lt {X : List zV} {i k : Nat} (hi : i < X.length) (hk : k < 6) : ((i : Nat) : Int).toNat * 6 + k < (flat (X.map zV.V)).length := by
  rw [flat_len (yU X), Int.toNat_natCast, List.length_map]
  omega
theorem set_set {X : List zV} {i : Nat} {a b : zV} : (X.set i a).set i b = X.set i b := by rw [List.set_set]
theorem anew_fn (L : List zV) (hl : L.length ≤ 1000000) : Fn Tryd.prog 16 [.sl (L.map zV.V)] (.p (.sl ((anewL L).map zV.V))) := by
 have hc := yU L
 have hlen : (L.map zV.V).length = L.length := by rw [List.length_map]
 have cl := clone_fn L hl
 refine wU Tryd.func16 rfl Tryd.ntmps16 (Nat.le_of_ble_eq_true rfl) ?_
 repeat' (first | (refine zY.is ?_; first | refine zY.seq ?_ | (refine zY.iq 0 ?_; refine zY.rqa _ K_5 K_o ?_; refine zZ.va rfl rfl rfl rfl (by decide) ?_; refine zZ.nil ?_) | (refine zY.iq 1 ?_; refine zY.rqa _ K_s K_o ?_; refine zZ.m rfl rfl (w_makeMap rfl rfl (by decide)) ?_; refine zZ.v rfl rfl (zN rfl rfl rfl (by decide)) ?_; refine zZ.nil ?_) | (refine zY.isR (id := 2) ?_; refine zY.zK [0, 2, 3] [2, 5, 8, 9, 11, 25, 27] (by repeat' first | exact zX.nil | apply zX.p rfl | apply zX.own rfl) (by repeat' first | exact zW.nil | apply zW.some rfl | apply zW.skip) ?_; refine zZ.vm rfl rfl rfl rfl (by decide) ?_; refine zZ.v rfl rfl (yL rfl rfl rfl (by decide)) ?_; refine zZ.vm rfl rfl rfl rfl (by decide) ?_; refine zZ.nil ?_) | refine zY.block ?_) | refine zH.n ?_)
 refine zY.loop (an1 L) (fun p => p.1 ≤ L.length ∧ stampsL L = stampsF p.2 p.1 (L.drop p.1)) (fun p => L.length - p.1) (0, []) ?h0 ⟨Nat.zero_le _, rfl⟩ ?rd
 case h0 =>
  unfold an1
  rw [← hlen]
  exact zD K_32 K_33
 case rd =>
  rintro ⟨i, d⟩ ⟨hi, hx⟩
  simp only at hi hx
  have g3 : IntKind.i64.wrap (((i : Nat) : Int) + 1) = ((i + 1 : Nat) : Int) := by rw [wrap_i64 _ (by omega)]; omega
  have g4 : IntKind.u64.wrap ((i : Nat) : Int) = ((i : Nat) : Int) := wrap_u64 _ (by omega)
  have g5 : IntKind.u64.wrap (((i : Nat) : Int) + 1) = ((i + 1 : Nat) : Int) := by rw [wrap_u64 _ (by omega)]; omega
  unfold an1
  dsimp only
  by_cases hlt : i < L.length
  case pos =>
   have g1 : decide (((i : Nat) : Int) < ((L.length : Nat) : Int)) = true := decide_eq_true (by omega)
   obtain ⟨e, he⟩ : ∃ e, L[i]? = some e := ⟨_, List.getElem?_eq_getElem hlt⟩
   have g2 : (L.map zV.V)[i]? = some e.V := by rw [List.getElem?_map, he]; rfl
   have hdrop : L.drop i = e :: L.drop (i + 1) := by
    rw [List.drop_eq_getElem_cons hlt]
    rw [List.getElem?_eq_getElem hlt] at he
    rw [Option.some.inj he]
   rw [hdrop] at hx
   have hx : stampsL L = stampsF (dset d e.s ((i + 1 : Nat) : Int)) (i + 1) (L.drop (i + 1)) := hx
   have hm := mputN d e.s ((i + 1 : Nat) : Int)
   clear hdrop he
   obtain ⟨ek, es, ey, eu, ev, ex⟩ := e
   repeat' (first | (refine zY.is ?_; first | refine zY.seq ?_ | (refine zY.iq 3 ?_; refine zY.rqb _ K_1v K_o ?_; refine zZ.v rfl rfl (yZ rfl rfl rfl g1 rfl (by decide)) ?_; refine zZ.nil ?_) | (refine zY.iq 4 ?_; refine zY.rqb _ K_1v K_o ?_; refine zZ.vm rfl rfl rfl rfl (by decide) ?_; refine zZ.v rfl rfl (yY rfl rfl rfl hc g2 rfl (by decide)) ?_; refine zZ.v rfl rfl (by exact vW rfl rfl (by exact Nat.le_of_ble_eq_true rfl) rfl (by decide)) ?_; refine zZ.m rfl rfl (xW rfl (by decide) rfl (by decide)) ?_; refine zZ.va rfl rfl rfl rfl (by decide) ?_; refine zZ.w rfl (by exact yB rfl rfl rfl rfl rfl (by rfl) (by exact Nat.le_of_ble_eq_true rfl) rfl rfl) ?_; refine zZ.nil ?_) | (refine zY.iq 5 ?_; refine zY.rqe _ K_1v K_o ?_; refine zZ.v rfl rfl (yJ rfl rfl rfl (by decide)) ?_; refine zZ.v rfl rfl (zJ rfl rfl rfl (by decide)) ?_; refine zZ.v rfl rfl (zB rfl rfl rfl (by rfl) rfl (by decide)) ?_; refine zZ.vm rfl rfl rfl rfl (by decide) ?_; refine zZ.v rfl rfl (xZ rfl rfl g4 rfl (by decide)) ?_; refine zZ.v rfl rfl (yX rfl rfl rfl g5 rfl (by decide)) ?_; refine zZ.w rfl (qK rfl rfl rfl rfl rfl (by rfl) rfl) ?_; refine zZ.nil ?_) | (refine zY.iq 6 ?_; refine zY.rqe _ K_1v K_o ?_; refine zZ.v rfl rfl (yX rfl rfl rfl g3 rfl (by decide)) ?_; refine zZ.vm rfl rfl rfl rfl (by decide) ?_; refine zZ.nil ?_) | refine zY.yC rfl (by first | assumption | with_reducible rfl) ?_ | refine zY.skip ?_ | refine zY.block ?_) | refine zH.n ?_ | refine zS.n ?_)
   all_goals
    refine ⟨(i + 1, dset d es ((i + 1 : Nat) : Int)), ?_, ⟨hlt, hx⟩, by show L.length - (i + 1) < L.length - i; omega⟩
    dsimp only
    rw [← hm]
    exact zD K_32 K_33
  case neg =>
   have hie : i = L.length := by omega
   subst hie
   have g1 : decide (((L.length : Nat) : Int) < ((L.length : Nat) : Int)) = false := decide_eq_false (by omega)
   rw [List.drop_length] at hx
   have hx : stampsL L = d := hx
   have hA : anewL L = L.map (anewE d) := by unfold anewL; rw [hx]
   rw [hA]
   clear hx hA g3 g4 g5 hi hlt
   repeat' (first | (refine zY.is ?_; first | refine zY.seq ?_ | (refine zY.iq 3 ?_; refine zY.rqb _ K_1v K_o ?_; refine zZ.v rfl rfl (yZ rfl rfl rfl g1 rfl (by decide)) ?_; refine zZ.nil ?_) | (refine zY.iq 7 ?_; refine zY.rqb _ K_7 K_o ?_; refine zZ.vm rfl rfl rfl rfl (by decide) ?_; refine zZ.m rfl rfl (w_callRowV cl rfl rfl rfl (by decide)) ?_; refine zZ.v rfl rfl (zN rfl rfl rfl (by decide)) ?_; refine zZ.nil ?_) | (refine zY.iq 8 ?_; refine zY.rqb _ K_2s K_o ?_; refine zZ.vm rfl rfl rfl rfl (by decide) ?_; refine zZ.v rfl rfl (yL rfl rfl rfl (by decide)) ?_; refine zZ.vm rfl rfl rfl rfl (by decide) ?_; refine zZ.nil ?_) | refine zY.yF rfl (by first | assumption | with_reducible rfl) ?_ | refine zY.block ?_ | refine zY.exit ?_) | refine zH.n ?_ | refine zS.eY ?_ | refine zH.e ?_)
   refine zY.loop (an2 L d) (fun i => i ≤ L.length) (fun i => L.length - i) 0 ?q0 (Nat.zero_le _) ?qr
   case q0 =>
    unfold an2 anX
    rw [← hlen, List.take_zero, List.map_nil, List.nil_append, List.drop_zero]
    exact zD K_34 K_35
   case qr =>
    intro i hi
    have g3 : IntKind.i64.wrap (((i : Nat) : Int) + 1) = ((i + 1 : Nat) : Int) := by rw [wrap_i64 _ (by omega)]; omega
    unfold an2
    by_cases hlt : i < L.length
    case pos =>
     have g1 : decide (((i : Nat) : Int) < ((L.length : Nat) : Int)) = true := decide_eq_true (by omega)
     obtain ⟨e, he⟩ : ∃ e, L[i]? = some e := ⟨_, List.getElem?_eq_getElem hlt⟩
     have g2 : (L.map zV.V)[i]? = some e.V := by rw [List.getElem?_map, he]; rfl
     obtain ⟨h1, h2⟩ := anX_at d L i he
     have hXl := anX_len d L i hi
     generalize anX d L i = X at *
     clear he hc hlen cl
     obtain ⟨ek, es, ey, eu, ev, ex⟩ := e
     have l1 := new_look d es
     have l2 := new_look d eu
     have l3 := new_look d ev
     have hae : anewE d ⟨ek, es, ey, eu, ev, ex⟩ = ⟨ek, newOf d es, ey, newOf d eu, newOf d ev, ex⟩ := rfl
     rw [hae] at h2
     clear hae
     generalize newOf d es = ns at *
     generalize newOf d eu = nu at *
     generalize newOf d ev = nv at *
     have hXi : i < X.length := by omega
     have i1 : (0 : Int) ≤ ((i : Nat) : Int) ∧ ((i : Nat) : Int) < (((X.map zV.V).length : Nat) : Int) := by rw [List.length_map]; omega
     have k1 := put_field (k := 1) (e' := ⟨ek, ns, ey, eu, ev, ex⟩) (c := .val (.int .u64 ns)) h1 (by decide) rfl rfl
     have t1 := flat_lt hXi (k := 1) (by decide)
     have z1 : ((X.set i ⟨ek, ns, ey, eu, ev, ex⟩).map zV.V).length = (X.map zV.V).length := by simp
     have h3 : (X.set i ⟨ek, ns, ey, eu, ev, ex⟩)[i]? = some ⟨ek, ns, ey, eu, ev, ex⟩ := by simp [hXi]
     have i2 : (0 : Int) ≤ ((i : Nat) : Int) ∧ ((i : Nat) : Int) < ((((X.set i ⟨ek, ns, ey, eu, ev, ex⟩).map zV.V).length : Nat) : Int) := by rw [z1]; exact i1
     have k2 := put_field (k := 3) (e' := ⟨ek, ns, ey, nu, ev, ex⟩) (c := .val (.int .u64 nu)) h3 (by decide) rfl rfl
     have t2 := flat_lt (X := X.set i ⟨ek, ns, ey, eu, ev, ex⟩) (i := i) (k := 3) (by simpa using hXi) (by decide)
     rw [set_set] at k2
     have z2 : ((X.set i ⟨ek, ns, ey, nu, ev, ex⟩).map zV.V).length = ((X.set i ⟨ek, ns, ey, eu, ev, ex⟩).map zV.V).length := by simp
     have h4 : (X.set i ⟨ek, ns, ey, nu, ev, ex⟩)[i]? = some ⟨ek, ns, ey, nu, ev, ex⟩ := by simp [hXi]
     have i3 : (0 : Int) ≤ ((i : Nat) : Int) ∧ ((i : Nat) : Int) < ((((X.set i ⟨ek, ns, ey, nu, ev, ex⟩).map zV.V).length : Nat) : Int) := by rw [z2]; exact i2
     have k3 := put_field (k := 4) (e' := ⟨ek, ns, ey, nu, nv, ex⟩) (c := .val (.int .u64 nv)) h4 (by decide) rfl rfl
     have t3 := flat_lt (X := X.set i ⟨ek, ns, ey, nu, ev, ex⟩) (i := i) (k := 4) (by simpa using hXi) (by decide)
     rw [set_set] at k3
     have z3 : ((X.set i ⟨ek, ns, ey, nu, nv, ex⟩).map zV.V).length = ((X.set i ⟨ek, ns, ey, nu, ev, ex⟩).map zV.V).length := by simp
     have hcL := yU L
     repeat' (first | (refine zY.is ?_; first | refine zY.seq ?_ | (refine zY.iq 9 ?_; refine zY.rqb _ K_1w K_o ?_; refine zZ.v rfl rfl (yZ rfl rfl rfl g1 rfl (by decide)) ?_; refine zZ.nil ?_) | (refine zY.iq 10 ?_; refine zY.rqb _ K_1w K_o ?_; refine zZ.vm rfl rfl rfl rfl (by decide) ?_; refine zZ.v rfl rfl (yY rfl rfl rfl hcL g2 rfl (by decide)) ?_; refine zZ.v rfl rfl (by exact vW rfl rfl (by exact Nat.le_of_ble_eq_true rfl) rfl (by decide)) ?_; refine zZ.m rfl rfl (xW rfl (by decide) rfl (by decide)) ?_; refine zZ.va rfl rfl rfl rfl (by decide) ?_; refine zZ.w rfl (by exact yB rfl rfl rfl rfl rfl (by rfl) (by exact Nat.le_of_ble_eq_true rfl) rfl rfl) ?_; refine zZ.nil ?_) | (refine zY.iq 11 ?_; refine zY.rqe _ K_1w K_o ?_; refine zZ.v rfl rfl (yJ rfl rfl rfl (by decide)) ?_; refine zZ.vm rfl rfl rfl rfl (by decide) ?_; refine zZ.v rfl rfl (yJ rfl rfl rfl (by decide)) ?_; refine zZ.vm rfl rfl rfl rfl (by decide) ?_; refine zZ.v rfl rfl (yJ rfl rfl rfl (by decide)) ?_; refine zZ.vm rfl rfl rfl rfl (by decide) ?_; refine zZ.v rfl rfl (yJ rfl rfl rfl (by decide)) ?_; refine zZ.v rfl rfl (zJ rfl rfl rfl (by decide)) ?_; refine zZ.v rfl rfl (zB rfl rfl rfl (by rfl) rfl (by decide)) ?_; refine zZ.v rfl rfl (by exact w_lookZ rfl rfl rfl (by exact fun _ _ h => h) rfl l1 rfl rfl rfl (by decide)) ?_; refine zZ.v rfl rfl (yJ rfl rfl rfl (by decide)) ?_; refine zZ.v rfl rfl (zJ rfl rfl rfl (by decide)) ?_; refine zZ.v rfl rfl (zB rfl rfl rfl (by rfl) rfl (by decide)) ?_; refine zZ.v rfl rfl (by exact w_lookZ rfl rfl rfl (by exact fun _ _ h => h) rfl l2 rfl rfl rfl (by decide)) ?_; refine zZ.v rfl rfl (yJ rfl rfl rfl (by decide)) ?_; refine zZ.v rfl rfl (zJ rfl rfl rfl (by decide)) ?_; refine zZ.v rfl rfl (zB rfl rfl rfl (by rfl) rfl (by decide)) ?_; refine zZ.v rfl rfl (by exact w_lookZ rfl rfl rfl (by exact fun _ _ h => h) rfl l3 rfl rfl rfl (by decide)) ?_; refine zZ.v rfl rfl (qO rfl rfl rfl rfl i1 rfl (by decide)) ?_; refine zZ.v rfl rfl (zJ rfl rfl rfl (by decide)) ?_; refine zZ.w rfl (w_storeVF rfl rfl rfl rfl rfl rfl t1 k1 z1 rfl) ?_; refine zZ.v rfl rfl (qO rfl rfl rfl rfl i2 rfl (by decide)) ?_; refine zZ.v rfl rfl (zJ rfl rfl rfl (by decide)) ?_; refine zZ.w rfl (w_storeVF rfl rfl rfl rfl rfl rfl t2 k2 z2 rfl) ?_; refine zZ.v rfl rfl (qO rfl rfl rfl rfl i3 rfl (by decide)) ?_; refine zZ.v rfl rfl (zJ rfl rfl rfl (by decide)) ?_; refine zZ.w rfl (w_storeVF rfl rfl rfl rfl rfl rfl t3 k3 z3 rfl) ?_; refine zZ.nil ?_) | (refine zY.iq 12 ?_; refine zY.rqe _ K_1w K_o ?_; refine zZ.v rfl rfl (yX rfl rfl rfl g3 rfl (by decide)) ?_; refine zZ.vm rfl rfl rfl rfl (by decide) ?_; refine zZ.nil ?_) | refine zY.yC rfl (by first | assumption | with_reducible rfl) ?_ | refine zY.skip ?_ | refine zY.block ?_) | refine zH.n ?_ | refine zS.n ?_)
     all_goals
      refine ⟨i + 1, ?_, hlt, by omega⟩
      rw [h2]
      exact zD K_34 K_35
    case neg =>
     have hie : i = L.length := by omega
     subst hie
     have g1 : decide (((L.length : Nat) : Int) < ((L.length : Nat) : Int)) = false := decide_eq_false (by omega)
     have hX : anX d L L.length = L.map (anewE d) := by simp [anX]
     rw [hX]
     repeat' (first | (refine zY.is ?_; first | refine zY.seq ?_ | (refine zY.iq 9 ?_; refine zY.rqb _ K_1w K_3t ?_; refine zZ.v rfl rfl (yZ rfl rfl rfl g1 rfl (by decide)) ?_; refine zZ.nil ?_) | (refine zY.isR (id := 13) ?_; refine zY.zK [2, 6] [2, 5, 8, 11, 25, 27] (by repeat' first | exact zX.nil | apply zX.own rfl | apply zX.skip) (by repeat' first | exact zW.nil | apply zW.some rfl | apply zW.skip) ?_; refine zZ.v rfl rfl (yJ rfl rfl rfl (by decide)) ?_; refine zZ.v rfl rfl (zN rfl rfl rfl (by decide)) ?_; refine zZ.nil ?_) | refine zY.yF rfl (by first | assumption | with_reducible rfl) ?_ | refine zY.exit ?_ | refine zY.ret ?_) | refine zH.n ?_ | refine zS.eY ?_ | refine zH.e ?_)
     all_goals exact ⟨.inl rfl, _, wS 25 46 6 _ rfl, xG.p rfl (.tmp rfl)⟩
end Go.Proofs.YtomlhekjgagjaaaDoor
namespace Go.Proofs.YtomlhekjgagjaaaDoor
set_option maxRecDepth 100000
set_option maxHeartbeats 16000000
open Go Go.RowKit
variable {P : Program} {n : Nat} {o : Oper} {S : AS} {d : Nat} {t : TypeId} {x y : Operand}
theorem w_capN {t' : Nat} [ht : Und P t (.slice t')] (ho : o.op = .call { callee := .builtin .cap, args := #[x], argTypes := #[t] }) (hx : S.get x = .p (.val (.slice none 0 0))) (hd : o.dst = some d) (hn : d < n) : zA P n o S [] (.p (.val (.int .i64 0))) none :=
  zA.pure hd hn fun S2 hg _ M w0 ρ a w hs => by
    have r1 := hs.val ((hg x (by rw [ho]; simp [Op.operands, Call.operands])).trans hx)
    refine ⟨.int .i64 0, w, ?_, Below.refl _ _, .p (.val _)⟩
    unfold execOp
    simp only [ho, resolve, invoke, builtin, Sem.run_bind, Sem.run_pure, Result.andThen_ok, List.map_toArray, List.map_cons, List.map_nil, r1]
    simp [Builtin.cap_, run_underlying ht.h]
    rfl
theorem w_headN {e sz : Nat} {k2 : IntKind} {agg : Bool} {xh : Operand} [ht : Und P t (.slice e)] [he : TyA P e agg sz] (ho : o.op = .slice t x none (some xh) none) (hx : S.get x = .p (.val (.slice none 0 0)))
    (hh : S.get xh = .p (.val (.int k2 0))) (hd : o.dst = some d) (hn : d < n) : zA P n o S [] (.p (.val (.slice none 0 0))) none :=
  zA.pure hd hn fun S2 hg _ M w0 ρ a w hs => by
    have r1 := hs.val ((hg x (by rw [ho]; simp [Op.operands])).trans hx)
    have r3 := hs.val ((hg xh (by rw [ho]; simp [Op.operands])).trans hh)
    have hel : P.elem t = e := by simp [Program.elem, ht.h]
    have ht2 : P.underlying t = some (.slice (P.elem t)) := by rw [hel]; exact ht.h
    refine ⟨.slice none 0 0, w, ?_, Below.refl _ _, .p (.val _)⟩
    unfold execOp
    rw [ho]
    simp only [Option.map_some, Option.map_none, r1, r3, Sem.run_bind, run_sliceAt_slice w t _ _ _ _ ht2, run_slice_h w t none 0 0 ht2 k2 0 (by omega) (by omega)]
    rw [hel, he.sz w]
    rfl
theorem run_append_zerosN (w : World) (t ti ty e : TypeId) (i : TypeInfo) (z : Value) (ht : P.underlying t = some (.slice e)) (hti : P.underlying ti = some (.int .i64))
    (hi : P.info? e = some i) (hz : i.zero = some z) (hs : 0 < i.size) (n : Nat)
    (hg : 0 < n) (h63 : (n : Int) ≤ 9223372036854775807) (hb : (n : Int) * i.bytes ≤ 281474976710656) :
    (Builtin.append_ #[t, ti] ty #[.slice none 0 0, .int .i64 n]).run P w =
      .ok (.slice (some ⟨w.heap.size, 0, none⟩) n (grownCap w n 0 e))
        (w.drew.alloc (.cells (Builtin.zeroCells z.cells n ++ Builtin.zeroCells z.cells (grownCap w n 0 e - n)) e)) := by
  have hn : ¬ (n ≤ 0) := by omega
  have hn0 : n ≠ 0 := by omega
  have h63' : ¬ (9223372036854775807 < (n : Int)) := by omega
  have hw : IntKind.i64.wrap (n : Int) = (n : Int) := by rw [IntKind.wrap_i64]; omega
  have hneg : ¬ ((n : Int) < 0) := by omega
  have hb' : ¬ (281474976710656 < (n : Int) * i.bytes) := by omega
  have hcap : Builtin.nextslicecap n 0 = n := by unfold Builtin.nextslicecap; rw [if_pos (by omega)]
  have h48' : ¬ (281474976710656 < n * i.bytes) := by
    intro h
    apply hb'
    have h2 := Int.ofNat_lt.2 h
    rw [Int.natCast_mul] at h2
    exact h2
  have hns : ¬ (n * i.size = 0) := by
    intro h
    rcases Nat.mul_eq_zero.1 h with h | h <;> omega
  have hns' : ¬ (n = 0 ∨ i.size = 0) := by omega
  have hfo := run_firstCells_none (P := P) w.drew
  simp [Builtin.append_, run_underlying ht, run_underlying hti, sizeOf, typeInfo, zeroValue, hi, hz, asInt, asIntOf, hn, hw, hn0, hneg, hb', h63', hcap, h48', hns', Question.forced, newRow, grownCap]
  rw [hfo]
  simp only [Result.andThen_ok, if_neg hns]
  simp
theorem w_appZ {ti e sz by_ m : Nat} {z : Value} {zp : PV} [ht : Und P t (.slice e)] [hti : Und P ti (.int .i64)] [hi : InfoA P e z sz by_] (ho : o.op = .call { callee := .builtin .append, args := #[x, y], argTypes := #[t, ti] })
    (hx : S.get x = .p (.val (.slice none 0 0))) (hy : S.get y = .p (.val (.int .i64 (m : Nat)))) (hlim : 0 < m ∧ m * by_ ≤ 140737488355328 ∧ m ≤ maxLen) (hzs : z.cells.size = sz) (hsz : 0 < sz)
    (hzp : zp.cells = z.cells.toList.map PV.val) (h1 : z.cells.toList.all (fun u => u.oneCell') = true) (hd : o.dst = some d) (hn : d < n) : zA P n o S [] (.own d) (some (x9 e sz (List.replicate m zp))) :=
  zA.made hd hn fun S2 hg _ M w0 ρ a w hs => by
    have r1 := hs.val ((hg x (by rw [ho]; simp [Op.operands, Call.operands])).trans hx)
    have r2 := hs.val ((hg y (by rw [ho]; simp [Op.operands, Call.operands])).trans hy)
    obtain ⟨i, hi1, hi2⟩ := Option.map_eq_some_iff.1 hi.h
    simp only [Prod.mk.injEq] at hi2
    obtain ⟨hz, hisz, hiby⟩ := hi2
    have hmx := hlim.2.2
    have hby : (m : Int) * i.bytes ≤ 281474976710656 := by
      rw [hiby]
      have := hlim.2.1
      have h2 := Int.ofNat_le.2 this
      rw [Int.natCast_mul] at h2
      exact Int.le_trans h2 (by decide)
    have hr := run_append_zerosN (P := P) w t ti o.type e i z ht.h hti.h hi1 hz (by omega) m hlim.1 (by simp only [maxLen] at hmx; omega) hby
    have hge := grownCap_ge w m 0 e
    have hzl : z.cells.toList.length = sz := by rw [Array.length_toList]; exact hzs
    have hzat : ∀ (k j : Nat), j < k * sz → (Builtin.zeroCells z.cells k).toList[j]? = z.cells.toList[j % sz]? := fun k j hj => by
      have hjs : j % sz < z.cells.size := by rw [hzs]; exact Nat.mod_lt _ hsz
      simp only [Builtin.zeroCells, Array.toList_map, Array.toList_range, List.getElem?_map, hzs, List.getElem?_range hj, Option.map_some, Array.getElem?_toList]
      rw [getElem!_pos z.cells _ hjs, Array.getElem?_eq_getElem hjs]
    have hzn : ∀ k, (Builtin.zeroCells z.cells k).toList.length = k * sz := fun k => by
      simp [Builtin.zeroCells, hzs]
    have hfl : flat (List.replicate m zp) = (Builtin.zeroCells z.cells m).toList.map PV.val := by
      apply List.ext_getElem?
      intro j
      by_cases hj : j < m * sz
      · rw [flat_rep (sz := sz) (by rw [hzp, List.length_map, hzl]) hsz hj, hzp, List.getElem?_map, List.getElem?_map, hzat m j hj]
      · rw [List.getElem?_eq_none (l := (Builtin.zeroCells z.cells m).toList.map PV.val) (by rw [List.length_map, hzn]; omega), List.getElem?_eq_none]
        rw [flat_len (sz := sz) (fun e he => by rw [List.eq_of_mem_replicate he, hzp, List.length_map, hzl]), List.length_replicate]
        omega
    refine ⟨.slice (some ⟨w.heap.size, 0, none⟩) m (grownCap w m 0 e), w.drew.alloc (.cells (Builtin.zeroCells z.cells m ++ Builtin.zeroCells z.cells (grownCap w m 0 e - m)) e), ?_, ?_, fun k hk => ?_, ?_, .inl rfl⟩
    · unfold execOp
      simp only [ho, resolve, invoke, builtin, Sem.run_bind, Sem.run_pure, Result.andThen_ok, List.map_toArray, List.map_cons, List.map_nil, r1, r2, hr]
    · exact (show w.grownBy w.drew none from ⟨rfl, rfl, rfl, Nat.le_refl _, fun _ _ _ => rfl⟩).trans (World.grownBy_alloc _ _ none)
    · simp only [zT, Option.some.injEq] at hk; omega
    · refine ⟨(Builtin.zeroCells z.cells m).toList, ?_, ⟨by rw [hfl, List.length_map, List.length_map], fun j c v h2 h3 => ?_, fun v hv => ?_⟩⟩
      · rw [List.length_replicate]
        refine ⟨hzn m, .inr ⟨w.heap.size, grownCap w m 0 e, _, rfl, Nat.zero_le _, heap_alloc_new w.drew _, hge, grownCap_le_maxLen w m 0 e hmx, ?_, ?_⟩⟩
        · rw [Array.size_append, ← Array.length_toList, ← Array.length_toList, hzn, hzn, ← Nat.add_mul]
          congr 1
          omega
        · rw [Array.toList_append, List.take_left' (hzn m)]
      · rw [hfl, List.map_map, List.getElem?_map, h3] at h2
        cases h2
        exact .p (.val _)
      · obtain ⟨j, hj⟩ := List.getElem?_of_mem hv
        have hjl : j < m * sz := by
          have := (List.getElem?_eq_some_iff.1 hj).1
          rw [hzn] at this
          exact this
        rw [hzat m j hjl] at hj
        exact List.all_eq_true.1 h1 v (List.mem_of_getElem? hj)
theorem w_appZN {ti e sz by_ m : Nat} {z : Value} [ht : Und P t (.slice e)] [hti : Und P ti (.int .i64)] [hi : InfoA P e z sz by_] (ho : o.op = .call { callee := .builtin .append, args := #[x, y], argTypes := #[t, ti] })
    (hx : S.get x = .p (.val (.slice none 0 0))) (hy : S.get y = .p (.val (.int .i64 (m : Nat)))) (hlim : 0 < m ∧ m * by_ ≤ 140737488355328 ∧ m ≤ maxLen) (hzs : z.cells.size = sz) (hsz : 0 < sz)
    (h1 : z.cells.toList.all (fun u => u.oneCell') = true) (hd : o.dst = some d) (hn : d < n) : zA P n o S [] (.own d) (some (x9 e sz (List.replicate m (.agg (z.cells.toList.map PV.val))))) :=
  w_appZ ho hx hy hlim hzs hsz (zp := .agg (z.cells.toList.map PV.val)) rfl h1 hd hn
end Go.Proofs.YtomlhekjgagjaaaDoor
namespace Go.Proofs.YtomlhekjgagjaaaDoor
set_option maxRecDepth 100000
set_option maxHeartbeats 16000000
open Go Go.RowKit
attribute [local irreducible] zZ zY Step zA Sub zL z8 Fn zH zS
theorem growE_fn (m : Nat) (h0 : 0 < m) (hm : m ≤ 2000001) : Fn Tryd.prog 57 [.val (.slice none 0 0), .val (.int .i64 (m : Nat))] (.row 46 6 ([] : List PV).length (flat [])) := by
 refine wU Tryd.func57 rfl Tryd.ntmps57 (Nat.le_of_ble_eq_true rfl) ?_
 have c1 : decide (((m : Nat) : Int) < 0) = false := decide_eq_false (by omega)
 have c2 : IntKind.i64.wrap (((m : Nat) : Int) - 0) = ((m : Nat) : Int) := by rw [wrap_i64 _ (by omega)]; omega
 have c3 : decide (((m : Nat) : Int) > 0) = true := decide_eq_true (by omega)
 have c4 : 0 < m ∧ m * 48 ≤ 140737488355328 ∧ m ≤ maxLen := ⟨h0, by omega, by simp only [maxLen]; omega⟩
 have c5 : (0 : Int) = ((0 : Nat) : Int) := rfl
 have c6 : ∀ e ∈ List.replicate m (PV.agg [.val (.int .i64 0), .val (.int .u64 0), .val (.int .u64 0), .val (.int .u64 0), .val (.int .u64 0), .val (.int .u64 0)]), e.cells.length = 6 := fun e he => by
  rw [List.eq_of_mem_replicate he]; rfl
 have c7 : 0 ≤ (List.replicate m (PV.agg [.val (.int .i64 0), .val (.int .u64 0), .val (.int .u64 0), .val (.int .u64 0), .val (.int .u64 0), .val (.int .u64 0)])).length := Nat.zero_le _
 repeat' (first | (refine zY.is ?_; first | refine zY.seq ?_ | (refine zY.iq 0 ?_; refine zY.rqa _ K_h K_1x ?_; refine zZ.va rfl rfl rfl rfl (by decide) ?_; refine zZ.nil ?_) | (refine zY.iq 1 ?_; refine zY.rqa _ K_27 K_1x ?_; refine zZ.vm rfl rfl rfl rfl (by decide) ?_; refine zZ.v rfl rfl (yZ rfl rfl rfl c1 rfl (by decide)) ?_; refine zZ.nil ?_) | (refine zY.iq 3 ?_; refine zY.rqa _ K_27 K_1x ?_; refine zZ.vm rfl rfl rfl rfl (by decide) ?_; refine zZ.vm rfl rfl rfl rfl (by decide) ?_; refine zZ.v rfl rfl (w_capN rfl rfl rfl (by decide)) ?_; refine zZ.vm rfl rfl rfl rfl (by decide) ?_; refine zZ.v rfl rfl (w_lenN rfl rfl rfl (by decide)) ?_; refine zZ.v rfl rfl (w9 rfl rfl rfl c5 rfl (by decide)) ?_; refine zZ.v rfl rfl (w9 rfl rfl rfl c2 rfl (by decide)) ?_; refine zZ.va rfl rfl rfl rfl (by decide) ?_; refine zZ.nil ?_) | (refine zY.iq 4 ?_; refine zY.rqa _ K_27 K_1x ?_; refine zZ.vm rfl rfl rfl rfl (by decide) ?_; refine zZ.v rfl rfl (qL rfl rfl rfl c3 rfl (by decide)) ?_; refine zZ.nil ?_) | (refine zY.iq 5 ?_; refine zY.rqa _ K_27 K_1x ?_; refine zZ.vm rfl rfl rfl rfl (by decide) ?_; refine zZ.vm rfl rfl rfl rfl (by decide) ?_; refine zZ.v rfl rfl (w_capN rfl rfl rfl (by decide)) ?_; refine zZ.v rfl rfl (w_headN rfl rfl rfl rfl (by decide)) ?_; refine zZ.vm rfl rfl rfl rfl (by decide) ?_; refine zZ.m rfl rfl (w_appZN rfl rfl rfl c4 rfl (by decide) rfl rfl (by decide)) ?_; refine zZ.vm rfl rfl rfl rfl (by decide) ?_; refine zZ.v rfl rfl (w_lenN rfl rfl rfl (by decide)) ?_; refine zZ.w rfl (s_headV rfl rfl rfl c6 rfl c5 c7 rfl (by decide)) ?_; refine zZ.v rfl rfl (zN rfl rfl rfl (by decide)) ?_; refine zZ.nil ?_) | (refine zY.isR (id := 6) ?_; refine zY.zK [0, 4] [4, 22] (by repeat' first | exact zX.nil | apply zX.p rfl | apply zX.own rfl) (by repeat' first | exact zW.nil | apply zW.some rfl | apply zW.skip) ?_; refine zZ.v rfl rfl (yJ rfl rfl rfl (by decide)) ?_; refine zZ.v rfl rfl (zN rfl rfl rfl (by decide)) ?_; refine zZ.nil ?_) | refine zY.yC rfl (by first | assumption | with_reducible rfl) ?_ | refine zY.yF rfl (by assumption) ?_ | refine zY.skip ?_ | refine zY.ret ?_) | refine zH.n ?_)
 all_goals exact ⟨.inl rfl, givesRowV rfl rfl rfl⟩
def coS (A B : List zV) (q n : Nat) : AS := { t := [(0, .p (.sl [.sl (A.map zV.V), .sl (B.map zV.V)])), (3, .p (.val (.int .i64 (n : Nat)))), (9, .p (.sl [.sl (A.map zV.V), .sl (B.map zV.V)])), (10, .p (.val (.int .i64 2))), (11, .p (.val (.int .i64 (q : Nat))))], s := [] }
def coT (A B : List zV) (q : Nat) (X : List zV) : AS := { t := [(6, .own 24), (25, .p (.sl [.sl (A.map zV.V), .sl (B.map zV.V)])), (26, .p (.val (.int .i64 2))), (27, .p (.val (.int .i64 (q : Nat))))], s := [(24, x9 46 6 (X.map zV.V))] }
theorem concatE_fn (A B : List zV) (hA : 0 < A.length) (hA2 : A.length ≤ 1000000) (hB : B.length ≤ 1000000) : Fn Tryd.prog 37 [.sl [.sl (A.map zV.V), .sl (B.map zV.V)]] (.p (.sl ((A ++ B).map zV.V))) := by
 have hlA : (A.map zV.V).length = A.length := by rw [List.length_map]
 have hlB : (B.map zV.V).length = B.length := by rw [List.length_map]
 have hcA := yU A
 have hcB := yU B
 have hc : ∀ e ∈ [PV.sl (A.map zV.V), .sl (B.map zV.V)], e.cells.length = 1 := fun e he => by
  simp only [List.mem_cons, List.not_mem_nil, or_false] at he
  rcases he with rfl | rfl <;> rfl
 have gr := growE_fn (A.length + B.length) (by omega) (by omega)
 refine wU Tryd.func37 rfl Tryd.ntmps37 (Nat.le_of_ble_eq_true rfl) ?_
 repeat' (first | (refine zY.is ?_; first | refine zY.seq ?_ | (refine zY.iq 0 ?_; refine zY.rqa _ K_5 K_a ?_; refine zZ.va rfl rfl rfl rfl (by decide) ?_; refine zZ.nil ?_) | (refine zY.iq 1 ?_; refine zY.rqa _ K_s K_a ?_; refine zZ.va rfl rfl rfl rfl (by decide) ?_; refine zZ.nil ?_) | (refine zY.iq 2 ?_; refine zY.rqa _ K_7 K_a ?_; refine zZ.vm rfl rfl rfl rfl (by decide) ?_; refine zZ.v rfl rfl (yL rfl rfl rfl (by decide)) ?_; refine zZ.vm rfl rfl rfl rfl (by decide) ?_; refine zZ.nil ?_) | refine zY.block ?_) | refine zH.n ?_)
 refine zY.loop (fun p : Nat × Nat => coS A B p.1 p.2) (fun p => p = (0, 0) ∨ p = (1, A.length) ∨ p = (2, A.length + B.length)) (fun p => 2 - p.1) (0, 0) ?h0 (.inl rfl) ?rd
 case h0 =>
  unfold coS
  exact zD K_2i []
 case rd =>
  rintro p (rfl | rfl | rfl)
  ·have g1 : decide (((0 : Nat) : Int) < 2) = true := rfl
   have g2 : [PV.sl (A.map zV.V), .sl (B.map zV.V)][0]? = some (.sl (A.map zV.V)) := rfl
   have g3 : IntKind.i64.wrap (((0 : Nat) : Int) + (((A.map zV.V).length : Nat) : Int)) = ((A.length : Nat) : Int) := by rw [hlA, wrap_i64 _ (by omega)]; omega
   have g4 : decide (((A.length : Nat) : Int) < 0) = false := decide_eq_false (by omega)
   have g5 : IntKind.i64.wrap (((0 : Nat) : Int) + 1) = ((1 : Nat) : Int) := rfl
   unfold coS
   repeat' (first | (refine zY.is ?_; first | refine zY.seq ?_ | (refine zY.iq 3 ?_; refine zY.rqg _ K_z K_a ?_; refine zZ.v rfl rfl (yZ rfl rfl rfl g1 rfl (by decide)) ?_; refine zZ.nil ?_) | (refine zY.iq 4 ?_; refine zY.rqg _ K_z K_a ?_; refine zZ.v rfl rfl (yY rfl rfl rfl hc g2 rfl (by decide)) ?_; refine zZ.v rfl rfl (zP rfl rfl rfl rfl (by decide)) ?_; refine zZ.va rfl rfl rfl rfl (by decide) ?_; refine zZ.nil ?_) | (refine zY.iq 5 ?_; refine zY.rqg _ K_z K_a ?_; refine zZ.vm rfl rfl rfl rfl (by decide) ?_; refine zZ.vm rfl rfl rfl rfl (by decide) ?_; refine zZ.v rfl rfl (yL rfl rfl rfl (by decide)) ?_; refine zZ.v rfl rfl (yX rfl rfl rfl g3 rfl (by decide)) ?_; refine zZ.va rfl rfl rfl rfl (by decide) ?_; refine zZ.nil ?_) | (refine zY.iq 6 ?_; refine zY.rqg _ K_z K_a ?_; refine zZ.vm rfl rfl rfl rfl (by decide) ?_; refine zZ.v rfl rfl (yZ rfl rfl rfl g4 rfl (by decide)) ?_; refine zZ.nil ?_) | (refine zY.iq 8 ?_; refine zY.rqg _ K_z K_a ?_; refine zZ.v rfl rfl (yX rfl rfl rfl g5 rfl (by decide)) ?_; refine zZ.vm rfl rfl rfl rfl (by decide) ?_; refine zZ.nil ?_) | refine zY.yC rfl (by assumption) ?_ | refine zY.yF rfl (by assumption) ?_ | refine zY.skip ?_ | refine zY.block ?_) | refine zH.n ?_ | refine zS.n ?_)
   all_goals
    refine ⟨(1, A.length), ?_, .inr (.inl rfl), by simp⟩
    try unfold coS
    exact zD K_2i []
  ·have g1 : decide (((1 : Nat) : Int) < 2) = true := rfl
   have g2 : [PV.sl (A.map zV.V), .sl (B.map zV.V)][1]? = some (.sl (B.map zV.V)) := rfl
   have g3 : IntKind.i64.wrap (((A.length : Nat) : Int) + (((B.map zV.V).length : Nat) : Int)) = ((A.length + B.length : Nat) : Int) := by rw [hlB, wrap_i64 _ (by omega)]; omega
   have g4 : decide (((A.length + B.length : Nat) : Int) < 0) = false := decide_eq_false (by omega)
   have g5 : IntKind.i64.wrap (((1 : Nat) : Int) + 1) = ((2 : Nat) : Int) := rfl
   unfold coS
   repeat' (first | (refine zY.is ?_; first | refine zY.seq ?_ | (refine zY.iq 3 ?_; refine zY.rqg _ K_z K_a ?_; refine zZ.v rfl rfl (yZ rfl rfl rfl g1 rfl (by decide)) ?_; refine zZ.nil ?_) | (refine zY.iq 4 ?_; refine zY.rqg _ K_z K_a ?_; refine zZ.v rfl rfl (yY rfl rfl rfl hc g2 rfl (by decide)) ?_; refine zZ.v rfl rfl (zP rfl rfl rfl rfl (by decide)) ?_; refine zZ.va rfl rfl rfl rfl (by decide) ?_; refine zZ.nil ?_) | (refine zY.iq 5 ?_; refine zY.rqg _ K_z K_a ?_; refine zZ.vm rfl rfl rfl rfl (by decide) ?_; refine zZ.vm rfl rfl rfl rfl (by decide) ?_; refine zZ.v rfl rfl (yL rfl rfl rfl (by decide)) ?_; refine zZ.v rfl rfl (yX rfl rfl rfl g3 rfl (by decide)) ?_; refine zZ.va rfl rfl rfl rfl (by decide) ?_; refine zZ.nil ?_) | (refine zY.iq 6 ?_; refine zY.rqg _ K_z K_a ?_; refine zZ.vm rfl rfl rfl rfl (by decide) ?_; refine zZ.v rfl rfl (yZ rfl rfl rfl g4 rfl (by decide)) ?_; refine zZ.nil ?_) | (refine zY.iq 8 ?_; refine zY.rqg _ K_z K_a ?_; refine zZ.v rfl rfl (yX rfl rfl rfl g5 rfl (by decide)) ?_; refine zZ.vm rfl rfl rfl rfl (by decide) ?_; refine zZ.nil ?_) | refine zY.yC rfl (by assumption) ?_ | refine zY.yF rfl (by assumption) ?_ | refine zY.skip ?_ | refine zY.block ?_) | refine zH.n ?_ | refine zS.n ?_)
   all_goals
    refine ⟨(2, A.length + B.length), ?_, .inr (.inr rfl), by simp⟩
    try unfold coS
    exact zD K_2i []
  ·have g1 : decide (((2 : Nat) : Int) < 2) = false := rfl
   unfold coS
   repeat' (first | (refine zY.is ?_; first | refine zY.seq ?_ | (refine zY.iq 3 ?_; refine zY.rqg _ K_z K_a ?_; refine zZ.v rfl rfl (yZ rfl rfl rfl g1 rfl (by decide)) ?_; refine zZ.nil ?_) | (refine zY.iq 9 ?_; refine zY.rqg _ K_7 K_a ?_; refine zZ.vm rfl rfl rfl rfl (by decide) ?_; refine zZ.m rfl rfl (w_callRowV gr rfl rfl rfl (by decide)) ?_; refine zZ.v rfl rfl (zN rfl rfl rfl (by decide)) ?_; refine zZ.nil ?_) | (refine zY.iq 10 ?_; refine zY.rqb _ K_3u K_a ?_; refine zZ.vm rfl rfl rfl rfl (by decide) ?_; refine zZ.v rfl rfl (yL rfl rfl rfl (by decide)) ?_; refine zZ.vm rfl rfl rfl rfl (by decide) ?_; refine zZ.nil ?_) | refine zY.yF rfl (by assumption) ?_ | refine zY.block ?_ | refine zY.exit ?_) | refine zH.n ?_ | refine zS.eY ?_ | refine zH.e ?_)
   refine zY.loop (fun p : Nat × List zV => coT A B p.1 p.2) (fun p => p = (0, []) ∨ p = (1, A) ∨ p = (2, A ++ B)) (fun p => 2 - p.1) (0, []) ?q0 (.inl rfl) ?qr
   case q0 =>
    unfold coT
    exact zD K_2j K_2k
   case qr =>
    rintro p (rfl | rfl | rfl)
    ·have g1 : decide (((0 : Nat) : Int) < 2) = true := rfl
     have g2 : [PV.sl (A.map zV.V), .sl (B.map zV.V)][0]? = some (.sl (A.map zV.V)) := rfl
     have g5 : IntKind.i64.wrap (((0 : Nat) : Int) + 1) = ((1 : Nat) : Int) := rfl
     have q8 : ((([] : List zV).map zV.V).length + (A.map zV.V).length) * 48 ≤ 140737488355328 ∧ (([] : List zV).map zV.V).length + (A.map zV.V).length ≤ maxLen := by
      simp only [List.map_nil, List.length_nil, List.length_map, maxLen]; omega
     unfold coT
     repeat' (first | (refine zY.is ?_; first | refine zY.seq ?_ | (refine zY.iq 11 ?_; refine zY.rqb _ K_16 K_a ?_; refine zZ.v rfl rfl (yZ rfl rfl rfl g1 rfl (by decide)) ?_; refine zZ.nil ?_) | (refine zY.iq 12 ?_; refine zY.rqb _ K_16 K_a ?_; refine zZ.v rfl rfl (yY rfl rfl rfl hc g2 rfl (by decide)) ?_; refine zZ.v rfl rfl (zP rfl rfl rfl rfl (by decide)) ?_; refine zZ.va rfl rfl rfl rfl (by decide) ?_; refine zZ.nil ?_) | (refine zY.iq 13 ?_; refine zY.rqb _ K_16 K_a ?_; refine zZ.v rfl rfl (yJ rfl rfl rfl (by decide)) ?_; refine zZ.vm rfl rfl rfl rfl (by decide) ?_; refine zZ.w rfl (qF rfl rfl rfl rfl hcA q8 rfl (by decide) rfl (by decide)) ?_; refine zZ.v rfl rfl (zN rfl rfl rfl (by decide)) ?_; refine zZ.nil ?_) | (refine zY.iq 14 ?_; refine zY.rqb _ K_16 K_a ?_; refine zZ.v rfl rfl (yX rfl rfl rfl g5 rfl (by decide)) ?_; refine zZ.vm rfl rfl rfl rfl (by decide) ?_; refine zZ.nil ?_) | refine zY.yC rfl (by assumption) ?_ | refine zY.skip ?_ | refine zY.block ?_) | refine zH.n ?_ | refine zS.n ?_)
     all_goals
      refine ⟨(1, A), ?_, .inr (.inl rfl), by simp⟩
      try unfold coT
      exact zD K_2j K_2k
    ·have g1 : decide (((1 : Nat) : Int) < 2) = true := rfl
     have g2 : [PV.sl (A.map zV.V), .sl (B.map zV.V)][1]? = some (.sl (B.map zV.V)) := rfl
     have g5 : IntKind.i64.wrap (((1 : Nat) : Int) + 1) = ((2 : Nat) : Int) := rfl
     have q8 : ((A.map zV.V).length + (B.map zV.V).length) * 48 ≤ 140737488355328 ∧ (A.map zV.V).length + (B.map zV.V).length ≤ maxLen := by
      simp only [List.length_map, maxLen]; omega
     have hm : (A ++ B).map zV.V = A.map zV.V ++ B.map zV.V := List.map_append
     unfold coT
     repeat' (first | (refine zY.is ?_; first | refine zY.seq ?_ | (refine zY.iq 11 ?_; refine zY.rqb _ K_16 K_a ?_; refine zZ.v rfl rfl (yZ rfl rfl rfl g1 rfl (by decide)) ?_; refine zZ.nil ?_) | (refine zY.iq 12 ?_; refine zY.rqb _ K_16 K_a ?_; refine zZ.v rfl rfl (yY rfl rfl rfl hc g2 rfl (by decide)) ?_; refine zZ.v rfl rfl (zP rfl rfl rfl rfl (by decide)) ?_; refine zZ.va rfl rfl rfl rfl (by decide) ?_; refine zZ.nil ?_) | (refine zY.iq 13 ?_; refine zY.rqb _ K_16 K_a ?_; refine zZ.v rfl rfl (yJ rfl rfl rfl (by decide)) ?_; refine zZ.vm rfl rfl rfl rfl (by decide) ?_; refine zZ.w rfl (qF rfl rfl rfl rfl hcB q8 rfl (by decide) rfl (by decide)) ?_; refine zZ.v rfl rfl (zN rfl rfl rfl (by decide)) ?_; refine zZ.nil ?_) | (refine zY.iq 14 ?_; refine zY.rqb _ K_16 K_a ?_; refine zZ.v rfl rfl (yX rfl rfl rfl g5 rfl (by decide)) ?_; refine zZ.vm rfl rfl rfl rfl (by decide) ?_; refine zZ.nil ?_) | refine zY.yC rfl (by assumption) ?_ | refine zY.skip ?_ | refine zY.block ?_) | refine zH.n ?_ | refine zS.n ?_)
     all_goals
      refine ⟨(2, A ++ B), ?_, .inr (.inr rfl), by simp⟩
      try unfold coT
      dsimp only
      rw [hm]
      exact zD K_2j K_2k
    ·have g1 : decide (((2 : Nat) : Int) < 2) = false := rfl
     unfold coT
     repeat' (first | (refine zY.is ?_; first | refine zY.seq ?_ | (refine zY.iq 11 ?_; refine zY.rqb _ K_16 K_a ?_; refine zZ.v rfl rfl (yZ rfl rfl rfl g1 rfl (by decide)) ?_; refine zZ.nil ?_) | (refine zY.isR (id := 15) ?_; refine zY.zK [2, 6] [2, 10, 17, 24, 26, 33] (by repeat' first | exact zX.nil | apply zX.own rfl | apply zX.skip) (by repeat' first | exact zW.nil | apply zW.some rfl | apply zW.skip) ?_; refine zZ.v rfl rfl (yJ rfl rfl rfl (by decide)) ?_; refine zZ.v rfl rfl (zN rfl rfl rfl (by decide)) ?_; refine zZ.nil ?_) | refine zY.yF rfl (by assumption) ?_ | refine zY.exit ?_ | refine zY.ret ?_) | refine zH.n ?_ | refine zS.eY ?_ | refine zH.e ?_)
     all_goals exact ⟨.inl rfl, _, wS 24 46 6 _ rfl, xG.p rfl (.tmp rfl)⟩
end Go.Proofs.YtomlhekjgagjaaaDoor
namespace Go.Proofs.YtomlhekjgagjaaaDoor
set_option maxRecDepth 100000
set_option maxHeartbeats 16000000
open Go Go.RowKit
attribute [local irreducible] zZ zY Step zA Sub zL z8 Fn zH zS
def zV.F (e : zV) : List Int := bytesE e.k e.s e.y e.u e.v e.x
def catE (L : List zV) : List Int := L.flatMap zV.F
theorem catE_cons (e : zV) (L : List zV) : catE (e :: L) = e.F ++ catE L := rfl
theorem catE_append (A B : List zV) : catE (A ++ B) = catE A ++ catE B := by simp [catE]
theorem entF_may (e : zV) : e.F = if e.may = true then xD e.enc else [] := rfl
theorem enc_len (e : zV) : e.enc.length = if e.k = 1 then 41 else 9 := by
  unfold zV.enc qG
  by_cases hk : e.k = 1
  · rw [if_pos hk, if_pos hk]; simp [bytesOf_length]
  · rw [if_neg hk, if_neg hk]; simp [bytesOf_length]
theorem entF_len (e : zV) : e.F.length ≤ 47 := by
  rw [entF_may]
  split
  · rw [vE, enc_len]
    split <;> omega
  · exact Nat.zero_le _
theorem catE_len : ∀ (L : List zV), (catE L).length ≤ 47 * L.length
  | [] => Nat.le_refl _
  | e :: r => by
    rw [catE_cons, List.length_append, List.length_cons]
    have := entF_len e
    have := catE_len r
    omega
def headE (n : Nat) : zV := ⟨3, (n : Nat), 0, 0, 0, 0⟩
def byS (X : List zV) (i : Nat) : AS := { t := [(3, .own 42), (17, .p (.sl (X.map zV.V))), (18, .p (.val (.int .i64 (X.length : Nat)))), (19, .p (.val (.int .i64 (i : Nat))))], s := [(42, wP 5 (catE (X.take i)))] }
theorem enc_bytes {e : zV} (h : e.ok) : ∀ z ∈ e.enc, 0 ≤ z ∧ z < 256 := by
  intro z hz
  unfold zV.enc qG at hz
  simp only [List.mem_append, List.mem_cons] at hz
  rcases hz with (rfl | hz) | hz
  · omega
  · exact wZ _ _ z hz
  · split at hz
    · simp only [List.mem_append] at hz
      rcases hz with ((hz | hz) | hz) | hz
      all_goals exact wZ _ _ z hz
    · cases hz
theorem mBytes_fn (L : List zV) (hl : L.length ≤ 1000000) (hok : ∀ e ∈ L, e.ok) : Fn Tryd.prog 17 [.sl (L.map zV.V)] (.p (.sl (byts (catE (headE L.length :: L))))) := by
 have hlL : (L.map zV.V).length = L.length := by rw [List.length_map]
 have c1 := concatE_fn [headE L.length] L (by simp) (by simp) hl
 have hX : ∀ e ∈ headE L.length :: L, e.ok := fun e he => by
  rcases List.mem_cons.1 he with rfl | he
  ·have z : U 0 := ⟨by decide, by decide⟩
   exact ⟨⟨by show (0 : Int) ≤ ((L.length : Nat) : Int); omega, by show ((L.length : Nat) : Int) < 18446744073709551616; omega⟩, z, z, z, z⟩
  ·exact hok e he
 have hXl : (headE L.length :: L).length ≤ 1000001 := by rw [List.length_cons]; omega
 have c1 : Fn Tryd.prog 37 [.sl [.sl [.agg [.val (.int .i64 3), .val (.int .u64 ((L.length : Nat) : Int)), .val (.int .u64 0), .val (.int .u64 0), .val (.int .u64 0), .val (.int .u64 0)]], .sl (L.map zV.V)]] (.p (.sl ((headE L.length :: L).map zV.V))) := c1
 generalize headE L.length :: L = X at *
 have hlX : (X.map zV.V).length = X.length := by rw [List.length_map]
 have hcX := yU X
 have w1 : IntKind.u64.wrap (((L.map zV.V).length : Nat) : Int) = ((L.length : Nat) : Int) := by rw [hlL, wrap_u64 _ (by omega)]
 refine wU Tryd.func17 rfl Tryd.ntmps17 (Nat.le_of_ble_eq_true rfl) ?_
 repeat' (first | (refine zY.is ?_; first | refine zY.seq ?_ | (refine zY.iq 0 ?_; refine zY.rqa _ K_5 K_2l ?_; refine zZ.va rfl rfl rfl rfl (by decide) ?_; refine zZ.nil ?_) | (refine zY.iq 1 ?_; refine zY.rqa _ K_s K_2l ?_; refine zZ.va rfl rfl rfl rfl (by decide) ?_; refine zZ.nil ?_) | (refine zY.iq 2 ?_; refine zY.rqa _ K_7 K_2l ?_; refine zZ.vm rfl rfl rfl rfl (by decide) ?_; refine zZ.v rfl rfl (yL rfl rfl rfl (by decide)) ?_; refine zZ.v rfl rfl (xZ rfl rfl w1 rfl (by decide)) ?_; refine zZ.v rfl rfl (vV rfl (by rfl) (by rfl) (by rfl) (by rfl) rfl (by decide)) ?_; refine zZ.v rfl rfl (wO rfl (by decide) (by decide) (by decide) (by decide) (by rfl) (by rfl) (by rfl) (by rfl) (by rfl) (by rfl) (by rfl) rfl (by decide)) ?_; refine zZ.vm rfl rfl rfl rfl (by decide) ?_; refine zZ.v rfl rfl (wO rfl (by decide) (by decide) (by decide) (by decide) (by rfl) (by rfl) (by rfl) (by rfl) (by rfl) (by rfl) (by rfl) rfl (by decide)) ?_; refine zZ.v rfl rfl (by exact yE (c1) rfl rfl rfl (by decide)) ?_; refine zZ.v rfl rfl (yL rfl rfl rfl (by decide)) ?_; refine zZ.vm rfl rfl rfl rfl (by decide) ?_; refine zZ.nil ?_) | refine zY.block ?_) | refine zH.n ?_)
 refine zY.loop (byS X) (fun i => i ≤ X.length) (fun i => X.length - i) 0 ?h0 (Nat.zero_le _) ?rd
 case h0 =>
  refine (sub_adoptV (d := 3) (id := 42) (ty := 5) (sz := 1) (by decide) rfl).trans ?_
  unfold byS
  rw [← hlX, List.take_zero]
  exact zD K_1u K_19
 case rd =>
  intro i hi
  have g3 : IntKind.i64.wrap (((i : Nat) : Int) + 1) = ((i + 1 : Nat) : Int) := by rw [wrap_i64 _ (by omega)]; omega
  unfold byS
  by_cases hlt : i < X.length
  case pos =>
   have g1 : decide (((i : Nat) : Int) < ((X.length : Nat) : Int)) = true := decide_eq_true (by omega)
   obtain ⟨e, he⟩ : ∃ e, X[i]? = some e := ⟨_, List.getElem?_eq_getElem hlt⟩
   have g2 : (X.map zV.V)[i]? = some e.V := by rw [List.getElem?_map, he]; rfl
   have ho := hX e (List.mem_of_getElem? he)
   have htake : catE (X.take (i + 1)) = catE (X.take i) ++ e.F := by rw [List.take_add_one, he, catE_append]; simp [catE]
   have hlen := catE_len (X.take i)
   have hF := entF_len e
   have l1 : (catE (X.take i)).length + e.F.length ≤ 140737488355328 := by rw [List.length_take] at hlen; omega
   rw [entF_may] at htake l1
   have hen := enc_fn e.k e.s e.y e.u e.v e.x ho.s.1 ho.s.2 ho.y.1 ho.y.2 ho.u.1 ho.u.2 ho.v.1 ho.v.2 ho.x.1 ho.x.2
   have hpu := put_fn e.enc (enc_bytes ho) (by have := enc_len e; constructor <;> (rw [this]; split <;> omega))
   clear hlen hF
   cases hm : e.may
   case true =>
    rw [hm, if_pos rfl] at htake l1
    have hm : qP e.k e.s e.y e.u e.v e.x = true := hm
    rw [hm, if_pos rfl] at hen
    have hen : Fn Tryd.prog 38 [e.V] (.tup [.sl (byts e.enc), .val (.int .i64 0)]) := hen
    generalize e.enc = E at *
    clear he ho hm
    obtain ⟨ek, es, ey, eu, ev, ex⟩ := e
    repeat' (first | (refine zY.is ?_; first | refine zY.seq ?_ | (refine zY.iq 3 ?_; refine zY.rqo _ K_p K_q ?_; refine zZ.v rfl rfl (yZ rfl rfl rfl g1 rfl (by decide)) ?_; refine zZ.nil ?_) | (refine zY.iq 4 ?_; refine zY.rqo _ K_p K_q ?_; refine zZ.v rfl rfl (yY rfl rfl rfl hcX g2 rfl (by decide)) ?_; refine zZ.v rfl rfl (by exact vW rfl rfl (by exact Nat.le_of_ble_eq_true rfl) rfl (by decide)) ?_; refine zZ.m rfl rfl (xW rfl (by decide) rfl (by decide)) ?_; refine zZ.w rfl (by exact yB rfl rfl rfl rfl rfl (by rfl) (by exact Nat.le_of_ble_eq_true rfl) rfl rfl) ?_; refine zZ.nil ?_) | (refine zY.iq 5 ?_; refine zY.rqq _ K_p K_q ?_; refine zZ.v rfl rfl (xY rfl rfl rfl (by rfl) (by rfl) rfl (by decide)) ?_; refine zZ.v rfl rfl (by exact y9 (hen) rfl rfl rfl (by decide)) ?_; refine zZ.v rfl rfl (yG rfl rfl rfl (by decide)) ?_; refine zZ.v rfl rfl (zC rfl rfl rfl rfl (by decide)) ?_; refine zZ.v rfl rfl (zC rfl rfl rfl rfl (by decide)) ?_; refine zZ.va rfl rfl rfl rfl (by decide) ?_; refine zZ.va rfl rfl rfl rfl (by decide) ?_; refine zZ.nil ?_) | (refine zY.iq 6 ?_; refine zY.rqq _ K_p K_q ?_; refine zZ.vm rfl rfl rfl rfl (by decide) ?_; refine zZ.v rfl rfl (by exact y9 (hpu) rfl rfl rfl (by decide)) ?_; refine zZ.v rfl rfl (yG rfl rfl rfl (by decide)) ?_; refine zZ.v rfl rfl (zC rfl rfl rfl rfl (by decide)) ?_; refine zZ.v rfl rfl (zC rfl rfl rfl rfl (by decide)) ?_; refine zZ.va rfl rfl rfl rfl (by decide) ?_; refine zZ.va rfl rfl rfl rfl (by decide) ?_; refine zZ.nil ?_) | (refine zY.iq 7 ?_; refine zY.rqq _ K_p K_q ?_; refine zZ.v rfl rfl (yJ rfl rfl rfl (by decide)) ?_; refine zZ.vm rfl rfl rfl rfl (by decide) ?_; refine zZ.w rfl (kZ rfl rfl rfl rfl l1 rfl rfl (by decide)) ?_; refine zZ.v rfl rfl (zN rfl rfl rfl (by decide)) ?_; refine zZ.nil ?_) | (refine zY.iq 8 ?_; refine zY.rqq _ K_p K_q ?_; refine zZ.v rfl rfl (yX rfl rfl rfl g3 rfl (by decide)) ?_; refine zZ.vm rfl rfl rfl rfl (by decide) ?_; refine zZ.nil ?_) | refine zY.yC rfl (by first | assumption | with_reducible rfl) ?_ | refine zY.skip ?_ | refine zY.block ?_) | refine zH.n ?_ | refine zS.n ?_)
    all_goals
     refine ⟨i + 1, ?_, hlt, by omega⟩
     try unfold byS
     rw [htake]
     exact zD K_1u K_19
   case false =>
    rw [hm, if_neg (by decide)] at htake l1
    have hm : qP e.k e.s e.y e.u e.v e.x = false := hm
    rw [hm, if_neg (by decide)] at hen
    have hen : Fn Tryd.prog 38 [e.V] (.tup [.sl (byts []), .val (.int .i64 1)]) := hen
    have hpn := put_nil
    clear he ho hm hpu
    obtain ⟨ek, es, ey, eu, ev, ex⟩ := e
    repeat' (first | (refine zY.is ?_; first | refine zY.seq ?_ | (refine zY.iq 3 ?_; refine zY.rqo _ K_p K_q ?_; refine zZ.v rfl rfl (yZ rfl rfl rfl g1 rfl (by decide)) ?_; refine zZ.nil ?_) | (refine zY.iq 4 ?_; refine zY.rqo _ K_p K_q ?_; refine zZ.v rfl rfl (yY rfl rfl rfl hcX g2 rfl (by decide)) ?_; refine zZ.v rfl rfl (by exact vW rfl rfl (by exact Nat.le_of_ble_eq_true rfl) rfl (by decide)) ?_; refine zZ.m rfl rfl (xW rfl (by decide) rfl (by decide)) ?_; refine zZ.w rfl (by exact yB rfl rfl rfl rfl rfl (by rfl) (by exact Nat.le_of_ble_eq_true rfl) rfl rfl) ?_; refine zZ.nil ?_) | (refine zY.iq 5 ?_; refine zY.rqq _ K_p K_q ?_; refine zZ.v rfl rfl (xY rfl rfl rfl (by rfl) (by rfl) rfl (by decide)) ?_; refine zZ.v rfl rfl (by exact y9 (hen) rfl rfl rfl (by decide)) ?_; refine zZ.v rfl rfl (yG rfl rfl rfl (by decide)) ?_; refine zZ.v rfl rfl (zC rfl rfl rfl rfl (by decide)) ?_; refine zZ.v rfl rfl (zC rfl rfl rfl rfl (by decide)) ?_; refine zZ.va rfl rfl rfl rfl (by decide) ?_; refine zZ.va rfl rfl rfl rfl (by decide) ?_; refine zZ.nil ?_) | (refine zY.iq 6 ?_; refine zY.rqq _ K_p K_q ?_; refine zZ.vm rfl rfl rfl rfl (by decide) ?_; refine zZ.v rfl rfl (by exact y9 (hpn) rfl rfl rfl (by decide)) ?_; refine zZ.v rfl rfl (yG rfl rfl rfl (by decide)) ?_; refine zZ.v rfl rfl (zC rfl rfl rfl rfl (by decide)) ?_; refine zZ.v rfl rfl (zC rfl rfl rfl rfl (by decide)) ?_; refine zZ.va rfl rfl rfl rfl (by decide) ?_; refine zZ.va rfl rfl rfl rfl (by decide) ?_; refine zZ.nil ?_) | (refine zY.iq 7 ?_; refine zY.rqq _ K_p K_q ?_; refine zZ.v rfl rfl (yJ rfl rfl rfl (by decide)) ?_; refine zZ.vm rfl rfl rfl rfl (by decide) ?_; refine zZ.w rfl (kZ rfl rfl rfl rfl l1 rfl rfl (by decide)) ?_; refine zZ.v rfl rfl (zN rfl rfl rfl (by decide)) ?_; refine zZ.nil ?_) | (refine zY.iq 8 ?_; refine zY.rqq _ K_p K_q ?_; refine zZ.v rfl rfl (yX rfl rfl rfl g3 rfl (by decide)) ?_; refine zZ.vm rfl rfl rfl rfl (by decide) ?_; refine zZ.nil ?_) | refine zY.yC rfl (by first | assumption | with_reducible rfl) ?_ | refine zY.skip ?_ | refine zY.block ?_) | refine zH.n ?_ | refine zS.n ?_)
    all_goals
     refine ⟨i + 1, ?_, hlt, by omega⟩
     try unfold byS
     rw [htake]
     exact zD K_1u K_19
  case neg =>
   have hie : i = X.length := by omega
   subst hie
   have g1 : decide (((X.length : Nat) : Int) < ((X.length : Nat) : Int)) = false := decide_eq_false (by omega)
   rw [List.take_length]
   repeat' (first | (refine zY.is ?_; first | refine zY.seq ?_ | (refine zY.iq 3 ?_; refine zY.rqo _ K_p K_q ?_; refine zZ.v rfl rfl (yZ rfl rfl rfl g1 rfl (by decide)) ?_; refine zZ.nil ?_) | (refine zY.isR (id := 9) ?_; refine zY.zK [2, 3] [2, 3, 5, 14, 16, 42] (by repeat' first | exact zX.nil | apply zX.own rfl | apply zX.skip) (by repeat' first | exact zW.nil | apply zW.wP rfl | apply zW.skip) ?_; refine zZ.v rfl rfl (yJ rfl rfl rfl (by decide)) ?_; refine zZ.v rfl rfl (zN rfl rfl rfl (by decide)) ?_; refine zZ.nil ?_) | refine zY.yF rfl (by first | assumption | with_reducible rfl) ?_ | refine zY.exit ?_ | refine zY.ret ?_) | refine zH.n ?_ | refine zS.eY ?_ | refine zH.e ?_)
   all_goals exact ⟨.inl rfl, _, sub_frzB 42 rfl, xG.p rfl (.tmp rfl)⟩
end Go.Proofs.YtomlhekjgagjaaaDoor
namespace Go.Proofs.YtomlhekjgagjaaaDoor
set_option maxRecDepth 100000
set_option maxHeartbeats 16000000
open Go Go.RowKit
attribute [local irreducible] zZ zY Step zA Sub zL z8 Fn zH zS
structure ArcD where
  u : Int
  v : Int
  w : Int
deriving DecidableEq
def ArcD.V (a : ArcD) : PV := .agg [.val (.int .i64 a.u), .val (.int .i64 a.v), .val (.int .u64 a.w)]
def arcOf (e : zV) : ArcD := ⟨e.y / 2147483648, e.y % 2147483648 - 1, if 0 ≤ e.y % 2147483648 - 1 then e.x else 0⟩
def arS (L : List zV) (i : Nat) : AS := { t := [(3, .own 42), (7, .p (.sl (L.map zV.V))), (8, .p (.val (.int .i64 (L.length : Nat)))), (9, .p (.val (.int .i64 (i : Nat))))], s := [(42, x9 59 3 (((L.take i).map arcOf).map ArcD.V))] }
theorem arcs_fn (L : List zV) (hl : L.length ≤ 1000000) (hok : ∀ e ∈ L, e.ok) : Fn Tryd.prog 18 [.sl (L.map zV.V)] (.p (.sl ((L.map arcOf).map ArcD.V))) := by
 have hc := yU L
 have hlen : (L.map zV.V).length = L.length := by rw [List.length_map]
 refine wU Tryd.func18 rfl Tryd.ntmps18 (Nat.le_of_ble_eq_true rfl) ?_
 repeat' (first | (refine zY.is ?_; first | refine zY.seq ?_ | (refine zY.iq 0 ?_; refine zY.rqa _ K_5 K_d ?_; refine zZ.va rfl rfl rfl rfl (by decide) ?_; refine zZ.nil ?_) | (refine zY.iq 1 ?_; refine zY.rqa _ K_s K_d ?_; refine zZ.va rfl rfl rfl rfl (by decide) ?_; refine zZ.nil ?_) | (refine zY.iq 2 ?_; refine zY.rqa _ K_7 K_d ?_; refine zZ.vm rfl rfl rfl rfl (by decide) ?_; refine zZ.v rfl rfl (yL rfl rfl rfl (by decide)) ?_; refine zZ.vm rfl rfl rfl rfl (by decide) ?_; refine zZ.nil ?_) | refine zY.block ?_) | refine zH.n ?_)
 refine zY.loop (arS L) (fun i => i ≤ L.length) (fun i => L.length - i) 0 ?h0 (Nat.zero_le _) ?rd
 case h0 =>
  refine (sub_adoptV (d := 3) (id := 42) (ty := 59) (sz := 3) (by decide) rfl).trans ?_
  unfold arS
  rw [← hlen]
  exact zD K_2m K_19
 case rd =>
  intro i hi
  have g3 : IntKind.i64.wrap (((i : Nat) : Int) + 1) = ((i + 1 : Nat) : Int) := by rw [wrap_i64 _ (by omega)]; omega
  unfold arS
  by_cases hlt : i < L.length
  case pos =>
   have g1 : decide (((i : Nat) : Int) < ((L.length : Nat) : Int)) = true := decide_eq_true (by omega)
   obtain ⟨e, he⟩ : ∃ e, L[i]? = some e := ⟨_, List.getElem?_eq_getElem hlt⟩
   have g2 : (L.map zV.V)[i]? = some e.V := by rw [List.getElem?_map, he]; rfl
   have ho := hok e (List.mem_of_getElem? he)
   have htake : ((L.take (i + 1)).map arcOf).map ArcD.V = ((L.take i).map arcOf).map ArcD.V ++ [(arcOf e).V] := by rw [List.take_add_one, he]; simp
   have q6 : ∀ z ∈ [(arcOf e).V], z.cells.length = 3 := fun z hz => by simp at hz; subst hz; rfl
   have q7 : ([(arcOf e).V] : List PV).length * 24 ≤ 140737488355328 ∧ ([(arcOf e).V] : List PV).length ≤ maxLen := by simp [maxLen]
   have q8 : ((((L.take i).map arcOf).map ArcD.V).length + ([(arcOf e).V] : List PV).length) * 24 ≤ 140737488355328 ∧ (((L.take i).map arcOf).map ArcD.V).length + ([(arcOf e).V] : List PV).length ≤ maxLen := by simp [maxLen]; omega
   obtain ⟨ek, es, ey, eu, ev, ex⟩ := e
   have c := split_fn ey ho.y.1 ho.y.2
   have hv : (arcOf ⟨ek, es, ey, eu, ev, ex⟩).V = .agg [.val (.int .i64 (ey / 2147483648)), .val (.int .i64 (ey % 2147483648 - 1)), .val (.int .u64 (if 0 ≤ ey % 2147483648 - 1 then ex else 0))] := rfl
   rw [hv] at htake q6 q7 q8
   clear hv
   generalize ey / 2147483648 = p at *
   generalize ey % 2147483648 - 1 = q at *
   cases c1 : decide (q ≥ 0)
   case true =>
    rw [if_pos (of_decide_eq_true c1)] at htake q6 q7 q8
    repeat' (first | (refine zY.is ?_; first | refine zY.seq ?_ | (refine zY.iq 3 ?_; refine zY.rqb _ K_j K_d ?_; refine zZ.v rfl rfl (yZ rfl rfl rfl g1 rfl (by decide)) ?_; refine zZ.nil ?_) | (refine zY.iq 4 ?_; refine zY.rqb _ K_j K_d ?_; refine zZ.v rfl rfl (yY rfl rfl rfl hc g2 rfl (by decide)) ?_; refine zZ.v rfl rfl (by exact vW rfl rfl (by exact Nat.le_of_ble_eq_true rfl) rfl (by decide)) ?_; refine zZ.m rfl rfl (xW rfl (by decide) rfl (by decide)) ?_; refine zZ.w rfl (by exact yB rfl rfl rfl rfl rfl (by rfl) (by exact Nat.le_of_ble_eq_true rfl) rfl rfl) ?_; refine zZ.nil ?_) | (refine zY.iq 5 ?_; refine zY.rqe _ K_j K_d ?_; refine zZ.v rfl rfl (vV rfl (by rfl) (by rfl) (by rfl) (by rfl) rfl (by decide)) ?_; refine zZ.m rfl rfl (xW rfl (by decide) rfl (by decide)) ?_; refine zZ.w rfl (by exact yB rfl rfl rfl rfl rfl (by rfl) (by exact Nat.le_of_ble_eq_true rfl) rfl rfl) ?_; refine zZ.nil ?_) | (refine zY.iq 6 ?_; refine zY.rqe _ K_j K_d ?_; refine zZ.v rfl rfl (zJ rfl rfl rfl (by decide)) ?_; refine zZ.v rfl rfl (zB rfl rfl rfl (by rfl) rfl (by decide)) ?_; refine zZ.v rfl rfl (by exact y9 (c) rfl rfl rfl (by decide)) ?_; refine zZ.v rfl rfl (yG rfl rfl rfl (by decide)) ?_; refine zZ.v rfl rfl (zC rfl rfl rfl rfl (by decide)) ?_; refine zZ.v rfl rfl (zC rfl rfl rfl rfl (by decide)) ?_; refine zZ.v rfl rfl (zJ rfl rfl rfl (by decide)) ?_; refine zZ.w rfl (by exact yB rfl rfl rfl rfl rfl (by rfl) (by exact Nat.le_of_ble_eq_true rfl) rfl rfl) ?_; refine zZ.v rfl rfl (zJ rfl rfl rfl (by decide)) ?_; refine zZ.w rfl (by exact yB rfl rfl rfl rfl rfl (by rfl) (by exact Nat.le_of_ble_eq_true rfl) rfl rfl) ?_; refine zZ.nil ?_) | (refine zY.iq 7 ?_; refine zY.rqe _ K_j K_d ?_; refine zZ.v rfl rfl (zJ rfl rfl rfl (by decide)) ?_; refine zZ.v rfl rfl (zB rfl rfl rfl (by rfl) rfl (by decide)) ?_; refine zZ.v rfl rfl (qM rfl rfl rfl c1 rfl (by decide)) ?_; refine zZ.nil ?_) | (refine zY.iq 8 ?_; refine zY.rqe _ K_j K_d ?_; refine zZ.v rfl rfl (zJ rfl rfl rfl (by decide)) ?_; refine zZ.v rfl rfl (zB rfl rfl rfl (by rfl) rfl (by decide)) ?_; refine zZ.v rfl rfl (zJ rfl rfl rfl (by decide)) ?_; refine zZ.w rfl (by exact yB rfl rfl rfl rfl rfl (by rfl) (by exact Nat.le_of_ble_eq_true rfl) rfl rfl) ?_; refine zZ.nil ?_) | (refine zY.iq 9 ?_; refine zY.rqe _ K_j K_d ?_; refine zZ.v rfl rfl (yJ rfl rfl rfl (by decide)) ?_; refine zZ.v rfl rfl (xY rfl rfl rfl (by rfl) (by rfl) rfl (by decide)) ?_; refine zZ.v rfl rfl (wO rfl (by decide) (by decide) (by decide) (by decide) (by rfl) (by rfl) (by rfl) (by rfl) (by rfl) (by rfl) (by rfl) rfl (by decide)) ?_; refine zZ.w rfl (qF rfl rfl rfl rfl q6 q8 rfl (by decide) rfl (by decide)) ?_; refine zZ.v rfl rfl (zN rfl rfl rfl (by decide)) ?_; refine zZ.nil ?_) | (refine zY.iq 10 ?_; refine zY.rqe _ K_j K_d ?_; refine zZ.v rfl rfl (yX rfl rfl rfl g3 rfl (by decide)) ?_; refine zZ.vm rfl rfl rfl rfl (by decide) ?_; refine zZ.nil ?_) | refine zY.yC rfl (by first | assumption | with_reducible rfl) ?_ | refine zY.skip ?_ | refine zY.block ?_) | refine zH.n ?_ | refine zS.n ?_)
    all_goals
     refine ⟨i + 1, ?_, hlt, by omega⟩
     try unfold arS
     rw [htake]
     exact zD K_2m K_19
   case false =>
    rw [if_neg (of_decide_eq_false c1)] at htake q6 q7 q8
    repeat' (first | (refine zY.is ?_; first | refine zY.seq ?_ | (refine zY.iq 3 ?_; refine zY.rqb _ K_j K_d ?_; refine zZ.v rfl rfl (yZ rfl rfl rfl g1 rfl (by decide)) ?_; refine zZ.nil ?_) | (refine zY.iq 4 ?_; refine zY.rqb _ K_j K_d ?_; refine zZ.v rfl rfl (yY rfl rfl rfl hc g2 rfl (by decide)) ?_; refine zZ.v rfl rfl (by exact vW rfl rfl (by exact Nat.le_of_ble_eq_true rfl) rfl (by decide)) ?_; refine zZ.m rfl rfl (xW rfl (by decide) rfl (by decide)) ?_; refine zZ.w rfl (by exact yB rfl rfl rfl rfl rfl (by rfl) (by exact Nat.le_of_ble_eq_true rfl) rfl rfl) ?_; refine zZ.nil ?_) | (refine zY.iq 5 ?_; refine zY.rqe _ K_j K_d ?_; refine zZ.v rfl rfl (vV rfl (by rfl) (by rfl) (by rfl) (by rfl) rfl (by decide)) ?_; refine zZ.m rfl rfl (xW rfl (by decide) rfl (by decide)) ?_; refine zZ.w rfl (by exact yB rfl rfl rfl rfl rfl (by rfl) (by exact Nat.le_of_ble_eq_true rfl) rfl rfl) ?_; refine zZ.nil ?_) | (refine zY.iq 6 ?_; refine zY.rqe _ K_j K_d ?_; refine zZ.v rfl rfl (zJ rfl rfl rfl (by decide)) ?_; refine zZ.v rfl rfl (zB rfl rfl rfl (by rfl) rfl (by decide)) ?_; refine zZ.v rfl rfl (by exact y9 (c) rfl rfl rfl (by decide)) ?_; refine zZ.v rfl rfl (yG rfl rfl rfl (by decide)) ?_; refine zZ.v rfl rfl (zC rfl rfl rfl rfl (by decide)) ?_; refine zZ.v rfl rfl (zC rfl rfl rfl rfl (by decide)) ?_; refine zZ.v rfl rfl (zJ rfl rfl rfl (by decide)) ?_; refine zZ.w rfl (by exact yB rfl rfl rfl rfl rfl (by rfl) (by exact Nat.le_of_ble_eq_true rfl) rfl rfl) ?_; refine zZ.v rfl rfl (zJ rfl rfl rfl (by decide)) ?_; refine zZ.w rfl (by exact yB rfl rfl rfl rfl rfl (by rfl) (by exact Nat.le_of_ble_eq_true rfl) rfl rfl) ?_; refine zZ.nil ?_) | (refine zY.iq 7 ?_; refine zY.rqe _ K_j K_d ?_; refine zZ.v rfl rfl (zJ rfl rfl rfl (by decide)) ?_; refine zZ.v rfl rfl (zB rfl rfl rfl (by rfl) rfl (by decide)) ?_; refine zZ.v rfl rfl (qM rfl rfl rfl c1 rfl (by decide)) ?_; refine zZ.nil ?_) | (refine zY.iq 9 ?_; refine zY.rqe _ K_j K_d ?_; refine zZ.v rfl rfl (yJ rfl rfl rfl (by decide)) ?_; refine zZ.v rfl rfl (xY rfl rfl rfl (by rfl) (by rfl) rfl (by decide)) ?_; refine zZ.v rfl rfl (wO rfl (by decide) (by decide) (by decide) (by decide) (by rfl) (by rfl) (by rfl) (by rfl) (by rfl) (by rfl) (by rfl) rfl (by decide)) ?_; refine zZ.w rfl (qF rfl rfl rfl rfl q6 q8 rfl (by decide) rfl (by decide)) ?_; refine zZ.v rfl rfl (zN rfl rfl rfl (by decide)) ?_; refine zZ.nil ?_) | (refine zY.iq 10 ?_; refine zY.rqe _ K_j K_d ?_; refine zZ.v rfl rfl (yX rfl rfl rfl g3 rfl (by decide)) ?_; refine zZ.vm rfl rfl rfl rfl (by decide) ?_; refine zZ.nil ?_) | refine zY.yC rfl (by first | assumption | with_reducible rfl) ?_ | refine zY.yF rfl (by first | assumption | with_reducible rfl) ?_ | refine zY.skip ?_ | refine zY.block ?_) | refine zH.n ?_ | refine zS.n ?_)
    all_goals
     refine ⟨i + 1, ?_, hlt, by omega⟩
     try unfold arS
     rw [htake]
     exact zD K_2m K_19
  case neg =>
   have hie : i = L.length := by omega
   subst hie
   have g1 : decide (((L.length : Nat) : Int) < ((L.length : Nat) : Int)) = false := decide_eq_false (by omega)
   rw [List.take_length]
   repeat' (first | (refine zY.is ?_; first | refine zY.seq ?_ | (refine zY.iq 3 ?_; refine zY.rqb _ K_j K_d ?_; refine zZ.v rfl rfl (yZ rfl rfl rfl g1 rfl (by decide)) ?_; refine zZ.nil ?_) | (refine zY.isR (id := 11) ?_; refine zY.zK [2, 3] [2, 3, 5, 6, 30, 42] (by repeat' first | exact zX.nil | apply zX.own rfl | apply zX.skip) (by repeat' first | exact zW.nil | apply zW.some rfl | apply zW.skip) ?_; refine zZ.v rfl rfl (yJ rfl rfl rfl (by decide)) ?_; refine zZ.v rfl rfl (zN rfl rfl rfl (by decide)) ?_; refine zZ.nil ?_) | refine zY.yF rfl (by first | assumption | with_reducible rfl) ?_ | refine zY.exit ?_ | refine zY.ret ?_) | refine zH.n ?_ | refine zS.eY ?_ | refine zH.e ?_)
   all_goals exact ⟨.inl rfl, _, wS 42 59 3 _ rfl, xG.p rfl (.tmp rfl)⟩
end Go.Proofs.YtomlhekjgagjaaaDoor
namespace Go.Proofs.YtomlhekjgagjaaaDoor
set_option maxRecDepth 100000
set_option maxHeartbeats 16000000
open Go Go.RowKit
attribute [local irreducible] zZ zY Step zA Sub zL z8 Fn zH zS
def shB (k s y : Int) : List Int := bytesE k s y 0 0 0
def shE (s : Int) : zV := ⟨1, s, 2147483648, 0, 0, 0⟩
theorem sh_live : wV [shB 3 0 0, shB 2 1 0 ++ shB 1 2 2147483648, shB 1 1 0] 9 = ([shE 2], 0) := of_decide_eq_true (by kernel_rfl)
theorem sh_bad : wV [shB 1 1 0] 9 = ([], 8) := of_decide_eq_true (by kernel_rfl)
theorem sh_anew : anewL [shE 2] = [shE 1] := of_decide_eq_true (by kernel_rfl)
theorem sh_bytes : (catE (headE 1 :: [shE 1])).length = 62 := of_decide_eq_true (by kernel_rfl)
theorem shB_len (k s y : Int) : (shB k s y).length ≤ 47 := entF_len ⟨k, s, y, 0, 0, 0⟩
theorem shB_range (k s y : Int) : yI (shB k s y) := by
  intro z hz
  unfold shB bytesE at hz
  split at hz
  · exact putF_range (fun x hx => by
      unfold qG at hx
      simp only [List.mem_append, List.mem_cons] at hx
      rcases hx with (rfl | hx) | hx
      · omega
      · exact wZ _ _ x hx
      · split at hx
        · simp only [List.mem_append] at hx
          rcases hx with ((hx | hx) | hx) | hx
          all_goals exact wZ _ _ x hx
        · cases hx) z hz
  · cases hz
theorem shE_ok (s : Int) (h : U s) : (shE s).ok :=
  have z : U 0 := ⟨by decide, by decide⟩
  have y : U 2147483648 := ⟨by decide, by decide⟩
  ⟨h, y, z, z, z⟩
theorem shown22_fn : Fn Tryd.prog 10 [] (.p (.val (.bool true))) := by
 have z : U 0 := ⟨by decide, by decide⟩
 have b1 := bytesRef_fn 3 0 0 0 0 0 z z z z z
 have b2 := bytesRef_fn 1 1 0 0 0 0 ⟨by decide, by decide⟩ z z z z
 have b3 := bytesRef_fn 1 2 2147483648 0 0 0 ⟨by decide, by decide⟩ ⟨by decide, by decide⟩ z z z
 have b4 := bytesRef_fn 2 1 0 0 0 0 ⟨by decide, by decide⟩ z z z z
 have lv := mLive_fn [shB 3 0 0, shB 2 1 0 ++ shB 1 2 2147483648, shB 1 1 0] 9 (fun s hs => by
  simp only [List.mem_cons, List.not_mem_nil, or_false] at hs
  rcases hs with rfl | rfl | rfl
  ·exact shB_range _ _ _
  ·exact fun x hx => (List.mem_append.1 hx).elim (shB_range _ _ _ x) (shB_range _ _ _ x)
  ·exact shB_range _ _ _) (by simp) (by
  have h1 := shB_len 3 0 0
  have h2 := shB_len 2 1 0
  have h3 := shB_len 1 2 2147483648
  have h4 := shB_len 1 1 0
  simp only [total, List.map_cons, List.map_nil, List.sum_cons, List.sum_nil, List.length_append]
  omega)
 rw [sh_live] at lv
 have lb := mLive_fn [shB 1 1 0] 9 (fun s hs => by
  rw [List.mem_singleton] at hs
  subst hs
  exact shB_range _ _ _) (by simp) (by
  have h4 := shB_len 1 1 0
  simp only [total, List.map_cons, List.map_nil, List.sum_cons, List.sum_nil]
  omega)
 rw [sh_bad] at lb
 have an := anew_fn [shE 2] (by simp)
 rw [sh_anew] at an
 have by_ := mBytes_fn [shE 1] (by simp) (fun e he => by rw [List.mem_singleton] at he; subst he; exact shE_ok 1 ⟨by decide, by decide⟩)
 have hby : (catE (headE ([shE 1] : List zV).length :: [shE 1])).length = 62 := sh_bytes
 have ar := arcs_fn [shE 2] (by simp) (fun e he => by rw [List.mem_singleton] at he; subst he; exact shE_ok 2 ⟨by decide, by decide⟩)
 have l1 : ([] : List Int).length + (shB 2 1 0).length ≤ 140737488355328 := by have := shB_len 2 1 0; simp only [List.length_nil]; omega
 have l2 : ([] ++ shB 2 1 0).length + (shB 1 2 2147483648).length ≤ 140737488355328 := by have h1 := shB_len 2 1 0; have h2 := shB_len 1 2 2147483648; simp only [List.length_append, List.length_nil]; omega
 have e0 : ([] ++ shB 2 1 0) = shB 2 1 0 := rfl
 generalize catE (headE ([shE 1] : List zV).length :: [shE 1]) = Y at by_ hby
 have b1 : Fn Tryd.prog 24 [entV 3 0 0 0 0 0] (.p (.sl (byts (shB 3 0 0)))) := b1
 have b2 : Fn Tryd.prog 24 [entV 1 1 0 0 0 0] (.p (.sl (byts (shB 1 1 0)))) := b2
 have b3 : Fn Tryd.prog 24 [entV 1 2 2147483648 0 0 0] (.p (.sl (byts (shB 1 2 2147483648)))) := b3
 have b4 : Fn Tryd.prog 24 [entV 2 1 0 0 0 0] (.p (.sl (byts (shB 2 1 0)))) := b4
 generalize shB 3 0 0 = B1 at *
 generalize shB 1 1 0 = B2 at *
 generalize shB 1 2 2147483648 = B3 at *
 generalize shB 2 1 0 = B4 at *
 have lv : Fn Tryd.prog 12 [.sl [.sl (byts B1), .sl (byts ([] ++ B4 ++ B3)), .sl (byts B2)], .val (.int .i64 9)] (.tup [.sl [.agg [.val (.int .i64 1), .val (.int .u64 2), .val (.int .u64 2147483648), .val (.int .u64 0), .val (.int .u64 0), .val (.int .u64 0)]], .val (.int .i64 0)]) := lv
 have lb : Fn Tryd.prog 12 [.sl [.sl (byts B2)], .val (.int .i64 9)] (.tup [.sl [], .val (.int .i64 8)]) := lb
 have an : Fn Tryd.prog 16 [.sl [.agg [.val (.int .i64 1), .val (.int .u64 2), .val (.int .u64 2147483648), .val (.int .u64 0), .val (.int .u64 0), .val (.int .u64 0)]]] (.p (.sl [.agg [.val (.int .i64 1), .val (.int .u64 1), .val (.int .u64 2147483648), .val (.int .u64 0), .val (.int .u64 0), .val (.int .u64 0)]])) := an
 have by_ : Fn Tryd.prog 17 [.sl [.agg [.val (.int .i64 1), .val (.int .u64 1), .val (.int .u64 2147483648), .val (.int .u64 0), .val (.int .u64 0), .val (.int .u64 0)]]] (.p (.sl (byts Y))) := by_
 have ar : Fn Tryd.prog 18 [.sl [.agg [.val (.int .i64 1), .val (.int .u64 2), .val (.int .u64 2147483648), .val (.int .u64 0), .val (.int .u64 0), .val (.int .u64 0)]]] (.p (.sl [.agg [.val (.int .i64 1), .val (.int .i64 (-1)), .val (.int .u64 0)]])) := ar
 refine qI Tryd.func10 rfl Tryd.ntmps10 (Nat.le_of_ble_eq_true rfl) ?_
 have c1 : (Y.length : Int) = 62 := by rw [hby]; rfl
 have c2 : decide ((Y.length : Int) = 62) = true := decide_eq_true c1
 have h5 : ∀ e ∈ [(.agg [.val (.int .i64 1), .val (.int .u64 2), .val (.int .u64 2147483648), .val (.int .u64 0), .val (.int .u64 0), .val (.int .u64 0)] : PV)], e.cells.length = 6 := fun e he => by rw [List.mem_singleton] at he; subst he; rfl
 have x5 : [(.agg [.val (.int .i64 1), .val (.int .u64 2), .val (.int .u64 2147483648), .val (.int .u64 0), .val (.int .u64 0), .val (.int .u64 0)] : PV)][0]? = some (.agg [.val (.int .i64 1), .val (.int .u64 2), .val (.int .u64 2147483648), .val (.int .u64 0), .val (.int .u64 0), .val (.int .u64 0)]) := rfl
 have h6 : ∀ e ∈ [(.agg [.val (.int .i64 1), .val (.int .u64 1), .val (.int .u64 2147483648), .val (.int .u64 0), .val (.int .u64 0), .val (.int .u64 0)] : PV)], e.cells.length = 6 := fun e he => by rw [List.mem_singleton] at he; subst he; rfl
 have x6 : [(.agg [.val (.int .i64 1), .val (.int .u64 1), .val (.int .u64 2147483648), .val (.int .u64 0), .val (.int .u64 0), .val (.int .u64 0)] : PV)][0]? = some (.agg [.val (.int .i64 1), .val (.int .u64 1), .val (.int .u64 2147483648), .val (.int .u64 0), .val (.int .u64 0), .val (.int .u64 0)]) := rfl
 have h7 : ∀ e ∈ [(.agg [.val (.int .i64 1), .val (.int .i64 (-1)), .val (.int .u64 0)] : PV)], e.cells.length = 3 := fun e he => by rw [List.mem_singleton] at he; subst he; rfl
 have x7 : [(.agg [.val (.int .i64 1), .val (.int .i64 (-1)), .val (.int .u64 0)] : PV)][0]? = some (.agg [.val (.int .i64 1), .val (.int .i64 (-1)), .val (.int .u64 0)]) := rfl
 repeat' (first | refine zZ.sub (wR (d := 26) rfl rfl) ?_ | (refine zZ.is ?_; first | refine zZ.nil ?_ | refine zZ.v rfl rfl (by first | exact wN rfl rfl rfl (by decide) | exact zC rfl rfl rfl rfl (by decide) | exact zQ rfl rfl rfl (by decide) | exact yG rfl rfl rfl (by decide) | exact y9 (lv) rfl rfl rfl (by decide) | exact wO rfl (by decide) (by decide) (by decide) (by decide) (by rfl) (by rfl) (by rfl) (by rfl) (by rfl) (by rfl) (by rfl) rfl (by decide)) ?_ | refine zZ.m rfl rfl (wC rfl rfl (by decide)) ?_ | refine zZ.w rfl (by exact kZ rfl rfl rfl rfl (by first | exact l1 | exact l2) rfl rfl (by decide)) ?_) | (refine zY.is ?_; first | refine zY.seq ?_ | (refine zY.isR (id := 0) ?_; refine zY.zK [] [22, 28, 34] (by repeat' exact zX.nil) (by repeat' first | exact zW.nil | apply zW.skip) ?_; refine zZ.va rfl rfl rfl rfl (by decide) ?_; refine zZ.nil ?_) | (refine zY.iq 1 ?_; refine zY.rqa _ K_5 K_10 ?_; refine zZ.v rfl rfl (vV rfl (by rfl) (by rfl) (by rfl) (by rfl) rfl (by decide)) ?_; refine zZ.v rfl rfl (by exact yE (b1) rfl rfl rfl (by decide)) ?_; refine zZ.va rfl rfl rfl rfl (by decide) ?_; refine zZ.nil ?_) | (refine zY.iq 2 ?_; refine zY.rqa _ K_h K_10 ?_; refine zZ.v rfl rfl (vV rfl (by rfl) (by rfl) (by rfl) (by rfl) rfl (by decide)) ?_; refine zZ.v rfl rfl (by exact yE (b2) rfl rfl rfl (by decide)) ?_; refine zZ.va rfl rfl rfl rfl (by decide) ?_; refine zZ.nil ?_) | (refine zY.iq 3 ?_; refine zY.rqa _ K_1l K_10 ?_; refine zZ.v rfl rfl (vV rfl (by rfl) (by rfl) (by rfl) (by rfl) rfl (by decide)) ?_; refine zZ.v rfl rfl (by exact yE (b3) rfl rfl rfl (by decide)) ?_; refine zZ.va rfl rfl rfl rfl (by decide) ?_; refine zZ.nil ?_) | (refine zY.iq 4 ?_; refine zY.rqa _ K_3v K_10 ?_; refine zZ.v rfl rfl (vV rfl (by rfl) (by rfl) (by rfl) (by rfl) rfl (by decide)) ?_; refine zZ.v rfl rfl (by exact yE (b4) rfl rfl rfl (by decide)) ?_; refine zZ.va rfl rfl rfl rfl (by decide) ?_; refine zZ.nil ?_) | (refine zY.iq 5 ?_; refine zY.rqa _ K_3w K_10 ?_) | (refine zY.iq 6 ?_; refine zY.rqa _ K_3x K_10 ?_; refine zZ.vm rfl rfl rfl rfl (by decide) ?_; refine zZ.v rfl rfl (wO rfl (by decide) (by decide) (by decide) (by decide) (by rfl) (by rfl) (by rfl) (by rfl) (by rfl) (by rfl) (by rfl) rfl (by decide)) ?_; refine zZ.v rfl rfl (by exact y9 (lb) rfl rfl rfl (by decide)) ?_; refine zZ.v rfl rfl (yG rfl rfl rfl (by decide)) ?_; refine zZ.v rfl rfl (zC rfl rfl rfl rfl (by decide)) ?_; refine zZ.v rfl rfl (zC rfl rfl rfl rfl (by decide)) ?_; refine zZ.va rfl rfl rfl rfl (by decide) ?_; refine zZ.va rfl rfl rfl rfl (by decide) ?_; refine zZ.nil ?_) | (refine zY.iq 7 ?_; refine zY.rqa _ K_3y K_10 ?_; refine zZ.vm rfl rfl rfl rfl (by decide) ?_; refine zZ.v rfl rfl (by exact yE (an) rfl rfl rfl (by decide)) ?_; refine zZ.va rfl rfl rfl rfl (by decide) ?_; refine zZ.nil ?_) | (refine zY.iq 8 ?_; refine zY.rqa _ K_3z K_10 ?_; refine zZ.vm rfl rfl rfl rfl (by decide) ?_; refine zZ.v rfl rfl (by exact yE (by_) rfl rfl rfl (by decide)) ?_; refine zZ.va rfl rfl rfl rfl (by decide) ?_; refine zZ.nil ?_) | (refine zY.iq 9 ?_; refine zY.rqa _ K_40 K_10 ?_; refine zZ.vm rfl rfl rfl rfl (by decide) ?_; refine zZ.v rfl rfl (by exact yE (ar) rfl rfl rfl (by decide)) ?_; refine zZ.va rfl rfl rfl rfl (by decide) ?_; refine zZ.nil ?_) | (refine zY.iq 10 ?_; refine zY.rqa _ K_36 K_10 ?_; all_goals (refine zZ.vm rfl rfl rfl rfl (by decide) ?_); all_goals (refine zZ.v rfl rfl (yL rfl rfl rfl (by decide)) ?_); all_goals (refine zZ.v rfl rfl (by exact vJ rfl rfl rfl (by exact bF (by decide)) rfl (by decide)) ?_); all_goals (refine zZ.vm rfl rfl rfl rfl (by decide) ?_); all_goals (refine zZ.gY rfl rfl (by decide) rfl (by rfl) rfl (by decide) (zQ rfl rfl rfl (by decide)) ?_); all_goals (refine zZ.gY rfl rfl (by decide) rfl (by rfl) rfl (by decide) (yL rfl rfl rfl (by decide)) ?_); all_goals (refine zZ.gY rfl rfl (by decide) rfl (by rfl) rfl (by decide) (by exact vJ rfl rfl rfl (by exact bF (by decide)) rfl (by decide)) ?_); all_goals (refine zZ.v rfl rfl (zM rfl rfl (by rfl) rfl rfl (by decide)) ?_); all_goals (refine zZ.vm rfl rfl rfl rfl (by decide) ?_); all_goals (refine zZ.gY rfl rfl (by decide) rfl (by rfl) rfl (by decide) (zQ rfl rfl rfl (by decide)) ?_); all_goals (refine zZ.gY rfl rfl (by decide) rfl (by rfl) rfl (by decide) (yL rfl rfl rfl (by decide)) ?_); all_goals (refine zZ.gY rfl rfl (by decide) rfl (by rfl) rfl (by decide) (by exact vJ rfl rfl rfl (by exact bF (by decide)) rfl (by decide)) ?_); all_goals (refine zZ.v rfl rfl (zM rfl rfl (by rfl) rfl rfl (by decide)) ?_); all_goals (refine zZ.nil ?_)) | (refine zY.iq 12 ?_; refine zY.rqa _ K_36 K_10 ?_; all_goals (refine zZ.vm rfl rfl rfl rfl (by decide) ?_); all_goals (refine zZ.v rfl rfl (by exact yM rfl rfl rfl (by exact bT (by decide)) rfl (by decide)) ?_); all_goals (refine zZ.vm rfl rfl rfl rfl (by decide) ?_); all_goals (refine zZ.gY rfl rfl (by decide) rfl (by rfl) rfl (by decide) (zQ rfl rfl rfl (by decide)) ?_); all_goals (refine zZ.gY rfl rfl (by decide) rfl (by rfl) rfl (by decide) (yY rfl rfl rfl h5 x5 rfl (by decide)) ?_); all_goals (refine zZ.gY rfl rfl (by decide) rfl (by rfl) rfl (by decide) (wY rfl rfl rfl (by decide)) ?_); all_goals (refine zZ.gY rfl rfl (by decide) rfl (by rfl) rfl (by decide) (zP rfl rfl rfl rfl (by decide)) ?_); all_goals (refine zZ.gY rfl rfl (by decide) rfl (by rfl) rfl (by decide) (by exact yM rfl rfl rfl (by exact bT (by decide)) rfl (by decide)) ?_); all_goals (refine zZ.v rfl rfl (zR rfl rfl (by rfl) rfl rfl (by decide)) ?_); all_goals (refine zZ.vm rfl rfl rfl rfl (by decide) ?_); all_goals (refine zZ.gY rfl rfl (by decide) rfl (by rfl) rfl (by decide) (zQ rfl rfl rfl (by decide)) ?_); all_goals (refine zZ.gY rfl rfl (by decide) rfl (by rfl) rfl (by decide) (by exact yM rfl rfl rfl (by exact bT (by decide)) rfl (by decide)) ?_); all_goals (refine zZ.v rfl rfl (zR rfl rfl (by rfl) rfl rfl (by decide)) ?_); all_goals (refine zZ.vm rfl rfl rfl rfl (by decide) ?_); all_goals (refine zZ.gY rfl rfl (by decide) rfl (by rfl) rfl (by decide) (zQ rfl rfl rfl (by decide)) ?_); all_goals (refine zZ.gY rfl rfl (by decide) rfl (by rfl) rfl (by decide) (yY rfl rfl rfl h6 x6 rfl (by decide)) ?_); all_goals (refine zZ.gY rfl rfl (by decide) rfl (by rfl) rfl (by decide) (wY rfl rfl rfl (by decide)) ?_); all_goals (refine zZ.gY rfl rfl (by decide) rfl (by rfl) rfl (by decide) (zP rfl rfl rfl rfl (by decide)) ?_); all_goals (refine zZ.gY rfl rfl (by decide) rfl (by rfl) rfl (by decide) (by exact yM rfl rfl rfl (by exact bT (by decide)) rfl (by decide)) ?_); all_goals (refine zZ.v rfl rfl (zR rfl rfl (by rfl) rfl rfl (by decide)) ?_); all_goals (refine zZ.vm rfl rfl rfl rfl (by decide) ?_); all_goals (refine zZ.gY rfl rfl (by decide) rfl (by rfl) rfl (by decide) (zQ rfl rfl rfl (by decide)) ?_); all_goals (refine zZ.gY rfl rfl (by decide) rfl (by rfl) rfl (by decide) (xH rfl rfl rfl (by decide)) ?_); all_goals (refine zZ.gY rfl rfl (by decide) rfl (by rfl) rfl (by decide) (yM rfl rfl rfl c2 rfl (by decide)) ?_); all_goals (refine zZ.v rfl rfl (zR rfl rfl (by rfl) rfl rfl (by decide)) ?_); all_goals (refine zZ.vm rfl rfl rfl rfl (by decide) ?_); all_goals (refine zZ.gY rfl rfl (by decide) rfl (by rfl) rfl (by decide) (zQ rfl rfl rfl (by decide)) ?_); all_goals (refine zZ.gY rfl rfl (by decide) rfl (by rfl) rfl (by decide) (yY rfl rfl rfl h7 x7 rfl (by decide)) ?_); all_goals (refine zZ.gY rfl rfl (by decide) rfl (by rfl) rfl (by decide) (by exact vW rfl rfl (by exact Nat.le_of_ble_eq_true rfl) rfl (by decide)) ?_); all_goals (refine zZ.gY rfl rfl (by decide) rfl (by rfl) rfl (by decide) (vV rfl (by rfl) (by rfl) (by rfl) (by rfl) rfl (by decide)) ?_); all_goals (refine zZ.gY rfl rfl (by decide) rfl (by rfl) rfl (by decide) (by exact r_eqlT rfl rfl rfl rfl rfl rfl (by rfl) (by exact bT (by decide)) rfl (by decide)) ?_); all_goals (refine zZ.v rfl rfl (zR rfl rfl (by rfl) rfl rfl (by decide)) ?_); all_goals (refine zZ.va rfl rfl rfl rfl (by decide) ?_); all_goals (refine zZ.nil ?_)) | refine zY.yF rfl (by rfl) ?_ | refine zY.skip ?_ | refine zY.ret ?_) | refine zH.n ?_)
 all_goals exact ⟨.inl rfl, gives1 rfl rfl rfl⟩
end Go.Proofs.YtomlhekjgagjaaaDoor
namespace Go.Proofs.YtomlhekjgagjaaaDoor
set_option maxRecDepth 100000
set_option maxHeartbeats 16000000
open Go Go.RowKit
attribute [local irreducible] zZ zY Step zA Sub zL z8 Fn
def vT : List zV → Int → Bool
  | [], _ => false
  | e :: r, j => (decide (e.k = 2) && decide (e.s = j)) || vT r j
def vfind : List zV → Int → Int → Bool
  | [], _, _ => false
  | e :: r, j, w => (decide (e.k = 1) && decide (e.s = j) && decide (e.y = w)) || vfind r j w
def vertR (L : List zV) (j u : Int) : Bool := !vT L j && vfind L j (vkey u)
def kX (L : List zV) (e : zV) : Bool := decide (e.k = 1) && !vT L e.s && (decide (e.y % 2147483648 - 1 < 0) || (vertR L e.u (e.y / 2147483648) && vertR L e.v (e.y % 2147483648 - 1)))
def drS (L : List zV) (j : Int) (i : Nat) : AS := { t := [(0, .p (.sl (L.map zV.V))), (1, .p (.val (.int .u64 j))), (5, .p (.val (.int .i64 (i : Nat))))], s := [] }
def vrS (L : List zV) (j w : Int) (i : Nat) : AS := { t := [(0, .p (.sl (L.map zV.V))), (1, .p (.val (.int .u64 j))), (7, .p (.val (.int .u64 w))), (9, .p (.val (.int .i64 (i : Nat))))], s := [] }
end Go.Proofs.YtomlhekjgagjaaaDoor
namespace Go.Proofs.YtomlhekjgagjaaaDoor
set_option maxRecDepth 100000
set_option maxHeartbeats 16000000
open Go Go.RowKit
def rowsR (i : Nat) : Nat → Int → List (List Int) → Option (List zV × Int)
  | _, left, [] => some ([], left)
  | k, left, b :: r => match decE b with
    | none => none
    | some e =>
      bif (decide (e.k = 3) != (decide ((i : Int) = 0) && decide ((k : Int) = 0))) then none
      else bif decide (e.k = 3) then rowsR i (k + 1) e.s r
      else bif decide (left > 0) then (bif decide (e.k = 1) then (rowsR i (k + 1) (left - 1) r).map (fun q => (e :: q.1, q.2)) else none)
      else (rowsR i (k + 1) left r).map (fun q => (e :: q.1, q.2))
def allL : Nat → List (List Int) → Option (List zV)
  | _, [] => some []
  | i, s :: r => match rowsR i 0 0 (rowsOf s) with
    | none => none
    | some (l, left) => bif decide (left > 0) || (decide ((i : Int) = 0) && decide (((rowsOf s).length : Int) = 0)) then none else (allL (i + 1) r).map (l ++ ·)
def allR (ss : List (List Int)) : Option (List zV) := if ss.length = 0 then none else allL 0 ss
theorem rowsR_cons (i k : Nat) (left : Int) (b : List Int) (r : List (List Int)) : rowsR i k left (b :: r) = match decE b with
    | none => none
    | some e =>
      bif (decide (e.k = 3) != (decide ((i : Int) = 0) && decide ((k : Int) = 0))) then none
      else bif decide (e.k = 3) then rowsR i (k + 1) e.s r
      else bif decide (left > 0) then (bif decide (e.k = 1) then (rowsR i (k + 1) (left - 1) r).map (fun q => (e :: q.1, q.2)) else none)
      else (rowsR i (k + 1) left r).map (fun q => (e :: q.1, q.2)) := by rw [rowsR]
theorem allL_cons (i : Nat) (s : List Int) (r : List (List Int)) : allL i (s :: r) = match rowsR i 0 0 (rowsOf s) with
    | none => none
    | some (l, left) => bif decide (left > 0) || (decide ((i : Int) = 0) && decide (((rowsOf s).length : Int) = 0)) then none else (allL (i + 1) r).map (l ++ ·) := by rw [allL]
def hadP : List zV → zV → Bool
  | [], _ => false
  | x :: r, e => (decide (e.k = 1) && decide (x.k = 1) && decide (x.s = e.s)) || hadP r e
def qH : List zV → zV → Bool
  | [], _ => false
  | x :: r, e => (decide (e.k = 1) && decide (x.k = 1) && decide (x.s = e.s) && !decide (x = e)) || qH r e
def refGo (l : List zV) : List zV → List zV → List zV → Option (List zV)
  | _, [], out => some out
  | P, e :: r, out => if qH P e then none else refGo l (P ++ [e]) r (if kX l e && !hadP P e then insY e out else out)
def twiceY : List zV → Bool
  | a :: b :: r => decide (b.y = a.y) || twiceY (b :: r)
  | _ => false
def refL (ss : List (List Int)) (c : Int) : List zV × Int := match allR ss with
  | none => ([], 8)
  | some l => match refGo l [] l [] with
    | none => ([], 8)
    | some out => if twiceY out || decide ((out.length : Int) > c) then ([], 8) else (out, 0)
end Go.Proofs.YtomlhekjgagjaaaDoor
