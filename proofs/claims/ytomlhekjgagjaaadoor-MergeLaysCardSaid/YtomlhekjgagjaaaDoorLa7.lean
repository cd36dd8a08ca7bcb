/- For every input MergeLays returns true, and leaves its arguments as they were. Conditions: none beyond the given statement. (Part 7 of 9.) -/
import Derived.Test.YtomlhekjgagjaaaDoorLa6
namespace Go.Proofs.YtomlhekjgagjaaaDoor
set_option maxRecDepth 100000
set_option maxHeartbeats 16000000
open Go Go.RowKit
attribute [local irreducible] zY zZ Step zA Sub zN yY Fn
theorem live_bad_fn (ss : List (List Int)) (c : Int) (hb : ∀ s ∈ ss, xP s) (hn : ss.length ≤ 1000000) (ht : total ss ≤ 1000000) (hg : (xU ss).bad = true) : Fn Tryd.prog 12 [qY ss, .val (.int .i64 c)] (.tup [.sl [], .val (.int .i64 8)]) := by
  have p1 := gather_fn ss hb hn ht
  generalize xU ss = g at *
  obtain ⟨gb, gd, gx⟩ := g
  simp only at hg
  subst hg
  refine wJ Tryd.func12 rfl Tryd.ntmps12 (Nat.le_of_ble_eq_true rfl) ?_
  unfold gB at p1
  repeat' (first | (refine zZ.is ?_; first | refine zZ.seq ?_ | (refine zZ.iq 0 ?_; refine zZ.rqa _ K_h K_1h ?_; refine zY.va rfl rfl rfl rfl (by decide) ?_; refine zY.va rfl rfl rfl rfl (by decide) ?_; refine zY.nil ?_) | (refine zZ.iq 1 ?_; refine zZ.rqa _ K_34 K_1h ?_; refine zY.vm rfl rfl rfl rfl (by decide) ?_; refine zY.ofT rfl (yY.z [] [] [16, 10, 11] (p1) rfl (by decide) (yR rfl) (by rfl) (zG (by decide) rfl (by repeat' exact trivial)) rfl rfl rfl (by decide) rfl rfl (by decide) rfl rfl rfl ?_); refine zY.v rfl rfl (a_assignR rfl rfl rfl (by decide)) ?_; refine zY.nil ?_) | (refine zZ.iq 2 ?_; refine zZ.rqf _ K_1n K_1h ?_; refine zY.v rfl rfl (zS rfl rfl rfl (by decide)) ?_; refine zY.v rfl rfl (yE rfl rfl rfl (by decide)) ?_; refine zY.v rfl rfl (zJ rfl rfl rfl (by decide)) ?_; refine zY.v rfl rfl (zC rfl rfl rfl rfl rfl (by decide)) ?_; refine zY.nil ?_) | (refine zZ.iq 3 ?_; refine zZ.rqf _ K_1n K_1h ?_; refine zY.va rfl rfl rfl rfl (by decide) ?_; refine zY.va rfl rfl rfl rfl (by decide) ?_; refine zY.nil ?_) | refine zZ.yV rfl (by rfl) ?_ | refine zZ.ret ?_) | refine zF.r ?_)
  all_goals exact ⟨.inl rfl, _, qK (d := 4) rfl, xC.tupE (rs := [.tmp 4, .tmp 5]) rfl (by decide) (.cons (.tmp rfl) (.cons (.tmp rfl) .nil)) rfl⟩
theorem bLenO_fn (L : List zQ) : FnZ Tryd.prog 31 [.own 1001] [.box 67 [.own 1001]] [hpR L] (.p (.val (.int .i64 ((L.map zQ.V).length : Nat)))) [.box 67 [.own 1001]] [hpR L] := by
 refine vC [1000, 1001] Tryd.func31 rfl Tryd.ntmps31 (Nat.le_of_ble_eq_true rfl) (Nat.le_of_ble_eq_true rfl) rfl rfl ?_
 unfold hpR
 repeat' ((refine zZ.is ?_; first | refine zZ.seq ?_ | (refine zZ.isR (id := 0) ?_; refine zZ.zV [0] [1000, 1001] (by repeat' first | exact zX.nil | apply zX.own rfl) (by repeat' first | exact zW.nil | apply zW.some rfl) ?_; refine zY.va rfl rfl rfl rfl (by decide) ?_; refine zY.nil ?_) | (refine zZ.isR (id := 1) ?_; refine zZ.zV [0, 2] [1000, 1001] (by repeat' first | exact zX.nil | apply zX.p rfl | apply zX.own rfl) (by repeat' first | exact zW.nil | apply zW.some rfl) ?_; refine zY.v rfl rfl (yA rfl rfl rfl (by decide)) ?_; refine zY.v rfl rfl (w_lenV rfl rfl rfl rfl (by decide)) ?_; refine zY.va rfl rfl rfl rfl (by decide) ?_; refine zY.nil ?_) | refine zZ.ret ?_))
 all_goals exact ⟨(by exact .inl rfl), _, Sub.refl _, .one rfl rfl, zG (by decide) rfl (by repeat' first | exact trivial | rfl | constructor)⟩
def rgS (g : GD) (c : Int) (m clock : Nat) (es : Array MapEntry) (p : List Nat × List zQ) : AS := { t := [(1, .p (.val (.int .i64 c))), (6, .ptr 16 0), (7, .ptr 20 0), (25, .own 25)], s := [(16, .box 65 [.own 10, .own 11, .p (.val (.bool g.bad))]), (10, mapAt m es clock), (11, mapB (wO g.dead)), (20, .box 67 [.own 19]), (19, hpR p.2), (25, iterB m clock p.1)] }
def lvS (c : Int) (p : List zQ × List zQ) : AS := { t := [(1, .p (.val (.int .i64 c))), (7, .ptr 20 0), (10, .own 42)], s := [(20, .box 67 [.own 19]), (19, hpR p.1), (42, xD 46 6 (p.2.map zQ.V))] }
theorem live_good_fn (ss : List (List Int)) (c : Int) (hb : ∀ s ∈ ss, xP s) (hn : ss.length ≤ 1000000) (ht : total ss ≤ 1000000) (hg : (xU ss).bad = false) (hk : (xU ss).born.length ≤ 100000) (hok : ∀ e ∈ (xU ss).born, e.ok) : Fn Tryd.prog 12 [qY ss, .val (.int .i64 c)] (.tup [.sl ((qO (xU ss).lives c).1.map zQ.V), .val (.int .i64 (qO (xU ss).lives c).2)]) := by
 have p1 := gather_fn ss hb hn ht
 generalize xU ss = g at *
 obtain ⟨gb, gd, gx⟩ := g
 simp only at hg hk hok
 subst hg
 refine wJ Tryd.func12 rfl Tryd.ntmps12 (Nat.le_of_ble_eq_true rfl) ?_
 unfold gB at p1
 repeat' (first | refine zZ.hold (id := 5) ?_ | (refine zZ.is ?_; first | refine zZ.seq ?_ | (refine zZ.iq 0 ?_; refine zZ.rqa _ K_h K_1h ?_; refine zY.va rfl rfl rfl rfl (by decide) ?_; refine zY.va rfl rfl rfl rfl (by decide) ?_; refine zY.nil ?_) | (refine zZ.iq 1 ?_; refine zZ.rqa _ K_34 K_1h ?_; refine zY.vm rfl rfl rfl rfl (by decide) ?_; refine zY.ofT rfl (yY.z [] [] [16, 10, 11] (p1) rfl (by decide) (yR rfl) (by rfl) (zG (by decide) rfl (by repeat' exact trivial)) rfl rfl rfl (by decide) rfl rfl (by decide) rfl rfl rfl ?_); refine zY.v rfl rfl (a_assignR rfl rfl rfl (by decide)) ?_; refine zY.nil ?_) | (refine zZ.iq 2 ?_; refine zZ.rqf _ K_1n K_1h ?_; refine zY.v rfl rfl (zS rfl rfl rfl (by decide)) ?_; refine zY.v rfl rfl (yE rfl rfl rfl (by decide)) ?_; refine zY.v rfl rfl (zJ rfl rfl rfl (by decide)) ?_; refine zY.v rfl rfl (zC rfl rfl rfl rfl rfl (by decide)) ?_; refine zY.nil ?_) | (refine zZ.iq 4 ?_; refine zZ.rqf _ K_1n K_1h ?_; refine zY.m rfl rfl (w_build0V rfl rfl (by decide)) ?_; refine zY.m rfl rfl (w_boxOwn rfl rfl rfl rfl rfl (by decide)) ?_; refine zY.v rfl rfl (a_assignR rfl rfl rfl (by decide)) ?_; refine zY.nil ?_) | refine zZ.yX rfl (by rfl) ?_ | refine zZ.skip ?_))
 refine Hold.go ?_
 refine zZ.num (id := 10) rfl ?_
 rintro m o ⟨es, clock, rfl, hq⟩
 obtain ⟨f, hf1, hf2⟩ := map_ents es.toList gb hq.is hq.nodup
 repeat' ((refine zZ.is ?_; first | refine zZ.seq ?_ | (refine zZ.iq 5 ?_; refine zZ.rqf _ K_22 K_1i ?_; refine zY.v rfl rfl (zS rfl rfl rfl (by decide)) ?_; refine zY.v rfl rfl (yE rfl rfl rfl (by decide)) ?_; refine zY.v rfl rfl (zJ rfl rfl rfl (by decide)) ?_; refine zY.v rfl rfl (yT rfl rfl rfl rfl rfl (by decide)) ?_; refine zY.m rfl rfl (w_range rfl rfl rfl rfl (by decide)) ?_; refine zY.nil ?_) | refine zZ.block ?_))
 have hborn : (es.toList.map (·.born)).length = gb.length := by rw [← hf1, List.length_map, List.length_map]
 refine zZ.loop (rgS ⟨gb, gd, false⟩ c m clock es) (fun p => Along ⟨gb, gd, false⟩ (es.toList.map (·.born)) f p.1 p.2) (fun p => gb.length - p.1.length) ([], []) ?h0 (.start _ _ _) ?rd
 case h0 =>
  unfold rgS hpR
  exact zB K_2g K_2h
 case rd =>
  rintro ⟨sn, H⟩ ha
  simp only at ha
  have hlen := ha.few hq.nodup
  have hHl := ha.len
  rw [hborn] at hlen
  unfold rgS
  repeat' (first | refine zY.ofT rfl (yY.next (id := 10) rfl rfl rfl rfl hq.old rfl (by decide) (fun hall => Hold.out ?nx0) (fun e he hne => Hold.out ?nx1)) | (refine zZ.is ?_; first | refine zZ.seq ?_ | (refine zZ.iq 6 ?_; refine zZ.rql _ K_1r K_1i ?_)))
  case nx1 =>
   refine Hold.go ?_
   have k1 : (PV.val (.int .u64 (f e.born).s)).plain = true := rfl
   have v1 : (f e.born).V.plain = true := rfl
   have k2 : e.key = (PV.val (.int .u64 (f e.born).s)).vv := (hf2 e he).1
   have v2 : e.val = (f e.born).V.vv := (hf2 e he).2
   have hin : f e.born ∈ gb := by rw [← hf1]; exact List.mem_map.2 ⟨e, he, rfl⟩
   have hmem : e.born ∈ es.toList.map (·.born) := List.mem_map.2 ⟨e, he, rfl⟩
   have lv := live_fn ⟨gb, gd, false⟩ (fun g' o' => g' = m ∧ o' = .map es clock) (fun g o h => by rw [h.2]; exact ⟨es, clock, rfl, hq⟩) (f e.born) (hok _ hin)
   have pu := hpush_fn H (f e.born) (by omega)
   unfold gBq at lv
   generalize hd : f e.born = d at *
   cases hl : GD.live ⟨gb, gd, false⟩ d
   ·rw [hl] at lv
    obtain ⟨dk, ds, dy, du, dv, dx⟩ := d
    repeat' (first | refine zY.v rfl rfl (w_entry (id := 10) rfl rfl rfl rfl he hq.nodup k1 v1 k2 v2 rfl (by decide)) ?_ | (refine zY.is ?_; first | refine zY.nil ?_ | refine zY.v rfl rfl (zD rfl rfl rfl rfl (by decide)) ?_ | refine zY.m rfl rfl (yN rfl (by decide) rfl (by decide)) ?_ | refine zY.w rfl (by exact yZ rfl rfl rfl rfl rfl (by rfl) (by exact Nat.le_of_ble_eq_true rfl) rfl rfl) ?_) | (refine zZ.is ?_; first | refine zZ.seq ?_ | (refine zZ.iq 7 ?_; refine zZ.rql _ K_1r K_1i ?_) | (refine zZ.iq 8 ?_; refine zZ.rqb _ K_1r K_1i ?_; refine zY.v rfl rfl (zS rfl rfl rfl (by decide)) ?_; refine zY.v rfl rfl (yL rfl rfl rfl (by rfl) (by rfl) rfl (by decide)) ?_; refine zY.ofT rfl (yY.z [16, 10, 11] [] [] (lv) rfl (by decide) (yR rfl) (by rfl) (zG (by decide) rfl (by repeat' first | exact trivial | rfl | constructor)) rfl rfl rfl (by decide) rfl rfl (by decide) rfl rfl rfl ?_); refine zY.nil ?_) | refine zZ.yV rfl (by assumption) ?_ | refine zZ.yX rfl (by first | assumption | with_reducible rfl) ?_ | refine zZ.skip ?_ | refine zZ.block ?_) | refine zF.n ?_ | refine zM.n ?_)
    all_goals
     have ha' := ha.skip hmem hne (by rw [hd]; exact hl)
     have hlen' := ha'.few hq.nodup
     rw [hborn, List.length_append] at hlen'
     refine ⟨(sn ++ [e.born], H), ?_, ha', by show gb.length - (sn ++ [e.born]).length < gb.length - sn.length; rw [List.length_append]; simp only [List.length_cons, List.length_nil] at hlen' ⊢; omega⟩
     dsimp only
     exact zB K_2g K_2h
   ·rw [hl] at lv
    obtain ⟨dk, ds, dy, du, dv, dx⟩ := d
    repeat' (first | refine zY.v rfl rfl (w_entry (id := 10) rfl rfl rfl rfl he hq.nodup k1 v1 k2 v2 rfl (by decide)) ?_ | (refine zY.is ?_; first | refine zY.nil ?_ | refine zY.v rfl rfl (zD rfl rfl rfl rfl (by decide)) ?_ | refine zY.m rfl rfl (yN rfl (by decide) rfl (by decide)) ?_ | refine zY.w rfl (by exact yZ rfl rfl rfl rfl rfl (by rfl) (by exact Nat.le_of_ble_eq_true rfl) rfl rfl) ?_) | (refine zZ.is ?_; first | refine zZ.seq ?_ | (refine zZ.iq 7 ?_; refine zZ.rql _ K_1r K_1i ?_) | (refine zZ.iq 8 ?_; refine zZ.rqb _ K_1r K_1i ?_; refine zY.v rfl rfl (zS rfl rfl rfl (by decide)) ?_; refine zY.v rfl rfl (yL rfl rfl rfl (by rfl) (by rfl) rfl (by decide)) ?_; refine zY.ofT rfl (yY.z [16, 10, 11] [] [] (lv) rfl (by decide) (yR rfl) (by rfl) (zG (by decide) rfl (by repeat' first | exact trivial | rfl | constructor)) rfl rfl rfl (by decide) rfl rfl (by decide) rfl rfl rfl ?_); refine zY.nil ?_) | (refine zZ.iq 9 ?_; refine zZ.rqb _ K_1r K_1i ?_; refine zY.v rfl rfl (zS rfl rfl rfl (by decide)) ?_; refine zY.v rfl rfl (by exact w_ifp (by kernel_rfl) rfl rfl rfl (by decide)) ?_; refine zY.v rfl rfl (yL rfl rfl rfl (by rfl) (by rfl) rfl (by decide)) ?_; refine zY.v rfl rfl (by exact w_iface (by kernel_rfl) rfl rfl rfl (by decide)) ?_; refine zY.ofT rfl (yY.z [20] [19] [19] (pu) rfl (by decide) (yR rfl) (by rfl) (zG (by decide) rfl (by repeat' first | exact trivial | rfl | constructor)) rfl rfl rfl (by decide) rfl rfl (by decide) rfl rfl rfl ?_); refine zY.nil ?_) | refine zZ.yV rfl (by assumption) ?_ | refine zZ.skip ?_ | refine zZ.block ?_) | refine zF.n ?_ | refine zM.n ?_)
    all_goals
     have ha' := ha.push hmem hne (by rw [hd]; exact hl)
     have hlen' := ha'.few hq.nodup
     rw [hborn, List.length_append] at hlen'
     refine ⟨(sn ++ [e.born], pushL H (f e.born)), ?_, ha', by show gb.length - (sn ++ [e.born]).length < gb.length - sn.length; rw [List.length_append]; simp only [List.length_cons, List.length_nil] at hlen' ⊢; omega⟩
     rw [hd]
     dsimp only
     exact zB K_2g K_2h
  case nx0 =>
   refine Hold.go ?_
   have hp := ha.done hq.nodup (fun n hn => by obtain ⟨e, he, rfl⟩ := List.mem_map.1 hn; exact hall e he) (by rw [List.map_map]; exact hf1) c
   generalize GD.lives ⟨gb, gd, false⟩ = F at hp ⊢
   have hHb : H.length ≤ 100000 := by omega
   clear ha hlen hHl hall
   repeat' (first | (refine zY.is ?_; first | refine zY.nil ?_ | refine zY.v rfl rfl (zD rfl rfl rfl rfl (by decide)) ?_) | (refine zZ.is ?_; first | refine zZ.seq ?_ | (refine zZ.iq 10 ?_; refine zZ.rqi _ K_3q K_1i ?_; refine zY.va rfl rfl rfl rfl (by decide) ?_; refine zY.nil ?_) | refine zZ.yX rfl (by rfl) ?_ | refine zZ.block ?_ | refine zZ.exit ?_))
   refine zZ.loop (lvS c) (fun p => Pop F c p.1 p.2 ∧ p.1.length ≤ 100000 ∧ p.1.length + p.2.length ≤ 100000) (fun p => p.1.length) (H, []) ?q0 ⟨hp, hHb, by simpa using hHb⟩ ?qr
   case q0 =>
    refine (qB (d := 10) (id := 42) (ty := 46) (sz := 6) (by decide) rfl).trans ?_
    unfold lvS
    exact zB K_2i K_2j
   case qr =>
    clear hp hHb hborn hf1 hf2 hq hk hok p1 hb hn ht
    rintro ⟨H, out⟩ ⟨hp, hHb, hHo⟩
    simp only at hp hHb hHo
    have b1 := bLenO_fn H
    unfold lvS
    dsimp only
    cases H with
    | nil =>
     have g1 : decide ((((([] : List zQ).map zQ.V).length : Nat) : Int) > 0) = false := rfl
     rw [hp.done]
     by_cases hc : c < 0
     ·have g2 : decide (c < 0) = true := decide_eq_true hc
      rw [if_neg (by omega)]
      repeat' (first | (refine zZ.is ?_; first | refine zZ.seq ?_ | (refine zZ.iq 11 ?_; refine zZ.rql _ K_9 K_8 ?_; refine zY.v rfl rfl (zS rfl rfl rfl (by decide)) ?_; refine zY.v rfl rfl (yE rfl rfl rfl (by decide)) ?_; refine zY.v rfl rfl (yT rfl rfl rfl rfl rfl (by decide)) ?_; refine zY.ofT rfl (yY.z [20] [19] [19] (b1) rfl (by decide) (yR rfl) (by rfl) (zG (by decide) rfl (by repeat' first | exact trivial | rfl | constructor)) rfl rfl rfl (by decide) rfl rfl (by decide) rfl rfl rfl ?_); refine zY.v rfl rfl (wW rfl rfl rfl g1 rfl (by decide)) ?_; refine zY.nil ?_) | (refine zZ.iq 17 ?_; refine zZ.rqd _ K_35 K_8 ?_; refine zY.vm rfl rfl rfl rfl (by decide) ?_; refine zY.v rfl rfl (zR rfl rfl rfl g2 rfl (by decide)) ?_; refine zY.nil ?_) | (refine zZ.iq 18 ?_; refine zZ.rqw _ K_3r K_8 ?_; refine zY.va rfl rfl rfl rfl (by decide) ?_; refine zY.va rfl rfl rfl rfl (by decide) ?_; refine zY.nil ?_) | refine zZ.yV rfl (by first | assumption | with_reducible rfl) ?_ | refine zZ.yX rfl (by assumption) ?_ | refine zZ.exit ?_ | refine zZ.ret ?_) | refine zF.r ?_)
      all_goals exact ⟨.inl rfl, _, qK (d := 4) rfl, xC.tupE (rs := [.tmp 4, .tmp 5]) rfl (by decide) (.cons (.tmp rfl) (.cons (.tmp rfl) .nil)) rfl⟩
     ·have g2 : decide (c < 0) = false := decide_eq_false hc
      rw [if_pos (by omega)]
      repeat' ((refine zZ.is ?_; first | refine zZ.seq ?_ | (refine zZ.iq 11 ?_; refine zZ.rql _ K_9 K_8 ?_; refine zY.v rfl rfl (zS rfl rfl rfl (by decide)) ?_; refine zY.v rfl rfl (yE rfl rfl rfl (by decide)) ?_; refine zY.v rfl rfl (yT rfl rfl rfl rfl rfl (by decide)) ?_; refine zY.ofT rfl (yY.z [20] [19] [19] (b1) rfl (by decide) (yR rfl) (by rfl) (zG (by decide) rfl (by repeat' first | exact trivial | rfl | constructor)) rfl rfl rfl (by decide) rfl rfl (by decide) rfl rfl rfl ?_); refine zY.v rfl rfl (wW rfl rfl rfl g1 rfl (by decide)) ?_; refine zY.nil ?_) | (refine zZ.iq 17 ?_; refine zZ.rqd _ K_35 K_8 ?_; refine zY.vm rfl rfl rfl rfl (by decide) ?_; refine zY.v rfl rfl (zR rfl rfl rfl g2 rfl (by decide)) ?_; refine zY.nil ?_) | (refine zZ.isR (id := 19) ?_; refine zZ.sub ((sub_frzE 42 46 6 (out.map zQ.V) rfl)) ?_; refine zZ.zV [4, 5, 10] [4, 9, 10, 11, 19, 20, 42, 69] (by repeat' first | exact zX.nil | apply zX.p rfl | apply zX.skip) (by repeat' first | exact zW.nil | apply zW.some rfl | apply zW.skip) ?_; refine zY.vm rfl rfl rfl rfl (by decide) ?_; refine zY.va rfl rfl rfl rfl (by decide) ?_; refine zY.va rfl rfl rfl rfl (by decide) ?_; refine zY.nil ?_) | refine zZ.yX rfl (by assumption) ?_ | refine zZ.skip ?_ | refine zZ.exit ?_ | refine zZ.ret ?_))
      all_goals exact ⟨.inl rfl, _, Sub.refl _, xC.tupE (rs := [.tmp 4, .tmp 5]) rfl (by decide) (.cons (.tmp rfl) (.cons (.tmp rfl) .nil)) rfl⟩
    | cons e H' =>
     have g1 : decide (((((e :: H').map zQ.V).length : Nat) : Int) > 0) = true := decide_eq_true (by simp)
     have po := hpop_fn (e :: H') e rfl hHb
     have hol : (out.map zQ.V).length = out.length := by rw [List.length_map]
     obtain ⟨ek, es', ey, eu, ev, ex⟩ := e
     by_cases hnc : (out.length : Int) = c
     ·have c1 : decide ((((out.map zQ.V).length : Nat) : Int) = c) = true := decide_eq_true (by rw [hol]; exact hnc)
      rw [hp.full (by simp) hnc]
      repeat' (first | (refine zZ.is ?_; first | refine zZ.seq ?_ | (refine zZ.iq 11 ?_; refine zZ.rql _ K_9 K_8 ?_; refine zY.v rfl rfl (zS rfl rfl rfl (by decide)) ?_; refine zY.v rfl rfl (yE rfl rfl rfl (by decide)) ?_; refine zY.v rfl rfl (yT rfl rfl rfl rfl rfl (by decide)) ?_; refine zY.ofT rfl (yY.z [20] [19] [19] (b1) rfl (by decide) (yR rfl) (by rfl) (zG (by decide) rfl (by repeat' first | exact trivial | rfl | constructor)) rfl rfl rfl (by decide) rfl rfl (by decide) rfl rfl rfl ?_); refine zY.v rfl rfl (wW rfl rfl rfl g1 rfl (by decide)) ?_; refine zY.nil ?_) | (refine zZ.iq 12 ?_; refine zZ.rql _ K_9 K_8 ?_; refine zY.v rfl rfl (zS rfl rfl rfl (by decide)) ?_; refine zY.v rfl rfl (by exact w_ifp (by kernel_rfl) rfl rfl rfl (by decide)) ?_; refine zY.ofT rfl (yY.z [20] [19] [19] (po) rfl (by decide) (yR rfl) (by rfl) (zG (by decide) rfl (by repeat' first | exact trivial | rfl | constructor)) rfl rfl rfl (by decide) rfl rfl (by decide) rfl rfl rfl ?_); refine zY.v rfl rfl (w_assert1 rfl rfl rfl (by decide)) ?_; refine zY.m rfl rfl (yN rfl (by decide) rfl (by decide)) ?_; refine zY.w rfl (by exact yZ rfl rfl rfl rfl rfl (by rfl) (by exact Nat.le_of_ble_eq_true rfl) rfl rfl) ?_; refine zY.nil ?_) | (refine zZ.iq 13 ?_; refine zZ.rqb _ K_9 K_8 ?_; refine zY.v rfl rfl (yA rfl rfl rfl (by decide)) ?_; refine zY.v rfl rfl (w_lenV rfl rfl rfl rfl (by decide)) ?_; refine zY.va rfl rfl rfl rfl (by decide) ?_; refine zY.nil ?_) | (refine zZ.iq 14 ?_; refine zZ.rqo _ K_9 K_8 (zZ.draws ?_); all_goals (refine Draws.v rfl rfl (zK rfl rfl rfl (by decide)) ?_); all_goals (refine Draws.v rfl rfl (zK rfl rfl rfl (by decide)) ?_); all_goals (refine Draws.v rfl rfl (yF rfl rfl rfl c1 rfl (by decide)) ?_); all_goals (refine Draws.v rfl rfl (zK rfl rfl rfl (by decide)) ?_); all_goals (refine Draws.gNF rfl rfl (by decide) rfl (by rfl) rfl (by decide) ?_); all_goals (refine Draws.gNF rfl rfl (by decide) rfl (by rfl) rfl (by decide) ?_); all_goals (refine Draws.gNF rfl rfl (by decide) rfl (by rfl) rfl (by decide) ?_); all_goals (refine Draws.gU rfl rfl (by decide) (by rfl) rfl (by decide) ?_); all_goals (refine Draws.gU rfl rfl (by decide) (by rfl) rfl (by decide) ?_); all_goals (refine Draws.gU rfl rfl (by decide) (by rfl) rfl (by decide) ?_); all_goals (refine Draws.gU rfl rfl (by decide) (by rfl) rfl (by decide) ?_); all_goals (refine Draws.gU rfl rfl (by decide) (by rfl) rfl (by decide) ?_); all_goals (refine Draws.gU rfl rfl (by decide) (by rfl) rfl (by decide) ?_); all_goals (refine Draws.gU rfl rfl (by decide) (by rfl) rfl (by decide) ?_); all_goals (refine Draws.gU rfl rfl (by decide) (by rfl) rfl (by decide) ?_); all_goals (refine Draws.gU rfl rfl (by decide) (by rfl) rfl (by decide) ?_); all_goals (refine Draws.gNF rfl rfl (by decide) rfl (by rfl) rfl (by decide) ?_); all_goals (refine Draws.v rfl rfl (zL rfl rfl (by rfl) rfl rfl (by decide)) ?_); all_goals ((refine Draws.done (by kernel_rfl) (by kernel_rfl) (by kernel_rfl) ?_; refine zN.nil ?_))) | (refine zZ.iq 15 ?_; refine zZ.rqb _ K_9 K_8 ?_; refine zY.va rfl rfl rfl rfl (by decide) ?_; refine zY.va rfl rfl rfl rfl (by decide) ?_; refine zY.nil ?_) | refine zZ.yV rfl (by first | assumption | with_reducible rfl) ?_ | refine zZ.skip ?_ | refine zZ.block ?_ | refine zZ.ret ?_) | refine zF.r ?_ | refine zM.r ?_)
      all_goals exact ⟨.inl rfl, _, qK (d := 4) rfl, xC.tupE (rs := [.tmp 4, .tmp 5]) rfl (by decide) (.cons (.tmp rfl) (.cons (.tmp rfl) .nil)) rfl⟩
     ·have c1 : decide ((((out.map zQ.V).length : Nat) : Int) = c) = false := decide_eq_false (by rw [hol]; exact hnc)
      have hpl := popL_len (⟨ek, es', ey, eu, ev, ex⟩ :: H')
      have q6 : ∀ x ∈ [(⟨ek, es', ey, eu, ev, ex⟩ : zQ).V], x.cells.length = 6 := fun x hx => by simp at hx; subst hx; rfl
      have q7 : ([(⟨ek, es', ey, eu, ev, ex⟩ : zQ).V] : List PV).length * 48 ≤ 140737488355328 ∧ ([(⟨ek, es', ey, eu, ev, ex⟩ : zQ).V] : List PV).length ≤ maxLen := by simp [maxLen]
      have q8 : ((out.map zQ.V).length + ([(⟨ek, es', ey, eu, ev, ex⟩ : zQ).V] : List PV).length) * 48 ≤ 140737488355328 ∧ (out.map zQ.V).length + ([(⟨ek, es', ey, eu, ev, ex⟩ : zQ).V] : List PV).length ≤ maxLen := by simp [maxLen]; omega
      have hm : (out ++ [(⟨ek, es', ey, eu, ev, ex⟩ : zQ)]).map zQ.V = out.map zQ.V ++ [(⟨ek, es', ey, eu, ev, ex⟩ : zQ).V] := by simp
      by_cases h0 : out.length = 0
      ·have c2 : decide ((((out.map zQ.V).length : Nat) : Int) > 0) = false := decide_eq_false (by rw [hol]; omega)
       have hst := hp.step rfl hnc (fun l hl => by rw [List.getElem?_eq_none (by omega)] at hl; cases hl)
       repeat' (first | (refine zZ.is ?_; first | refine zZ.seq ?_ | (refine zZ.iq 11 ?_; refine zZ.rql _ K_9 K_8 ?_; refine zY.v rfl rfl (zS rfl rfl rfl (by decide)) ?_; refine zY.v rfl rfl (yE rfl rfl rfl (by decide)) ?_; refine zY.v rfl rfl (yT rfl rfl rfl rfl rfl (by decide)) ?_; refine zY.ofT rfl (yY.z [20] [19] [19] (b1) rfl (by decide) (yR rfl) (by rfl) (zG (by decide) rfl (by repeat' first | exact trivial | rfl | constructor)) rfl rfl rfl (by decide) rfl rfl (by decide) rfl rfl rfl ?_); refine zY.v rfl rfl (wW rfl rfl rfl g1 rfl (by decide)) ?_; refine zY.nil ?_) | (refine zZ.iq 12 ?_; refine zZ.rql _ K_9 K_8 ?_; refine zY.v rfl rfl (zS rfl rfl rfl (by decide)) ?_; refine zY.v rfl rfl (by exact w_ifp (by kernel_rfl) rfl rfl rfl (by decide)) ?_; refine zY.ofT rfl (yY.z [20] [19] [19] (po) rfl (by decide) (yR rfl) (by rfl) (zG (by decide) rfl (by repeat' first | exact trivial | rfl | constructor)) rfl rfl rfl (by decide) rfl rfl (by decide) rfl rfl rfl ?_); refine zY.v rfl rfl (w_assert1 rfl rfl rfl (by decide)) ?_; refine zY.m rfl rfl (yN rfl (by decide) rfl (by decide)) ?_; refine zY.w rfl (by exact yZ rfl rfl rfl rfl rfl (by rfl) (by exact Nat.le_of_ble_eq_true rfl) rfl rfl) ?_; refine zY.nil ?_) | (refine zZ.iq 13 ?_; refine zZ.rqb _ K_9 K_8 ?_; refine zY.v rfl rfl (yA rfl rfl rfl (by decide)) ?_; refine zY.v rfl rfl (w_lenV rfl rfl rfl rfl (by decide)) ?_; refine zY.va rfl rfl rfl rfl (by decide) ?_; refine zY.nil ?_) | (refine zZ.iq 14 ?_; refine zZ.rqo _ K_9 K_8 (zZ.draws ?_); all_goals (refine Draws.v rfl rfl (zK rfl rfl rfl (by decide)) ?_); all_goals (refine Draws.v rfl rfl (zK rfl rfl rfl (by decide)) ?_); all_goals (refine Draws.v rfl rfl (yF rfl rfl rfl c1 rfl (by decide)) ?_); all_goals (refine Draws.v rfl rfl (zK rfl rfl rfl (by decide)) ?_); all_goals (refine Draws.gY rfl rfl (by decide) rfl (by rfl) rfl (zK rfl rfl rfl (by decide)) ?_); all_goals (refine Draws.gY rfl rfl (by decide) rfl (by rfl) rfl (wW rfl rfl rfl c2 rfl (by decide)) ?_); all_goals (refine Draws.gY rfl rfl (by decide) rfl (by rfl) rfl (zK rfl rfl rfl (by decide)) ?_); all_goals (refine Draws.gNT rfl rfl (by decide) rfl (by rfl) rfl (by decide) ?_); all_goals (refine Draws.gNT rfl rfl (by decide) rfl (by rfl) rfl (by decide) ?_); all_goals (refine Draws.gNT rfl rfl (by decide) rfl (by rfl) rfl (by decide) ?_); all_goals (refine Draws.gNT rfl rfl (by decide) rfl (by rfl) rfl (by decide) ?_); all_goals (refine Draws.gNT rfl rfl (by decide) rfl (by rfl) rfl (by decide) ?_); all_goals (refine Draws.gNT rfl rfl (by decide) rfl (by rfl) rfl (by decide) ?_); all_goals (refine Draws.gNT rfl rfl (by decide) rfl (by rfl) rfl (by decide) ?_); all_goals (refine Draws.gNT rfl rfl (by decide) rfl (by rfl) rfl (by decide) ?_); all_goals (refine Draws.gNT rfl rfl (by decide) rfl (by rfl) rfl (by decide) ?_); all_goals (refine Draws.gY rfl rfl (by decide) rfl (by rfl) rfl (zI rfl rfl (by rfl) rfl rfl (by decide)) ?_); all_goals (refine Draws.v rfl rfl (zI rfl rfl (by rfl) rfl rfl (by decide)) ?_); all_goals ((refine Draws.done (by kernel_rfl) (by kernel_rfl) (by kernel_rfl) ?_; refine zN.nil ?_))) | (refine zZ.iq 16 ?_; refine zZ.rqb _ K_9 K_8 ?_; refine zY.v rfl rfl (yA rfl rfl rfl (by decide)) ?_; refine zY.v rfl rfl (yL rfl rfl rfl (by rfl) (by rfl) rfl (by decide)) ?_; refine zY.v rfl rfl (xJ rfl (by decide) (by decide) (by decide) (by decide) (by rfl) (by rfl) (by rfl) (by rfl) (by rfl) (by rfl) (by rfl) rfl (by decide)) ?_; refine zY.w rfl (qA rfl rfl rfl rfl q6 q8 rfl (by decide) rfl (by decide)) ?_; refine zY.v rfl rfl (zP rfl rfl rfl (by decide)) ?_; refine zY.nil ?_) | refine zZ.yV rfl (by first | assumption | with_reducible rfl) ?_ | refine zZ.yX rfl (by first | assumption | with_reducible rfl) ?_ | refine zZ.skip ?_ | refine zZ.block ?_) | refine zF.n ?_ | refine zM.n ?_)
       all_goals
        refine ⟨(popL (⟨ek, es', ey, eu, ev, ex⟩ :: H'), out ++ [⟨ek, es', ey, eu, ev, ex⟩]), ?_, ⟨hst, by show (popL _).length ≤ _; rw [hpl]; omega, by show (popL _).length + (out ++ _).length ≤ _; rw [hpl, List.length_append]; simp only [List.length_cons, List.length_nil] at hHo ⊢; omega⟩, by show (popL _).length < _; rw [hpl]; simp⟩
        dsimp only
        rw [hm]
        exact zB K_2i K_2j
      ·have c2 : decide ((((out.map zQ.V).length : Nat) : Int) > 0) = true := decide_eq_true (by rw [hol]; omega)
       have c3 : IntKind.i64.wrap ((((out.map zQ.V).length : Nat) : Int) - 1) = ((out.length - 1 : Nat) : Int) := by rw [hol, wrap_i64 _ (by omega)]; omega
       have hl : out[out.length - 1]? = some (out[out.length - 1]'(by omega)) := List.getElem?_eq_getElem _
       have hlm : out[out.length - 1]'(by omega) ∈ out := List.getElem_mem _
       generalize out[out.length - 1]'(by omega) = l at hl hlm
       have c4 : (out.map zQ.V)[out.length - 1]? = some l.V := by rw [List.getElem?_map, hl]; rfl
       have c5 := yH out
       obtain ⟨lk, ls, ly, lu, lv', lx⟩ := l
       have c7 : (flat (out.map zQ.V))[((out.length - 1 : Nat) : Int).toNat * 6 + 2]? = some (.val (.int .u64 ly)) := flat_field c5 c4 rfl
       have c8 : (0 : Int) ≤ ((out.length - 1 : Nat) : Int) ∧ ((out.length - 1 : Nat) : Int) < (((out.map zQ.V).length : Nat) : Int) := by rw [hol]; omega
       by_cases hy : ly = ey
       ·have c6 : decide (ly = ey) = true := decide_eq_true hy
        rw [hp.twice rfl hlm hy]
        repeat' (first | (refine zZ.is ?_; first | refine zZ.seq ?_ | (refine zZ.iq 11 ?_; refine zZ.rql _ K_9 K_8 ?_; refine zY.v rfl rfl (zS rfl rfl rfl (by decide)) ?_; refine zY.v rfl rfl (yE rfl rfl rfl (by decide)) ?_; refine zY.v rfl rfl (yT rfl rfl rfl rfl rfl (by decide)) ?_; refine zY.ofT rfl (yY.z [20] [19] [19] (b1) rfl (by decide) (yR rfl) (by rfl) (zG (by decide) rfl (by repeat' first | exact trivial | rfl | constructor)) rfl rfl rfl (by decide) rfl rfl (by decide) rfl rfl rfl ?_); refine zY.v rfl rfl (wW rfl rfl rfl g1 rfl (by decide)) ?_; refine zY.nil ?_) | (refine zZ.iq 12 ?_; refine zZ.rql _ K_9 K_8 ?_; refine zY.v rfl rfl (zS rfl rfl rfl (by decide)) ?_; refine zY.v rfl rfl (by exact w_ifp (by kernel_rfl) rfl rfl rfl (by decide)) ?_; refine zY.ofT rfl (yY.z [20] [19] [19] (po) rfl (by decide) (yR rfl) (by rfl) (zG (by decide) rfl (by repeat' first | exact trivial | rfl | constructor)) rfl rfl rfl (by decide) rfl rfl (by decide) rfl rfl rfl ?_); refine zY.v rfl rfl (w_assert1 rfl rfl rfl (by decide)) ?_; refine zY.m rfl rfl (yN rfl (by decide) rfl (by decide)) ?_; refine zY.w rfl (by exact yZ rfl rfl rfl rfl rfl (by rfl) (by exact Nat.le_of_ble_eq_true rfl) rfl rfl) ?_; refine zY.nil ?_) | (refine zZ.iq 13 ?_; refine zZ.rqb _ K_9 K_8 ?_; refine zY.v rfl rfl (yA rfl rfl rfl (by decide)) ?_; refine zY.v rfl rfl (w_lenV rfl rfl rfl rfl (by decide)) ?_; refine zY.va rfl rfl rfl rfl (by decide) ?_; refine zY.nil ?_) | (refine zZ.iq 14 ?_; refine zZ.rqo _ K_9 K_8 (zZ.draws ?_); all_goals (refine Draws.v rfl rfl (zK rfl rfl rfl (by decide)) ?_); all_goals (refine Draws.v rfl rfl (zK rfl rfl rfl (by decide)) ?_); all_goals (refine Draws.v rfl rfl (yF rfl rfl rfl c1 rfl (by decide)) ?_); all_goals (refine Draws.v rfl rfl (zK rfl rfl rfl (by decide)) ?_); all_goals (refine Draws.gY rfl rfl (by decide) rfl (by rfl) rfl (zK rfl rfl rfl (by decide)) ?_); all_goals (refine Draws.gY rfl rfl (by decide) rfl (by rfl) rfl (wW rfl rfl rfl c2 rfl (by decide)) ?_); all_goals (refine Draws.gY rfl rfl (by decide) rfl (by rfl) rfl (zK rfl rfl rfl (by decide)) ?_); all_goals (refine Draws.gY rfl rfl (by decide) rfl (by rfl) rfl (yA rfl rfl rfl (by decide)) ?_); all_goals (refine Draws.gY rfl rfl (by decide) rfl (by rfl) rfl (zK rfl rfl rfl (by decide)) ?_); all_goals (refine Draws.gY rfl rfl (by decide) rfl (by rfl) rfl (wY rfl rfl rfl c3 rfl (by decide)) ?_); all_goals (refine Draws.gY rfl rfl (by decide) rfl (by rfl) rfl (w_indexV rfl rfl rfl rfl c8 rfl (by decide)) ?_); all_goals (refine Draws.gY rfl rfl (by decide) rfl (by rfl) rfl (zJ rfl rfl rfl (by decide)) ?_); all_goals (refine Draws.gY rfl rfl (by decide) rfl (by rfl) rfl (w_loadVF rfl rfl rfl c7 rfl (by decide)) ?_); all_goals (refine Draws.gY rfl rfl (by decide) rfl (by rfl) rfl (zJ rfl rfl rfl (by decide)) ?_); all_goals (refine Draws.gY rfl rfl (by decide) rfl (by rfl) rfl (zC rfl rfl rfl (by rfl) rfl (by decide)) ?_); all_goals (refine Draws.gY rfl rfl (by decide) rfl (by rfl) rfl (yF rfl rfl rfl c6 rfl (by decide)) ?_); all_goals (refine Draws.gY rfl rfl (by decide) rfl (by rfl) rfl (zL rfl rfl (by rfl) rfl rfl (by decide)) ?_); all_goals (refine Draws.v rfl rfl (zI rfl rfl (by rfl) rfl rfl (by decide)) ?_); all_goals ((refine Draws.done (by kernel_rfl) (by kernel_rfl) (by kernel_rfl) ?_; refine zN.nil ?_))) | (refine zZ.iq 15 ?_; refine zZ.rqb _ K_9 K_8 ?_; refine zY.va rfl rfl rfl rfl (by decide) ?_; refine zY.va rfl rfl rfl rfl (by decide) ?_; refine zY.nil ?_) | refine zZ.yV rfl (by first | assumption | with_reducible rfl) ?_ | refine zZ.skip ?_ | refine zZ.block ?_ | refine zZ.ret ?_) | refine zF.r ?_ | refine zM.r ?_)
        all_goals exact ⟨.inl rfl, _, qK (d := 4) rfl, xC.tupE (rs := [.tmp 4, .tmp 5]) rfl (by decide) (.cons (.tmp rfl) (.cons (.tmp rfl) .nil)) rfl⟩
       ·have c6 : decide (ly = ey) = false := decide_eq_false hy
        have hst := hp.step rfl hnc (fun l hl' => by rw [hl] at hl'; cases hl'; exact hy)
        repeat' (first | (refine zZ.is ?_; first | refine zZ.seq ?_ | (refine zZ.iq 11 ?_; refine zZ.rql _ K_9 K_8 ?_; refine zY.v rfl rfl (zS rfl rfl rfl (by decide)) ?_; refine zY.v rfl rfl (yE rfl rfl rfl (by decide)) ?_; refine zY.v rfl rfl (yT rfl rfl rfl rfl rfl (by decide)) ?_; refine zY.ofT rfl (yY.z [20] [19] [19] (b1) rfl (by decide) (yR rfl) (by rfl) (zG (by decide) rfl (by repeat' first | exact trivial | rfl | constructor)) rfl rfl rfl (by decide) rfl rfl (by decide) rfl rfl rfl ?_); refine zY.v rfl rfl (wW rfl rfl rfl g1 rfl (by decide)) ?_; refine zY.nil ?_) | (refine zZ.iq 12 ?_; refine zZ.rql _ K_9 K_8 ?_; refine zY.v rfl rfl (zS rfl rfl rfl (by decide)) ?_; refine zY.v rfl rfl (by exact w_ifp (by kernel_rfl) rfl rfl rfl (by decide)) ?_; refine zY.ofT rfl (yY.z [20] [19] [19] (po) rfl (by decide) (yR rfl) (by rfl) (zG (by decide) rfl (by repeat' first | exact trivial | rfl | constructor)) rfl rfl rfl (by decide) rfl rfl (by decide) rfl rfl rfl ?_); refine zY.v rfl rfl (w_assert1 rfl rfl rfl (by decide)) ?_; refine zY.m rfl rfl (yN rfl (by decide) rfl (by decide)) ?_; refine zY.w rfl (by exact yZ rfl rfl rfl rfl rfl (by rfl) (by exact Nat.le_of_ble_eq_true rfl) rfl rfl) ?_; refine zY.nil ?_) | (refine zZ.iq 13 ?_; refine zZ.rqb _ K_9 K_8 ?_; refine zY.v rfl rfl (yA rfl rfl rfl (by decide)) ?_; refine zY.v rfl rfl (w_lenV rfl rfl rfl rfl (by decide)) ?_; refine zY.va rfl rfl rfl rfl (by decide) ?_; refine zY.nil ?_) | (refine zZ.iq 14 ?_; refine zZ.rqo _ K_9 K_8 (zZ.draws ?_); all_goals (refine Draws.v rfl rfl (zK rfl rfl rfl (by decide)) ?_); all_goals (refine Draws.v rfl rfl (zK rfl rfl rfl (by decide)) ?_); all_goals (refine Draws.v rfl rfl (yF rfl rfl rfl c1 rfl (by decide)) ?_); all_goals (refine Draws.v rfl rfl (zK rfl rfl rfl (by decide)) ?_); all_goals (refine Draws.gY rfl rfl (by decide) rfl (by rfl) rfl (zK rfl rfl rfl (by decide)) ?_); all_goals (refine Draws.gY rfl rfl (by decide) rfl (by rfl) rfl (wW rfl rfl rfl c2 rfl (by decide)) ?_); all_goals (refine Draws.gY rfl rfl (by decide) rfl (by rfl) rfl (zK rfl rfl rfl (by decide)) ?_); all_goals (refine Draws.gY rfl rfl (by decide) rfl (by rfl) rfl (yA rfl rfl rfl (by decide)) ?_); all_goals (refine Draws.gY rfl rfl (by decide) rfl (by rfl) rfl (zK rfl rfl rfl (by decide)) ?_); all_goals (refine Draws.gY rfl rfl (by decide) rfl (by rfl) rfl (wY rfl rfl rfl c3 rfl (by decide)) ?_); all_goals (refine Draws.gY rfl rfl (by decide) rfl (by rfl) rfl (w_indexV rfl rfl rfl rfl c8 rfl (by decide)) ?_); all_goals (refine Draws.gY rfl rfl (by decide) rfl (by rfl) rfl (zJ rfl rfl rfl (by decide)) ?_); all_goals (refine Draws.gY rfl rfl (by decide) rfl (by rfl) rfl (w_loadVF rfl rfl rfl c7 rfl (by decide)) ?_); all_goals (refine Draws.gY rfl rfl (by decide) rfl (by rfl) rfl (zJ rfl rfl rfl (by decide)) ?_); all_goals (refine Draws.gY rfl rfl (by decide) rfl (by rfl) rfl (zC rfl rfl rfl (by rfl) rfl (by decide)) ?_); all_goals (refine Draws.gY rfl rfl (by decide) rfl (by rfl) rfl (yF rfl rfl rfl c6 rfl (by decide)) ?_); all_goals (refine Draws.gY rfl rfl (by decide) rfl (by rfl) rfl (zL rfl rfl (by rfl) rfl rfl (by decide)) ?_); all_goals (refine Draws.v rfl rfl (zI rfl rfl (by rfl) rfl rfl (by decide)) ?_); all_goals ((refine Draws.done (by kernel_rfl) (by kernel_rfl) (by kernel_rfl) ?_; refine zN.nil ?_))) | (refine zZ.iq 16 ?_; refine zZ.rqb _ K_9 K_8 ?_; refine zY.v rfl rfl (yA rfl rfl rfl (by decide)) ?_; refine zY.v rfl rfl (yL rfl rfl rfl (by rfl) (by rfl) rfl (by decide)) ?_; refine zY.v rfl rfl (xJ rfl (by decide) (by decide) (by decide) (by decide) (by rfl) (by rfl) (by rfl) (by rfl) (by rfl) (by rfl) (by rfl) rfl (by decide)) ?_; refine zY.w rfl (qA rfl rfl rfl rfl q6 q8 rfl (by decide) rfl (by decide)) ?_; refine zY.v rfl rfl (zP rfl rfl rfl (by decide)) ?_; refine zY.nil ?_) | refine zZ.yV rfl (by first | assumption | with_reducible rfl) ?_ | refine zZ.yX rfl (by first | assumption | with_reducible rfl) ?_ | refine zZ.skip ?_ | refine zZ.block ?_) | refine zF.n ?_ | refine zM.n ?_)
        all_goals
         refine ⟨(popL (⟨ek, es', ey, eu, ev, ex⟩ :: H'), out ++ [⟨ek, es', ey, eu, ev, ex⟩]), ?_, ⟨hst, by show (popL _).length ≤ _; rw [hpl]; omega, by show (popL _).length + (out ++ _).length ≤ _; rw [hpl, List.length_append]; simp only [List.length_cons, List.length_nil] at hHo ⊢; omega⟩, by show (popL _).length < _; rw [hpl]; simp⟩
         dsimp only
         rw [hm]
         exact zB K_2i K_2j
theorem born_ok (ss : List (List Int)) (hb : ∀ s ∈ ss, xP s) : (xU ss).born.length ≤ total ss ∧ ∀ e ∈ (xU ss).born, e.ok := by
  have hput : ∀ (L : List zQ) (e : zQ), (bput L e).length ≤ L.length + 1 ∧ ∀ x ∈ bput L e, x = e ∨ x ∈ L := by
    intro L
    induction L with
    | nil => intro e; exact ⟨by simp [bput], fun x hx => .inl (by simpa [bput] using hx)⟩
    | cons a r ih =>
      intro e
      unfold bput
      split
      · exact ⟨by simp, fun x hx => (List.mem_cons.1 hx).imp id (List.mem_cons_of_mem _)⟩
      · have := ih e
        refine ⟨by simp only [List.length_cons]; omega, fun x hx => ?_⟩
        rcases List.mem_cons.1 hx with rfl | hx
        · exact .inr (by simp)
        · exact (this.2 x hx).imp id (List.mem_cons_of_mem _)
  have hg : ∀ (g : GD) (e : zQ), (gput g e).born.length ≤ g.born.length + 1 ∧ ∀ x ∈ (gput g e).born, x = e ∨ x ∈ g.born := by
    intro g e
    unfold gput
    split
    · exact hput g.born e
    · split
      · exact ⟨Nat.le_succ _, fun x hx => .inr hx⟩
      · exact ⟨Nat.le_succ _, fun x hx => .inr hx⟩
  have hf : ∀ (L : List zQ) (g : GD), (∀ e ∈ L, e.ok) → (∀ e ∈ g.born, e.ok) → (L.foldl gput g).born.length ≤ g.born.length + L.length ∧ ∀ e ∈ (L.foldl gput g).born, e.ok := by
    intro L
    induction L with
    | nil => intro g _ h; exact ⟨Nat.le_refl _, h⟩
    | cons a r ih =>
      intro g hL h
      have h1 := hg g a
      have h2 := ih (gput g a) (fun e he => hL e (by simp [he])) fun e he => by
        rcases h1.2 e he with rfl | he
        · exact hL _ (by simp)
        · exact h e he
      refine ⟨?_, h2.2⟩
      have := h2.1
      have := h1.1
      simp only [List.foldl_cons, List.length_cons]
      omega
  have hall : ∀ (ss : List (List Int)) (g : GD) (i : Nat), (∀ s ∈ ss, xP s) → (∀ e ∈ g.born, e.ok) → (gfrom g i ss).born.length ≤ g.born.length + total ss ∧ ∀ e ∈ (gfrom g i ss).born, e.ok := by
    intro ss
    induction ss with
    | nil => intro g i _ h; exact ⟨Nat.le_add_right _ _, h⟩
    | cons s r ih =>
      intro g i hb h
      have hs := streamEnts_ok (i := i) (hb s (by simp))
      have h1 := hf (yC i s).1 { g with bad := g.bad || !(yC i s).2 } (fun e he => (hs.1 e he).1) h
      have h2 := ih (gstep g (yC i s)) (i + 1) (fun c hc => hb c (by simp [hc])) h1.2
      refine ⟨?_, h2.2⟩
      have h3 := h2.1
      have h4 := h1.1
      have h5 := hs.2
      simp only [total, List.map_cons, List.sum_cons] at *
      show (gfrom (gstep g (yC i s)) (i + 1) r).born.length ≤ _
      have h6 : (gstep g (yC i s)).born.length ≤ g.born.length + (yC i s).1.length := h4
      omega
  have := hall ss ⟨[], [], decide (ss.length = 0)⟩ 0 hb (fun e he => by cases he)
  exact ⟨Nat.le_trans this.1 (by simp), this.2⟩
theorem mLive_fn (ss : List (List Int)) (c : Int) (hb : ∀ s ∈ ss, xP s) (hn : ss.length ≤ 1000000) (ht : total ss ≤ 100000) : Fn Tryd.prog 12 [qY ss, .val (.int .i64 c)] (.tup [.sl ((liveL ss c).1.map zQ.V), .val (.int .i64 (liveL ss c).2)]) := by
  have hk := born_ok ss hb
  unfold liveL
  cases hg : (xU ss).bad
  · exact live_good_fn ss c hb hn (by omega) hg (by omega) hk.2
  · exact live_bad_fn ss c hb hn (by omega) hg
end Go.Proofs.YtomlhekjgagjaaaDoor
namespace Go.Proofs.YtomlhekjgagjaaaDoor
set_option maxRecDepth 100000
set_option maxHeartbeats 16000000
open Go Go.RowKit
variable {P : Program} {n : Nat} {o : Oper} {S : AS} {d : Nat} {t : TypeId} {x y : Operand}
theorem w_storeVF {id off e sz : Nat} {es es' : List PV} {v : PV} {agg : Bool} [h : TyA P t agg 1] (ho : o.op = .store t x y) (hx : S.get x = .ptr id off) (hb : S.blk id = some (xD e sz es)) (hy : S.get y = .p v) (hk : (AV.p v).partOK = true) (hv : v.cells.length = 1) (hlt : off < (flat es).length) (he : splice (flat es) off v.cells = flat es') (hl : es'.length = es.length) (hd : o.dst = none) :
    Step P n o S (S.tag id (xD e sz es')) := by
  have h1 := yZ (P := P) (n := n) (S := S.tag id (.row e sz es.length ((flat es).map AV.p))) (o := o) (agg := agg) (m := 1) ho (by rw [AS.wH]; exact hx) (by rw [AS.xZ, if_pos rfl]) (by rw [AS.wH, hy]) hk (by show (v.cells.map AV.p).length = 1; rw [List.length_map, hv]) (by show off + 1 ≤ ((flat es).map AV.p).length; rw [List.length_map]; exact hlt) rfl hd
  have e1 : (Blk.row e sz es.length ((flat es).map AV.p)).setXs (splice (Blk.row e sz es.length ((flat es).map AV.p)).xs off (AV.p v).wZ) = .row e sz es'.length ((flat es').map AV.p) := by
    show Blk.row e sz es.length (splice ((flat es).map AV.p) off (v.cells.map AV.p)) = _
    rw [splice_map, he, hl]
  rw [e1] at h1
  refine h1.same (vQ hb (qF e sz es)) ⟨fun _ => rfl, fun j => ?_⟩
  show (if id = j then some _ else if id = j then some _ else S.blk j) = none ∧ (if id = j then some _ else S.blk j) = none ∨ ∃ b b', (if id = j then some _ else if id = j then some _ else S.blk j) = some b ∧ (if id = j then some _ else S.blk j) = some b' ∧ Alike b b'
  by_cases hj : id = j
  · subst hj
    rw [if_pos rfl, if_pos rfl]
    exact .inr ⟨_, _, rfl, rfl, vO e sz es'⟩
  · rw [if_neg hj, if_neg hj, if_neg hj]
    cases S.blk j with
    | none => exact .inl ⟨rfl, rfl⟩
    | some b => exact .inr ⟨b, b, rfl, rfl, .refl b⟩
theorem flat_put {sz : Nat} {es : List PV} (hes : ∀ e ∈ es, e.cells.length = sz) {i k : Nat} {v v' c : PV} (hv : es[i]? = some v) (hk : k < sz) (hc : v'.cells = v.cells.set k c) (hc1 : c.cells = [c]) : splice (flat es) (i * sz + k) c.cells = flat (es.set i v') := by
  have hlen := hes v (List.mem_of_getElem? hv)
  have hi : i < es.length := (List.getElem?_eq_some_iff.1 hv).1
  have h1 := flat_set hes (v := v') (by rw [hc, List.length_set]; exact hlen) hi
  rw [← h1, hc]
  have h2 := flat_at hes hv
  have hfl := flat_len hes
  have hle : i * sz + sz ≤ (flat es).length := by
    rw [hfl]
    have : (i + 1) * sz ≤ es.length * sz := Nat.mul_le_mul_right _ hi
    rw [Nat.add_mul] at this
    omega
  have hspl : ∀ (l w : List PV) (o : Nat), splice l o w = l.take o ++ w ++ l.drop (o + w.length) := fun l w o => by simp [splice]
  rw [hspl, hspl, hc1, List.length_set, hlen]
  have e1 : (flat es).take (i * sz + k) = (flat es).take (i * sz) ++ v.cells.take k := by
    rw [← h2, List.take_take, Nat.min_eq_left (by omega), ← List.take_add]
  have e2 : (flat es).drop (i * sz + k + [c].length) = v.cells.drop (k + 1) ++ (flat es).drop (i * sz + sz) := by
    rw [← h2, List.drop_take]
    have : (flat es).drop (i * sz + sz) = (((flat es).drop (i * sz)).drop (k + 1)).drop (sz - (k + 1)) := by
      rw [List.drop_drop, List.drop_drop]
      congr 1
      omega
    rw [this, List.take_append_drop, List.drop_drop]
    rfl
  rw [e1, e2, List.set_eq_take_append_cons_drop, if_pos (by omega)]
  simp [List.append_assoc]
theorem w_lookZ {k : Operand} {id key e : Nat} {j : Int} {Q : Nat → Obj → Prop} {L : ML} {zv : Value} {v : PV} [ht : Und P t (.map key e)] [hk : Und P key (.int .u64)] [hz : ZeroA P e zv] (ho : o.op = .lookup t x k false) (hx : S.get x = .own id) (hb : S.blk id = some (.obj true Q)) (hQ : ∀ g o, Q g o → IsMap L g o) (hj : S.get k = .p (.val (.int .u64 j)))
    (hm : mget L j = some v ∨ (mget L j = none ∧ v = PV.ofV zv)) (hzp : (PV.ofV zv).plain = true) (hzv : (PV.ofV zv).vv = zv) (hd : o.dst = some d) (hn : d < n) : zA P n o S [id] (.p v) none := by
  rcases hm with hm | ⟨hm, rfl⟩
  · exact w_lookY ho hx hb hQ hj hm hzp hzv hd hn
  · exact w_lookN ho hx hb hQ hj hm hzp hzv hd hn
theorem yY.eqlNil {yt : TypeId} {e : TypeId} {K : Exit → AS → Prop} {N : AS → Prop} [ht : Und P t (.slice e)] (ho : o.op = .binOp .eql t x y yt) (hx : S.get x = .p (.sl [])) (hy : S.get y = .p (.val (.slice none 0 0))) (hd : o.dst = some d) (hn : d < n) (h : ∀ b : Bool, N (S.put d (.p (.val (.bool b))))) : yY P n o S K N := by
  intro M w0 ρ a w KK Q hs hK _
  have r1 := y5 hs hx
  have r2 := hs.val hy
  have hex : ∃ b : Bool, (execOp a.eval o).run P w = .ok (.value (.bool b)) w := by
    rcases rep_sl r1 with ⟨⟨b, hv⟩, h0⟩ | ⟨g, off, cap, ys, hv, _⟩
    · refine ⟨b.isNone, ?_⟩
      unfold execOp
      rw [ho]
      simp only [hv, r2, Sem.run_bind]
      simp [eqGuard, binOp, run_equal_slice_nil w t e b 0 0 ht.h]
    · refine ⟨false, ?_⟩
      unfold execOp
      rw [ho]
      simp only [hv, r2, Sem.run_bind]
      simp [eqGuard, binOp, run_equal_slice_nil w t e (some ⟨g, off, none⟩) _ cap ht.h]
  obtain ⟨b, hb⟩ := hex
  unfold Oper.wp
  rw [hb]
  show KK (a.put o.dst _) w
  rw [hd]
  exact hK _ ρ _ w (h b) (hs.put hn (.p (.val _)))
end Go.Proofs.YtomlhekjgagjaaaDoor
namespace Go.Proofs.YtomlhekjgagjaaaDoor
set_option maxRecDepth 100000
set_option maxHeartbeats 16000000
open Go Go.RowKit
attribute [local irreducible] zY zZ Step zA Sub zN yY Fn zF zM
theorem gives_sub {P : Program} {fn : Func} {S S1 : AS} {r : RV} (h : Sub S S1) (h1 : ∃ S', Sub S1 S' ∧ xC P fn S' r) : ∃ S', Sub S S' ∧ xC P fn S' r := by
  obtain ⟨S', h2, h3⟩ := h1
  exact ⟨S', h.trans h2, h3⟩
theorem clone_fn (L : List zQ) (hl : L.length ≤ 1000000) : Fn Tryd.prog 36 [.sl (L.map zQ.V)] (.row 46 6 (L.map zQ.V).length (flat (L.map zQ.V))) := by
  have hc := yH L
  refine wJ Tryd.func36 rfl Tryd.ntmps36 (Nat.le_of_ble_eq_true rfl) ?_
  have q8 : (([] : List PV).length + (L.map zQ.V).length) * 48 ≤ 140737488355328 ∧ ([] : List PV).length + (L.map zQ.V).length ≤ maxLen := by
    simp only [List.length_nil, List.length_map, maxLen]
    omega
  cases L with
  | nil =>
    repeat' (first | refine zY.ofT rfl (yY.eqlNil rfl rfl rfl rfl (by decide) fun b => ?_) | (refine zY.is ?_; first | refine zY.nil ?_ | refine zY.vm rfl rfl rfl rfl (by decide) ?_) | (refine zZ.is ?_; first | refine zZ.seq ?_ | (refine zZ.iq 0 ?_; refine zZ.rqa _ K_2 K_13 ?_; refine zY.va rfl rfl rfl rfl (by decide) ?_; refine zY.nil ?_) | (refine zZ.iq 1 ?_; refine zZ.rqa _ K_c K_13 ?_) | (refine zZ.iq 2 ?_; refine zZ.rqa _ K_c K_13 ?_; refine zY.va rfl rfl rfl rfl (by decide) ?_; refine zY.nil ?_) | (refine zZ.iq 3 ?_; refine zZ.rqa _ K_c K_13 ?_; refine zY.m rfl rfl (w_build0V rfl rfl (by decide)) ?_; refine zY.vm rfl rfl rfl rfl (by decide) ?_; refine zY.w rfl (qA rfl rfl rfl rfl hc q8 rfl (by decide) rfl (by decide)) ?_; refine zY.v rfl rfl (zP rfl rfl rfl (by decide)) ?_; refine zY.nil ?_) | refine zZ.cond rfl (fun h => ?_) (fun h => ?_) | refine zZ.skip ?_ | refine zZ.ret ?_) | refine zF.n ?_ | refine zF.r ?_)
    all_goals first
      | exact ⟨.inl rfl, givesRowV rfl rfl rfl⟩
      | exact ⟨.inl rfl, gives_sub (qB (d := 2) (id := 42) (ty := 46) (sz := 6) (by decide) rfl) (givesRowV rfl rfl rfl)⟩
  | cons e r =>
    have hne : (e :: r).map zQ.V ≠ [] := by simp
    have q9 : ([] ++ (e :: r).map zQ.V) = (e :: r).map zQ.V := rfl
    repeat' (first | (refine zZ.is ?_; first | refine zZ.seq ?_ | (refine zZ.iq 0 ?_; refine zZ.rqa _ K_2 K_13 ?_; refine zY.va rfl rfl rfl rfl (by decide) ?_; refine zY.nil ?_) | (refine zZ.iq 1 ?_; refine zZ.rqa _ K_c K_13 ?_; refine zY.vm rfl rfl rfl rfl (by decide) ?_; refine zY.v rfl rfl (by exact r_eqlNil rfl rfl rfl hne (by exact bF (by decide)) rfl (by decide)) ?_; refine zY.nil ?_) | (refine zZ.iq 3 ?_; refine zZ.rqa _ K_c K_13 ?_; refine zY.m rfl rfl (w_build0V rfl rfl (by decide)) ?_; refine zY.vm rfl rfl rfl rfl (by decide) ?_; refine zY.w rfl (qA rfl rfl rfl rfl hc q8 rfl (by decide) rfl (by decide)) ?_; refine zY.v rfl rfl (zP rfl rfl rfl (by decide)) ?_; refine zY.nil ?_) | refine zZ.yX rfl (by rfl) ?_ | refine zZ.skip ?_ | refine zZ.ret ?_) | refine zF.n ?_)
    all_goals exact ⟨.inl rfl, givesRowV rfl rfl rfl⟩
end Go.Proofs.YtomlhekjgagjaaaDoor
namespace Go.Proofs.YtomlhekjgagjaaaDoor
set_option maxRecDepth 100000
set_option maxHeartbeats 16000000
open Go Go.RowKit
attribute [local irreducible] zY zZ Step zA Sub zN yY Fn zF zM
def newM (l : List (Int × Int)) : ML := l.map fun p => (p.1, .val (.int .u64 p.2))
theorem mgetN : ∀ (l : List (Int × Int)) (j : Int), mget (newM l) j = (dget l j).map fun n => .val (.int .u64 n)
  | [], _ => rfl
  | x :: r, j => by
    show (if x.1 = j then some _ else mget (newM r) j) = _
    unfold dget
    split
    · rfl
    · exact mgetN r j
theorem mputN : ∀ (l : List (Int × Int)) (j n : Int), mput (newM l) j (.val (.int .u64 n)) = newM (dset l j n)
  | [], _, _ => rfl
  | x :: r, j, n => by
    show (if x.1 = j then _ :: newM r else _ :: mput (newM r) j _) = _
    unfold dset
    split
    · rfl
    · rw [mputN r j n]; rfl
def stampsF : List (Int × Int) → Nat → List zQ → List (Int × Int)
  | d, _, [] => d
  | d, i, e :: r => stampsF (dset d e.s ((i + 1 : Nat) : Int)) (i + 1) r
def xX (L : List zQ) : List (Int × Int) := stampsF [] 0 L
def xR (d : List (Int × Int)) (j : Int) : Int := (dget d j).getD 0
def anewE (d : List (Int × Int)) (e : zQ) : zQ := { e with s := xR d e.s, u := xR d e.u, v := xR d e.v }
def xV (L : List zQ) : List zQ := L.map (anewE (xX L))
theorem new_look (d : List (Int × Int)) (j : Int) : mget (newM d) j = some (.val (.int .u64 (xR d j))) ∨ (mget (newM d) j = none ∧ PV.val (.int .u64 (xR d j)) = PV.ofV (.int .u64 0)) := by
  rw [mgetN]
  unfold xR
  cases dget d j with
  | none => exact .inr ⟨rfl, rfl⟩
  | some n => exact .inl rfl
def an1 (L : List zQ) (p : Nat × List (Int × Int)) : AS := { t := [(0, .p (.sl (L.map zQ.V))), (3, .own 9), (10, .p (.sl (L.map zQ.V))), (11, .p (.val (.int .i64 (L.length : Nat)))), (12, .p (.val (.int .i64 (p.1 : Nat))))], s := [(9, mapB (newM p.2))] }
def anX (d : List (Int × Int)) (L : List zQ) (i : Nat) : List zQ := (L.take i).map (anewE d) ++ L.drop i
def an2 (L : List zQ) (d : List (Int × Int)) (i : Nat) : AS := { t := [(3, .own 9), (6, .own 25), (26, .p (.sl (L.map zQ.V))), (27, .p (.val (.int .i64 (L.length : Nat)))), (28, .p (.val (.int .i64 (i : Nat))))], s := [(9, mapB (newM d)), (25, xD 46 6 ((anX d L i).map zQ.V))] }
theorem anX_len (d : List (Int × Int)) (L : List zQ) (i : Nat) (h : i ≤ L.length) : (anX d L i).length = L.length := by
  simp [anX]
  omega
theorem anX_at (d : List (Int × Int)) (L : List zQ) (i : Nat) {e : zQ} (he : L[i]? = some e) : (anX d L i)[i]? = some e ∧ anX d L (i + 1) = (anX d L i).set i (anewE d e) := by
  have hlt : i < L.length := (List.getElem?_eq_some_iff.1 he).1
  have hl : ((L.take i).map (anewE d)).length = i := by simp; omega
  have hd : L.drop i = e :: L.drop (i + 1) := by
    rw [List.drop_eq_getElem_cons hlt]
    rw [List.getElem?_eq_getElem hlt] at he
    rw [Option.some.inj he]
  unfold anX
  constructor
  · rw [List.getElem?_append_right (by omega), hl, Nat.sub_self, hd]
    rfl
  · rw [List.set_append_right _ _ (by omega), hl, Nat.sub_self, hd, List.take_add_one, he]
    simp
theorem set_V (X : List zQ) (i : Nat) (e : zQ) : (X.set i e).map zQ.V = (X.map zQ.V).set i e.V := by rw [List.map_set]
theorem put_field {X : List zQ} {i k : Nat} {e e' : zQ} {c : PV} (he : X[i]? = some e) (hk : k < 6) (hc : e'.V.cells = e.V.cells.set k c) (hc1 : c.cells = [c]) : splice (flat (X.map zQ.V)) (((i : Nat) : Int).toNat * 6 + k) c.cells = flat ((X.set i e').map zQ.V) := by
  rw [set_V, Int.toNat_natCast]
  exact flat_put (yH X) (v := e.V) (by rw [List.getElem?_map, he]; rfl) hk hc hc1
theorem flat_lt {X : List zQ} {i k : Nat} (hi : i < X.length) (hk : k < 6) : ((i : Nat) : Int).toNat * 6 + k < (flat (X.map zQ.V)).length := by
  rw [flat_len (yH X), Int.toNat_natCast, List.length_map]
  omega
theorem set_set {X : List zQ} {i : Nat} {a b : zQ} : (X.set i a).set i b = X.set i b := by rw [List.set_set]
theorem anew_fn (L : List zQ) (hl : L.length ≤ 1000000) : Fn Tryd.prog 16 [.sl (L.map zQ.V)] (.p (.sl ((xV L).map zQ.V))) := by
 have hc := yH L
 have hlen : (L.map zQ.V).length = L.length := by rw [List.length_map]
 have cl := clone_fn L hl
 refine wJ Tryd.func16 rfl Tryd.ntmps16 (Nat.le_of_ble_eq_true rfl) ?_
 repeat' (first | (refine zZ.is ?_; first | refine zZ.seq ?_ | (refine zZ.iq 0 ?_; refine zZ.rqa _ K_2 K_t ?_; refine zY.va rfl rfl rfl rfl (by decide) ?_; refine zY.nil ?_) | (refine zZ.iq 1 ?_; refine zZ.rqa _ K_c K_t ?_; refine zY.m rfl rfl (w_makeMap rfl rfl (by decide)) ?_; refine zY.v rfl rfl (zP rfl rfl rfl (by decide)) ?_; refine zY.nil ?_) | (refine zZ.isR (id := 2) ?_; refine zZ.zV [0, 2, 3] [2, 5, 8, 9, 11, 25, 27] (by repeat' first | exact zX.nil | apply zX.p rfl | apply zX.own rfl) (by repeat' first | exact zW.nil | apply zW.some rfl | apply zW.skip) ?_; refine zY.vm rfl rfl rfl rfl (by decide) ?_; refine zY.v rfl rfl (yQ rfl rfl rfl (by decide)) ?_; refine zY.vm rfl rfl rfl rfl (by decide) ?_; refine zY.nil ?_) | refine zZ.block ?_) | refine zF.n ?_)
 refine zZ.loop (an1 L) (fun p => p.1 ≤ L.length ∧ xX L = stampsF p.2 p.1 (L.drop p.1)) (fun p => L.length - p.1) (0, []) ?h0 ⟨Nat.zero_le _, rfl⟩ ?rd
 case h0 =>
  unfold an1
  rw [← hlen]
  exact zB K_36 K_2a
 case rd =>
  rintro ⟨i, d⟩ ⟨hi, hx⟩
  simp only at hi hx
  have g3 : IntKind.i64.wrap (((i : Nat) : Int) + 1) = ((i + 1 : Nat) : Int) := by rw [wrap_i64 _ (by omega)]; omega
  have g4 : IntKind.u64.wrap ((i : Nat) : Int) = ((i : Nat) : Int) := wrap_u64 _ (by omega)
  have g5 : IntKind.u64.wrap (((i : Nat) : Int) + 1) = ((i + 1 : Nat) : Int) := by rw [wrap_u64 _ (by omega)]; omega
  unfold an1
  dsimp only
  by_cases hlt : i < L.length
  case pos =>
   have g1 : decide (((i : Nat) : Int) < ((L.length : Nat) : Int)) = true := decide_eq_true (by omega)
   obtain ⟨e, he⟩ : ∃ e, L[i]? = some e := ⟨_, List.getElem?_eq_getElem hlt⟩
   have g2 : (L.map zQ.V)[i]? = some e.V := by rw [List.getElem?_map, he]; rfl
   have hdrop : L.drop i = e :: L.drop (i + 1) := by
    rw [List.drop_eq_getElem_cons hlt]
    rw [List.getElem?_eq_getElem hlt] at he
    rw [Option.some.inj he]
   rw [hdrop] at hx
   have hx : xX L = stampsF (dset d e.s ((i + 1 : Nat) : Int)) (i + 1) (L.drop (i + 1)) := hx
   have hm := mputN d e.s ((i + 1 : Nat) : Int)
   clear hdrop he
   obtain ⟨ek, es, ey, eu, ev, ex⟩ := e
   repeat' (first | (refine zZ.is ?_; first | refine zZ.seq ?_ | (refine zZ.iq 3 ?_; refine zZ.rqd _ K_1y K_t ?_; refine zY.v rfl rfl (zR rfl rfl rfl g1 rfl (by decide)) ?_; refine zY.nil ?_) | (refine zZ.iq 4 ?_; refine zZ.rqd _ K_1y K_t ?_; refine zY.vm rfl rfl rfl rfl (by decide) ?_; refine zY.v rfl rfl (zH rfl rfl rfl hc g2 rfl (by decide)) ?_; refine zY.v rfl rfl (by exact y8 rfl rfl (by exact Nat.le_of_ble_eq_true rfl) rfl (by decide)) ?_; refine zY.m rfl rfl (yN rfl (by decide) rfl (by decide)) ?_; refine zY.va rfl rfl rfl rfl (by decide) ?_; refine zY.w rfl (by exact yZ rfl rfl rfl rfl rfl (by rfl) (by exact Nat.le_of_ble_eq_true rfl) rfl rfl) ?_; refine zY.nil ?_) | (refine zZ.iq 5 ?_; refine zZ.rqb _ K_1y K_t ?_; refine zY.v rfl rfl (yA rfl rfl rfl (by decide)) ?_; refine zY.v rfl rfl (zJ rfl rfl rfl (by decide)) ?_; refine zY.v rfl rfl (zC rfl rfl rfl (by rfl) rfl (by decide)) ?_; refine zY.vm rfl rfl rfl rfl (by decide) ?_; refine zY.v rfl rfl (yO rfl rfl g4 rfl (by decide)) ?_; refine zY.v rfl rfl (yD rfl rfl rfl g5 rfl (by decide)) ?_; refine zY.w rfl (vP rfl rfl rfl rfl rfl (by rfl) rfl) ?_; refine zY.nil ?_) | (refine zZ.iq 6 ?_; refine zZ.rqb _ K_1y K_t ?_; refine zY.v rfl rfl (yD rfl rfl rfl g3 rfl (by decide)) ?_; refine zY.vm rfl rfl rfl rfl (by decide) ?_; refine zY.nil ?_) | refine zZ.yV rfl (by first | assumption | with_reducible rfl) ?_ | refine zZ.skip ?_ | refine zZ.block ?_) | refine zF.n ?_ | refine zM.n ?_)
   all_goals
    refine ⟨(i + 1, dset d es ((i + 1 : Nat) : Int)), ?_, ⟨hlt, hx⟩, by show L.length - (i + 1) < L.length - i; omega⟩
    dsimp only
    rw [← hm]
    exact zB K_36 K_2a
  case neg =>
   have hie : i = L.length := by omega
   subst hie
   have g1 : decide (((L.length : Nat) : Int) < ((L.length : Nat) : Int)) = false := decide_eq_false (by omega)
   rw [List.drop_length] at hx
   have hx : xX L = d := hx
   have hA : xV L = L.map (anewE d) := by unfold xV; rw [hx]
   rw [hA]
   clear hx hA g3 g4 g5 hi hlt
   repeat' (first | (refine zZ.is ?_; first | refine zZ.seq ?_ | (refine zZ.iq 3 ?_; refine zZ.rqd _ K_1y K_t ?_; refine zY.v rfl rfl (zR rfl rfl rfl g1 rfl (by decide)) ?_; refine zY.nil ?_) | (refine zZ.iq 7 ?_; refine zZ.rqd _ K_3 K_t ?_; refine zY.vm rfl rfl rfl rfl (by decide) ?_; refine zY.m rfl rfl (w_callRowV cl rfl rfl rfl (by decide)) ?_; refine zY.v rfl rfl (zP rfl rfl rfl (by decide)) ?_; refine zY.nil ?_) | (refine zZ.iq 8 ?_; refine zZ.rqd _ K_2e K_t ?_; refine zY.vm rfl rfl rfl rfl (by decide) ?_; refine zY.v rfl rfl (yQ rfl rfl rfl (by decide)) ?_; refine zY.vm rfl rfl rfl rfl (by decide) ?_; refine zY.nil ?_) | refine zZ.yX rfl (by first | assumption | with_reducible rfl) ?_ | refine zZ.block ?_ | refine zZ.exit ?_) | refine zF.n ?_ | refine zM.eY ?_ | refine zF.e ?_)
   refine zZ.loop (an2 L d) (fun i => i ≤ L.length) (fun i => L.length - i) 0 ?q0 (Nat.zero_le _) ?qr
   case q0 =>
    unfold an2 anX
    rw [← hlen, List.take_zero, List.map_nil, List.nil_append, List.drop_zero]
    exact zB K_37 K_38
   case qr =>
    intro i hi
    have g3 : IntKind.i64.wrap (((i : Nat) : Int) + 1) = ((i + 1 : Nat) : Int) := by rw [wrap_i64 _ (by omega)]; omega
    unfold an2
    by_cases hlt : i < L.length
    case pos =>
     have g1 : decide (((i : Nat) : Int) < ((L.length : Nat) : Int)) = true := decide_eq_true (by omega)
     obtain ⟨e, he⟩ : ∃ e, L[i]? = some e := ⟨_, List.getElem?_eq_getElem hlt⟩
     have g2 : (L.map zQ.V)[i]? = some e.V := by rw [List.getElem?_map, he]; rfl
     obtain ⟨h1, h2⟩ := anX_at d L i he
     have hXl := anX_len d L i hi
     generalize anX d L i = X at *
     clear he hc hlen cl
     obtain ⟨ek, es, ey, eu, ev, ex⟩ := e
     have l1 := new_look d es
     have l2 := new_look d eu
     have l3 := new_look d ev
     have hae : anewE d ⟨ek, es, ey, eu, ev, ex⟩ = ⟨ek, xR d es, ey, xR d eu, xR d ev, ex⟩ := rfl
     rw [hae] at h2
     clear hae
     generalize xR d es = ns at *
     generalize xR d eu = nu at *
     generalize xR d ev = nv at *
     have hXi : i < X.length := by omega
     have i1 : (0 : Int) ≤ ((i : Nat) : Int) ∧ ((i : Nat) : Int) < (((X.map zQ.V).length : Nat) : Int) := by rw [List.length_map]; omega
     have k1 := put_field (k := 1) (e' := ⟨ek, ns, ey, eu, ev, ex⟩) (c := .val (.int .u64 ns)) h1 (by decide) rfl rfl
     have t1 := flat_lt hXi (k := 1) (by decide)
     have z1 : ((X.set i ⟨ek, ns, ey, eu, ev, ex⟩).map zQ.V).length = (X.map zQ.V).length := by simp
     have h3 : (X.set i ⟨ek, ns, ey, eu, ev, ex⟩)[i]? = some ⟨ek, ns, ey, eu, ev, ex⟩ := by simp [hXi]
     have i2 : (0 : Int) ≤ ((i : Nat) : Int) ∧ ((i : Nat) : Int) < ((((X.set i ⟨ek, ns, ey, eu, ev, ex⟩).map zQ.V).length : Nat) : Int) := by rw [z1]; exact i1
     have k2 := put_field (k := 3) (e' := ⟨ek, ns, ey, nu, ev, ex⟩) (c := .val (.int .u64 nu)) h3 (by decide) rfl rfl
     have t2 := flat_lt (X := X.set i ⟨ek, ns, ey, eu, ev, ex⟩) (i := i) (k := 3) (by simpa using hXi) (by decide)
     rw [set_set] at k2
     have z2 : ((X.set i ⟨ek, ns, ey, nu, ev, ex⟩).map zQ.V).length = ((X.set i ⟨ek, ns, ey, eu, ev, ex⟩).map zQ.V).length := by simp
     have h4 : (X.set i ⟨ek, ns, ey, nu, ev, ex⟩)[i]? = some ⟨ek, ns, ey, nu, ev, ex⟩ := by simp [hXi]
     have i3 : (0 : Int) ≤ ((i : Nat) : Int) ∧ ((i : Nat) : Int) < ((((X.set i ⟨ek, ns, ey, nu, ev, ex⟩).map zQ.V).length : Nat) : Int) := by rw [z2]; exact i2
     have k3 := put_field (k := 4) (e' := ⟨ek, ns, ey, nu, nv, ex⟩) (c := .val (.int .u64 nv)) h4 (by decide) rfl rfl
     have t3 := flat_lt (X := X.set i ⟨ek, ns, ey, nu, ev, ex⟩) (i := i) (k := 4) (by simpa using hXi) (by decide)
     rw [set_set] at k3
     have z3 : ((X.set i ⟨ek, ns, ey, nu, nv, ex⟩).map zQ.V).length = ((X.set i ⟨ek, ns, ey, nu, ev, ex⟩).map zQ.V).length := by simp
     have hcL := yH L
     repeat' (first | (refine zZ.is ?_; first | refine zZ.seq ?_ | (refine zZ.iq 9 ?_; refine zZ.rqd _ K_1z K_t ?_; refine zY.v rfl rfl (zR rfl rfl rfl g1 rfl (by decide)) ?_; refine zY.nil ?_) | (refine zZ.iq 10 ?_; refine zZ.rqd _ K_1z K_t ?_; refine zY.vm rfl rfl rfl rfl (by decide) ?_; refine zY.v rfl rfl (zH rfl rfl rfl hcL g2 rfl (by decide)) ?_; refine zY.v rfl rfl (by exact y8 rfl rfl (by exact Nat.le_of_ble_eq_true rfl) rfl (by decide)) ?_; refine zY.m rfl rfl (yN rfl (by decide) rfl (by decide)) ?_; refine zY.va rfl rfl rfl rfl (by decide) ?_; refine zY.w rfl (by exact yZ rfl rfl rfl rfl rfl (by rfl) (by exact Nat.le_of_ble_eq_true rfl) rfl rfl) ?_; refine zY.nil ?_) | (refine zZ.iq 11 ?_; refine zZ.rqb _ K_1z K_t ?_; refine zY.v rfl rfl (yA rfl rfl rfl (by decide)) ?_; refine zY.vm rfl rfl rfl rfl (by decide) ?_; refine zY.v rfl rfl (yA rfl rfl rfl (by decide)) ?_; refine zY.vm rfl rfl rfl rfl (by decide) ?_; refine zY.v rfl rfl (yA rfl rfl rfl (by decide)) ?_; refine zY.vm rfl rfl rfl rfl (by decide) ?_; refine zY.v rfl rfl (yA rfl rfl rfl (by decide)) ?_; refine zY.v rfl rfl (zJ rfl rfl rfl (by decide)) ?_; refine zY.v rfl rfl (zC rfl rfl rfl (by rfl) rfl (by decide)) ?_; refine zY.v rfl rfl (by exact w_lookZ rfl rfl rfl (by exact fun _ _ h => h) rfl l1 rfl rfl rfl (by decide)) ?_; refine zY.v rfl rfl (yA rfl rfl rfl (by decide)) ?_; refine zY.v rfl rfl (zJ rfl rfl rfl (by decide)) ?_; refine zY.v rfl rfl (zC rfl rfl rfl (by rfl) rfl (by decide)) ?_; refine zY.v rfl rfl (by exact w_lookZ rfl rfl rfl (by exact fun _ _ h => h) rfl l2 rfl rfl rfl (by decide)) ?_; refine zY.v rfl rfl (yA rfl rfl rfl (by decide)) ?_; refine zY.v rfl rfl (zJ rfl rfl rfl (by decide)) ?_; refine zY.v rfl rfl (zC rfl rfl rfl (by rfl) rfl (by decide)) ?_; refine zY.v rfl rfl (by exact w_lookZ rfl rfl rfl (by exact fun _ _ h => h) rfl l3 rfl rfl rfl (by decide)) ?_; refine zY.v rfl rfl (w_indexV rfl rfl rfl rfl i1 rfl (by decide)) ?_; refine zY.v rfl rfl (zJ rfl rfl rfl (by decide)) ?_; refine zY.w rfl (w_storeVF rfl rfl rfl rfl rfl rfl t1 k1 z1 rfl) ?_; refine zY.v rfl rfl (w_indexV rfl rfl rfl rfl i2 rfl (by decide)) ?_; refine zY.v rfl rfl (zJ rfl rfl rfl (by decide)) ?_; refine zY.w rfl (w_storeVF rfl rfl rfl rfl rfl rfl t2 k2 z2 rfl) ?_; refine zY.v rfl rfl (w_indexV rfl rfl rfl rfl i3 rfl (by decide)) ?_; refine zY.v rfl rfl (zJ rfl rfl rfl (by decide)) ?_; refine zY.w rfl (w_storeVF rfl rfl rfl rfl rfl rfl t3 k3 z3 rfl) ?_; refine zY.nil ?_) | (refine zZ.iq 12 ?_; refine zZ.rqb _ K_1z K_t ?_; refine zY.v rfl rfl (yD rfl rfl rfl g3 rfl (by decide)) ?_; refine zY.vm rfl rfl rfl rfl (by decide) ?_; refine zY.nil ?_) | refine zZ.yV rfl (by first | assumption | with_reducible rfl) ?_ | refine zZ.skip ?_ | refine zZ.block ?_) | refine zF.n ?_ | refine zM.n ?_)
     all_goals
      refine ⟨i + 1, ?_, hlt, by omega⟩
      rw [h2]
      exact zB K_37 K_38
    case neg =>
     have hie : i = L.length := by omega
     subst hie
     have g1 : decide (((L.length : Nat) : Int) < ((L.length : Nat) : Int)) = false := decide_eq_false (by omega)
     have hX : anX d L L.length = L.map (anewE d) := by simp [anX]
     rw [hX]
     repeat' (first | (refine zZ.is ?_; first | refine zZ.seq ?_ | (refine zZ.iq 9 ?_; refine zZ.rqd _ K_1z K_39 ?_; refine zY.v rfl rfl (zR rfl rfl rfl g1 rfl (by decide)) ?_; refine zY.nil ?_) | (refine zZ.iq 13 ?_; refine zZ.rqw _ K_3a K_39 ?_; refine zY.v rfl rfl (yA rfl rfl rfl (by decide)) ?_; refine zY.v rfl rfl (zP rfl rfl rfl (by decide)) ?_; refine zY.nil ?_) | refine zZ.yX rfl (by first | assumption | with_reducible rfl) ?_ | refine zZ.exit ?_ | refine zZ.ret ?_) | refine zF.n ?_ | refine zM.eY ?_ | refine zF.e ?_)
     all_goals exact ⟨.inl rfl, _, sub_frzE 25 46 6 _ rfl, xC.p rfl (.tmp rfl)⟩
end Go.Proofs.YtomlhekjgagjaaaDoor
namespace Go.Proofs.YtomlhekjgagjaaaDoor
set_option maxRecDepth 100000
set_option maxHeartbeats 16000000
open Go Go.RowKit
variable {P : Program} {n : Nat} {o : Oper} {S : AS} {d : Nat} {t : TypeId} {x y : Operand}
theorem w_capN {t' : Nat} [ht : Und P t (.slice t')] (ho : o.op = .call { callee := .builtin .cap, args := #[x], argTypes := #[t] }) (hx : S.get x = .p (.val (.slice none 0 0))) (hd : o.dst = some d) (hn : d < n) : zA P n o S [] (.p (.val (.int .i64 0))) none :=
  zA.pure hd hn fun S2 hg _ M w0 ρ a w hs => by
    have r1 := hs.val ((hg x (by rw [ho]; simp [Op.operands, Call.operands])).trans hx)
    refine ⟨.int .i64 0, w, ?_, Below.refl _ _, .p (.val _)⟩
    unfold execOp
    simp only [ho, resolve, invoke, builtin, Sem.run_bind, Sem.run_pure, Result.andThen_ok, List.map_toArray, List.map_cons, List.map_nil, r1]
    simp [Builtin.cap_, run_underlying ht.h]
    rfl
theorem w_headN {e sz : Nat} {k2 : IntKind} {agg : Bool} {xh : Operand} [ht : Und P t (.slice e)] [he : TyA P e agg sz] (ho : o.op = .slice t x none (some xh) none) (hx : S.get x = .p (.val (.slice none 0 0)))
    (hh : S.get xh = .p (.val (.int k2 0))) (hd : o.dst = some d) (hn : d < n) : zA P n o S [] (.p (.val (.slice none 0 0))) none :=
  zA.pure hd hn fun S2 hg _ M w0 ρ a w hs => by
    have r1 := hs.val ((hg x (by rw [ho]; simp [Op.operands])).trans hx)
    have r3 := hs.val ((hg xh (by rw [ho]; simp [Op.operands])).trans hh)
    have hel : P.elem t = e := by simp [Program.elem, ht.h]
    have ht2 : P.underlying t = some (.slice (P.elem t)) := by rw [hel]; exact ht.h
    refine ⟨.slice none 0 0, w, ?_, Below.refl _ _, .p (.val _)⟩
    unfold execOp
    rw [ho]
    simp only [Option.map_some, Option.map_none, r1, r3, Sem.run_bind, run_sliceAt_slice w t _ _ _ _ ht2, run_slice_h w t none 0 0 ht2 k2 0 (by omega) (by omega)]
    rw [hel, he.sz w]
    rfl
theorem run_append_zerosN (w : World) (t ti ty e : TypeId) (i : TypeInfo) (z : Value) (ht : P.underlying t = some (.slice e)) (hti : P.underlying ti = some (.int .i64))
    (hi : P.info? e = some i) (hz : i.zero = some z) (hs : 0 < i.size) (n : Nat)
    (hg : 0 < n) (h63 : (n : Int) ≤ 9223372036854775807) (hb : (n : Int) * i.bytes ≤ 281474976710656) :
    (Builtin.append_ #[t, ti] ty #[.slice none 0 0, .int .i64 n]).run P w =
      .ok (.slice (some ⟨w.heap.size, 0, none⟩) n (grownCap w n 0 e))
        (w.drew.alloc (.cells (Builtin.zeroCells z.cells n ++ Builtin.zeroCells z.cells (grownCap w n 0 e - n)) e)) := by
  have hn : ¬ (n ≤ 0) := by omega
  have hn0 : n ≠ 0 := by omega
  have h63' : ¬ (9223372036854775807 < (n : Int)) := by omega
  have hw : IntKind.i64.wrap (n : Int) = (n : Int) := by rw [IntKind.wrap_i64]; omega
  have hneg : ¬ ((n : Int) < 0) := by omega
  have hb' : ¬ (281474976710656 < (n : Int) * i.bytes) := by omega
  have hcap : Builtin.nextslicecap n 0 = n := by unfold Builtin.nextslicecap; rw [if_pos (by omega)]
  have h48' : ¬ (281474976710656 < n * i.bytes) := by
    intro h
    apply hb'
    have h2 := Int.ofNat_lt.2 h
    rw [Int.natCast_mul] at h2
    exact h2
  have hns : ¬ (n * i.size = 0) := by
    intro h
    rcases Nat.mul_eq_zero.1 h with h | h <;> omega
  have hns' : ¬ (n = 0 ∨ i.size = 0) := by omega
  have hfo := run_firstCells_none (P := P) w.drew
  simp [Builtin.append_, run_underlying ht, run_underlying hti, sizeOf, typeInfo, zeroValue, hi, hz, asInt, asIntOf, hn, hw, hn0, hneg, hb', h63', hcap, h48', hns', Question.forced, newRow, grownCap]
  rw [hfo]
  simp only [Result.andThen_ok, if_neg hns]
  simp
theorem w_appZ {ti e sz by_ m : Nat} {z : Value} {zp : PV} [ht : Und P t (.slice e)] [hti : Und P ti (.int .i64)] [hi : InfoA P e z sz by_] (ho : o.op = .call { callee := .builtin .append, args := #[x, y], argTypes := #[t, ti] })
    (hx : S.get x = .p (.val (.slice none 0 0))) (hy : S.get y = .p (.val (.int .i64 (m : Nat)))) (hlim : 0 < m ∧ m * by_ ≤ 140737488355328 ∧ m ≤ maxLen) (hzs : z.cells.size = sz) (hsz : 0 < sz)
    (hzp : zp.cells = z.cells.toList.map PV.val) (h1 : z.cells.toList.all (fun u => u.oneCell') = true) (hd : o.dst = some d) (hn : d < n) : zA P n o S [] (.own d) (some (xD e sz (List.replicate m zp))) :=
  zA.made hd hn fun S2 hg _ M w0 ρ a w hs => by
    have r1 := hs.val ((hg x (by rw [ho]; simp [Op.operands, Call.operands])).trans hx)
    have r2 := hs.val ((hg y (by rw [ho]; simp [Op.operands, Call.operands])).trans hy)
    obtain ⟨i, hi1, hi2⟩ := Option.map_eq_some_iff.1 hi.h
    simp only [Prod.mk.injEq] at hi2
    obtain ⟨hz, hisz, hiby⟩ := hi2
    have hmx := hlim.2.2
    have hby : (m : Int) * i.bytes ≤ 281474976710656 := by
      rw [hiby]
      have := hlim.2.1
      have h2 := Int.ofNat_le.2 this
      rw [Int.natCast_mul] at h2
      exact Int.le_trans h2 (by decide)
    have hr := run_append_zerosN (P := P) w t ti o.type e i z ht.h hti.h hi1 hz (by omega) m hlim.1 (by simp only [maxLen] at hmx; omega) hby
    have hge := grownCap_ge w m 0 e
    have hzl : z.cells.toList.length = sz := by rw [Array.length_toList]; exact hzs
    have hzat : ∀ (k j : Nat), j < k * sz → (Builtin.zeroCells z.cells k).toList[j]? = z.cells.toList[j % sz]? := fun k j hj => by
      have hjs : j % sz < z.cells.size := by rw [hzs]; exact Nat.mod_lt _ hsz
      simp only [Builtin.zeroCells, Array.toList_map, Array.toList_range, List.getElem?_map, hzs, List.getElem?_range hj, Option.map_some, Array.getElem?_toList]
      rw [getElem!_pos z.cells _ hjs, Array.getElem?_eq_getElem hjs]
    have hzn : ∀ k, (Builtin.zeroCells z.cells k).toList.length = k * sz := fun k => by
      simp [Builtin.zeroCells, hzs]
    have hfl : flat (List.replicate m zp) = (Builtin.zeroCells z.cells m).toList.map PV.val := by
      apply List.ext_getElem?
      intro j
      by_cases hj : j < m * sz
      · rw [flat_rep (sz := sz) (by rw [hzp, List.length_map, hzl]) hsz hj, hzp, List.getElem?_map, List.getElem?_map, hzat m j hj]
      · rw [List.getElem?_eq_none (l := (Builtin.zeroCells z.cells m).toList.map PV.val) (by rw [List.length_map, hzn]; omega), List.getElem?_eq_none]
        rw [flat_len (sz := sz) (fun e he => by rw [List.eq_of_mem_replicate he, hzp, List.length_map, hzl]), List.length_replicate]
        omega
    refine ⟨.slice (some ⟨w.heap.size, 0, none⟩) m (grownCap w m 0 e), w.drew.alloc (.cells (Builtin.zeroCells z.cells m ++ Builtin.zeroCells z.cells (grownCap w m 0 e - m)) e), ?_, ?_, fun k hk => ?_, ?_, .inl rfl⟩
    · unfold execOp
      simp only [ho, resolve, invoke, builtin, Sem.run_bind, Sem.run_pure, Result.andThen_ok, List.map_toArray, List.map_cons, List.map_nil, r1, r2, hr]
    · exact (show w.grownBy w.drew none from ⟨rfl, rfl, rfl, Nat.le_refl _, fun _ _ _ => rfl⟩).trans (World.grownBy_alloc _ _ none)
    · simp only [z8, Option.some.injEq] at hk; omega
    · refine ⟨(Builtin.zeroCells z.cells m).toList, ?_, ⟨by rw [hfl, List.length_map, List.length_map], fun j c v h2 h3 => ?_, fun v hv => ?_⟩⟩
      · rw [List.length_replicate]
        refine ⟨hzn m, .inr ⟨w.heap.size, grownCap w m 0 e, _, rfl, Nat.zero_le _, heap_alloc_new w.drew _, hge, grownCap_le_maxLen w m 0 e hmx, ?_, ?_⟩⟩
        · rw [Array.size_append, ← Array.length_toList, ← Array.length_toList, hzn, hzn, ← Nat.add_mul]
          congr 1
          omega
        · rw [Array.toList_append, List.take_left' (hzn m)]
      · rw [hfl, List.map_map, List.getElem?_map, h3] at h2
        cases h2
        exact .p (.val _)
      · obtain ⟨j, hj⟩ := List.getElem?_of_mem hv
        have hjl : j < m * sz := by
          have := (List.getElem?_eq_some_iff.1 hj).1
          rw [hzn] at this
          exact this
        rw [hzat m j hjl] at hj
        exact List.all_eq_true.1 h1 v (List.mem_of_getElem? hj)
theorem w_appZN {ti e sz by_ m : Nat} {z : Value} [ht : Und P t (.slice e)] [hti : Und P ti (.int .i64)] [hi : InfoA P e z sz by_] (ho : o.op = .call { callee := .builtin .append, args := #[x, y], argTypes := #[t, ti] })
    (hx : S.get x = .p (.val (.slice none 0 0))) (hy : S.get y = .p (.val (.int .i64 (m : Nat)))) (hlim : 0 < m ∧ m * by_ ≤ 140737488355328 ∧ m ≤ maxLen) (hzs : z.cells.size = sz) (hsz : 0 < sz)
    (h1 : z.cells.toList.all (fun u => u.oneCell') = true) (hd : o.dst = some d) (hn : d < n) : zA P n o S [] (.own d) (some (xD e sz (List.replicate m (.agg (z.cells.toList.map PV.val))))) :=
  w_appZ ho hx hy hlim hzs hsz (zp := .agg (z.cells.toList.map PV.val)) rfl h1 hd hn
end Go.Proofs.YtomlhekjgagjaaaDoor
namespace Go.Proofs.YtomlhekjgagjaaaDoor
set_option maxRecDepth 100000
set_option maxHeartbeats 16000000
open Go Go.RowKit
attribute [local irreducible] zY zZ Step zA Sub zN yY Fn zF zM
theorem growE_fn (m : Nat) (h0 : 0 < m) (hm : m ≤ 2000001) : Fn Tryd.prog 57 [.val (.slice none 0 0), .val (.int .i64 (m : Nat))] (.row 46 6 ([] : List PV).length (flat [])) := by
 refine wJ Tryd.func57 rfl Tryd.ntmps57 (Nat.le_of_ble_eq_true rfl) ?_
 have c1 : decide (((m : Nat) : Int) < 0) = false := decide_eq_false (by omega)
 have c2 : IntKind.i64.wrap (((m : Nat) : Int) - 0) = ((m : Nat) : Int) := by rw [wrap_i64 _ (by omega)]; omega
 have c3 : decide (((m : Nat) : Int) > 0) = true := decide_eq_true (by omega)
 have c4 : 0 < m ∧ m * 48 ≤ 140737488355328 ∧ m ≤ maxLen := ⟨h0, by omega, by simp only [maxLen]; omega⟩
 have c5 : (0 : Int) = ((0 : Nat) : Int) := rfl
 have c6 : ∀ e ∈ List.replicate m (PV.agg [.val (.int .i64 0), .val (.int .u64 0), .val (.int .u64 0), .val (.int .u64 0), .val (.int .u64 0), .val (.int .u64 0)]), e.cells.length = 6 := fun e he => by
  rw [List.eq_of_mem_replicate he]; rfl
 have c7 : 0 ≤ (List.replicate m (PV.agg [.val (.int .i64 0), .val (.int .u64 0), .val (.int .u64 0), .val (.int .u64 0), .val (.int .u64 0), .val (.int .u64 0)])).length := Nat.zero_le _
 repeat' (first | (refine zZ.is ?_; first | refine zZ.seq ?_ | (refine zZ.iq 0 ?_; refine zZ.rqa _ K_h K_20 ?_; refine zY.va rfl rfl rfl rfl (by decide) ?_; refine zY.nil ?_) | (refine zZ.iq 1 ?_; refine zZ.rqa _ K_2b K_20 ?_; refine zY.vm rfl rfl rfl rfl (by decide) ?_; refine zY.v rfl rfl (zR rfl rfl rfl c1 rfl (by decide)) ?_; refine zY.nil ?_) | (refine zZ.iq 3 ?_; refine zZ.rqa _ K_2b K_20 ?_; refine zY.vm rfl rfl rfl rfl (by decide) ?_; refine zY.vm rfl rfl rfl rfl (by decide) ?_; refine zY.v rfl rfl (w_capN rfl rfl rfl (by decide)) ?_; refine zY.vm rfl rfl rfl rfl (by decide) ?_; refine zY.v rfl rfl (w_lenN rfl rfl rfl (by decide)) ?_; refine zY.v rfl rfl (wY rfl rfl rfl c5 rfl (by decide)) ?_; refine zY.v rfl rfl (wY rfl rfl rfl c2 rfl (by decide)) ?_; refine zY.va rfl rfl rfl rfl (by decide) ?_; refine zY.nil ?_) | (refine zZ.iq 4 ?_; refine zZ.rqa _ K_2b K_20 ?_; refine zY.vm rfl rfl rfl rfl (by decide) ?_; refine zY.v rfl rfl (wW rfl rfl rfl c3 rfl (by decide)) ?_; refine zY.nil ?_) | (refine zZ.iq 5 ?_; refine zZ.rqa _ K_2b K_20 ?_; refine zY.vm rfl rfl rfl rfl (by decide) ?_; refine zY.vm rfl rfl rfl rfl (by decide) ?_; refine zY.v rfl rfl (w_capN rfl rfl rfl (by decide)) ?_; refine zY.v rfl rfl (w_headN rfl rfl rfl rfl (by decide)) ?_; refine zY.vm rfl rfl rfl rfl (by decide) ?_; refine zY.m rfl rfl (w_appZN rfl rfl rfl c4 rfl (by decide) rfl rfl (by decide)) ?_; refine zY.vm rfl rfl rfl rfl (by decide) ?_; refine zY.v rfl rfl (w_lenN rfl rfl rfl (by decide)) ?_; refine zY.w rfl (s_headV rfl rfl rfl c6 rfl c5 c7 rfl (by decide)) ?_; refine zY.v rfl rfl (zP rfl rfl rfl (by decide)) ?_; refine zY.nil ?_) | (refine zZ.isR (id := 6) ?_; refine zZ.zV [0, 4] [4, 22] (by repeat' first | exact zX.nil | apply zX.p rfl | apply zX.own rfl) (by repeat' first | exact zW.nil | apply zW.some rfl | apply zW.skip) ?_; refine zY.v rfl rfl (yA rfl rfl rfl (by decide)) ?_; refine zY.v rfl rfl (zP rfl rfl rfl (by decide)) ?_; refine zY.nil ?_) | refine zZ.yV rfl (by first | assumption | with_reducible rfl) ?_ | refine zZ.yX rfl (by assumption) ?_ | refine zZ.skip ?_ | refine zZ.ret ?_) | refine zF.n ?_)
 all_goals exact ⟨.inl rfl, givesRowV rfl rfl rfl⟩
def coS (A B : List zQ) (q n : Nat) : AS := { t := [(0, .p (.sl [.sl (A.map zQ.V), .sl (B.map zQ.V)])), (3, .p (.val (.int .i64 (n : Nat)))), (9, .p (.sl [.sl (A.map zQ.V), .sl (B.map zQ.V)])), (10, .p (.val (.int .i64 2))), (11, .p (.val (.int .i64 (q : Nat))))], s := [] }
def coT (A B : List zQ) (q : Nat) (X : List zQ) : AS := { t := [(6, .own 24), (25, .p (.sl [.sl (A.map zQ.V), .sl (B.map zQ.V)])), (26, .p (.val (.int .i64 2))), (27, .p (.val (.int .i64 (q : Nat))))], s := [(24, xD 46 6 (X.map zQ.V))] }
theorem concatE_fn (A B : List zQ) (hA : 0 < A.length) (hA2 : A.length ≤ 1000000) (hB : B.length ≤ 1000000) : Fn Tryd.prog 37 [.sl [.sl (A.map zQ.V), .sl (B.map zQ.V)]] (.p (.sl ((A ++ B).map zQ.V))) := by
  have hlA : (A.map zQ.V).length = A.length := by rw [List.length_map]
  have hlB : (B.map zQ.V).length = B.length := by rw [List.length_map]
  have hcA := yH A
  have hcB := yH B
  have hc : ∀ e ∈ [PV.sl (A.map zQ.V), .sl (B.map zQ.V)], e.cells.length = 1 := fun e he => by
    simp only [List.mem_cons, List.not_mem_nil, or_false] at he
    rcases he with rfl | rfl <;> rfl
  have gr := growE_fn (A.length + B.length) (by omega) (by omega)
  refine wJ Tryd.func37 rfl Tryd.ntmps37 (Nat.le_of_ble_eq_true rfl) ?_
  repeat' (first | (refine zZ.is ?_; first | refine zZ.seq ?_ | (refine zZ.iq 0 ?_; refine zZ.rqa _ K_2 K_6 ?_; refine zY.va rfl rfl rfl rfl (by decide) ?_; refine zY.nil ?_) | (refine zZ.iq 1 ?_; refine zZ.rqa _ K_c K_6 ?_; refine zY.va rfl rfl rfl rfl (by decide) ?_; refine zY.nil ?_) | (refine zZ.iq 2 ?_; refine zZ.rqa _ K_3 K_6 ?_; refine zY.vm rfl rfl rfl rfl (by decide) ?_; refine zY.v rfl rfl (yQ rfl rfl rfl (by decide)) ?_; refine zY.vm rfl rfl rfl rfl (by decide) ?_; refine zY.nil ?_) | refine zZ.block ?_) | refine zF.n ?_)
  refine zZ.loop (fun p : Nat × Nat => coS A B p.1 p.2) (fun p => p = (0, 0) ∨ p = (1, A.length) ∨ p = (2, A.length + B.length)) (fun p => 2 - p.1) (0, 0) ?h0 (.inl rfl) ?rd
  case h0 =>
    unfold coS
    exact zB K_2k []
  case rd =>
    rintro p (rfl | rfl | rfl)
    · have g1 : decide (((0 : Nat) : Int) < 2) = true := rfl
      have g2 : [PV.sl (A.map zQ.V), .sl (B.map zQ.V)][0]? = some (.sl (A.map zQ.V)) := rfl
      have g3 : IntKind.i64.wrap (((0 : Nat) : Int) + (((A.map zQ.V).length : Nat) : Int)) = ((A.length : Nat) : Int) := by rw [hlA, wrap_i64 _ (by omega)]; omega
      have g4 : decide (((A.length : Nat) : Int) < 0) = false := decide_eq_false (by omega)
      have g5 : IntKind.i64.wrap (((0 : Nat) : Int) + 1) = ((1 : Nat) : Int) := rfl
      unfold coS
      repeat' (first | (refine zZ.is ?_; first | refine zZ.seq ?_ | (refine zZ.iq 3 ?_; refine zZ.rqj _ K_15 K_6 ?_; refine zY.v rfl rfl (zR rfl rfl rfl g1 rfl (by decide)) ?_; refine zY.nil ?_) | (refine zZ.iq 4 ?_; refine zZ.rqj _ K_15 K_6 ?_; refine zY.v rfl rfl (zH rfl rfl rfl hc g2 rfl (by decide)) ?_; refine zY.v rfl rfl (zT rfl rfl rfl rfl (by decide)) ?_; refine zY.va rfl rfl rfl rfl (by decide) ?_; refine zY.nil ?_) | (refine zZ.iq 5 ?_; refine zZ.rqj _ K_15 K_6 ?_; refine zY.vm rfl rfl rfl rfl (by decide) ?_; refine zY.vm rfl rfl rfl rfl (by decide) ?_; refine zY.v rfl rfl (yQ rfl rfl rfl (by decide)) ?_; refine zY.v rfl rfl (yD rfl rfl rfl g3 rfl (by decide)) ?_; refine zY.va rfl rfl rfl rfl (by decide) ?_; refine zY.nil ?_) | (refine zZ.iq 6 ?_; refine zZ.rqj _ K_15 K_6 ?_; refine zY.vm rfl rfl rfl rfl (by decide) ?_; refine zY.v rfl rfl (zR rfl rfl rfl g4 rfl (by decide)) ?_; refine zY.nil ?_) | (refine zZ.iq 8 ?_; refine zZ.rqj _ K_15 K_6 ?_; refine zY.v rfl rfl (yD rfl rfl rfl g5 rfl (by decide)) ?_; refine zY.vm rfl rfl rfl rfl (by decide) ?_; refine zY.nil ?_) | refine zZ.yV rfl (by assumption) ?_ | refine zZ.yX rfl (by assumption) ?_ | refine zZ.skip ?_ | refine zZ.block ?_) | refine zF.n ?_ | refine zM.n ?_)
      all_goals
        refine ⟨(1, A.length), ?_, .inr (.inl rfl), by simp⟩
        try unfold coS
        exact zB K_2k []
    · have g1 : decide (((1 : Nat) : Int) < 2) = true := rfl
      have g2 : [PV.sl (A.map zQ.V), .sl (B.map zQ.V)][1]? = some (.sl (B.map zQ.V)) := rfl
      have g3 : IntKind.i64.wrap (((A.length : Nat) : Int) + (((B.map zQ.V).length : Nat) : Int)) = ((A.length + B.length : Nat) : Int) := by rw [hlB, wrap_i64 _ (by omega)]; omega
      have g4 : decide (((A.length + B.length : Nat) : Int) < 0) = false := decide_eq_false (by omega)
      have g5 : IntKind.i64.wrap (((1 : Nat) : Int) + 1) = ((2 : Nat) : Int) := rfl
      unfold coS
      repeat' (first | (refine zZ.is ?_; first | refine zZ.seq ?_ | (refine zZ.iq 3 ?_; refine zZ.rqj _ K_15 K_6 ?_; refine zY.v rfl rfl (zR rfl rfl rfl g1 rfl (by decide)) ?_; refine zY.nil ?_) | (refine zZ.iq 4 ?_; refine zZ.rqj _ K_15 K_6 ?_; refine zY.v rfl rfl (zH rfl rfl rfl hc g2 rfl (by decide)) ?_; refine zY.v rfl rfl (zT rfl rfl rfl rfl (by decide)) ?_; refine zY.va rfl rfl rfl rfl (by decide) ?_; refine zY.nil ?_) | (refine zZ.iq 5 ?_; refine zZ.rqj _ K_15 K_6 ?_; refine zY.vm rfl rfl rfl rfl (by decide) ?_; refine zY.vm rfl rfl rfl rfl (by decide) ?_; refine zY.v rfl rfl (yQ rfl rfl rfl (by decide)) ?_; refine zY.v rfl rfl (yD rfl rfl rfl g3 rfl (by decide)) ?_; refine zY.va rfl rfl rfl rfl (by decide) ?_; refine zY.nil ?_) | (refine zZ.iq 6 ?_; refine zZ.rqj _ K_15 K_6 ?_; refine zY.vm rfl rfl rfl rfl (by decide) ?_; refine zY.v rfl rfl (zR rfl rfl rfl g4 rfl (by decide)) ?_; refine zY.nil ?_) | (refine zZ.iq 8 ?_; refine zZ.rqj _ K_15 K_6 ?_; refine zY.v rfl rfl (yD rfl rfl rfl g5 rfl (by decide)) ?_; refine zY.vm rfl rfl rfl rfl (by decide) ?_; refine zY.nil ?_) | refine zZ.yV rfl (by assumption) ?_ | refine zZ.yX rfl (by assumption) ?_ | refine zZ.skip ?_ | refine zZ.block ?_) | refine zF.n ?_ | refine zM.n ?_)
      all_goals
        refine ⟨(2, A.length + B.length), ?_, .inr (.inr rfl), by simp⟩
        try unfold coS
        exact zB K_2k []
    · have g1 : decide (((2 : Nat) : Int) < 2) = false := rfl
      unfold coS
      repeat' (first | (refine zZ.is ?_; first | refine zZ.seq ?_ | (refine zZ.iq 3 ?_; refine zZ.rqj _ K_15 K_6 ?_; refine zY.v rfl rfl (zR rfl rfl rfl g1 rfl (by decide)) ?_; refine zY.nil ?_) | (refine zZ.iq 9 ?_; refine zZ.rqj _ K_3 K_6 ?_; refine zY.vm rfl rfl rfl rfl (by decide) ?_; refine zY.m rfl rfl (w_callRowV gr rfl rfl rfl (by decide)) ?_; refine zY.v rfl rfl (zP rfl rfl rfl (by decide)) ?_; refine zY.nil ?_) | (refine zZ.iq 10 ?_; refine zZ.rqd _ K_3s K_6 ?_; refine zY.vm rfl rfl rfl rfl (by decide) ?_; refine zY.v rfl rfl (yQ rfl rfl rfl (by decide)) ?_; refine zY.vm rfl rfl rfl rfl (by decide) ?_; refine zY.nil ?_) | refine zZ.yX rfl (by assumption) ?_ | refine zZ.block ?_ | refine zZ.exit ?_) | refine zF.n ?_ | refine zM.eY ?_ | refine zF.e ?_)
      refine zZ.loop (fun p : Nat × List zQ => coT A B p.1 p.2) (fun p => p = (0, []) ∨ p = (1, A) ∨ p = (2, A ++ B)) (fun p => 2 - p.1) (0, []) ?q0 (.inl rfl) ?qr
      case q0 =>
        unfold coT
        exact zB K_2l K_2m
      case qr =>
        rintro p (rfl | rfl | rfl)
        · have g1 : decide (((0 : Nat) : Int) < 2) = true := rfl
          have g2 : [PV.sl (A.map zQ.V), .sl (B.map zQ.V)][0]? = some (.sl (A.map zQ.V)) := rfl
          have g5 : IntKind.i64.wrap (((0 : Nat) : Int) + 1) = ((1 : Nat) : Int) := rfl
          have q8 : ((([] : List zQ).map zQ.V).length + (A.map zQ.V).length) * 48 ≤ 140737488355328 ∧ (([] : List zQ).map zQ.V).length + (A.map zQ.V).length ≤ maxLen := by
            simp only [List.map_nil, List.length_nil, List.length_map, maxLen]; omega
          unfold coT
          repeat' (first | (refine zZ.is ?_; first | refine zZ.seq ?_ | (refine zZ.iq 11 ?_; refine zZ.rqd _ K_1e K_6 ?_; refine zY.v rfl rfl (zR rfl rfl rfl g1 rfl (by decide)) ?_; refine zY.nil ?_) | (refine zZ.iq 12 ?_; refine zZ.rqd _ K_1e K_6 ?_; refine zY.v rfl rfl (zH rfl rfl rfl hc g2 rfl (by decide)) ?_; refine zY.v rfl rfl (zT rfl rfl rfl rfl (by decide)) ?_; refine zY.va rfl rfl rfl rfl (by decide) ?_; refine zY.nil ?_) | (refine zZ.iq 13 ?_; refine zZ.rqd _ K_1e K_6 ?_; refine zY.v rfl rfl (yA rfl rfl rfl (by decide)) ?_; refine zY.vm rfl rfl rfl rfl (by decide) ?_; refine zY.w rfl (qA rfl rfl rfl rfl hcA q8 rfl (by decide) rfl (by decide)) ?_; refine zY.v rfl rfl (zP rfl rfl rfl (by decide)) ?_; refine zY.nil ?_) | (refine zZ.iq 14 ?_; refine zZ.rqd _ K_1e K_6 ?_; refine zY.v rfl rfl (yD rfl rfl rfl g5 rfl (by decide)) ?_; refine zY.vm rfl rfl rfl rfl (by decide) ?_; refine zY.nil ?_) | refine zZ.yV rfl (by assumption) ?_ | refine zZ.skip ?_ | refine zZ.block ?_) | refine zF.n ?_ | refine zM.n ?_)
          all_goals
            refine ⟨(1, A), ?_, .inr (.inl rfl), by simp⟩
            try unfold coT
            exact zB K_2l K_2m
        · have g1 : decide (((1 : Nat) : Int) < 2) = true := rfl
          have g2 : [PV.sl (A.map zQ.V), .sl (B.map zQ.V)][1]? = some (.sl (B.map zQ.V)) := rfl
          have g5 : IntKind.i64.wrap (((1 : Nat) : Int) + 1) = ((2 : Nat) : Int) := rfl
          have q8 : ((A.map zQ.V).length + (B.map zQ.V).length) * 48 ≤ 140737488355328 ∧ (A.map zQ.V).length + (B.map zQ.V).length ≤ maxLen := by
            simp only [List.length_map, maxLen]; omega
          have hm : (A ++ B).map zQ.V = A.map zQ.V ++ B.map zQ.V := List.map_append
          unfold coT
          repeat' (first | (refine zZ.is ?_; first | refine zZ.seq ?_ | (refine zZ.iq 11 ?_; refine zZ.rqd _ K_1e K_6 ?_; refine zY.v rfl rfl (zR rfl rfl rfl g1 rfl (by decide)) ?_; refine zY.nil ?_) | (refine zZ.iq 12 ?_; refine zZ.rqd _ K_1e K_6 ?_; refine zY.v rfl rfl (zH rfl rfl rfl hc g2 rfl (by decide)) ?_; refine zY.v rfl rfl (zT rfl rfl rfl rfl (by decide)) ?_; refine zY.va rfl rfl rfl rfl (by decide) ?_; refine zY.nil ?_) | (refine zZ.iq 13 ?_; refine zZ.rqd _ K_1e K_6 ?_; refine zY.v rfl rfl (yA rfl rfl rfl (by decide)) ?_; refine zY.vm rfl rfl rfl rfl (by decide) ?_; refine zY.w rfl (qA rfl rfl rfl rfl hcB q8 rfl (by decide) rfl (by decide)) ?_; refine zY.v rfl rfl (zP rfl rfl rfl (by decide)) ?_; refine zY.nil ?_) | (refine zZ.iq 14 ?_; refine zZ.rqd _ K_1e K_6 ?_; refine zY.v rfl rfl (yD rfl rfl rfl g5 rfl (by decide)) ?_; refine zY.vm rfl rfl rfl rfl (by decide) ?_; refine zY.nil ?_) | refine zZ.yV rfl (by assumption) ?_ | refine zZ.skip ?_ | refine zZ.block ?_) | refine zF.n ?_ | refine zM.n ?_)
          all_goals
            refine ⟨(2, A ++ B), ?_, .inr (.inr rfl), by simp⟩
            try unfold coT
            dsimp only
            rw [hm]
            exact zB K_2l K_2m
        · have g1 : decide (((2 : Nat) : Int) < 2) = false := rfl
          unfold coT
          repeat' (first | (refine zZ.is ?_; first | refine zZ.seq ?_ | (refine zZ.iq 11 ?_; refine zZ.rqd _ K_1e K_6 ?_; refine zY.v rfl rfl (zR rfl rfl rfl g1 rfl (by decide)) ?_; refine zY.nil ?_) | (refine zZ.iq 15 ?_; refine zZ.rqw _ K_3a K_6 ?_; refine zY.v rfl rfl (yA rfl rfl rfl (by decide)) ?_; refine zY.v rfl rfl (zP rfl rfl rfl (by decide)) ?_; refine zY.nil ?_) | refine zZ.yX rfl (by assumption) ?_ | refine zZ.exit ?_ | refine zZ.ret ?_) | refine zF.n ?_ | refine zM.eY ?_ | refine zF.e ?_)
          all_goals exact ⟨.inl rfl, _, sub_frzE 24 46 6 _ rfl, xC.p rfl (.tmp rfl)⟩
end Go.Proofs.YtomlhekjgagjaaaDoor
namespace Go.Proofs.YtomlhekjgagjaaaDoor
set_option maxRecDepth 100000
set_option maxHeartbeats 16000000
open Go Go.RowKit
attribute [local irreducible] zY zZ Step zA Sub zN yY Fn zF zM
def zQ.F (e : zQ) : List Int := bytesE e.k e.s e.y e.u e.v e.x
def wE (L : List zQ) : List Int := L.flatMap zQ.F
theorem catE_cons (e : zQ) (L : List zQ) : wE (e :: L) = e.F ++ wE L := rfl
theorem catE_append (A B : List zQ) : wE (A ++ B) = wE A ++ wE B := by simp [wE]
theorem entF_may (e : zQ) : e.F = if e.may = true then putF e.enc else [] := rfl
theorem enc_len (e : zQ) : e.enc.length = if e.k = 1 then 41 else 9 := by
  unfold zQ.enc vR
  by_cases hk : e.k = 1
  · rw [if_pos hk, if_pos hk]; simp [bytesOf_length]
  · rw [if_neg hk, if_neg hk]; simp [bytesOf_length]
theorem entF_len (e : zQ) : e.F.length ≤ 47 := by
  rw [entF_may]
  split
  · rw [putF_length, enc_len]
    split <;> omega
  · exact Nat.zero_le _
theorem catE_len : ∀ (L : List zQ), (wE L).length ≤ 47 * L.length
  | [] => Nat.le_refl _
  | e :: r => by
    rw [catE_cons, List.length_append, List.length_cons]
    have := entF_len e
    have := catE_len r
    omega
def xK (n : Nat) : zQ := ⟨3, (n : Nat), 0, 0, 0, 0⟩
def byS (X : List zQ) (i : Nat) : AS := { t := [(3, .own 42), (17, .p (.sl (X.map zQ.V))), (18, .p (.val (.int .i64 (X.length : Nat)))), (19, .p (.val (.int .i64 (i : Nat))))], s := [(42, wP 5 (wE (X.take i)))] }
theorem enc_bytes {e : zQ} (h : e.ok) : ∀ z ∈ e.enc, 0 ≤ z ∧ z < 256 := by
  intro z hz
  unfold zQ.enc vR at hz
  simp only [List.mem_append, List.mem_cons] at hz
  rcases hz with (rfl | hz) | hz
  · omega
  · exact xO _ _ z hz
  · split at hz
    · simp only [List.mem_append] at hz
      rcases hz with ((hz | hz) | hz) | hz
      all_goals exact xO _ _ z hz
    · cases hz
theorem mBytes_fn (L : List zQ) (hl : L.length ≤ 1000000) (hok : ∀ e ∈ L, e.ok) : Fn Tryd.prog 17 [.sl (L.map zQ.V)] (.p (.sl (byts (wE (xK L.length :: L))))) := by
 have hlL : (L.map zQ.V).length = L.length := by rw [List.length_map]
 have c1 := concatE_fn [xK L.length] L (by simp) (by simp) hl
 have hX : ∀ e ∈ xK L.length :: L, e.ok := fun e he => by
  rcases List.mem_cons.1 he with rfl | he
  ·have z : U 0 := ⟨by decide, by decide⟩
   exact ⟨⟨by show (0 : Int) ≤ ((L.length : Nat) : Int); omega, by show ((L.length : Nat) : Int) < 18446744073709551616; omega⟩, z, z, z, z⟩
  ·exact hok e he
 have hXl : (xK L.length :: L).length ≤ 1000001 := by rw [List.length_cons]; omega
 have c1 : Fn Tryd.prog 37 [.sl [.sl [.agg [.val (.int .i64 3), .val (.int .u64 ((L.length : Nat) : Int)), .val (.int .u64 0), .val (.int .u64 0), .val (.int .u64 0), .val (.int .u64 0)]], .sl (L.map zQ.V)]] (.p (.sl ((xK L.length :: L).map zQ.V))) := c1
 generalize xK L.length :: L = X at *
 have hlX : (X.map zQ.V).length = X.length := by rw [List.length_map]
 have hcX := yH X
 have w1 : IntKind.u64.wrap (((L.map zQ.V).length : Nat) : Int) = ((L.length : Nat) : Int) := by rw [hlL, wrap_u64 _ (by omega)]
 refine wJ Tryd.func17 rfl Tryd.ntmps17 (Nat.le_of_ble_eq_true rfl) ?_
 repeat' (first | (refine zZ.is ?_; first | refine zZ.seq ?_ | (refine zZ.iq 0 ?_; refine zZ.rqa _ K_2 K_2n ?_; refine zY.va rfl rfl rfl rfl (by decide) ?_; refine zY.nil ?_) | (refine zZ.iq 1 ?_; refine zZ.rqa _ K_c K_2n ?_; refine zY.va rfl rfl rfl rfl (by decide) ?_; refine zY.nil ?_) | (refine zZ.iq 2 ?_; refine zZ.rqa _ K_3 K_2n ?_; refine zY.vm rfl rfl rfl rfl (by decide) ?_; refine zY.v rfl rfl (yQ rfl rfl rfl (by decide)) ?_; refine zY.v rfl rfl (yO rfl rfl w1 rfl (by decide)) ?_; refine zY.v rfl rfl (wG rfl (by rfl) (by rfl) (by rfl) (by rfl) rfl (by decide)) ?_; refine zY.v rfl rfl (xJ rfl (by decide) (by decide) (by decide) (by decide) (by rfl) (by rfl) (by rfl) (by rfl) (by rfl) (by rfl) (by rfl) rfl (by decide)) ?_; refine zY.vm rfl rfl rfl rfl (by decide) ?_; refine zY.v rfl rfl (xJ rfl (by decide) (by decide) (by decide) (by decide) (by rfl) (by rfl) (by rfl) (by rfl) (by rfl) (by rfl) (by rfl) rfl (by decide)) ?_; refine zY.v rfl rfl (by exact zU (c1) rfl rfl rfl (by decide)) ?_; refine zY.v rfl rfl (yQ rfl rfl rfl (by decide)) ?_; refine zY.vm rfl rfl rfl rfl (by decide) ?_; refine zY.nil ?_) | refine zZ.block ?_) | refine zF.n ?_)
 refine zZ.loop (byS X) (fun i => i ≤ X.length) (fun i => X.length - i) 0 ?h0 (Nat.zero_le _) ?rd
 case h0 =>
  refine (qB (d := 3) (id := 42) (ty := 5) (sz := 1) (by decide) rfl).trans ?_
  unfold byS
  rw [← hlX, List.take_zero]
  exact zB K_1x K_q
 case rd =>
  intro i hi
  have g3 : IntKind.i64.wrap (((i : Nat) : Int) + 1) = ((i + 1 : Nat) : Int) := by rw [wrap_i64 _ (by omega)]; omega
  unfold byS
  by_cases hlt : i < X.length
  case pos =>
   have g1 : decide (((i : Nat) : Int) < ((X.length : Nat) : Int)) = true := decide_eq_true (by omega)
   obtain ⟨e, he⟩ : ∃ e, X[i]? = some e := ⟨_, List.getElem?_eq_getElem hlt⟩
   have g2 : (X.map zQ.V)[i]? = some e.V := by rw [List.getElem?_map, he]; rfl
   have ho := hX e (List.mem_of_getElem? he)
   have htake : wE (X.take (i + 1)) = wE (X.take i) ++ e.F := by rw [List.take_add_one, he, catE_append]; simp [wE]
   have hlen := catE_len (X.take i)
   have hF := entF_len e
   have l1 : (wE (X.take i)).length + e.F.length ≤ 140737488355328 := by rw [List.length_take] at hlen; omega
   rw [entF_may] at htake l1
   have hen := enc_fn e.k e.s e.y e.u e.v e.x ho.s.1 ho.s.2 ho.y.1 ho.y.2 ho.u.1 ho.u.2 ho.v.1 ho.v.2 ho.x.1 ho.x.2
   have hpu := put_fn e.enc (enc_bytes ho) (by have := enc_len e; constructor <;> (rw [this]; split <;> omega))
   clear hlen hF
   cases hm : e.may
   case true =>
    rw [hm, if_pos rfl] at htake l1
    have hm : vW e.k e.s e.y e.u e.v e.x = true := hm
    rw [hm, if_pos rfl] at hen
    have hen : Fn Tryd.prog 38 [e.V] (.tup [.sl (byts e.enc), .val (.int .i64 0)]) := hen
    generalize e.enc = E at *
    clear he ho hm
    obtain ⟨ek, es, ey, eu, ev, ex⟩ := e
    repeat' (first | (refine zZ.is ?_; first | refine zZ.seq ?_ | (refine zZ.iq 3 ?_; refine zZ.rqm _ K_u K_v ?_; refine zY.v rfl rfl (zR rfl rfl rfl g1 rfl (by decide)) ?_; refine zY.nil ?_) | (refine zZ.iq 4 ?_; refine zZ.rqm _ K_u K_v ?_; refine zY.v rfl rfl (zH rfl rfl rfl hcX g2 rfl (by decide)) ?_; refine zY.v rfl rfl (by exact y8 rfl rfl (by exact Nat.le_of_ble_eq_true rfl) rfl (by decide)) ?_; refine zY.m rfl rfl (yN rfl (by decide) rfl (by decide)) ?_; refine zY.w rfl (by exact yZ rfl rfl rfl rfl rfl (by rfl) (by exact Nat.le_of_ble_eq_true rfl) rfl rfl) ?_; refine zY.nil ?_) | (refine zZ.iq 5 ?_; refine zZ.rqq _ K_u K_v ?_; refine zY.v rfl rfl (yL rfl rfl rfl (by rfl) (by rfl) rfl (by decide)) ?_; refine zY.v rfl rfl (by exact yU (hen) rfl rfl rfl (by decide)) ?_; refine zY.v rfl rfl (yG rfl rfl rfl (by decide)) ?_; refine zY.v rfl rfl (zD rfl rfl rfl rfl (by decide)) ?_; refine zY.v rfl rfl (zD rfl rfl rfl rfl (by decide)) ?_; refine zY.va rfl rfl rfl rfl (by decide) ?_; refine zY.va rfl rfl rfl rfl (by decide) ?_; refine zY.nil ?_) | (refine zZ.iq 6 ?_; refine zZ.rqq _ K_u K_v ?_; refine zY.vm rfl rfl rfl rfl (by decide) ?_; refine zY.v rfl rfl (by exact yU (hpu) rfl rfl rfl (by decide)) ?_; refine zY.v rfl rfl (yG rfl rfl rfl (by decide)) ?_; refine zY.v rfl rfl (zD rfl rfl rfl rfl (by decide)) ?_; refine zY.v rfl rfl (zD rfl rfl rfl rfl (by decide)) ?_; refine zY.va rfl rfl rfl rfl (by decide) ?_; refine zY.va rfl rfl rfl rfl (by decide) ?_; refine zY.nil ?_) | (refine zZ.iq 7 ?_; refine zZ.rqq _ K_u K_v ?_; refine zY.v rfl rfl (yA rfl rfl rfl (by decide)) ?_; refine zY.vm rfl rfl rfl rfl (by decide) ?_; refine zY.w rfl (w_appB rfl rfl rfl rfl l1 rfl rfl (by decide)) ?_; refine zY.v rfl rfl (zP rfl rfl rfl (by decide)) ?_; refine zY.nil ?_) | (refine zZ.iq 8 ?_; refine zZ.rqq _ K_u K_v ?_; refine zY.v rfl rfl (yD rfl rfl rfl g3 rfl (by decide)) ?_; refine zY.vm rfl rfl rfl rfl (by decide) ?_; refine zY.nil ?_) | refine zZ.yV rfl (by first | assumption | with_reducible rfl) ?_ | refine zZ.skip ?_ | refine zZ.block ?_) | refine zF.n ?_ | refine zM.n ?_)
    all_goals
     refine ⟨i + 1, ?_, hlt, by omega⟩
     try unfold byS
     rw [htake]
     exact zB K_1x K_q
   case false =>
    rw [hm, if_neg (by decide)] at htake l1
    have hm : vW e.k e.s e.y e.u e.v e.x = false := hm
    rw [hm, if_neg (by decide)] at hen
    have hen : Fn Tryd.prog 38 [e.V] (.tup [.sl (byts []), .val (.int .i64 1)]) := hen
    have hpn := put_nil
    clear he ho hm hpu
    obtain ⟨ek, es, ey, eu, ev, ex⟩ := e
    repeat' (first | (refine zZ.is ?_; first | refine zZ.seq ?_ | (refine zZ.iq 3 ?_; refine zZ.rqm _ K_u K_v ?_; refine zY.v rfl rfl (zR rfl rfl rfl g1 rfl (by decide)) ?_; refine zY.nil ?_) | (refine zZ.iq 4 ?_; refine zZ.rqm _ K_u K_v ?_; refine zY.v rfl rfl (zH rfl rfl rfl hcX g2 rfl (by decide)) ?_; refine zY.v rfl rfl (by exact y8 rfl rfl (by exact Nat.le_of_ble_eq_true rfl) rfl (by decide)) ?_; refine zY.m rfl rfl (yN rfl (by decide) rfl (by decide)) ?_; refine zY.w rfl (by exact yZ rfl rfl rfl rfl rfl (by rfl) (by exact Nat.le_of_ble_eq_true rfl) rfl rfl) ?_; refine zY.nil ?_) | (refine zZ.iq 5 ?_; refine zZ.rqq _ K_u K_v ?_; refine zY.v rfl rfl (yL rfl rfl rfl (by rfl) (by rfl) rfl (by decide)) ?_; refine zY.v rfl rfl (by exact yU (hen) rfl rfl rfl (by decide)) ?_; refine zY.v rfl rfl (yG rfl rfl rfl (by decide)) ?_; refine zY.v rfl rfl (zD rfl rfl rfl rfl (by decide)) ?_; refine zY.v rfl rfl (zD rfl rfl rfl rfl (by decide)) ?_; refine zY.va rfl rfl rfl rfl (by decide) ?_; refine zY.va rfl rfl rfl rfl (by decide) ?_; refine zY.nil ?_) | (refine zZ.iq 6 ?_; refine zZ.rqq _ K_u K_v ?_; refine zY.vm rfl rfl rfl rfl (by decide) ?_; refine zY.v rfl rfl (by exact yU (hpn) rfl rfl rfl (by decide)) ?_; refine zY.v rfl rfl (yG rfl rfl rfl (by decide)) ?_; refine zY.v rfl rfl (zD rfl rfl rfl rfl (by decide)) ?_; refine zY.v rfl rfl (zD rfl rfl rfl rfl (by decide)) ?_; refine zY.va rfl rfl rfl rfl (by decide) ?_; refine zY.va rfl rfl rfl rfl (by decide) ?_; refine zY.nil ?_) | (refine zZ.iq 7 ?_; refine zZ.rqq _ K_u K_v ?_; refine zY.v rfl rfl (yA rfl rfl rfl (by decide)) ?_; refine zY.vm rfl rfl rfl rfl (by decide) ?_; refine zY.w rfl (w_appB rfl rfl rfl rfl l1 rfl rfl (by decide)) ?_; refine zY.v rfl rfl (zP rfl rfl rfl (by decide)) ?_; refine zY.nil ?_) | (refine zZ.iq 8 ?_; refine zZ.rqq _ K_u K_v ?_; refine zY.v rfl rfl (yD rfl rfl rfl g3 rfl (by decide)) ?_; refine zY.vm rfl rfl rfl rfl (by decide) ?_; refine zY.nil ?_) | refine zZ.yV rfl (by first | assumption | with_reducible rfl) ?_ | refine zZ.skip ?_ | refine zZ.block ?_) | refine zF.n ?_ | refine zM.n ?_)
    all_goals
     refine ⟨i + 1, ?_, hlt, by omega⟩
     try unfold byS
     rw [htake]
     exact zB K_1x K_q
  case neg =>
   have hie : i = X.length := by omega
   subst hie
   have g1 : decide (((X.length : Nat) : Int) < ((X.length : Nat) : Int)) = false := decide_eq_false (by omega)
   rw [List.take_length]
   repeat' (first | (refine zZ.is ?_; first | refine zZ.seq ?_ | (refine zZ.iq 3 ?_; refine zZ.rqm _ K_u K_v ?_; refine zY.v rfl rfl (zR rfl rfl rfl g1 rfl (by decide)) ?_; refine zY.nil ?_) | (refine zZ.isR (id := 9) ?_; refine zZ.zV [2, 3] [2, 3, 5, 14, 16, 42] (by repeat' first | exact zX.nil | apply zX.own rfl | apply zX.skip) (by repeat' first | exact zW.nil | apply zW.wP rfl | apply zW.skip) ?_; refine zY.v rfl rfl (yA rfl rfl rfl (by decide)) ?_; refine zY.v rfl rfl (zP rfl rfl rfl (by decide)) ?_; refine zY.nil ?_) | refine zZ.yX rfl (by first | assumption | with_reducible rfl) ?_ | refine zZ.exit ?_ | refine zZ.ret ?_) | refine zF.n ?_ | refine zM.eY ?_ | refine zF.e ?_)
   all_goals exact ⟨.inl rfl, _, sub_frzB 42 rfl, xC.p rfl (.tmp rfl)⟩
end Go.Proofs.YtomlhekjgagjaaaDoor
namespace Go.Proofs.YtomlhekjgagjaaaDoor
set_option maxRecDepth 100000
set_option maxHeartbeats 16000000
open Go Go.RowKit
attribute [local irreducible] zY zZ Step zA Sub zN yY Fn zF zM
structure xH where
  u : Int
  v : Int
  w : Int
deriving DecidableEq
def xH.V (a : xH) : PV := .agg [.val (.int .i64 a.u), .val (.int .i64 a.v), .val (.int .u64 a.w)]
def xS (e : zQ) : xH := ⟨e.y / 2147483648, e.y % 2147483648 - 1, if 0 ≤ e.y % 2147483648 - 1 then e.x else 0⟩
theorem arcs_cells (L : List xH) : ∀ e ∈ L.map xH.V, e.cells.length = 3 := fun e he => by
  obtain ⟨x, _, rfl⟩ := List.mem_map.1 he
  rfl
def arS (L : List zQ) (i : Nat) : AS := { t := [(3, .own 42), (7, .p (.sl (L.map zQ.V))), (8, .p (.val (.int .i64 (L.length : Nat)))), (9, .p (.val (.int .i64 (i : Nat))))], s := [(42, xD 59 3 (((L.take i).map xS).map xH.V))] }
theorem arcs_fn (L : List zQ) (hl : L.length ≤ 1000000) (hok : ∀ e ∈ L, e.ok) : Fn Tryd.prog 18 [.sl (L.map zQ.V)] (.p (.sl ((L.map xS).map xH.V))) := by
  have hc := yH L
  have hlen : (L.map zQ.V).length = L.length := by rw [List.length_map]
  refine wJ Tryd.func18 rfl Tryd.ntmps18 (Nat.le_of_ble_eq_true rfl) ?_
  repeat' (first | (refine zZ.is ?_; first | refine zZ.seq ?_ | (refine zZ.iq 0 ?_; refine zZ.rqa _ K_2 K_b ?_; refine zY.va rfl rfl rfl rfl (by decide) ?_; refine zY.nil ?_) | (refine zZ.iq 1 ?_; refine zZ.rqa _ K_c K_b ?_; refine zY.va rfl rfl rfl rfl (by decide) ?_; refine zY.nil ?_) | (refine zZ.iq 2 ?_; refine zZ.rqa _ K_3 K_b ?_; refine zY.vm rfl rfl rfl rfl (by decide) ?_; refine zY.v rfl rfl (yQ rfl rfl rfl (by decide)) ?_; refine zY.vm rfl rfl rfl rfl (by decide) ?_; refine zY.nil ?_) | refine zZ.block ?_) | refine zF.n ?_)
  refine zZ.loop (arS L) (fun i => i ≤ L.length) (fun i => L.length - i) 0 ?h0 (Nat.zero_le _) ?rd
  case h0 =>
    refine (qB (d := 3) (id := 42) (ty := 59) (sz := 3) (by decide) rfl).trans ?_
    unfold arS
    rw [← hlen]
    exact zB K_2o K_q
  case rd =>
    intro i hi
    have g3 : IntKind.i64.wrap (((i : Nat) : Int) + 1) = ((i + 1 : Nat) : Int) := by rw [wrap_i64 _ (by omega)]; omega
    unfold arS
    by_cases hlt : i < L.length
    case pos =>
      have g1 : decide (((i : Nat) : Int) < ((L.length : Nat) : Int)) = true := decide_eq_true (by omega)
      obtain ⟨e, he⟩ : ∃ e, L[i]? = some e := ⟨_, List.getElem?_eq_getElem hlt⟩
      have g2 : (L.map zQ.V)[i]? = some e.V := by rw [List.getElem?_map, he]; rfl
      have ho := hok e (List.mem_of_getElem? he)
      have htake : ((L.take (i + 1)).map xS).map xH.V = ((L.take i).map xS).map xH.V ++ [(xS e).V] := by rw [List.take_add_one, he]; simp
      have q6 : ∀ z ∈ [(xS e).V], z.cells.length = 3 := fun z hz => by simp at hz; subst hz; rfl
      have q7 : ([(xS e).V] : List PV).length * 24 ≤ 140737488355328 ∧ ([(xS e).V] : List PV).length ≤ maxLen := by simp [maxLen]
      have q8 : ((((L.take i).map xS).map xH.V).length + ([(xS e).V] : List PV).length) * 24 ≤ 140737488355328 ∧ (((L.take i).map xS).map xH.V).length + ([(xS e).V] : List PV).length ≤ maxLen := by simp [maxLen]; omega
      obtain ⟨ek, es, ey, eu, ev, ex⟩ := e
      have c := split_fn ey ho.y.1 ho.y.2
      have hv : (xS ⟨ek, es, ey, eu, ev, ex⟩).V = .agg [.val (.int .i64 (ey / 2147483648)), .val (.int .i64 (ey % 2147483648 - 1)), .val (.int .u64 (if 0 ≤ ey % 2147483648 - 1 then ex else 0))] := rfl
      rw [hv] at htake q6 q7 q8
      clear hv
      generalize ey / 2147483648 = p at *
      generalize ey % 2147483648 - 1 = q at *
      cases c1 : decide (q ≥ 0)
      case true =>
        rw [if_pos (of_decide_eq_true c1)] at htake q6 q7 q8
        repeat' (first | (refine zZ.is ?_; first | refine zZ.seq ?_ | (refine zZ.iq 3 ?_; refine zZ.rqd _ K_k K_b ?_; refine zY.v rfl rfl (zR rfl rfl rfl g1 rfl (by decide)) ?_; refine zY.nil ?_) | (refine zZ.iq 4 ?_; refine zZ.rqd _ K_k K_b ?_; refine zY.v rfl rfl (zH rfl rfl rfl hc g2 rfl (by decide)) ?_; refine zY.v rfl rfl (by exact y8 rfl rfl (by exact Nat.le_of_ble_eq_true rfl) rfl (by decide)) ?_; refine zY.m rfl rfl (yN rfl (by decide) rfl (by decide)) ?_; refine zY.w rfl (by exact yZ rfl rfl rfl rfl rfl (by rfl) (by exact Nat.le_of_ble_eq_true rfl) rfl rfl) ?_; refine zY.nil ?_) | (refine zZ.iq 5 ?_; refine zZ.rqb _ K_k K_b ?_; refine zY.v rfl rfl (wG rfl (by rfl) (by rfl) (by rfl) (by rfl) rfl (by decide)) ?_; refine zY.m rfl rfl (yN rfl (by decide) rfl (by decide)) ?_; refine zY.w rfl (by exact yZ rfl rfl rfl rfl rfl (by rfl) (by exact Nat.le_of_ble_eq_true rfl) rfl rfl) ?_; refine zY.nil ?_) | (refine zZ.iq 6 ?_; refine zZ.rqb _ K_k K_b ?_; refine zY.v rfl rfl (zJ rfl rfl rfl (by decide)) ?_; refine zY.v rfl rfl (zC rfl rfl rfl (by rfl) rfl (by decide)) ?_; refine zY.v rfl rfl (by exact yU (c) rfl rfl rfl (by decide)) ?_; refine zY.v rfl rfl (yG rfl rfl rfl (by decide)) ?_; refine zY.v rfl rfl (zD rfl rfl rfl rfl (by decide)) ?_; refine zY.v rfl rfl (zD rfl rfl rfl rfl (by decide)) ?_; refine zY.v rfl rfl (zJ rfl rfl rfl (by decide)) ?_; refine zY.w rfl (by exact yZ rfl rfl rfl rfl rfl (by rfl) (by exact Nat.le_of_ble_eq_true rfl) rfl rfl) ?_; refine zY.v rfl rfl (zJ rfl rfl rfl (by decide)) ?_; refine zY.w rfl (by exact yZ rfl rfl rfl rfl rfl (by rfl) (by exact Nat.le_of_ble_eq_true rfl) rfl rfl) ?_; refine zY.nil ?_) | (refine zZ.iq 7 ?_; refine zZ.rqb _ K_k K_b ?_; refine zY.v rfl rfl (zJ rfl rfl rfl (by decide)) ?_; refine zY.v rfl rfl (zC rfl rfl rfl (by rfl) rfl (by decide)) ?_; refine zY.v rfl rfl (vJ rfl rfl rfl c1 rfl (by decide)) ?_; refine zY.nil ?_) | (refine zZ.iq 8 ?_; refine zZ.rqb _ K_k K_b ?_; refine zY.v rfl rfl (zJ rfl rfl rfl (by decide)) ?_; refine zY.v rfl rfl (zC rfl rfl rfl (by rfl) rfl (by decide)) ?_; refine zY.v rfl rfl (zJ rfl rfl rfl (by decide)) ?_; refine zY.w rfl (by exact yZ rfl rfl rfl rfl rfl (by rfl) (by exact Nat.le_of_ble_eq_true rfl) rfl rfl) ?_; refine zY.nil ?_) | (refine zZ.iq 9 ?_; refine zZ.rqb _ K_k K_b ?_; refine zY.v rfl rfl (yA rfl rfl rfl (by decide)) ?_; refine zY.v rfl rfl (yL rfl rfl rfl (by rfl) (by rfl) rfl (by decide)) ?_; refine zY.v rfl rfl (xJ rfl (by decide) (by decide) (by decide) (by decide) (by rfl) (by rfl) (by rfl) (by rfl) (by rfl) (by rfl) (by rfl) rfl (by decide)) ?_; refine zY.w rfl (qA rfl rfl rfl rfl q6 q8 rfl (by decide) rfl (by decide)) ?_; refine zY.v rfl rfl (zP rfl rfl rfl (by decide)) ?_; refine zY.nil ?_) | (refine zZ.iq 10 ?_; refine zZ.rqb _ K_k K_b ?_; refine zY.v rfl rfl (yD rfl rfl rfl g3 rfl (by decide)) ?_; refine zY.vm rfl rfl rfl rfl (by decide) ?_; refine zY.nil ?_) | refine zZ.yV rfl (by first | assumption | with_reducible rfl) ?_ | refine zZ.skip ?_ | refine zZ.block ?_) | refine zF.n ?_ | refine zM.n ?_)
        all_goals
          refine ⟨i + 1, ?_, hlt, by omega⟩
          try unfold arS
          rw [htake]
          exact zB K_2o K_q
      case false =>
        rw [if_neg (of_decide_eq_false c1)] at htake q6 q7 q8
        repeat' (first | (refine zZ.is ?_; first | refine zZ.seq ?_ | (refine zZ.iq 3 ?_; refine zZ.rqd _ K_k K_b ?_; refine zY.v rfl rfl (zR rfl rfl rfl g1 rfl (by decide)) ?_; refine zY.nil ?_) | (refine zZ.iq 4 ?_; refine zZ.rqd _ K_k K_b ?_; refine zY.v rfl rfl (zH rfl rfl rfl hc g2 rfl (by decide)) ?_; refine zY.v rfl rfl (by exact y8 rfl rfl (by exact Nat.le_of_ble_eq_true rfl) rfl (by decide)) ?_; refine zY.m rfl rfl (yN rfl (by decide) rfl (by decide)) ?_; refine zY.w rfl (by exact yZ rfl rfl rfl rfl rfl (by rfl) (by exact Nat.le_of_ble_eq_true rfl) rfl rfl) ?_; refine zY.nil ?_) | (refine zZ.iq 5 ?_; refine zZ.rqb _ K_k K_b ?_; refine zY.v rfl rfl (wG rfl (by rfl) (by rfl) (by rfl) (by rfl) rfl (by decide)) ?_; refine zY.m rfl rfl (yN rfl (by decide) rfl (by decide)) ?_; refine zY.w rfl (by exact yZ rfl rfl rfl rfl rfl (by rfl) (by exact Nat.le_of_ble_eq_true rfl) rfl rfl) ?_; refine zY.nil ?_) | (refine zZ.iq 6 ?_; refine zZ.rqb _ K_k K_b ?_; refine zY.v rfl rfl (zJ rfl rfl rfl (by decide)) ?_; refine zY.v rfl rfl (zC rfl rfl rfl (by rfl) rfl (by decide)) ?_; refine zY.v rfl rfl (by exact yU (c) rfl rfl rfl (by decide)) ?_; refine zY.v rfl rfl (yG rfl rfl rfl (by decide)) ?_; refine zY.v rfl rfl (zD rfl rfl rfl rfl (by decide)) ?_; refine zY.v rfl rfl (zD rfl rfl rfl rfl (by decide)) ?_; refine zY.v rfl rfl (zJ rfl rfl rfl (by decide)) ?_; refine zY.w rfl (by exact yZ rfl rfl rfl rfl rfl (by rfl) (by exact Nat.le_of_ble_eq_true rfl) rfl rfl) ?_; refine zY.v rfl rfl (zJ rfl rfl rfl (by decide)) ?_; refine zY.w rfl (by exact yZ rfl rfl rfl rfl rfl (by rfl) (by exact Nat.le_of_ble_eq_true rfl) rfl rfl) ?_; refine zY.nil ?_) | (refine zZ.iq 7 ?_; refine zZ.rqb _ K_k K_b ?_; refine zY.v rfl rfl (zJ rfl rfl rfl (by decide)) ?_; refine zY.v rfl rfl (zC rfl rfl rfl (by rfl) rfl (by decide)) ?_; refine zY.v rfl rfl (vJ rfl rfl rfl c1 rfl (by decide)) ?_; refine zY.nil ?_) | (refine zZ.iq 9 ?_; refine zZ.rqb _ K_k K_b ?_; refine zY.v rfl rfl (yA rfl rfl rfl (by decide)) ?_; refine zY.v rfl rfl (yL rfl rfl rfl (by rfl) (by rfl) rfl (by decide)) ?_; refine zY.v rfl rfl (xJ rfl (by decide) (by decide) (by decide) (by decide) (by rfl) (by rfl) (by rfl) (by rfl) (by rfl) (by rfl) (by rfl) rfl (by decide)) ?_; refine zY.w rfl (qA rfl rfl rfl rfl q6 q8 rfl (by decide) rfl (by decide)) ?_; refine zY.v rfl rfl (zP rfl rfl rfl (by decide)) ?_; refine zY.nil ?_) | (refine zZ.iq 10 ?_; refine zZ.rqb _ K_k K_b ?_; refine zY.v rfl rfl (yD rfl rfl rfl g3 rfl (by decide)) ?_; refine zY.vm rfl rfl rfl rfl (by decide) ?_; refine zY.nil ?_) | refine zZ.yV rfl (by first | assumption | with_reducible rfl) ?_ | refine zZ.yX rfl (by first | assumption | with_reducible rfl) ?_ | refine zZ.skip ?_ | refine zZ.block ?_) | refine zF.n ?_ | refine zM.n ?_)
        all_goals
          refine ⟨i + 1, ?_, hlt, by omega⟩
          try unfold arS
          rw [htake]
          exact zB K_2o K_q
    case neg =>
      have hie : i = L.length := by omega
      subst hie
      have g1 : decide (((L.length : Nat) : Int) < ((L.length : Nat) : Int)) = false := decide_eq_false (by omega)
      rw [List.take_length]
      repeat' (first | (refine zZ.is ?_; first | refine zZ.seq ?_ | (refine zZ.iq 3 ?_; refine zZ.rqd _ K_k K_b ?_; refine zY.v rfl rfl (zR rfl rfl rfl g1 rfl (by decide)) ?_; refine zY.nil ?_) | (refine zZ.iq 11 ?_; refine zZ.rqw _ K_1l K_b ?_; refine zY.v rfl rfl (yA rfl rfl rfl (by decide)) ?_; refine zY.v rfl rfl (zP rfl rfl rfl (by decide)) ?_; refine zY.nil ?_) | refine zZ.yX rfl (by first | assumption | with_reducible rfl) ?_ | refine zZ.exit ?_ | refine zZ.ret ?_) | refine zF.n ?_ | refine zM.eY ?_ | refine zF.e ?_)
      all_goals exact ⟨.inl rfl, _, sub_frzE 42 59 3 _ rfl, xC.p rfl (.tmp rfl)⟩
end Go.Proofs.YtomlhekjgagjaaaDoor
namespace Go.Proofs.YtomlhekjgagjaaaDoor
set_option maxRecDepth 100000
set_option maxHeartbeats 16000000
open Go Go.RowKit
attribute [local irreducible] zY zZ Step zA Sub zN yY Fn zF zM
def shB (k s y : Int) : List Int := bytesE k s y 0 0 0
def shE (s : Int) : zQ := ⟨1, s, 2147483648, 0, 0, 0⟩
theorem sh_live : liveL [shB 3 0 0, shB 2 1 0 ++ shB 1 2 2147483648, shB 1 1 0] 9 = ([shE 2], 0) := of_decide_eq_true (by kernel_rfl)
theorem sh_bad : liveL [shB 1 1 0] 9 = ([], 8) := of_decide_eq_true (by kernel_rfl)
theorem sh_anew : xV [shE 2] = [shE 1] := of_decide_eq_true (by kernel_rfl)
theorem sh_bytes : (wE (xK 1 :: [shE 1])).length = 62 := of_decide_eq_true (by kernel_rfl)
theorem shB_len (k s y : Int) : (shB k s y).length ≤ 47 := entF_len ⟨k, s, y, 0, 0, 0⟩
theorem shB_range (k s y : Int) : xP (shB k s y) := by
  intro z hz
  unfold shB bytesE at hz
  split at hz
  · exact putF_range (fun x hx => by
      unfold vR at hx
      simp only [List.mem_append, List.mem_cons] at hx
      rcases hx with (rfl | hx) | hx
      · omega
      · exact xO _ _ x hx
      · split at hx
        · simp only [List.mem_append] at hx
          rcases hx with ((hx | hx) | hx) | hx
          all_goals exact xO _ _ x hx
        · cases hx) z hz
  · cases hz
theorem shE_ok (s : Int) (h : U s) : (shE s).ok :=
  have z : U 0 := ⟨by decide, by decide⟩
  have y : U 2147483648 := ⟨by decide, by decide⟩
  ⟨h, y, z, z, z⟩
theorem shown22_fn : Fn Tryd.prog 10 [] (.p (.val (.bool true))) := by
 have z : U 0 := ⟨by decide, by decide⟩
 have b1 := bytesRef_fn 3 0 0 0 0 0 z z z z z
 have b2 := bytesRef_fn 1 1 0 0 0 0 ⟨by decide, by decide⟩ z z z z
 have b3 := bytesRef_fn 1 2 2147483648 0 0 0 ⟨by decide, by decide⟩ ⟨by decide, by decide⟩ z z z
 have b4 := bytesRef_fn 2 1 0 0 0 0 ⟨by decide, by decide⟩ z z z z
 have lv := mLive_fn [shB 3 0 0, shB 2 1 0 ++ shB 1 2 2147483648, shB 1 1 0] 9 (fun s hs => by
  simp only [List.mem_cons, List.not_mem_nil, or_false] at hs
  rcases hs with rfl | rfl | rfl
  ·exact shB_range _ _ _
  ·exact fun x hx => (List.mem_append.1 hx).elim (shB_range _ _ _ x) (shB_range _ _ _ x)
  ·exact shB_range _ _ _) (by simp) (by
  have h1 := shB_len 3 0 0
  have h2 := shB_len 2 1 0
  have h3 := shB_len 1 2 2147483648
  have h4 := shB_len 1 1 0
  simp only [total, List.map_cons, List.map_nil, List.sum_cons, List.sum_nil, List.length_append]
  omega)
 rw [sh_live] at lv
 have lb := mLive_fn [shB 1 1 0] 9 (fun s hs => by
  rw [List.mem_singleton] at hs
  subst hs
  exact shB_range _ _ _) (by simp) (by
  have h4 := shB_len 1 1 0
  simp only [total, List.map_cons, List.map_nil, List.sum_cons, List.sum_nil]
  omega)
 rw [sh_bad] at lb
 have an := anew_fn [shE 2] (by simp)
 rw [sh_anew] at an
 have by_ := mBytes_fn [shE 1] (by simp) (fun e he => by rw [List.mem_singleton] at he; subst he; exact shE_ok 1 ⟨by decide, by decide⟩)
 have hby : (wE (xK ([shE 1] : List zQ).length :: [shE 1])).length = 62 := sh_bytes
 have ar := arcs_fn [shE 2] (by simp) (fun e he => by rw [List.mem_singleton] at he; subst he; exact shE_ok 2 ⟨by decide, by decide⟩)
 have l1 : ([] : List Int).length + (shB 2 1 0).length ≤ 140737488355328 := by have := shB_len 2 1 0; simp only [List.length_nil]; omega
 have l2 : ([] ++ shB 2 1 0).length + (shB 1 2 2147483648).length ≤ 140737488355328 := by have h1 := shB_len 2 1 0; have h2 := shB_len 1 2 2147483648; simp only [List.length_append, List.length_nil]; omega
 have e0 : ([] ++ shB 2 1 0) = shB 2 1 0 := rfl
 generalize wE (xK ([shE 1] : List zQ).length :: [shE 1]) = Y at by_ hby
 have b1 : Fn Tryd.prog 24 [entV 3 0 0 0 0 0] (.p (.sl (byts (shB 3 0 0)))) := b1
 have b2 : Fn Tryd.prog 24 [entV 1 1 0 0 0 0] (.p (.sl (byts (shB 1 1 0)))) := b2
 have b3 : Fn Tryd.prog 24 [entV 1 2 2147483648 0 0 0] (.p (.sl (byts (shB 1 2 2147483648)))) := b3
 have b4 : Fn Tryd.prog 24 [entV 2 1 0 0 0 0] (.p (.sl (byts (shB 2 1 0)))) := b4
 generalize shB 3 0 0 = B1 at *
 generalize shB 1 1 0 = B2 at *
 generalize shB 1 2 2147483648 = B3 at *
 generalize shB 2 1 0 = B4 at *
 have lv : Fn Tryd.prog 12 [.sl [.sl (byts B1), .sl (byts ([] ++ B4 ++ B3)), .sl (byts B2)], .val (.int .i64 9)] (.tup [.sl [.agg [.val (.int .i64 1), .val (.int .u64 2), .val (.int .u64 2147483648), .val (.int .u64 0), .val (.int .u64 0), .val (.int .u64 0)]], .val (.int .i64 0)]) := lv
 have lb : Fn Tryd.prog 12 [.sl [.sl (byts B2)], .val (.int .i64 9)] (.tup [.sl [], .val (.int .i64 8)]) := lb
 have an : Fn Tryd.prog 16 [.sl [.agg [.val (.int .i64 1), .val (.int .u64 2), .val (.int .u64 2147483648), .val (.int .u64 0), .val (.int .u64 0), .val (.int .u64 0)]]] (.p (.sl [.agg [.val (.int .i64 1), .val (.int .u64 1), .val (.int .u64 2147483648), .val (.int .u64 0), .val (.int .u64 0), .val (.int .u64 0)]])) := an
 have by_ : Fn Tryd.prog 17 [.sl [.agg [.val (.int .i64 1), .val (.int .u64 1), .val (.int .u64 2147483648), .val (.int .u64 0), .val (.int .u64 0), .val (.int .u64 0)]]] (.p (.sl (byts Y))) := by_
 have ar : Fn Tryd.prog 18 [.sl [.agg [.val (.int .i64 1), .val (.int .u64 2), .val (.int .u64 2147483648), .val (.int .u64 0), .val (.int .u64 0), .val (.int .u64 0)]]] (.p (.sl [.agg [.val (.int .i64 1), .val (.int .i64 (-1)), .val (.int .u64 0)]])) := ar
 refine wQ Tryd.func10 rfl Tryd.ntmps10 (Nat.le_of_ble_eq_true rfl) ?_
 have c1 : (Y.length : Int) = 62 := by rw [hby]; rfl
 have c2 : decide ((Y.length : Int) = 62) = true := decide_eq_true c1
 have h5 : ∀ e ∈ [(.agg [.val (.int .i64 1), .val (.int .u64 2), .val (.int .u64 2147483648), .val (.int .u64 0), .val (.int .u64 0), .val (.int .u64 0)] : PV)], e.cells.length = 6 := fun e he => by rw [List.mem_singleton] at he; subst he; rfl
 have x5 : [(.agg [.val (.int .i64 1), .val (.int .u64 2), .val (.int .u64 2147483648), .val (.int .u64 0), .val (.int .u64 0), .val (.int .u64 0)] : PV)][0]? = some (.agg [.val (.int .i64 1), .val (.int .u64 2), .val (.int .u64 2147483648), .val (.int .u64 0), .val (.int .u64 0), .val (.int .u64 0)]) := rfl
 have h6 : ∀ e ∈ [(.agg [.val (.int .i64 1), .val (.int .u64 1), .val (.int .u64 2147483648), .val (.int .u64 0), .val (.int .u64 0), .val (.int .u64 0)] : PV)], e.cells.length = 6 := fun e he => by rw [List.mem_singleton] at he; subst he; rfl
 have x6 : [(.agg [.val (.int .i64 1), .val (.int .u64 1), .val (.int .u64 2147483648), .val (.int .u64 0), .val (.int .u64 0), .val (.int .u64 0)] : PV)][0]? = some (.agg [.val (.int .i64 1), .val (.int .u64 1), .val (.int .u64 2147483648), .val (.int .u64 0), .val (.int .u64 0), .val (.int .u64 0)]) := rfl
 have h7 : ∀ e ∈ [(.agg [.val (.int .i64 1), .val (.int .i64 (-1)), .val (.int .u64 0)] : PV)], e.cells.length = 3 := fun e he => by rw [List.mem_singleton] at he; subst he; rfl
 have x7 : [(.agg [.val (.int .i64 1), .val (.int .i64 (-1)), .val (.int .u64 0)] : PV)][0]? = some (.agg [.val (.int .i64 1), .val (.int .i64 (-1)), .val (.int .u64 0)]) := rfl
 repeat' (first | refine zY.sub (vL (d := 26) rfl rfl) ?_ | (refine zY.is ?_; first | refine zY.nil ?_ | refine zY.v rfl rfl (by first | exact wR rfl rfl rfl (by decide) | exact zD rfl rfl rfl rfl (by decide) | exact zK rfl rfl rfl (by decide) | exact yG rfl rfl rfl (by decide) | exact yU (lv) rfl rfl rfl (by decide) | exact xJ rfl (by decide) (by decide) (by decide) (by decide) (by rfl) (by rfl) (by rfl) (by rfl) (by rfl) (by rfl) (by rfl) rfl (by decide)) ?_ | refine zY.m rfl rfl (w_build0V rfl rfl (by decide)) ?_ | refine zY.w rfl (by exact w_appB rfl rfl rfl rfl (by first | exact l1 | exact l2) rfl rfl (by decide)) ?_) | (refine zZ.is ?_; first | refine zZ.seq ?_ | (refine zZ.isR (id := 0) ?_; refine zZ.zV [] [22, 28, 34] (by repeat' exact zX.nil) (by repeat' first | exact zW.nil | apply zW.skip) ?_; refine zY.va rfl rfl rfl rfl (by decide) ?_; refine zY.nil ?_) | (refine zZ.iq 1 ?_; refine zZ.rqa _ K_2 K_16 ?_; refine zY.v rfl rfl (wG rfl (by rfl) (by rfl) (by rfl) (by rfl) rfl (by decide)) ?_; refine zY.v rfl rfl (by exact zU (b1) rfl rfl rfl (by decide)) ?_; refine zY.va rfl rfl rfl rfl (by decide) ?_; refine zY.nil ?_) | (refine zZ.iq 2 ?_; refine zZ.rqa _ K_h K_16 ?_; refine zY.v rfl rfl (wG rfl (by rfl) (by rfl) (by rfl) (by rfl) rfl (by decide)) ?_; refine zY.v rfl rfl (by exact zU (b2) rfl rfl rfl (by decide)) ?_; refine zY.va rfl rfl rfl rfl (by decide) ?_; refine zY.nil ?_) | (refine zZ.iq 3 ?_; refine zZ.rqa _ K_1p K_16 ?_; refine zY.v rfl rfl (wG rfl (by rfl) (by rfl) (by rfl) (by rfl) rfl (by decide)) ?_; refine zY.v rfl rfl (by exact zU (b3) rfl rfl rfl (by decide)) ?_; refine zY.va rfl rfl rfl rfl (by decide) ?_; refine zY.nil ?_) | (refine zZ.iq 4 ?_; refine zZ.rqa _ K_3t K_16 ?_; refine zY.v rfl rfl (wG rfl (by rfl) (by rfl) (by rfl) (by rfl) rfl (by decide)) ?_; refine zY.v rfl rfl (by exact zU (b4) rfl rfl rfl (by decide)) ?_; refine zY.va rfl rfl rfl rfl (by decide) ?_; refine zY.nil ?_) | (refine zZ.iq 5 ?_; refine zZ.rqa _ K_3u K_16 ?_) | (refine zZ.iq 6 ?_; refine zZ.rqa _ K_3v K_16 ?_; refine zY.vm rfl rfl rfl rfl (by decide) ?_; refine zY.v rfl rfl (xJ rfl (by decide) (by decide) (by decide) (by decide) (by rfl) (by rfl) (by rfl) (by rfl) (by rfl) (by rfl) (by rfl) rfl (by decide)) ?_; refine zY.v rfl rfl (by exact yU (lb) rfl rfl rfl (by decide)) ?_; refine zY.v rfl rfl (yG rfl rfl rfl (by decide)) ?_; refine zY.v rfl rfl (zD rfl rfl rfl rfl (by decide)) ?_; refine zY.v rfl rfl (zD rfl rfl rfl rfl (by decide)) ?_; refine zY.va rfl rfl rfl rfl (by decide) ?_; refine zY.va rfl rfl rfl rfl (by decide) ?_; refine zY.nil ?_) | (refine zZ.iq 7 ?_; refine zZ.rqa _ K_3w K_16 ?_; refine zY.vm rfl rfl rfl rfl (by decide) ?_; refine zY.v rfl rfl (by exact zU (an) rfl rfl rfl (by decide)) ?_; refine zY.va rfl rfl rfl rfl (by decide) ?_; refine zY.nil ?_) | (refine zZ.iq 8 ?_; refine zZ.rqa _ K_3x K_16 ?_; refine zY.vm rfl rfl rfl rfl (by decide) ?_; refine zY.v rfl rfl (by exact zU (by_) rfl rfl rfl (by decide)) ?_; refine zY.va rfl rfl rfl rfl (by decide) ?_; refine zY.nil ?_) | (refine zZ.iq 9 ?_; refine zZ.rqa _ K_3y K_16 ?_; refine zY.vm rfl rfl rfl rfl (by decide) ?_; refine zY.v rfl rfl (by exact zU (ar) rfl rfl rfl (by decide)) ?_; refine zY.va rfl rfl rfl rfl (by decide) ?_; refine zY.nil ?_) | (refine zZ.iq 10 ?_; refine zZ.rqa _ K_3b K_16 ?_; all_goals (refine zY.vm rfl rfl rfl rfl (by decide) ?_); all_goals (refine zY.v rfl rfl (yQ rfl rfl rfl (by decide)) ?_); all_goals (refine zY.v rfl rfl (by exact vK rfl rfl rfl (by exact bF (by decide)) rfl (by decide)) ?_); all_goals (refine zY.vm rfl rfl rfl rfl (by decide) ?_); all_goals (refine zY.gY rfl rfl (by decide) rfl (by rfl) rfl (by decide) (zK rfl rfl rfl (by decide)) ?_); all_goals (refine zY.gY rfl rfl (by decide) rfl (by rfl) rfl (by decide) (yQ rfl rfl rfl (by decide)) ?_); all_goals (refine zY.gY rfl rfl (by decide) rfl (by rfl) rfl (by decide) (by exact vK rfl rfl rfl (by exact bF (by decide)) rfl (by decide)) ?_); all_goals (refine zY.v rfl rfl (zI rfl rfl (by rfl) rfl rfl (by decide)) ?_); all_goals (refine zY.vm rfl rfl rfl rfl (by decide) ?_); all_goals (refine zY.gY rfl rfl (by decide) rfl (by rfl) rfl (by decide) (zK rfl rfl rfl (by decide)) ?_); all_goals (refine zY.gY rfl rfl (by decide) rfl (by rfl) rfl (by decide) (yQ rfl rfl rfl (by decide)) ?_); all_goals (refine zY.gY rfl rfl (by decide) rfl (by rfl) rfl (by decide) (by exact vK rfl rfl rfl (by exact bF (by decide)) rfl (by decide)) ?_); all_goals (refine zY.v rfl rfl (zI rfl rfl (by rfl) rfl rfl (by decide)) ?_); all_goals (refine zY.nil ?_)) | (refine zZ.iq 12 ?_; refine zZ.rqa _ K_3b K_16 ?_; all_goals (refine zY.vm rfl rfl rfl rfl (by decide) ?_); all_goals (refine zY.v rfl rfl (by exact yF rfl rfl rfl (by exact bT (by decide)) rfl (by decide)) ?_); all_goals (refine zY.vm rfl rfl rfl rfl (by decide) ?_); all_goals (refine zY.gY rfl rfl (by decide) rfl (by rfl) rfl (by decide) (zK rfl rfl rfl (by decide)) ?_); all_goals (refine zY.gY rfl rfl (by decide) rfl (by rfl) rfl (by decide) (zH rfl rfl rfl h5 x5 rfl (by decide)) ?_); all_goals (refine zY.gY rfl rfl (by decide) rfl (by rfl) rfl (by decide) (yJ rfl rfl rfl (by decide)) ?_); all_goals (refine zY.gY rfl rfl (by decide) rfl (by rfl) rfl (by decide) (zT rfl rfl rfl rfl (by decide)) ?_); all_goals (refine zY.gY rfl rfl (by decide) rfl (by rfl) rfl (by decide) (by exact yF rfl rfl rfl (by exact bT (by decide)) rfl (by decide)) ?_); all_goals (refine zY.v rfl rfl (zL rfl rfl (by rfl) rfl rfl (by decide)) ?_); all_goals (refine zY.vm rfl rfl rfl rfl (by decide) ?_); all_goals (refine zY.gY rfl rfl (by decide) rfl (by rfl) rfl (by decide) (zK rfl rfl rfl (by decide)) ?_); all_goals (refine zY.gY rfl rfl (by decide) rfl (by rfl) rfl (by decide) (by exact yF rfl rfl rfl (by exact bT (by decide)) rfl (by decide)) ?_); all_goals (refine zY.v rfl rfl (zL rfl rfl (by rfl) rfl rfl (by decide)) ?_); all_goals (refine zY.vm rfl rfl rfl rfl (by decide) ?_); all_goals (refine zY.gY rfl rfl (by decide) rfl (by rfl) rfl (by decide) (zK rfl rfl rfl (by decide)) ?_); all_goals (refine zY.gY rfl rfl (by decide) rfl (by rfl) rfl (by decide) (zH rfl rfl rfl h6 x6 rfl (by decide)) ?_); all_goals (refine zY.gY rfl rfl (by decide) rfl (by rfl) rfl (by decide) (yJ rfl rfl rfl (by decide)) ?_); all_goals (refine zY.gY rfl rfl (by decide) rfl (by rfl) rfl (by decide) (zT rfl rfl rfl rfl (by decide)) ?_); all_goals (refine zY.gY rfl rfl (by decide) rfl (by rfl) rfl (by decide) (by exact yF rfl rfl rfl (by exact bT (by decide)) rfl (by decide)) ?_); all_goals (refine zY.v rfl rfl (zL rfl rfl (by rfl) rfl rfl (by decide)) ?_); all_goals (refine zY.vm rfl rfl rfl rfl (by decide) ?_); all_goals (refine zY.gY rfl rfl (by decide) rfl (by rfl) rfl (by decide) (zK rfl rfl rfl (by decide)) ?_); all_goals (refine zY.gY rfl rfl (by decide) rfl (by rfl) rfl (by decide) (wM rfl rfl rfl (by decide)) ?_); all_goals (refine zY.gY rfl rfl (by decide) rfl (by rfl) rfl (by decide) (yF rfl rfl rfl c2 rfl (by decide)) ?_); all_goals (refine zY.v rfl rfl (zL rfl rfl (by rfl) rfl rfl (by decide)) ?_); all_goals (refine zY.vm rfl rfl rfl rfl (by decide) ?_); all_goals (refine zY.gY rfl rfl (by decide) rfl (by rfl) rfl (by decide) (zK rfl rfl rfl (by decide)) ?_); all_goals (refine zY.gY rfl rfl (by decide) rfl (by rfl) rfl (by decide) (zH rfl rfl rfl h7 x7 rfl (by decide)) ?_); all_goals (refine zY.gY rfl rfl (by decide) rfl (by rfl) rfl (by decide) (by exact y8 rfl rfl (by exact Nat.le_of_ble_eq_true rfl) rfl (by decide)) ?_); all_goals (refine zY.gY rfl rfl (by decide) rfl (by rfl) rfl (by decide) (wG rfl (by rfl) (by rfl) (by rfl) (by rfl) rfl (by decide)) ?_); all_goals (refine zY.gY rfl rfl (by decide) rfl (by rfl) rfl (by decide) (by exact r_eqlT rfl rfl rfl rfl rfl rfl (by rfl) (by exact bT (by decide)) rfl (by decide)) ?_); all_goals (refine zY.v rfl rfl (zL rfl rfl (by rfl) rfl rfl (by decide)) ?_); all_goals (refine zY.va rfl rfl rfl rfl (by decide) ?_); all_goals (refine zY.nil ?_)) | refine zZ.yX rfl (by rfl) ?_ | refine zZ.skip ?_ | refine zZ.ret ?_) | refine zF.n ?_)
 all_goals exact ⟨.inl rfl, gives1 rfl rfl rfl⟩
end Go.Proofs.YtomlhekjgagjaaaDoor
namespace Go.Proofs.YtomlhekjgagjaaaDoor
set_option maxRecDepth 100000
set_option maxHeartbeats 16000000
open Go Go.RowKit
attribute [local irreducible] zY zZ Step zA Sub zN yY Fn
def w9 : List zQ → Int → Bool
  | [], _ => false
  | e :: r, j => (decide (e.k = 2) && decide (e.s = j)) || w9 r j
def vfind : List zQ → Int → Int → Bool
  | [], _, _ => false
  | e :: r, j, w => (decide (e.k = 1) && decide (e.s = j) && decide (e.y = w)) || vfind r j w
def vertR (L : List zQ) (j u : Int) : Bool := !w9 L j && vfind L j (vkey u)
def qC (L : List zQ) (e : zQ) : Bool := decide (e.k = 1) && !w9 L e.s && (decide (e.y % 2147483648 - 1 < 0) || (vertR L e.u (e.y / 2147483648) && vertR L e.v (e.y % 2147483648 - 1)))
def drS (L : List zQ) (j : Int) (i : Nat) : AS := { t := [(0, .p (.sl (L.map zQ.V))), (1, .p (.val (.int .u64 j))), (5, .p (.val (.int .i64 (i : Nat))))], s := [] }
theorem deadR_fn (L : List zQ) (j : Int) (hl : L.length ≤ 1000000) : Fn Tryd.prog 55 [.sl (L.map zQ.V), .val (.int .u64 j)] (.p (.val (.bool (w9 L j)))) := by
 have hc := yH L
 have hlen : (L.map zQ.V).length = L.length := by rw [List.length_map]
 refine wQ Tryd.func55 rfl Tryd.ntmps55 (Nat.le_of_ble_eq_true rfl) ?_
 repeat' ((refine zZ.is ?_; first | refine zZ.seq ?_ | (refine zZ.isR (id := 0) ?_; refine zZ.zV [0, 1] [] (by repeat' first | exact zX.nil | apply zX.p rfl) (by repeat' exact zW.nil) ?_; refine zY.va rfl rfl rfl rfl (by decide) ?_; refine zY.nil ?_) | (refine zZ.isR (id := 1) ?_; refine zZ.zV [0, 1, 4] [] (by repeat' first | exact zX.nil | apply zX.p rfl) (by repeat' exact zW.nil) ?_; refine zY.va rfl rfl rfl rfl (by decide) ?_; refine zY.nil ?_) | refine zZ.block ?_))
 refine zZ.loop (drS L j) (fun i => i ≤ L.length ∧ w9 L j = w9 (L.drop i) j) (fun i => L.length - i) 0 ?h0 ⟨Nat.zero_le _, by simp⟩ ?rd
 case h0 =>
  unfold drS
  exact zB K_1j []
 case rd =>
  intro i ⟨hi, hx⟩
  have g3 : IntKind.i64.wrap (((i : Nat) : Int) + 1) = ((i + 1 : Nat) : Int) := by rw [wrap_i64 _ (by omega)]; omega
  unfold drS
  by_cases hlt : i < L.length
  case pos =>
   have g1 : decide (((i : Nat) : Int) < (((L.map zQ.V).length : Nat) : Int)) = true := decide_eq_true (by rw [hlen]; omega)
   obtain ⟨e, he⟩ : ∃ e, L[i]? = some e := ⟨_, List.getElem?_eq_getElem hlt⟩
   have g2 : (L.map zQ.V)[i]? = some e.V := by rw [List.getElem?_map, he]; rfl
   have hdrop : L.drop i = e :: L.drop (i + 1) := by
    rw [List.drop_eq_getElem_cons hlt]
    rw [List.getElem?_eq_getElem hlt] at he
    rw [Option.some.inj he]
   rw [hdrop] at hx
   obtain ⟨ek, es, ey, eu, ev, ex⟩ := e
   have hx : w9 L j = ((decide (ek = 2) && decide (es = j)) || w9 (L.drop (i + 1)) j) := hx
   cases c1 : decide (ek = 2) <;> cases c2 : decide (es = j)
   all_goals rw [c1, c2] at hx
   all_goals
    repeat' (first | (refine zZ.is ?_; first | refine zZ.seq ?_ | (refine zZ.isR (id := 2) ?_; refine zZ.zV [0, 1, 4, 5, 9, 26] [] (by repeat' first | exact zX.nil | apply zX.p rfl | apply zX.skip) (by repeat' exact zW.nil) ?_; refine zY.vm rfl rfl rfl rfl (by decide) ?_; refine zY.vm rfl rfl rfl rfl (by decide) ?_; refine zY.v rfl rfl (yQ rfl rfl rfl (by decide)) ?_; refine zY.v rfl rfl (zR rfl rfl rfl g1 rfl (by decide)) ?_; refine zY.nil ?_) | (refine zZ.isR (id := 4) ?_; refine zZ.zV [0, 1, 4, 5, 9, 26] [] (by repeat' first | exact zX.nil | apply zX.p rfl | apply zX.skip) (by repeat' exact zW.nil) ?_; all_goals (refine zY.vm rfl rfl rfl rfl (by decide) ?_); all_goals (refine zY.vm rfl rfl rfl rfl (by decide) ?_); all_goals (refine zY.v rfl rfl (zH rfl rfl rfl hc g2 rfl (by decide)) ?_); all_goals (refine zY.v rfl rfl (yJ rfl rfl rfl (by decide)) ?_); all_goals (refine zY.v rfl rfl (zT rfl rfl rfl rfl (by decide)) ?_); all_goals (refine zY.v rfl rfl (yF rfl rfl rfl c1 rfl (by decide)) ?_); all_goals (refine zY.vm rfl rfl rfl rfl (by decide) ?_); all_goals (first | refine zY.gY rfl rfl (by decide) rfl (by rfl) rfl (by decide) (zK rfl rfl rfl (by decide)) ?_ | refine zY.gnT rfl rfl (by decide) rfl (by rfl) rfl (by decide) ?_); all_goals (first | refine zY.gY rfl rfl (by decide) rfl (by rfl) rfl (by decide) (zK rfl rfl rfl (by decide)) ?_ | refine zY.gnT rfl rfl (by decide) rfl (by rfl) rfl (by decide) ?_); all_goals (first | refine zY.gY rfl rfl (by decide) rfl (by rfl) rfl (by decide) (zH rfl rfl rfl hc g2 rfl (by decide)) ?_ | refine zY.gnT rfl rfl (by decide) rfl (by rfl) rfl (by decide) ?_); all_goals (first | refine zY.gY rfl rfl (by decide) rfl (by rfl) rfl (by decide) (yJ rfl rfl rfl (by decide)) ?_ | refine zY.gnT rfl rfl (by decide) rfl (by rfl) rfl (by decide) ?_); all_goals (first | refine zY.gY rfl rfl (by decide) rfl (by rfl) rfl (by decide) (zT rfl rfl rfl rfl (by decide)) ?_ | refine zY.gnT rfl rfl (by decide) rfl (by rfl) rfl (by decide) ?_); all_goals (first | refine zY.gY rfl rfl (by decide) rfl (by rfl) rfl (by decide) (zK rfl rfl rfl (by decide)) ?_ | refine zY.gnT rfl rfl (by decide) rfl (by rfl) rfl (by decide) ?_); all_goals (first | refine zY.gY rfl rfl (by decide) rfl (by rfl) rfl (by decide) (yF rfl rfl rfl c2 rfl (by decide)) ?_ | refine zY.gnT rfl rfl (by decide) rfl (by rfl) rfl (by decide) ?_); all_goals (refine zY.v rfl rfl (by first | exact zL rfl rfl (by rfl) rfl rfl (by decide) | exact zI rfl rfl (by rfl) rfl rfl (by decide)) ?_); all_goals (refine zY.nil ?_)) | (refine zZ.isR (id := 5) ?_; refine zZ.zV [0, 1, 4, 5, 9, 26] [] (by repeat' first | exact zX.nil | apply zX.p rfl | apply zX.skip) (by repeat' exact zW.nil) ?_; refine zY.va rfl rfl rfl rfl (by decide) ?_; refine zY.nil ?_) | (refine zZ.isR (id := 3) ?_; refine zZ.zV [0, 1, 4, 5, 9, 26] [] (by repeat' first | exact zX.nil | apply zX.p rfl | apply zX.skip) (by repeat' exact zW.nil) ?_; refine zY.vm rfl rfl rfl rfl (by decide) ?_; refine zY.v rfl rfl (yD rfl rfl rfl g3 rfl (by decide)) ?_; refine zY.va rfl rfl rfl rfl (by decide) ?_; refine zY.nil ?_) | refine zZ.yV rfl (by first | assumption | with_reducible rfl) ?_ | refine zZ.yX rfl (by first | assumption | with_reducible rfl) ?_ | refine zZ.skip ?_ | refine zZ.block ?_ | refine zZ.ret ?_) | refine zF.n ?_ | refine zF.r ?_ | refine zM.r ?_)
   case true.true => exact ⟨.inl rfl, gives1 rfl rfl (by rw [hx]; rfl)⟩
   all_goals
    refine ⟨i + 1, ?_, ⟨hlt, hx⟩, by omega⟩
    try unfold drS
    exact zB K_1j []
  case neg =>
   have g1 : decide (((i : Nat) : Int) < (((L.map zQ.V).length : Nat) : Int)) = false := decide_eq_false (by rw [hlen]; omega)
   have hx' : w9 L j = false := by rw [hx, List.drop_of_length_le (by omega)]; rfl
   repeat' ((refine zZ.is ?_; first | refine zZ.seq ?_ | (refine zZ.isR (id := 2) ?_; refine zZ.zV [0, 1, 4, 5, 9, 26] [] (by repeat' first | exact zX.nil | apply zX.p rfl | apply zX.skip) (by repeat' exact zW.nil) ?_; refine zY.vm rfl rfl rfl rfl (by decide) ?_; refine zY.vm rfl rfl rfl rfl (by decide) ?_; refine zY.v rfl rfl (yQ rfl rfl rfl (by decide)) ?_; refine zY.v rfl rfl (zR rfl rfl rfl g1 rfl (by decide)) ?_; refine zY.nil ?_) | (refine zZ.isR (id := 6) ?_; refine zZ.zV [4] [] (by repeat' first | exact zX.nil | apply zX.skip) (by repeat' exact zW.nil) ?_; refine zY.va rfl rfl rfl rfl (by decide) ?_; refine zY.nil ?_) | refine zZ.yX rfl (by first | assumption | with_reducible rfl) ?_ | refine zZ.exit ?_ | refine zZ.ret ?_))
   all_goals exact ⟨.inl rfl, gives1 rfl rfl (by rw [hx'])⟩
def vrS (L : List zQ) (j w : Int) (i : Nat) : AS := { t := [(0, .p (.sl (L.map zQ.V))), (1, .p (.val (.int .u64 j))), (7, .p (.val (.int .u64 w))), (9, .p (.val (.int .i64 (i : Nat))))], s := [] }
theorem vertR_fn (L : List zQ) (j u : Int) (hl : L.length ≤ 1000000) : Fn Tryd.prog 56 [.sl (L.map zQ.V), .val (.int .u64 j), .val (.int .i64 u)] (.p (.val (.bool (vertR L j u)))) := by
 have hc := yH L
 have hlen : (L.map zQ.V).length = L.length := by rw [List.length_map]
 have v1 := vertexRef_fn u
 have d1 := deadR_fn L j hl
 unfold vertR
 generalize vkey u = w at *
 refine wQ Tryd.func56 rfl Tryd.ntmps56 (Nat.le_of_ble_eq_true rfl) ?_
 cases hd : w9 L j
 case true =>
  rw [hd] at d1
  repeat' (first | (refine zZ.is ?_; first | refine zZ.seq ?_ | (refine zZ.isR (id := 0) ?_; refine zZ.zV [0, 1, 2] [] (by repeat' first | exact zX.nil | apply zX.p rfl) (by repeat' exact zW.nil) ?_; refine zY.va rfl rfl rfl rfl (by decide) ?_; refine zY.nil ?_) | (refine zZ.isR (id := 1) ?_; refine zZ.zV [0, 1, 2, 6] [] (by repeat' first | exact zX.nil | apply zX.p rfl) (by repeat' exact zW.nil) ?_; refine zY.vm rfl rfl rfl rfl (by decide) ?_; refine zY.v rfl rfl (by exact yU (v1) rfl rfl rfl (by decide)) ?_; refine zY.v rfl rfl (yG rfl rfl rfl (by decide)) ?_; refine zY.v rfl rfl (zD rfl rfl rfl rfl (by decide)) ?_; refine zY.v rfl rfl (zD rfl rfl rfl rfl (by decide)) ?_; refine zY.va rfl rfl rfl rfl (by decide) ?_; refine zY.va rfl rfl rfl rfl (by decide) ?_; refine zY.nil ?_) | (refine zZ.isR (id := 2) ?_; refine zZ.zV [0, 1, 6, 7] [] (by repeat' first | exact zX.nil | apply zX.p rfl) (by repeat' exact zW.nil) ?_; refine zY.vm rfl rfl rfl rfl (by decide) ?_; refine zY.vm rfl rfl rfl rfl (by decide) ?_; refine zY.v rfl rfl (by exact zU (d1) rfl rfl rfl (by decide)) ?_; refine zY.nil ?_) | (refine zZ.isR (id := 3) ?_; refine zZ.zV [0, 1, 6, 7] [] (by repeat' first | exact zX.nil | apply zX.p rfl) (by repeat' exact zW.nil) ?_; refine zY.va rfl rfl rfl rfl (by decide) ?_; refine zY.nil ?_) | refine zZ.yV rfl (by first | assumption | with_reducible rfl) ?_ | refine zZ.ret ?_) | refine zF.r ?_)
  all_goals exact ⟨.inl rfl, gives1 rfl rfl rfl⟩
 case false =>
  rw [hd] at d1
  repeat' ((refine zZ.is ?_; first | refine zZ.seq ?_ | (refine zZ.isR (id := 0) ?_; refine zZ.zV [0, 1, 2] [] (by repeat' first | exact zX.nil | apply zX.p rfl) (by repeat' exact zW.nil) ?_; refine zY.va rfl rfl rfl rfl (by decide) ?_; refine zY.nil ?_) | (refine zZ.isR (id := 1) ?_; refine zZ.zV [0, 1, 2, 6] [] (by repeat' first | exact zX.nil | apply zX.p rfl) (by repeat' exact zW.nil) ?_; refine zY.vm rfl rfl rfl rfl (by decide) ?_; refine zY.v rfl rfl (by exact yU (v1) rfl rfl rfl (by decide)) ?_; refine zY.v rfl rfl (yG rfl rfl rfl (by decide)) ?_; refine zY.v rfl rfl (zD rfl rfl rfl rfl (by decide)) ?_; refine zY.v rfl rfl (zD rfl rfl rfl rfl (by decide)) ?_; refine zY.va rfl rfl rfl rfl (by decide) ?_; refine zY.va rfl rfl rfl rfl (by decide) ?_; refine zY.nil ?_) | (refine zZ.isR (id := 2) ?_; refine zZ.zV [0, 1, 6, 7] [] (by repeat' first | exact zX.nil | apply zX.p rfl) (by repeat' exact zW.nil) ?_; refine zY.vm rfl rfl rfl rfl (by decide) ?_; refine zY.vm rfl rfl rfl rfl (by decide) ?_; refine zY.v rfl rfl (by exact zU (d1) rfl rfl rfl (by decide)) ?_; refine zY.nil ?_) | (refine zZ.isR (id := 4) ?_; refine zZ.zV [0, 1, 6, 7] [] (by repeat' first | exact zX.nil | apply zX.p rfl) (by repeat' exact zW.nil) ?_; refine zY.va rfl rfl rfl rfl (by decide) ?_; refine zY.nil ?_) | refine zZ.yX rfl (by first | assumption | with_reducible rfl) ?_ | refine zZ.skip ?_ | refine zZ.block ?_))
  refine zZ.loop (vrS L j w) (fun i => i ≤ L.length ∧ vfind L j w = vfind (L.drop i) j w) (fun i => L.length - i) 0 ?h0 ⟨Nat.zero_le _, by simp⟩ ?rd
  case h0 =>
   unfold vrS
   exact zB K_3c []
  case rd =>
   intro i ⟨hi, hx⟩
   have g3 : IntKind.i64.wrap (((i : Nat) : Int) + 1) = ((i + 1 : Nat) : Int) := by rw [wrap_i64 _ (by omega)]; omega
   unfold vrS
   by_cases hlt : i < L.length
   case pos =>
    have g1 : decide (((i : Nat) : Int) < (((L.map zQ.V).length : Nat) : Int)) = true := decide_eq_true (by rw [hlen]; omega)
    obtain ⟨e, he⟩ : ∃ e, L[i]? = some e := ⟨_, List.getElem?_eq_getElem hlt⟩
    have g2 : (L.map zQ.V)[i]? = some e.V := by rw [List.getElem?_map, he]; rfl
    have hdrop : L.drop i = e :: L.drop (i + 1) := by
     rw [List.drop_eq_getElem_cons hlt]
     rw [List.getElem?_eq_getElem hlt] at he
     rw [Option.some.inj he]
    rw [hdrop] at hx
    obtain ⟨ek, es, ey, eu, ev, ex⟩ := e
    have hx : vfind L j w = ((decide (ek = 1) && decide (es = j) && decide (ey = w)) || vfind (L.drop (i + 1)) j w) := hx
    cases c1 : decide (ek = 1) <;> cases c2 : decide (es = j) <;> cases c3 : decide (ey = w)
    all_goals rw [c1, c2, c3] at hx
    all_goals
     repeat' (first | (refine zZ.is ?_; first | refine zZ.seq ?_ | (refine zZ.isR (id := 5) ?_; refine zZ.zV [0, 1, 6, 7, 9, 21, 47] [] (by repeat' first | exact zX.nil | apply zX.p rfl | apply zX.skip) (by repeat' exact zW.nil) ?_; refine zY.vm rfl rfl rfl rfl (by decide) ?_; refine zY.vm rfl rfl rfl rfl (by decide) ?_; refine zY.v rfl rfl (yQ rfl rfl rfl (by decide)) ?_; refine zY.v rfl rfl (zR rfl rfl rfl g1 rfl (by decide)) ?_; refine zY.nil ?_) | (refine zZ.isR (id := 7) ?_; refine zZ.zV [0, 1, 6, 7, 9, 21, 47] [] (by repeat' first | exact zX.nil | apply zX.p rfl | apply zX.skip) (by repeat' exact zW.nil) ?_; all_goals (refine zY.vm rfl rfl rfl rfl (by decide) ?_); all_goals (refine zY.vm rfl rfl rfl rfl (by decide) ?_); all_goals (refine zY.v rfl rfl (zH rfl rfl rfl hc g2 rfl (by decide)) ?_); all_goals (refine zY.v rfl rfl (yJ rfl rfl rfl (by decide)) ?_); all_goals (refine zY.v rfl rfl (zT rfl rfl rfl rfl (by decide)) ?_); all_goals (refine zY.v rfl rfl (yF rfl rfl rfl c1 rfl (by decide)) ?_); all_goals (refine zY.vm rfl rfl rfl rfl (by decide) ?_); all_goals (first | refine zY.gY rfl rfl (by decide) rfl (by rfl) rfl (by decide) (zK rfl rfl rfl (by decide)) ?_ | refine zY.gnT rfl rfl (by decide) rfl (by rfl) rfl (by decide) ?_); all_goals (first | refine zY.gY rfl rfl (by decide) rfl (by rfl) rfl (by decide) (zK rfl rfl rfl (by decide)) ?_ | refine zY.gnT rfl rfl (by decide) rfl (by rfl) rfl (by decide) ?_); all_goals (first | refine zY.gY rfl rfl (by decide) rfl (by rfl) rfl (by decide) (zH rfl rfl rfl hc g2 rfl (by decide)) ?_ | refine zY.gnT rfl rfl (by decide) rfl (by rfl) rfl (by decide) ?_); all_goals (first | refine zY.gY rfl rfl (by decide) rfl (by rfl) rfl (by decide) (yJ rfl rfl rfl (by decide)) ?_ | refine zY.gnT rfl rfl (by decide) rfl (by rfl) rfl (by decide) ?_); all_goals (first | refine zY.gY rfl rfl (by decide) rfl (by rfl) rfl (by decide) (zT rfl rfl rfl rfl (by decide)) ?_ | refine zY.gnT rfl rfl (by decide) rfl (by rfl) rfl (by decide) ?_); all_goals (first | refine zY.gY rfl rfl (by decide) rfl (by rfl) rfl (by decide) (zK rfl rfl rfl (by decide)) ?_ | refine zY.gnT rfl rfl (by decide) rfl (by rfl) rfl (by decide) ?_); all_goals (first | refine zY.gY rfl rfl (by decide) rfl (by rfl) rfl (by decide) (yF rfl rfl rfl c2 rfl (by decide)) ?_ | refine zY.gnT rfl rfl (by decide) rfl (by rfl) rfl (by decide) ?_); all_goals (refine zY.v rfl rfl (by first | exact zL rfl rfl (by rfl) rfl rfl (by decide) | exact zI rfl rfl (by rfl) rfl rfl (by decide)) ?_); all_goals (refine zY.vm rfl rfl rfl rfl (by decide) ?_); all_goals (first | refine zY.gY rfl rfl (by decide) rfl (by rfl) rfl (by decide) (zK rfl rfl rfl (by decide)) ?_ | refine zY.gnT rfl rfl (by decide) rfl (by rfl) rfl (by decide) ?_); all_goals (first | refine zY.gY rfl rfl (by decide) rfl (by rfl) rfl (by decide) (zK rfl rfl rfl (by decide)) ?_ | refine zY.gnT rfl rfl (by decide) rfl (by rfl) rfl (by decide) ?_); all_goals (first | refine zY.gY rfl rfl (by decide) rfl (by rfl) rfl (by decide) (zH rfl rfl rfl hc g2 rfl (by decide)) ?_ | refine zY.gnT rfl rfl (by decide) rfl (by rfl) rfl (by decide) ?_); all_goals (first | refine zY.gY rfl rfl (by decide) rfl (by rfl) rfl (by decide) (yJ rfl rfl rfl (by decide)) ?_ | refine zY.gnT rfl rfl (by decide) rfl (by rfl) rfl (by decide) ?_); all_goals (first | refine zY.gY rfl rfl (by decide) rfl (by rfl) rfl (by decide) (zT rfl rfl rfl rfl (by decide)) ?_ | refine zY.gnT rfl rfl (by decide) rfl (by rfl) rfl (by decide) ?_); all_goals (first | refine zY.gY rfl rfl (by decide) rfl (by rfl) rfl (by decide) (zK rfl rfl rfl (by decide)) ?_ | refine zY.gnT rfl rfl (by decide) rfl (by rfl) rfl (by decide) ?_); all_goals (first | refine zY.gY rfl rfl (by decide) rfl (by rfl) rfl (by decide) (yF rfl rfl rfl c3 rfl (by decide)) ?_ | refine zY.gnT rfl rfl (by decide) rfl (by rfl) rfl (by decide) ?_); all_goals (refine zY.v rfl rfl (by first | exact zL rfl rfl (by rfl) rfl rfl (by decide) | exact zI rfl rfl (by rfl) rfl rfl (by decide)) ?_); all_goals (refine zY.nil ?_)) | (refine zZ.isR (id := 8) ?_; refine zZ.zV [0, 1, 6, 7, 9, 21, 47] [] (by repeat' first | exact zX.nil | apply zX.p rfl | apply zX.skip) (by repeat' exact zW.nil) ?_; refine zY.va rfl rfl rfl rfl (by decide) ?_; refine zY.nil ?_) | (refine zZ.isR (id := 6) ?_; refine zZ.zV [0, 1, 6, 7, 9, 21, 47] [] (by repeat' first | exact zX.nil | apply zX.p rfl | apply zX.skip) (by repeat' exact zW.nil) ?_; refine zY.vm rfl rfl rfl rfl (by decide) ?_; refine zY.v rfl rfl (yD rfl rfl rfl g3 rfl (by decide)) ?_; refine zY.va rfl rfl rfl rfl (by decide) ?_; refine zY.nil ?_) | refine zZ.yV rfl (by first | assumption | with_reducible rfl) ?_ | refine zZ.yX rfl (by first | assumption | with_reducible rfl) ?_ | refine zZ.skip ?_ | refine zZ.block ?_ | refine zZ.ret ?_) | refine zF.n ?_ | refine zF.r ?_ | refine zM.r ?_)
    case true.true.true => exact ⟨.inl rfl, gives1 rfl rfl (by rw [hx]; rfl)⟩
    all_goals
     refine ⟨i + 1, ?_, ⟨hlt, hx⟩, by omega⟩
     try unfold vrS
     exact zB K_3c []
   case neg =>
    have g1 : decide (((i : Nat) : Int) < (((L.map zQ.V).length : Nat) : Int)) = false := decide_eq_false (by rw [hlen]; omega)
    have hx' : vfind L j w = false := by rw [hx, List.drop_of_length_le (by omega)]; rfl
    repeat' ((refine zZ.is ?_; first | refine zZ.seq ?_ | (refine zZ.isR (id := 5) ?_; refine zZ.zV [0, 1, 6, 7, 9, 21, 47] [] (by repeat' first | exact zX.nil | apply zX.p rfl | apply zX.skip) (by repeat' exact zW.nil) ?_; refine zY.vm rfl rfl rfl rfl (by decide) ?_; refine zY.vm rfl rfl rfl rfl (by decide) ?_; refine zY.v rfl rfl (yQ rfl rfl rfl (by decide)) ?_; refine zY.v rfl rfl (zR rfl rfl rfl g1 rfl (by decide)) ?_; refine zY.nil ?_) | (refine zZ.isR (id := 9) ?_; refine zZ.zV [6] [] (by repeat' first | exact zX.nil | apply zX.skip) (by repeat' exact zW.nil) ?_; refine zY.va rfl rfl rfl rfl (by decide) ?_; refine zY.nil ?_) | refine zZ.yX rfl (by first | assumption | with_reducible rfl) ?_ | refine zZ.exit ?_ | refine zZ.ret ?_))
    all_goals exact ⟨.inl rfl, gives1 rfl rfl (by rw [hx']; rfl)⟩
theorem livesR_fn (L : List zQ) (e : zQ) (hl : L.length ≤ 1000000) (ho : e.ok) : Fn Tryd.prog 34 [.sl (L.map zQ.V), e.V] (.p (.val (.bool (qC L e)))) := by
  obtain ⟨k, s, y, u, v, x⟩ := e
  have c := splitKRef_fn y ho.y.1 ho.y.2
  have d1 := deadR_fn L s hl
  have v1 := vertR_fn L u (y / 2147483648) hl
  have v2 := vertR_fn L v (y % 2147483648 - 1) hl
  unfold qC
  dsimp only
  generalize vertR L u (y / 2147483648) = b1 at v1 ⊢
  generalize vertR L v (y % 2147483648 - 1) = b2 at v2 ⊢
  generalize w9 L s = b0 at d1 ⊢
  generalize y / 2147483648 = p at *
  generalize y % 2147483648 - 1 = q at *
  refine wQ Tryd.func34 rfl Tryd.ntmps34 (Nat.le_of_ble_eq_true rfl) ?_
  cases h1 : decide (k = 1) <;> cases b0 <;> cases h2 : decide (q < 0) <;> cases b1 <;> cases b2
  all_goals have h3 := congrArg Bool.not h1
  all_goals try (have h3 : (!decide (k = 1)) = true := h3)
  all_goals try (have h3 : (!decide (k = 1)) = false := h3)
  all_goals
    repeat' (first | (refine zZ.is ?_; first | refine zZ.seq ?_ | (refine zZ.iq 0 ?_; refine zZ.rqa _ K_h K_1m ?_; refine zY.m rfl rfl (vB rfl rfl rfl (by decide)) ?_; refine zY.va rfl rfl rfl rfl (by decide) ?_; refine zY.nil ?_) | (refine zZ.iq 1 ?_; refine zZ.rqe _ K_e K_1m ?_; all_goals (refine zY.v rfl rfl (zJ rfl rfl rfl (by decide)) ?_); all_goals (refine zY.v rfl rfl (zC rfl rfl rfl (by rfl) rfl (by decide)) ?_); all_goals (refine zY.v rfl rfl (vK rfl rfl rfl h3 rfl (by decide)) ?_); all_goals (refine zY.vm rfl rfl rfl rfl (by decide) ?_); all_goals (first | refine zY.gY rfl rfl (by decide) rfl (by rfl) rfl (by decide) (zK rfl rfl rfl (by decide)) ?_ | refine zY.gnF rfl rfl (by decide) rfl (by rfl) rfl (by decide) ?_); all_goals (first | refine zY.gY rfl rfl (by decide) rfl (by rfl) rfl (by decide) (zJ rfl rfl rfl (by decide)) ?_ | refine zY.gnF rfl rfl (by decide) rfl (by rfl) rfl (by decide) ?_); all_goals (first | refine zY.gY rfl rfl (by decide) rfl (by rfl) rfl (by decide) (zC rfl rfl rfl (by rfl) rfl (by decide)) ?_ | refine zY.gnF rfl rfl (by decide) rfl (by rfl) rfl (by decide) ?_); all_goals (first | refine zY.gY rfl rfl (by decide) rfl (by rfl) rfl (by decide) (by exact zU (d1) rfl rfl rfl (by decide)) ?_ | refine zY.gnF rfl rfl (by decide) rfl (by rfl) rfl (by decide) ?_); all_goals (refine zY.v rfl rfl (by first | exact zL rfl rfl (by rfl) rfl rfl (by decide) | exact zI rfl rfl (by rfl) rfl rfl (by decide)) ?_); all_goals (refine zY.nil ?_)) | (refine zZ.iq 2 ?_; refine zZ.rqe _ K_e K_1m ?_; refine zY.va rfl rfl rfl rfl (by decide) ?_; refine zY.nil ?_) | (refine zZ.iq 3 ?_; refine zZ.rqe _ K_e K_1m ?_; refine zY.v rfl rfl (zJ rfl rfl rfl (by decide)) ?_; refine zY.v rfl rfl (zC rfl rfl rfl (by rfl) rfl (by decide)) ?_; refine zY.v rfl rfl (by exact yU (c) rfl rfl rfl (by decide)) ?_; refine zY.v rfl rfl (yG rfl rfl rfl (by decide)) ?_; refine zY.v rfl rfl (zD rfl rfl rfl rfl (by decide)) ?_; refine zY.v rfl rfl (zD rfl rfl rfl rfl (by decide)) ?_; refine zY.va rfl rfl rfl rfl (by decide) ?_; refine zY.va rfl rfl rfl rfl (by decide) ?_; refine zY.nil ?_) | (refine zZ.iq 4 ?_; refine zZ.rqe _ K_18 K_1m ?_; refine zY.vm rfl rfl rfl rfl (by decide) ?_; refine zY.v rfl rfl (zR rfl rfl rfl h2 rfl (by decide)) ?_; refine zY.nil ?_) | (refine zZ.iq 5 ?_; refine zZ.rqe _ K_18 K_1m ?_; refine zY.va rfl rfl rfl rfl (by decide) ?_; refine zY.nil ?_) | (refine zZ.iq 6 ?_; refine zZ.rqe _ K_18 K_1m ?_; all_goals (refine zY.vm rfl rfl rfl rfl (by decide) ?_); all_goals (refine zY.v rfl rfl (zJ rfl rfl rfl (by decide)) ?_); all_goals (refine zY.v rfl rfl (zC rfl rfl rfl (by rfl) rfl (by decide)) ?_); all_goals (refine zY.vm rfl rfl rfl rfl (by decide) ?_); all_goals (refine zY.v rfl rfl (by exact zU (v1) rfl rfl rfl (by decide)) ?_); all_goals (refine zY.vm rfl rfl rfl rfl (by decide) ?_); all_goals (first | refine zY.gY rfl rfl (by decide) rfl (by rfl) rfl (by decide) (zK rfl rfl rfl (by decide)) ?_ | refine zY.gnT rfl rfl (by decide) rfl (by rfl) rfl (by decide) ?_); all_goals (first | refine zY.gY rfl rfl (by decide) rfl (by rfl) rfl (by decide) (zJ rfl rfl rfl (by decide)) ?_ | refine zY.gnT rfl rfl (by decide) rfl (by rfl) rfl (by decide) ?_); all_goals (first | refine zY.gY rfl rfl (by decide) rfl (by rfl) rfl (by decide) (zC rfl rfl rfl (by rfl) rfl (by decide)) ?_ | refine zY.gnT rfl rfl (by decide) rfl (by rfl) rfl (by decide) ?_); all_goals (first | refine zY.gY rfl rfl (by decide) rfl (by rfl) rfl (by decide) (zK rfl rfl rfl (by decide)) ?_ | refine zY.gnT rfl rfl (by decide) rfl (by rfl) rfl (by decide) ?_); all_goals (first | refine zY.gY rfl rfl (by decide) rfl (by rfl) rfl (by decide) (by exact zU (v2) rfl rfl rfl (by decide)) ?_ | refine zY.gnT rfl rfl (by decide) rfl (by rfl) rfl (by decide) ?_); all_goals (refine zY.v rfl rfl (by first | exact zL rfl rfl (by rfl) rfl rfl (by decide) | exact zI rfl rfl (by rfl) rfl rfl (by decide)) ?_); all_goals (refine zY.va rfl rfl rfl rfl (by decide) ?_); all_goals (refine zY.nil ?_)) | refine zZ.yV rfl (by first | assumption | with_reducible rfl) ?_ | refine zZ.yX rfl (by first | assumption | with_reducible rfl) ?_ | refine zZ.skip ?_ | refine zZ.ret ?_) | refine zF.r ?_)
  all_goals exact ⟨.inl rfl, gives1 rfl rfl rfl⟩
end Go.Proofs.YtomlhekjgagjaaaDoor
