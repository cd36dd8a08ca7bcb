/- What an operation on vertices asks next, or answers, is as the document says, whatever it was told. (Part 9 of 10.) -/
import Derived.Test.YtohlllohmoojiaaGreatDoorVn8
namespace Go.Proofs.YtohlllohmoojiaaGreatDoor
open Go Go.RowKit
set_option maxRecDepth 100000
set_option maxHeartbeats 16000000
section
attribute [local irreducible] zY zZ Step zV Sub zF zA Fn zK zI
def aloneVS (me : Nat) (k u v w : Int) (most : Int) (s : AlSt) : AS :=
  { t := [(1, .p (.val (.int .i64 me))), (3, .p (.val (.int .i64 most))), (4, .ptr 4 0), (6, .ptr 6 0), (8, .ptr 8 0), (9, .ptr 9 0), (10, .p (.val (.bool false))), (11, .own 11), (12, .p (.val (.int .i64 (s.n : Nat))))],
    s := [(4, .box 59 (s.W.pv.cells.map AV.p)), (6, .box 24 ((opV k u v w).cells.map AV.p)), (8, .box 59 ([.val (.int .i64 0), .val (.int .i64 0), xZ, .val (.int .u64 0), xZ, xZ].map AV.p)),
      (9, .box 38 ((qZ 0 false 0 0).cells.map AV.p)), (11, lentV 125 3 (s.L.map kM))] }
theorem nextV_needW (L : List yQ) (hL : xB L) {t me : Int} (c : Int) {k u v w : Int} (ht : Small t) (h0 : 0 ≤ t) (hm : Small me) {q : Ned} {j : Nat} (hr : (qW t me k u).run (y9 L) 0 = .need q j) (hq : kQ q) :
    Fn Tryz.prog 15 [.val (.int .i64 t), .val (.int .i64 c), .val (.int .i64 me), opV k u v w, logV L] (.tup [accV q.kind q.cell q.a q.b (.sl (byts (kW q.d))), qZ 0 false 0 0, .val (.bool false)]) := by
  refine (nextV_need L hL c (v := v) (w := w) ht h0 hm hr).weakT (.cons (.agg (.cons (.refl _) (.cons (.refl _) (.cons (.refl _) (.cons (.refl _) (.cons ?_ (.cons (.refl _) .nil))))))) (.cons (.refl _) (.cons (.refl _) .nil)))
  rcases hq.d with ⟨_, e⟩ | ⟨_, bs, _, _, e⟩
  · rw [e]; exact .nil
  · rw [e, bytsOf_byts]; exact .refl _
theorem aloneV_fn (B : Nat) (W W' : Wd) (me : Nat) (k u v w : Int) (most : Nat) (m : Nat) (o : OutN) (hW : WdOK B W) (ht0 : Small W.t) (h0t : 0 ≤ W.t) (hme : me < W.r0.length)
    (hr : (qW W.t me k u).run (wSt me noFail) (W, 0) = .done o (W', m)) (hmm : m ≤ most) (h1000 : most ≤ 1000) (hB : B ≤ 70000000) (hB2 : B + 1000 * most ≤ 90000000) :
    Fn Tryz.prog 39 [W.pv, .val (.int .i64 me), opV k u v w, .val (.int .i64 most)] (.tup [W'.pv, qZ o.e o.is o.n o.w, .val (.bool true)]) := by
  have hfine := fine_vop W.t me k u
  obtain ⟨t, c, ws, root, r0, r1⟩ := W
  have hme : me < r0.length := hme
  have ht0 : Small t := ht0
  have h0t : 0 ≤ t := h0t
  have hms : Small ((me : Nat) : Int) := ⟨by omega, by have h1 : r0.length ≤ 1000000 := hW.rows; omega⟩
  refine yT Tryz.func39 rfl Tryz.ntmps39 (Nat.le_of_ble_eq_true rfl) ?_
  repeat' (first | (refine zY.nil ?_) | (refine zZ.is ?_; first | refine zZ.seq ?_ | (refine zZ.iR 0 ?_; refine zZ.rc [0, 1, 2, 3] [4, 6, 8, 9, 11, 13, 14, 16, 17, 50] (r := (.m yI (.m yI (.m zT (.m zT (.v zW .e)))))) (h := ?_)) | (refine zZ.iR 1 ?_; refine zZ.rc [1, 3, 4, 6, 8, 9, 10] [4, 6, 8, 9, 11, 13, 14, 16, 17, 50] (r := (.v zW .e)) (h := ?_)) | (refine zZ.iR 2 ?_; refine zZ.rc [1, 3, 4, 6, 8, 9, 10, 11] [4, 6, 8, 9, 11, 13, 14, 16, 17, 50] (r := (.v zW .e)) (h := ?_)) | refine zZ.block ?_) | refine zK.n ?_)
  refine zZ.loop (fun s => aloneVS me k u v w most s) (fun s => s.n ≤ m ∧ s.W.t = t ∧ s.W.r0.length = r0.length ∧ WdOK (B + 1000 * s.n) s.W ∧ s.L.length = s.n ∧ (∀ r ∈ s.L, U r.n) ∧ (qW t me k u).after s.L = some s.p ∧ s.p.wH yes (many - s.n) ∧ s.p.run (wSt me noFail) (s.W, s.n) = .done o (W', m)) (fun s => most + 1 - s.n) ⟨0, ⟨t, c, ws, root, r0, r1⟩, [], qW t me k u⟩ ?h0
    ⟨Nat.zero_le _, rfl, rfl, hW, rfl, (fun r h => by simp at h), (by cases qW t me k u <;> rfl), hfine, hr⟩ ?rd
  case h0 =>
    refine (sub_adopt (d := 11) (id := 11) (ty := 125) (sz := 3) (by decide) rfl).trans ?_
    refine (qC (id := 11) (b := .row 125 3 0 []) (b' := kH 125 3 []) (by rfl) (rowV_alike 125 3 [])).sub.trans ?_
    refine (sub_lend (id := 11) (e := 125) (sz := 3) (es := []) (by rfl)).trans ?_
    exact zM K_i K_j
  case rd =>
    rintro ⟨n, W, L, p⟩ ⟨hn, ht, hrl, hok, hl, hru, haf, hfi, hrun⟩
    dsimp only at hn ht hrl hok hl hru haf hfi hrun
    obtain ⟨t', c', ws', root', r0', r1'⟩ := W
    have ht : t' = t := ht
    subst ht
    change zZ _ _ _ (aloneVS me k u v w most ⟨n, ⟨t', c', ws', root', r0', r1'⟩, L, p⟩) _
    unfold aloneVS
    dsimp only
    have g1 : decide ((n : Int) ≤ most) = true := decide_eq_true (by omega)
    repeat' (first | (refine zY.nil ?_) | (refine zZ.is ?_; first | refine zZ.seq ?_ | (refine zZ.iR 3 ?_; refine zZ.rc [1, 3, 4, 6, 8, 9, 10, 11, 12, 13, 14, 15, 16, 17, 20, 37] [4, 6, 8, 9, 11, 13, 14, 16, 17, 50] (r := (.v zX (.v zX (.v v44_0 .e)))) (h := ?_)) | (refine zZ.iR 5 ?_; refine zZ.rc [1, 3, 4, 6, 8, 9, 10, 11, 12, 13, 14, 15, 16, 17, 20, 37] [4, 6, 8, 9, 11, 13, 14, 16, 17, 50] (r := (.v zH (.v zH (.v zL (.v zH (.v zH (.v zL (.v zX (.v xC (.v v0_1 .e)))))))))) (h := ?_)) | refine zZ.yB rfl bA ?_ | refine zZ.skip ?_ | refine zZ.block ?_) | refine zK.n ?_)
    refine zY.sub (sub_view (d := 32) (id := 11) (e := 125) (sz := 3) (es := L.map kM) rfl rfl) ?_
    have hL : xB L := ⟨by omega, hru⟩
    cases p with
    | stuck => cases hrun
    | ret o' =>
      rw [zD] at hrun
      injection hrun with e1 e2
      injection e2 with e2 e3
      subst e1 e2
      have c1 := nextV_done L hL c' (v := v) (w := w) ht0 h0t hms (after_done haf)
      repeat' (first | (refine zY.is ?_; first | refine zY.nil ?_ | (refine zY.at_ 23 rfl ?_; refine zY.rc (.v wW (.v yZ (.v yZ (.v yZ (.m zT (.m zT (.w zO (.w zO (.v zW .e))))))))) ?_) | (refine zY.in_ [33] rfl ?_; refine zY.v rfl rfl (yR (c1) rfl rfl rfl (by decide)) ?_)) | (refine zZ.is ?_; first | refine zZ.seq ?_ | (refine zZ.iR 6 ?_; refine zZ.rc [1, 3, 4, 6, 8, 9, 10, 11, 12, 13, 14, 15, 16, 17, 20, 37] [4, 6, 8, 9, 11, 13, 14, 16, 17, 50] (r := (.v zX .e)) (h := ?_)) | (refine zZ.iR 7 ?_; refine zZ.rk [1, 3, 4, 6, 8, 9, 10, 11, 12, 13, 14, 15, 16, 17, 20, 37] [4, 6, 8, 9, 11, 13, 14, 16, 17, 50] ?_; refine zZ.drawGo (by kernel_rfl) ?_) | refine zZ.yB rfl bA ?_ | refine zZ.ret ?_) | refine zK.n ?_ | refine zK.r ?_ | refine zI.r ?_ | (refine DGo.at_ [] ?_; refine DGo.all [0, 1] (by kernel_rfl) ?_) | (refine DGo.at_ [1] ?_; refine DGo.all [0] (by kernel_rfl) ?_) | (refine DGo.at_ [0, 1] ?_; refine DGo.all [2] (by kernel_rfl) ?_) | (refine DGo.at_ [2, 0, 1] ?_; refine DGo.all [3] (by kernel_rfl) ?_) | (refine DGo.at_ [3, 2, 0, 1] ?_; refine DGo.fr 4 ?_) | (refine DGo.at_ [4, 3, 2, 0, 1] ?_; refine DGo.fin (by kernel_rfl) ?_) | (refine DGo.at_ [0] ?_; refine DGo.all [1, 2] (by kernel_rfl) ?_) | (refine DGo.at_ [2, 0] ?_; refine DGo.all [1] (by kernel_rfl) ?_) | (refine DGo.at_ [1, 2, 0] ?_; refine DGo.all [3] (by kernel_rfl) ?_) | (refine DGo.at_ [3, 1, 2, 0] ?_; refine DGo.fr 4 ?_) | (refine DGo.at_ [4, 3, 1, 2, 0] ?_; refine DGo.fin (by kernel_rfl) ?_) | (refine DGo.at_ [1, 0] ?_; refine DGo.all [2] (by kernel_rfl) ?_) | (refine DGo.at_ [2, 1, 0] ?_; refine DGo.all [3] (by kernel_rfl) ?_) | (refine DGo.at_ [3, 2, 1, 0] ?_; refine DGo.fr 4 ?_) | (refine DGo.at_ [4, 3, 2, 1, 0] ?_; refine DGo.fin (by kernel_rfl) ?_) | refine zP.cons ?_ ?_ | exact zP.nil | (refine zS.at_ 0 ?_; refine zS.v rfl rfl rfl (xX rfl rfl rfl (by rfl) (by rfl) rfl (by decide)) ?_) | (refine zS.at_ 1 ?_; refine zS.v rfl rfl rfl (xX rfl rfl rfl (by rfl) (by rfl) rfl (by decide)) ?_) | (refine zS.at_ 2 ?_; refine zS.w rfl rfl (by exact y8 rfl rfl rfl rfl rfl (by rfl) (by exact Nat.le_of_ble_eq_true rfl) rfl rfl) ?_) | (refine zS.at_ 3 ?_; refine zS.w rfl rfl (by exact y8 rfl rfl rfl rfl rfl (by rfl) (by exact Nat.le_of_ble_eq_true rfl) rfl rfl) ?_))
      all_goals exact ⟨by first | exact .inl rfl | exact .inr rfl, _, Sub.refl _, .tup (rs := [.cell 8 59, .cell 9 38, .tmp 10]) (l := [Wd.pv ⟨t', c', ws', root', r0', r1'⟩, qZ o'.e o'.is o'.n o'.w, .val (.bool true)]) rfl (by decide) (.cons (.cellN rfl rfl (by rfl) (by rfl)) (.cons (.cellN rfl rfl (by rfl) (by rfl)) (.cons (.tmp rfl) .nil)))⟩
    | ask q kq =>
      have hq : kQ q := hfi.1
      rw [vH] at hrun
      have hrun2 : (kq (doX ⟨t', c', ws', root', r0', r1'⟩ me q false).2).run (wSt me noFail) ((doX ⟨t', c', ws', root', r0', r1'⟩ me q false).1, n + 1) = .done o (W', m) := hrun
      have hle := wSt_le hrun2
      dsimp only at hle
      have c1 := nextV_needW L hL c' (v := v) (w := w) ht0 h0t hms (after_need haf) hq
      have hdo := doX_ok hok hq me false
      have hkeep := doX_keeps ⟨t', c', ws', root', r0', r1'⟩ me q false
      have hme' : me < r0'.length := by have : r0'.length = r0.length := hrl; omega
      have c2 := doX_fn hok (by omega) hq (me := me) hme' false
      have haf2 := after_snoc (doX ⟨t', c', ws', root', r0', r1'⟩ me q false).2 haf
      generalize hde : doX ⟨t', c', ws', root', r0', r1'⟩ me q false = dd at *
      obtain ⟨W2, r⟩ := dd
      dsimp only at hrun2 hle c2 hdo hkeep haf2
      have g3 : IntKind.i64.wrap ((n : Int) + 1) = ((n + 1 : Nat) : Int) := by rw [wrap_i64 _ (by omega)]; omega
      have g4 : ∀ e ∈ L.map kM, e.cells.length = 3 := resV_cells L
      have g5 : ∀ e ∈ [kM r], e.cells.length = 3 := fun e he => by simp at he; subst he; rfl
      have g10 : ((L.map kM).length + ([kM r] : List PV).length) * 40 ≤ 140737488355328 ∧ (L.map kM).length + ([kM r] : List PV).length ≤ maxLen := by
        simp only [List.length_map, List.length_cons, List.length_nil, maxLen]
        omega
      have hnext : n + 1 ≤ m ∧ W2.t = t' ∧ W2.r0.length = r0.length ∧ WdOK (B + 1000 * (n + 1)) W2 ∧ (L ++ [r]).length = n + 1 ∧ (∀ x ∈ L ++ [r], U x.n) ∧ (qW t' me k u).after (L ++ [r]) = some (kq r) ∧ (kq r).wH yes (many - (n + 1)) ∧ (kq r).run (wSt me noFail) (W2, n + 1) = .done o (W', m) :=
        ⟨hle, hkeep.1, hkeep.2.2.1.trans hrl, hdo.1.le (by omega), by simp [hl], (fun x hx => by
          rcases List.mem_append.1 hx with hx | hx
          · exact hru x hx
          · simp at hx; subst hx; exact hdo.2), haf2, Pr.wH.le (by omega) (hfi.2 r hdo.2), hrun2⟩
      have ps_ := trivial
      repeat' (first | (refine zY.is ?_; first | refine zY.nil ?_ | (refine zY.at_ 23 rfl ?_; refine zY.rc (.v wW (.v yZ (.v yZ (.v yZ (.m zT (.m zT (.w zO (.w zO (.v zW .e))))))))) ?_) | (refine zY.at_ 40 rfl ?_; refine zY.rc (.v wW (.v yZ (.v yZ (.m zT (.m zT (.w zO (.w zO .e))))))) ?_) | (refine zY.in_ [33] rfl ?_; refine zY.v rfl rfl (yR (c1) rfl rfl rfl (by decide)) ?_) | (refine zY.in_ [44] rfl ?_; refine zY.v rfl rfl (yR (c2) rfl rfl rfl (by decide)) ?_)) | (refine zZ.is ?_; first | refine zZ.seq ?_ | (refine zZ.iR 6 ?_; refine zZ.rc [1, 3, 4, 6, 8, 9, 10, 11, 12, 13, 14, 15, 16, 17, 20, 37] [4, 6, 8, 9, 11, 13, 14, 16, 17, 50] (r := (.v zX .e)) (h := ?_)) | (refine zZ.iR 8 ?_; refine zZ.rc [1, 3, 4, 6, 8, 9, 10, 11, 12, 13, 14, 15, 16, 17, 20, 37] [4, 6, 8, 9, 11, 13, 14, 16, 17, 50] (r := (.v xC (.v zX (.v xC .e)))) (h := ?_)) | (refine zZ.iR 9 ?_; refine zZ.rc [1, 3, 4, 6, 8, 9, 10, 11, 12, 13, 14, 15, 16, 17, 20, 37] [4, 6, 8, 9, 11, 13, 14, 16, 17, 50] (r := (.v xC (.w zO .e))) (h := ?_)) | (refine zZ.iR 10 ?_; refine zZ.rc [1, 3, 4, 6, 8, 9, 10, 11, 12, 13, 14, 15, 16, 17, 20, 37] [4, 6, 8, 9, 11, 13, 14, 16, 17, 50] (r := (.v v0_1 (.v xC (.v v20_0 (.w w55_3 (.v v1_1 .e)))))) (h := ?_)) | (refine zZ.iR 4 ?_; refine zZ.rc [1, 3, 4, 6, 8, 9, 10, 11, 12, 13, 14, 15, 16, 17, 20, 37] [4, 6, 8, 9, 11, 13, 14, 16, 17, 50] (r := (.v zX (.v qQ (.v zW .e)))) (h := ?_)) | refine zZ.yA rfl bA ?_ | refine zZ.skip ?_) | refine zK.n ?_ | refine zI.n ?_)
      all_goals
        refine ⟨⟨n + 1, W2, L ++ [r], kq r⟩, ?_, hnext, by dsimp only; omega⟩
        show Sub _ (aloneVS me k u v w most ⟨n + 1, W2, L ++ [r], kq r⟩)
        unfold aloneVS
        dsimp only
        rw [List.map_append]
        exact zM K_i K_j
end
section
attribute [local irreducible] zY zZ Step zV Sub zF zA Fn
def zStr : PV := .agg [.val (.slice none 0 0), .val (.int .i64 0)]
theorem flat_zs : ∀ t : Nat, PL0s (flat (List.replicate t zStr)) (flat (strs (List.replicate t ([], 0))))
  | 0 => .nil
  | t + 1 => .cons .nil (.cons (.refl _) (flat_zs t))
theorem zStr_cells (t : Nat) : ∀ e ∈ List.replicate t zStr, e.cells.length = 2 := fun e he => by
  rw [List.eq_of_mem_replicate he]
  rfl
theorem new7_fn (t : Nat) (h1 : 1 ≤ t) (h64 : t ≤ 64) : Fn Tryz.prog 71 [.val (.int .i64 t)] (.tup [vU 0 (List.replicate t ([], 0)) (List.replicate t ([], 0)), .val (.int .i64 0)]) := by
  have g1 : decide ((t : Int) < 1) = false := decide_eq_false (by omega)
  have g2 : decide ((64 : Int) < t) = false := decide_eq_false (by omega)
  have g3 : t * 2 ≤ 16777216 ∧ 32 * t ≤ 281474976710656 ∧ t ≤ maxLen := by simp only [maxLen]; omega
  have g4 := zStr_cells t
  refine Fn.weakT (l := [.agg [.val (.int .u64 0), .sl (List.replicate t zStr), .sl (List.replicate t zStr)], .val (.int .i64 0)]) ?_ (.cons (.agg (.cons (.refl _) (.cons (.sl (by simp [strs]) (flat_zs t)) (.cons (.sl (by simp [strs]) (flat_zs t)) .nil)))) (.cons (.refl _) .nil))
  refine yT Tryz.func71 rfl Tryz.ntmps71 (Nat.le_of_ble_eq_true rfl) ?_
  repeat' ((refine zZ.is ?_; first | refine zZ.seq ?_ | (refine zZ.iR 0 ?_; refine zZ.wM [0] [2, 4, 13, 17] (by repeat' first | exact zR.nil | apply zR.p rfl) (by repeat' first | exact zU.nil | apply zU.skip) ?_; refine zY.m rfl rfl (w_alloc rfl (by decide) rfl (by decide)) ?_; refine zY.va rfl rfl rfl rfl (by decide) ?_; refine zY.nil ?_) | (refine zZ.iq 1 ?_; refine zZ.rqb _ K_17 K_k ?_; all_goals (refine zY.vm rfl rfl rfl rfl (by decide) ?_); all_goals (refine zY.v rfl rfl (r_lss rfl rfl rfl g1 rfl (by decide)) ?_); all_goals (refine zY.vm rfl rfl rfl rfl (by decide) ?_); all_goals (refine zY.gY rfl rfl (by decide) rfl (by rfl) rfl (by decide) (a_moveP rfl rfl rfl (by decide)) ?_); all_goals (refine zY.gY rfl rfl (by decide) rfl (by rfl) rfl (by decide) (r_gtr rfl rfl rfl g2 rfl (by decide)) ?_); all_goals (refine zY.v rfl rfl (w_pickN rfl rfl (by rfl) rfl rfl (by decide)) ?_); all_goals (refine zY.nil ?_)) | (refine zZ.iq 3 ?_; refine zZ.rqb _ K_17 K_k ?_; refine zY.m rfl rfl (w_alloc rfl (by decide) rfl (by decide)) ?_; refine zY.nil ?_) | (refine zZ.iq 4 ?_; refine zZ.rqb _ K_1o K_k ?_; refine zY.vm rfl rfl rfl rfl (by decide) ?_; refine zY.m rfl rfl (w_makeVN rfl rfl rfl g3 rfl (by decide) (by rfl) rfl (by decide)) ?_; refine zY.v rfl rfl (wY rfl rfl rfl (by decide)) ?_; refine zY.v rfl rfl (by exact w_idxArr rfl rfl rfl (by omega) rfl (by decide)) ?_; refine zY.w rfl (by exact w_storeO rfl rfl rfl rfl rfl rfl (by exact Nat.le_of_ble_eq_true rfl) rfl rfl) ?_; refine zY.nil ?_) | (refine zZ.iR 5 ?_; refine zZ.wM [0, 2, 3, 4] [2, 4, 13, 17] (by repeat' first | exact zR.nil | apply zR.p rfl | apply zR.ptr rfl) (by repeat' first | exact zU.nil | apply zU.boxP rfl rfl | apply zU.some rfl | apply zU.skip) ?_; refine zY.vm rfl rfl rfl rfl (by decide) ?_; refine zY.m rfl rfl (w_makeVN rfl rfl rfl g3 rfl (by decide) (by rfl) rfl (by decide)) ?_; refine zY.v rfl rfl (wY rfl rfl rfl (by decide)) ?_; refine zY.v rfl rfl (by exact w_idxArr rfl rfl rfl (by omega) rfl (by decide)) ?_; refine zY.w rfl (by exact w_storeO rfl rfl rfl rfl rfl rfl (by exact Nat.le_of_ble_eq_true rfl) rfl rfl) ?_; refine zY.nil ?_) | (refine zZ.iR 6 ?_; refine zZ.sub (sub_frz (id := 13) rfl) ?_; refine zZ.sub (sub_frz (id := 17) rfl) ?_; refine zZ.rqb _ K_1p K_k ?_; refine zY.v rfl rfl (xX rfl rfl rfl (by rfl) (by rfl) rfl (by decide)) ?_; refine zY.w rfl (by exact y8 rfl rfl rfl rfl rfl (by rfl) (by exact Nat.le_of_ble_eq_true rfl) rfl rfl) ?_; refine zY.va rfl rfl rfl rfl (by decide) ?_; refine zY.nil ?_) | refine zZ.yA rfl (by first | assumption | with_reducible rfl) ?_ | refine zZ.skip ?_ | refine zZ.ret ?_))
  all_goals exact ⟨by first | exact .inl rfl | exact .inr rfl, _, Sub.refl _, .tup (rs := [.cell 2 57, .tmp 3]) (l := [.agg [.val (.int .u64 0), .sl (List.replicate t zStr), .sl (List.replicate t zStr)], .val (.int .i64 0)]) rfl (by decide) (.cons (.cellN rfl rfl (by rfl) (by rfl)) (.cons (.tmp rfl) .nil))⟩
end
section
attribute [local irreducible] zY zZ Step zV Sub zF zA Fn
def freeW (t : Nat) : Nat → List Int → List Int
  | 0, l => l
  | k + 1, l => (freeW t k l).set (8 + t + 8 * k + 7) ((k : Int) + 2)
theorem freeW_len (t : Nat) (l : List Int) : ∀ k, (freeW t k l).length = l.length
  | 0 => rfl
  | k + 1 => by rw [freeW, List.length_set, freeW_len t l k]
def newW (t c : Nat) : List Int := freeW t (c - 1) ((List.replicate (8 + t + 8 * c) 0).set 1 1)
def newS (t c : Nat) (k : Nat) : AS :=
  { t := [(0, .p (.val (.int .i64 (t : Nat)))), (1, .p (.val (.int .i64 (c : Nat)))), (4, .ptr 4 0), (5, .p (.val (.int .i64 0))), (6, .ptr 6 0), (7, .p (.val (.int .i64 ((k + 1 : Nat) : Int))))],
    s := [(4, .box 53 ([.val (.int .i64 0), .val (.int .i64 0), .val (.slice none 0 0)].map AV.p)), (6, .box 53 [.p (.val (.int .i64 (t : Nat))), .p (.val (.int .i64 (c : Nat))), .own 30]), (30, kH 22 1 (wds (freeW t k ((List.replicate (8 + t + 8 * c) 0).set 1 1))))] }
theorem new9A_fn (t c : Nat) (h1 : 1 ≤ t) (h64 : t ≤ 64) (hc1 : 1 ≤ c) (hc : c ≤ 65536) : FnAg Tryz.prog 70 [.val (.int .i64 t), .val (.int .i64 c)] [.p (.val (.int .i64 t)), .p (.val (.int .i64 c)), .o 0] 22 1 (wds (newW t c)) (some (.int .i64 0)) := by
  have g1 : decide ((t : Int) < 1) = false := decide_eq_false (by omega)
  have g2 : decide ((64 : Int) < t) = false := decide_eq_false (by omega)
  have f1 : decide ((c : Int) < 0) = false := decide_eq_false (by omega)
  have f2 : decide ((65536 : Int) < c) = false := decide_eq_false (by omega)
  have g3 : (8 + t + 8 * c) * 1 ≤ 16777216 ∧ 8 * (8 + t + 8 * c) ≤ 281474976710656 ∧ 8 + t + 8 * c ≤ maxLen := by simp only [maxLen]; omega
  have g4 : IntKind.i64.wrap (8 + (t : Int)) = 8 + (t : Int) := wrap_i64 _ (by omega)
  have g4b : IntKind.i64.wrap (8 * (c : Int)) = 8 * (c : Int) := wrap_i64 _ (by omega)
  have g5 : IntKind.i64.wrap (8 + (t : Int) + 8 * (c : Int)) = ((8 + t + 8 * c : Nat) : Int) := by rw [wrap_i64 _ (by omega)]; omega
  have g6 : ∀ e ∈ List.replicate (8 + t + 8 * c) (PV.val (.int .u64 0)), e.cells.length = 1 := fun e he => by rw [List.eq_of_mem_replicate he]; rfl
  have g7 : (0 : Int) ≤ 1 ∧ (1 : Int) < (List.replicate (8 + t + 8 * c) (PV.val (.int .u64 0))).length := by simp; omega
  have g8 : (1 : Int).toNat < (List.replicate (8 + t + 8 * c) (PV.val (.int .u64 0))).length := by simp; omega
  have g9 : decide ((0 : Int) < c) = true := decide_eq_true (by omega)
  refine fn_ofAg Tryz.func70 rfl Tryz.ntmps70 (Nat.le_of_ble_eq_true rfl) ?_
  repeat' (first | (refine zY.at_ 31 rfl ?_; refine zY.v rfl rfl (w_buildAg 30 rfl (by rfl) (by rfl) rfl rfl (by rfl) (by rfl) rfl (by decide)) ?_) | (refine zY.is ?_; first | refine zY.nil ?_ | (refine zY.at_ 6 rfl ?_; refine zY.rc (.m zT (.w zO .e)) ?_)) | (refine zZ.is ?_; first | refine zZ.seq ?_ | (refine zZ.iR 0 ?_; refine zZ.rc [0, 1] [4, 6, 30] (r := (.m zT (.v zW .e))) (h := ?_)) | (refine zZ.iR 1 ?_; refine zZ.rc [0, 1, 4, 5] [4, 6, 30] (r := (.v zX (.v yU (.v zX (.gY zX (.gY v45_0 (.v yP (.v zX (.gY zX (.gY yU (.v yP (.v zX (.gY zX (.gY v45_0 (.v yP .e))))))))))))))) (h := ?_)) | (refine zZ.iR 3 ?_; refine zZ.rc [0, 1, 4, 5] [4, 6, 30] (r := (.v zX (.v zX (.v zX (.v qQ (.v zX (.v v32_0 (.v qQ (.m m21_0 .e))))))))) (h := ?_)) | (refine zZ.iR 4 ?_; refine zZ.rc [0, 1, 4, 5, 6] [4, 6, 30] (r := (.v zX (.v v45_0 .e))) (h := ?_)) | (refine zZ.iR 5 ?_; refine zZ.rc [0, 1, 4, 5, 6] [4, 6, 30] (r := (.v zH (.v v2_8 (.v v7_38 (.w w24_1 .e))))) (h := ?_)) | (refine zZ.iR 6 ?_; refine zZ.rc [0, 1, 4, 5, 6] [4, 6, 30] (r := (.v zW .e)) (h := ?_)) | refine zZ.yB rfl bA ?_ | refine zZ.yA rfl bA ?_ | refine zZ.skip ?_ | refine zZ.block ?_))
  refine zZ.loop (newS t c) (fun k => k + 1 ≤ c) (fun k => c - k) 0 ?h0 (by omega) ?rd
  case h0 =>
    have e0 : wds (freeW t 0 ((List.replicate (8 + t + 8 * c) 0).set 1 1)) = (List.replicate (8 + t + 8 * c) (PV.val (.int .u64 0))).set (1 : Int).toNat (.val (.int .u64 1)) := by simp [wds, freeW, List.map_set]
    unfold newS
    rw [e0]
    exact yM K_18 K_19
  case rd =>
    rintro k hk
    have hfl : (freeW t k ((List.replicate (8 + t + 8 * c) 0).set 1 1)).length = 8 + t + 8 * c := by rw [freeW_len]; simp
    unfold newS
    by_cases hkc : k + 1 < c
    case pos =>
      have f3 : decide (((k + 1 : Nat) : Int) < c) = true := decide_eq_true (by omega)
      have c3 : Fn Tryz.prog 24 [.val (.int .i64 (t : Nat)), .val (.int .i64 ((k + 1 : Nat) : Int)), .val (.int .i64 7)] (.p (.val (.int .i64 ((8 + t + 8 * k + 7 : Nat) : Int)))) := by
        have h := fieldRef_fn t ((k + 1 : Nat) : Int) 7 (by unfold Small; omega) (by omega) (by unfold Small; omega)
        have e : yJ t ((k + 1 : Nat) : Int) 7 = ((8 + t + 8 * k + 7 : Nat) : Int) := by unfold yJ; omega
        rw [← e]; exact h
      have g10 : IntKind.i64.wrap (((k + 1 : Nat) : Int) + 1) = ((k + 2 : Nat) : Int) := by rw [wrap_i64 _ (by omega)]; omega
      have g11 : IntKind.u64.wrap ((k + 2 : Nat) : Int) = (k : Int) + 2 := by rw [wrap_u64 _ (by omega)]; omega
      have g12 := wds_cells (freeW t k ((List.replicate (8 + t + 8 * c) 0).set 1 1))
      have g13 : (0 : Int) ≤ ((8 + t + 8 * k + 7 : Nat) : Int) ∧ ((8 + t + 8 * k + 7 : Nat) : Int) < (wds (freeW t k ((List.replicate (8 + t + 8 * c) 0).set 1 1))).length := by rw [wds_len, hfl]; omega
      have g14 : ((8 + t + 8 * k + 7 : Nat) : Int).toNat < (wds (freeW t k ((List.replicate (8 + t + 8 * c) 0).set 1 1))).length := by rw [wds_len, hfl]; omega
      repeat' (first | (refine zY.nil ?_) | (refine zZ.is ?_; first | refine zZ.seq ?_ | (refine zZ.iR 7 ?_; refine zZ.rc [0, 1, 4, 5, 6, 7, 39] [4, 6, 30] (r := (.v zX (.v zX (.v yU .e)))) (h := ?_)) | (refine zZ.iR 9 ?_; refine zZ.rk [0, 1, 4, 5, 6, 7, 39] [4, 6, 30] ?_; refine zZ.draws ?_) | (refine zZ.iR 8 ?_; refine zZ.rc [0, 1, 4, 5, 6, 7, 39] [4, 6, 30] (r := (.v zX (.v qQ (.v zW .e)))) (h := ?_)) | refine zZ.yB rfl bA ?_ | refine zZ.skip ?_ | refine zZ.block ?_) | refine zK.n ?_ | (refine Draws.is ?_; first | refine Draws.rc (.v zX (.v qQ (.v qH (.v v7_38 .e)))) ?_ | refine Draws.rc (.v zH (.v v2_8 (.v zX (.v zX .e)))) ?_ | (refine Draws.in_ [46] rfl ?_; refine Draws.v rfl rfl (zG (c3) rfl rfl rfl (by decide)) ?_) | refine Draws.done (by kernel_rfl) (by kernel_rfl) (by kernel_rfl) ?_) | (refine zF.is ?_; first | refine zF.nil ?_ | refine zF.rc (.w w24_1 .e) ?_))
      refine ⟨k + 1, ?_, by omega, by omega⟩
      have e1 : wds (freeW t (k + 1) ((List.replicate (8 + t + 8 * c) 0).set 1 1)) = (wds (freeW t k ((List.replicate (8 + t + 8 * c) 0).set 1 1))).set ((8 + t + 8 * k + 7 : Nat) : Int).toNat (.val (.int .u64 ((k : Int) + 2))) := by rw [wds_set, Int.toNat_natCast]; rfl
      show Sub _ (newS t c (k + 1))
      unfold newS
      rw [e1]
      exact yM K_18 K_19
    case neg =>
      obtain rfl : k = c - 1 := by omega
      have f3 : decide (((c - 1 + 1 : Nat) : Int) < c) = false := decide_eq_false (by omega)
      repeat' (first | (refine zY.nil ?_) | (refine zZ.is ?_; first | refine zZ.seq ?_ | (refine zZ.iR 7 ?_; refine zZ.rc [0, 1, 4, 5, 6, 7, 39] [4, 6, 30] (r := (.v zX (.v zX (.v yU .e)))) (h := ?_)) | (refine zZ.iR 10 ?_; refine zZ.rc [4, 5, 6] [4, 6, 30] (r := (.v v2_19 (.w zO (.v zW .e)))) (h := ?_)) | refine zZ.yA rfl bA ?_ | refine zZ.exit ?_ | refine zZ.ret ?_))
      all_goals exact ⟨by first | exact .inl rfl | exact .inr rfl, .two (k := 30) rfl rfl rfl (by rfl) (by rfl) rfl rfl⟩
theorem new10A_fn (t c : Nat) (h1 : 1 ≤ t) (h64 : t ≤ 64) (hc1 : 1 ≤ c) (hc : c ≤ 65536) : FnAg Tryz.prog 23 [.val (.int .i64 t), .val (.int .i64 c)] ([.p (.val (.int .i64 t)), .p (.val (.int .i64 c)), .o 0] ++ (vU 0 (List.replicate t ([], 0)) (List.replicate t ([], 0))).cells.map .p) 22 1 (wds (newW t c)) none := by
  have c1 := new9A_fn t c h1 h64 hc1 hc
  have c2 := new7_fn t h1 h64
  refine fn_ofAg Tryz.func23 rfl Tryz.ntmps23 (Nat.le_of_ble_eq_true rfl) ?_
  repeat' (first | (refine zY.is ?_; first | refine zY.nil ?_ | (refine zY.at_ 15 rfl ?_; refine zY.rc (.v wW (.v yZ (.v yZ (.m zT (.w zO (.v zW .e)))))) ?_) | (refine zY.at_ 9 rfl ?_; refine zY.rc (.v wW (.v v9_2 (.v yZ (.m zT (.w zO (.v zW .e)))))) ?_) | (refine zY.in_ [17] rfl ?_; refine zY.v rfl rfl (yR (c2) rfl rfl rfl (by decide)) ?_) | (refine zY.in_ [12] rfl ?_; refine zY.m rfl rfl (w_callAg c1 rfl rfl rfl (by decide)) ?_)) | (refine zZ.is ?_; first | refine zZ.seq ?_ | (refine zZ.iR 0 ?_; refine zZ.rc [0, 1] [4, 5, 7, 12, 17] (r := (.m zT .e)) (h := ?_)) | (refine zZ.iR 1 ?_; refine zZ.rc [0, 1, 4] [4, 5, 7, 12, 17] (r := (.v zX (.v zX .e))) (h := ?_)) | (refine zZ.iR 2 ?_; refine zZ.rc [0, 4, 5] [4, 5, 7, 12, 17] (r := (.v zX .e)) (h := ?_)) | (refine zZ.iR 3 ?_; refine zZ.rc [4, 5, 7] [4, 5, 7, 12, 17] (r := (.v v2_19 (.v xC (.v v10_2 (.w zO .e))))) (h := ?_)) | refine zZ.ret ?_))
  all_goals exact ⟨by first | exact .inl rfl | exact .inr rfl, .one (k := 12) rfl rfl rfl (by rfl) (by rfl) rfl⟩
end
section
theorem run_keeps {α : Type} {good : α → Prop} {me : Nat} {f : Nat → Bool} : ∀ {p : Pr α} {n b i j : Nat} {W W' : Wd} {x : α}, p.wH good n → WdOK b W → p.run (wSt me f) (W, i) = .done x (W', j) →
    i ≤ j ∧ WdOK (b + 1000 * (j - i)) W' ∧ W'.t = W.t ∧ W'.c = W.c ∧ W'.r0.length = W.r0.length ∧ W'.ws.length = W.ws.length ∧ good x
  | .ret _, n, b, i, j, W, W', x, hf, h, hr => by
    rw [zD] at hr
    injection hr with e1 e2
    injection e2 with e2 e3
    subst e1 e2 e3
    exact ⟨Nat.le_refl _, h.le (by omega), rfl, rfl, rfl, rfl, hf⟩
  | .stuck, _, _, _, _, _, _, _, _, _, hr => by cases hr
  | .ask q k, n, b, i, j, W, W', x, hf, h, hr => by
    rw [vH] at hr
    have hr2 : (k (doX W me q (f i)).2).run (wSt me f) ((doX W me q (f i)).1, i + 1) = .done x (W', j) := hr
    obtain ⟨h1, h2⟩ := doX_ok h hf.1 me (f i)
    obtain ⟨k1, k2, k3, k4, _⟩ := doX_keeps W me q (f i)
    obtain ⟨a1, a2, a3, a4, a5, a6, a7⟩ := run_keeps (hf.2 _ h2) h1 hr2
    exact ⟨by omega, a2.le (by omega), a3.trans k1, a4.trans k2, a5.trans k3, a6.trans k4, a7⟩
def wd0 : Wd := ⟨0, 0, [], 0, [], []⟩
structure ResN where
  o : OutN
  W : Wd
  m : Nat
def rsN (p : Pr OutN) (me : Nat) (W : Wd) : ResN := match p.run (wSt me noFail) (W, 0) with
  | .done o s => ⟨o, s.1, s.2⟩
  | _ => ⟨⟨0, false, 0, 0⟩, wd0, 1000⟩
theorem freeW_U (t : Nat) {l : List Int} (hl : ∀ x ∈ l, U x) : ∀ k, k ≤ 65536 → ∀ x ∈ freeW t k l, U x
  | 0, _, x, hx => hl x hx
  | k + 1, hk, x, hx => by
    rw [freeW] at hx
    rcases List.mem_or_eq_of_mem_set hx with hx | rfl
    · exact freeW_U t hl k (by omega) x hx
    · unfold U; omega
theorem newW_U {t c : Nat} (h2 : c ≤ 65536) : ∀ x ∈ newW t c, U x := freeW_U t (fun x hx => by
    rcases List.mem_or_eq_of_mem_set hx with hx | rfl
    · rw [List.eq_of_mem_replicate hx]; exact U.zero
    · unfold U; decide) _ (by omega)
theorem newW_len (t c : Nat) : (newW t c).length = 8 + t + 8 * c := by rw [newW, freeW_len]; simp
structure AlN (B : Nat) (me : Nat) (k u v w : Int) (most : Nat) (W : Wd) (R : ResN) : Prop where
  fn : Fn Tryz.prog 25 [W.pv, .val (.int .i64 me), opV k u v w, .val (.int .i64 most)] (.tup [R.W.pv, qZ R.o.e R.o.is R.o.n R.o.w, .val (.bool true)])
  ok : WdOK (B + 20000) R.W
  t : R.W.t = W.t
  c : R.W.c = W.c
  r0 : R.W.r0.length = W.r0.length
  ws : R.W.ws.length = W.ws.length
end
section
structure AlV (B : Nat) (me : Nat) (k u v w : Int) (most : Nat) (W : Wd) (R : ResN) : Prop where
  fn : Fn Tryz.prog 39 [W.pv, .val (.int .i64 me), opV k u v w, .val (.int .i64 most)] (.tup [R.W.pv, qZ R.o.e R.o.is R.o.n R.o.w, .val (.bool true)])
  ok : WdOK (B + 100000) R.W
  t : R.W.t = W.t
  c : R.W.c = W.c
  r0 : R.W.r0.length = W.r0.length
  ws : R.W.ws.length = W.ws.length
theorem alV_of {B me : Nat} {k u v w : Int} {most : Nat} {W : Wd} {R : ResN} (hr : (qW W.t me k u).run (wSt me noFail) (W, 0) = .done R.o (R.W, R.m)) (ht : Small W.t) (h0 : 0 ≤ W.t) (hW : WdOK B W) (hme : me < W.r0.length) (hm : R.m ≤ most) (h20 : most ≤ 100) (hB : B ≤ 500000) : AlV B me k u v w most W R := by
  have hk := run_keeps (fine_vop W.t me k u) hW hr
  exact ⟨aloneV_fn B W R.W me k u v w most R.m R.o hW ht h0 hme hr hm (by omega) (by omega) (by omega), hk.2.1.le (by omega), hk.2.2.1, hk.2.2.2.1, hk.2.2.2.2.1, hk.2.2.2.2.2.1⟩
def sv0 : Wd := ⟨2, 2, newW 2 2, 0, [([], 0), ([], 0)], [([], 0), ([], 0)]⟩
def sv1 : ResN := rsN (qW 2 (0 : Nat) 11 3) 0 sv0
def sv2 : ResN := rsN (qW 2 (1 : Nat) 11 3) 1 sv1.W
def sv3 : ResN := rsN (qW 2 (0 : Nat) 13 3) 0 sv2.W
def sv4 : ResN := rsN (qW 2 (1 : Nat) 12 3) 1 sv3.W
def sv5 : ResN := rsN (qW 2 (0 : Nat) 13 3) 0 sv4.W
def sv6 : ResN := rsN (qW 2 (0 : Nat) 13 (-1)) 0 sv0
theorem sr1 : (qW 2 (0 : Nat) 11 3).run (wSt 0 noFail) (sv0, 0) = .done sv1.o (sv1.W, sv1.m) := by kernel_rfl
theorem sr2 : (qW 2 (1 : Nat) 11 3).run (wSt 1 noFail) (sv1.W, 0) = .done sv2.o (sv2.W, sv2.m) := by kernel_rfl
theorem sr3 : (qW 2 (0 : Nat) 13 3).run (wSt 0 noFail) (sv2.W, 0) = .done sv3.o (sv3.W, sv3.m) := by kernel_rfl
theorem sr4 : (qW 2 (1 : Nat) 12 3).run (wSt 1 noFail) (sv3.W, 0) = .done sv4.o (sv4.W, sv4.m) := by kernel_rfl
theorem sr5 : (qW 2 (0 : Nat) 13 3).run (wSt 0 noFail) (sv4.W, 0) = .done sv5.o (sv5.W, sv5.m) := by kernel_rfl
theorem sr6 : (qW 2 (0 : Nat) 13 (-1)).run (wSt 0 noFail) (sv0, 0) = .done sv6.o (sv6.W, sv6.m) := by kernel_rfl
theorem sr7 : sv1.o.is = true ∧ sv2.o.is = false ∧ sv3.o.is = true ∧ sv4.o.is = true ∧ sv5.o.is = false ∧ sv6.o.e = 4 := by refine ⟨?_, ?_, ?_, ?_, ?_, ?_⟩ <;> kernel_rfl
theorem sr8 : sv1.m ≤ 99 ∧ sv2.m ≤ 99 ∧ sv3.m ≤ 99 ∧ sv4.m ≤ 99 ∧ sv5.m ≤ 99 ∧ sv6.m ≤ 0 := by refine ⟨?_, ?_, ?_, ?_, ?_, ?_⟩ <;> exact Nat.le_of_ble_eq_true (by kernel_rfl)
theorem sv0_ok : WdOK 0 sv0 := ⟨fun x hx => newW_U (by decide) x hx, by show (newW 2 2).length ≤ _; rw [newW_len]; decide, rfl, by decide, fun p hp => by
    have hp : p ∈ [(([] : List Int), (0 : Int)), ([], 0)] := hp
    simp only [List.mem_cons, List.not_mem_nil, or_false] at hp
    rcases hp with rfl | rfl <;> exact Nat.le_refl _⟩
theorem al_sv : AlV 0 0 11 3 0 0 99 sv0 sv1 ∧ AlV 100000 1 11 3 0 0 99 sv1.W sv2 ∧ AlV 200000 0 13 3 0 0 99 sv2.W sv3 ∧ AlV 300000 1 12 3 0 0 99 sv3.W sv4 ∧ AlV 400000 0 13 3 0 0 99 sv4.W sv5 ∧ AlV 0 0 13 (-1) 0 0 0 sv0 sv6 := by
  obtain ⟨m1, m2, m3, m4, m5, m6⟩ := sr8
  have hs : Small 2 := by unfold Small; omega
  have h2 : (0 : Int) ≤ 2 := by decide
  have a1 : AlV 0 0 11 3 0 0 99 sv0 sv1 := alV_of sr1 hs h2 sv0_ok (by decide) m1 (by decide) (by decide)
  have t1 : sv1.W.t = 2 := a1.t
  have r1 : sv1.W.r0.length = 2 := a1.r0
  have a2 : AlV 100000 1 11 3 0 0 99 sv1.W sv2 := alV_of (by rw [t1]; exact sr2) (by rw [t1]; exact hs) (by rw [t1]; exact h2) a1.ok (by omega) m2 (by decide) (by decide)
  have t2 : sv2.W.t = 2 := a2.t.trans t1
  have r2 : sv2.W.r0.length = 2 := a2.r0.trans r1
  have a3 : AlV 200000 0 13 3 0 0 99 sv2.W sv3 := alV_of (by rw [t2]; exact sr3) (by rw [t2]; exact hs) (by rw [t2]; exact h2) a2.ok (by omega) m3 (by decide) (by decide)
  have t3 : sv3.W.t = 2 := a3.t.trans t2
  have r3 : sv3.W.r0.length = 2 := a3.r0.trans r2
  have a4 : AlV 300000 1 12 3 0 0 99 sv3.W sv4 := alV_of (by rw [t3]; exact sr4) (by rw [t3]; exact hs) (by rw [t3]; exact h2) a3.ok (by omega) m4 (by decide) (by decide)
  have t4 : sv4.W.t = 2 := a4.t.trans t3
  have r4 : sv4.W.r0.length = 2 := a4.r0.trans r3
  exact ⟨a1, a2, a3, a4, alV_of (by rw [t4]; exact sr5) (by rw [t4]; exact hs) (by rw [t4]; exact h2) a4.ok (by omega) m5 (by decide) (by decide), alV_of sr6 hs h2 sv0_ok (by decide) m6 (by decide) (by decide)⟩
end
section
attribute [local irreducible] zY zZ Step zV Sub zF zA Fn zK zI
theorem shown16_fn : Fn Tryz.prog 14 [] (.p (.val (.bool true))) := by
  have c0 := new10A_fn 2 2 (by decide) (by decide) (by decide) (by decide)
  obtain ⟨a1, a2, a3, a4, a5, a6⟩ := al_sv
  have c1 := a1.fn
  have c2 := a2.fn
  have c3 := a3.fn
  have c4 := a4.fn
  have c5 := a5.fn
  have c6 := a6.fn
  clear a1 a2 a3 a4 a5 a6
  obtain ⟨z1, z2, z3, z4, z5, z6⟩ := sr7
  generalize sv1 = q1 at *
  generalize sv2 = q2 at *
  generalize sv3 = q3 at *
  generalize sv4 = q4 at *
  generalize sv5 = q5 at *
  generalize sv6 = q6 at *
  obtain ⟨⟨e1, s1, n1, w1⟩, ⟨t1, u1, ws1, root1, r01, r11⟩, m1⟩ := q1
  obtain ⟨⟨e2, s2, n2, w2⟩, ⟨t2, u2, ws2, root2, r02, r12⟩, m2⟩ := q2
  obtain ⟨⟨e3, s3, n3, w3⟩, ⟨t3, u3, ws3, root3, r03, r13⟩, m3⟩ := q3
  obtain ⟨⟨e4, s4, n4, w4⟩, ⟨t4, u4, ws4, root4, r04, r14⟩, m4⟩ := q4
  obtain ⟨⟨e5, s5, n5, w5⟩, ⟨t5, u5, ws5, root5, r05, r15⟩, m5⟩ := q5
  obtain ⟨⟨e6, s6, n6, w6⟩, ⟨t6, u6, ws6, root6, r06, r16⟩, m6⟩ := q6
  dsimp only at z1 z2 z3 z4 z5 z6
  subst z1 z2 z3 z4 z5 z6
  have g0 : sv0 = ⟨2, 2, newW 2 2, 0, [([], 0), ([], 0)], [([], 0), ([], 0)]⟩ := rfl
  rw [g0] at c1 c6
  dsimp only [Wd.pv, vO] at c1 c2 c3 c4 c5 c6
  generalize newW 2 2 = nw at *
  clear g0
  refine yT Tryz.func14 rfl Tryz.ntmps14 (Nat.le_of_ble_eq_true rfl) ?_
  repeat' (first | (refine zY.is ?_; first | refine zY.nil ?_ | (refine zY.at_ 1 rfl ?_; refine zY.rc (.m zT (.w zO .e)) ?_) | (refine zY.at_ 21 rfl ?_; refine zY.rc (.v wW (.v yZ (.v yZ (.v yZ (.m zT (.m zT (.w zO (.w zO (.v zW .e))))))))) ?_) | (refine zY.at_ 28 rfl ?_; refine zY.rc (.v wW (.v yZ (.v yZ (.v yZ (.m zT (.m zT (.w zO (.w zO (.v zW .e))))))))) ?_) | (refine zY.at_ 35 rfl ?_; refine zY.rc (.v wW (.v yZ (.v yZ (.v yZ (.m zT (.m zT (.w zO (.w zO (.v zW .e))))))))) ?_) | (refine zY.at_ 42 rfl ?_; refine zY.rc (.v wW (.v yZ (.v yZ (.v yZ (.m zT (.m zT (.w zO (.w zO (.v zW .e))))))))) ?_) | (refine zY.at_ 49 rfl ?_; refine zY.rc (.v wW (.v yZ (.v yZ (.v yZ (.m zT (.m zT (.w zO (.w zO (.v zW .e))))))))) ?_) | (refine zY.at_ 56 rfl ?_; refine zY.rc (.v wW (.v yZ (.v yZ (.v yZ (.m zT (.m zT (.w zO (.w zO (.v zW .e))))))))) ?_) | (refine zY.in_ [24] rfl ?_; refine zY.v rfl rfl (yR (c1) rfl rfl rfl (by decide)) ?_) | (refine zY.in_ [31] rfl ?_; refine zY.v rfl rfl (yR (c2) rfl rfl rfl (by decide)) ?_) | (refine zY.in_ [38] rfl ?_; refine zY.v rfl rfl (yR (c3) rfl rfl rfl (by decide)) ?_) | (refine zY.in_ [45] rfl ?_; refine zY.v rfl rfl (yR (c4) rfl rfl rfl (by decide)) ?_) | (refine zY.in_ [52] rfl ?_; refine zY.v rfl rfl (yR (c5) rfl rfl rfl (by decide)) ?_) | (refine zY.in_ [59] rfl ?_; refine zY.v rfl rfl (yR (c6) rfl rfl rfl (by decide)) ?_) | (refine zY.in_ [20] rfl ?_; refine zY.m rfl rfl (w_callAg c0 rfl rfl rfl (by decide)) ?_)) | (refine zZ.is ?_; first | refine zZ.seq ?_ | (refine zZ.iR 0 ?_; refine zZ.rc [] [1, 2, 3, 5, 6, 8, 9, 11, 12, 14, 15, 17, 18, 20, 24, 31, 38, 45, 52, 59] (r := (.v zW .e)) (h := ?_)) | (refine zZ.iR 1 ?_; refine zZ.rc [0] [1, 2, 3, 5, 6, 8, 9, 11, 12, 14, 15, 17, 18, 20, 24, 31, 38, 45, 52, 59] (r := .e) (h := ?_)) | (refine zZ.iR 2 ?_; refine zZ.sub ((sub_frzE 20 22 1 (wds nw) rfl)) ?_; refine zZ.rc [0, 1] [1, 2, 3, 5, 6, 8, 9, 11, 12, 14, 15, 17, 18, 20, 24, 31, 38, 45, 52, 59] (r := (.v xC (.v yD .e))) (h := ?_)) | (refine zZ.iR 3 ?_; refine zZ.rc [0, 1, 2, 3, 4] [1, 2, 3, 5, 6, 8, 9, 11, 12, 14, 15, 17, 18, 20, 24, 31, 38, 45, 52, 59] (r := (.v xC (.v yD .e))) (h := ?_)) | (refine zZ.iR 4 ?_; refine zZ.rc [0, 1, 3, 4, 5, 6, 7] [1, 2, 3, 5, 6, 8, 9, 11, 12, 14, 15, 17, 18, 20, 24, 31, 38, 45, 52, 59] (r := (.v xC (.v yD .e))) (h := ?_)) | (refine zZ.iR 5 ?_; refine zZ.rc [0, 1, 3, 4, 6, 7, 8, 9, 10] [1, 2, 3, 5, 6, 8, 9, 11, 12, 14, 15, 17, 18, 20, 24, 31, 38, 45, 52, 59] (r := (.v xC (.v yD .e))) (h := ?_)) | (refine zZ.iR 6 ?_; refine zZ.rc [0, 1, 3, 4, 6, 7, 9, 10, 11, 12, 13] [1, 2, 3, 5, 6, 8, 9, 11, 12, 14, 15, 17, 18, 20, 24, 31, 38, 45, 52, 59] (r := (.v xC (.v yD .e))) (h := ?_)) | (refine zZ.iR 7 ?_; refine zZ.rc [0, 1, 3, 4, 6, 7, 9, 10, 12, 13, 15, 16] [1, 2, 3, 5, 6, 8, 9, 11, 12, 14, 15, 17, 18, 20, 24, 31, 38, 45, 52, 59] (r := (.v xC (.v yD .e))) (h := ?_)) | (refine zZ.iR 8 ?_; refine zZ.rc [0, 3, 4, 6, 7, 9, 10, 12, 13, 15, 16, 18, 19] [1, 2, 3, 5, 6, 8, 9, 11, 12, 14, 15, 17, 18, 20, 24, 31, 38, 45, 52, 59] (r := (.v zX (.v zX (.gY zX (.v yH (.v zX (.gY zX (.v yH (.v zX (.gY zX (.v yH (.v zX (.gY zX (.v yH (.v zX (.gY zX (.v yH (.v zX (.gY zH (.gY zL (.v yH (.v zX (.gY zH (.gY zL (.gY qI (.v yH (.v zX (.gY zH (.gY zL (.v yH (.v zX (.gY zH (.gY zL (.v yH (.v zX (.gY zH (.gY zL (.gY qI (.v yH (.v zX (.gY zH (.gY zL (.gY v41_4 (.v yH (.v zW .e))))))))))))))))))))))))))))))))))))))))))))) (h := ?_)) | refine zZ.ret ?_) | refine zK.n ?_)
  all_goals exact ⟨by first | exact .inl rfl | exact .inr rfl, _, Sub.refl _, .p rfl (.tmp rfl)⟩
end
section
attribute [local irreducible] zY zZ Step zV Sub zF zA Fn
theorem cdo_ret (L : List yQ) (i : Nat) (r : yQ) (q : Ned) (hr : L[i]? = some r) (hL : L.length ≤ 1000000) (kind cell a b : Int) (data : PV) :
    FnE Tryz.prog 149 [.ptr 1000 0, .p (accV kind cell a b data)] [curB L i false q] (.ret (.p (kM r))) [curB L (i + 1) false q] := by
  have hi : i < L.length := (List.getElem?_eq_some_iff.1 hr).1
  have g1 : decide ((i : Int) < ((L.map kM).length : Int)) = true := decide_eq_true (by simp; omega)
  have g2 : IntKind.i64.wrap ((i : Int) + 1) = ((i + 1 : Nat) : Int) := by rw [wrap_i64 _ (by omega)]; omega
  have g3 : IntKind.i64.wrap (((i + 1 : Nat) : Int) - 1) = (i : Int) := by rw [wrap_i64 _ (by omega)]; omega
  have g4 := resV_cells L
  have g5 : (L.map kM)[i]? = some (kM r) := by rw [List.getElem?_map, hr]; rfl
  refine fn_ofE Tryz.func149 rfl Tryz.ntmps149 (Nat.le_of_ble_eq_true rfl) (by decide) ?_
  repeat' (first | (refine zY.nil ?_) | (refine zZ.is ?_; first | refine zZ.seq ?_ | (refine zZ.iR 0 ?_; refine zZ.rc [0, 1] [3, 4, 1000] (r := (.m yI (.m zT .e))) (h := ?_)) | (refine zZ.iR 1 ?_; refine zZ.rc [0, 3, 4] [3, 4, 1000] (r := (.v yY (.v xD (.v zH (.v zL .e))))) (h := ?_)) | (refine zZ.iR 3 ?_; refine zZ.dc [0, 3, 4] [3, 4, 1000] (r := (.v yY (.v xD (.v zH (.v zL (.v yY (.v xD (.v zH (.v zL (.v v57_1 (.v yU .e))))))))))) (q := .e) (h := ?_)) | (refine zZ.iR 4 ?_; refine zZ.rc [0, 3, 4] [3, 4, 1000] (r := (.v yY (.v yY (.v xD (.v zH (.v zL (.v qQ (.v xD (.v zH (.w zO .e)))))))))) (h := ?_)) | (refine zZ.iR 5 ?_; refine zZ.dc [0, 3, 4] [3, 4, 1000] (r := (.v yY (.v xD (.v zH (.v zL (.v yY (.v xD (.v zH (.v zL (.v v31_0 (.v v7_18 (.v v2_7 .e)))))))))))) (q := (.w zO .e)) (h := ?_)) | refine zZ.yB rfl bA ?_ | refine zZ.yA rfl bA ?_ | refine zZ.skip ?_ | refine zZ.ret ?_) | refine zK.r ?_ | (refine zF.nil ?_))
  all_goals exact ⟨(by exact .inl rfl), _, Sub.refl _, .p (r := .cell 4 125) rfl (.cellN rfl rfl (by rfl) (by rfl)), x9 aQ_⟩
theorem cdo_end (L : List yQ) (q : Ned) (_ : L.length ≤ 1000000) (kind cell a b : Int) (data : PV) :
    FnE Tryz.prog 149 [.ptr 1000 0, .p (accV kind cell a b data)] [curB L L.length false q] (.ret (.p zeroRes)) [curB L L.length true (vF kind cell a b data)] := by
  have g1 : decide ((L.length : Int) < ((L.map kM).length : Int)) = false := decide_eq_false (by simp)
  refine fn_ofE Tryz.func149 rfl Tryz.ntmps149 (Nat.le_of_ble_eq_true rfl) (by decide) ?_
  repeat' (first | (refine zY.nil ?_) | (refine zZ.is ?_; first | refine zZ.seq ?_ | (refine zZ.iR 0 ?_; refine zZ.rc [0, 1] [3, 4, 1000] (r := (.m yI (.m zT .e))) (h := ?_)) | (refine zZ.iR 1 ?_; refine zZ.rc [0, 3, 4] [3, 4, 1000] (r := (.v yY (.v xD (.v zH (.v zL .e))))) (h := ?_)) | (refine zZ.iR 3 ?_; refine zZ.dc [0, 3, 4] [3, 4, 1000] (r := (.v yY (.v xD (.v zH (.v zL (.v yY (.v xD (.v zH (.v zL (.v v57_1 (.v yU .e))))))))))) (q := .e) (h := ?_)) | (refine zZ.iR 6 ?_; refine zZ.rc [0, 3, 4] [3, 4, 1000] (r := (.v yY (.v xD (.v zH (.w zO .e))))) (h := ?_)) | (refine zZ.iR 7 ?_; refine zZ.rc [0, 3, 4] [3, 4, 1000] (r := (.v yY (.v xC (.v xD (.v zH (.w zO .e)))))) (h := ?_)) | (refine zZ.iR 8 ?_; refine zZ.rc [4] [3, 4, 1000] (r := (.v yD (.w zO .e))) (h := ?_)) | refine zZ.yA rfl bA ?_ | refine zZ.skip ?_ | refine zZ.ret ?_) | (refine zF.nil ?_))
  all_goals exact ⟨(by exact .inl rfl), _, Sub.refl _, .p (r := .cell 4 125) rfl (.cellN rfl rfl (by rfl) (by rfl)), x9 aQ_⟩
theorem cdo_stop (L : List yQ) (i : Nat) (q : Ned) (kind cell a b : Int) (data : PV) :
    FnE Tryz.prog 149 [.ptr 1000 0, .p (accV kind cell a b data)] [curB L i true q] (.ret (.p zeroRes)) [curB L i true q] := by
  refine fn_ofE Tryz.func149 rfl Tryz.ntmps149 (Nat.le_of_ble_eq_true rfl) (by decide) ?_
  repeat' (first | (refine zY.nil ?_) | (refine zZ.is ?_; first | refine zZ.seq ?_ | (refine zZ.iR 0 ?_; refine zZ.rc [0, 1] [3, 4, 1000] (r := (.m yI (.m zT .e))) (h := ?_)) | (refine zZ.iR 1 ?_; refine zZ.rc [0, 3, 4] [3, 4, 1000] (r := (.v yY (.v xD (.v zH (.v zL .e))))) (h := ?_)) | (refine zZ.iR 2 ?_; refine zZ.rc [0, 3, 4] [3, 4, 1000] (r := (.v yD (.w zO .e))) (h := ?_)) | refine zZ.yB rfl bA ?_ | refine zZ.ret ?_) | refine zK.r ?_)
  all_goals exact ⟨(by exact .inl rfl), _, Sub.refl _, .p (r := .cell 4 125) rfl (.cellN rfl rfl (by rfl) (by rfl)), x9 aQ_⟩
def zeroL : yQ := ⟨0, xZ, false⟩
theorem FnE.weakR {P : Program} {f : FuncId} {args : List AV} {B B' : List Blk} {x y : AV} (h : FnE P f args B (.ret x) B') (hw : ∀ M ρ w v, yK M ρ w x v → yK M ρ w y v) : FnE P f args B (.ret y) B' :=
  fun M hh ρ vs a b c d => (h M hh ρ vs a b c d).mono fun _ _ ⟨ρ', s, v, e, r⟩ => ⟨ρ', s, v, e, hw _ _ _ _ r⟩
theorem zero_rep (M : Nat → Nat → Prop) (ρ : Nat → Value) (w : World) (v : Value) (h : yK M ρ w (.p zeroRes) v) : yK M ρ w (.p (kM zeroL)) v := h
theorem cdo_c (L : List yQ) (hL : xB L) (q : Ned) (hw : q.w = xZ) : FnC 149 [.p (accV q.kind q.cell q.a q.b q.d)] [] (fun r => .p (kM r)) (fun _ => []) (fun r => U r.n) L (.ask q .ret) := by
  intro σ hi
  obtain ⟨i, stop, q0⟩ := σ
  obtain ⟨k, c, a, b, d, w⟩ := q
  obtain rfl : w = xZ := hw
  have hi : i ≤ L.length := hi
  cases stop with
  | true => exact ((cdo_stop L i q0 k c a b d).weakR zero_rep).q ⟨zeroL, _, rfl, rfl, U.zero, hi, .stop rfl⟩
  | false =>
    cases e : L[i]? with
    | some r => exact (cdo_ret L i r q0 e hL.1 k c a b d).q ⟨r, ⟨i + 1, false, q0⟩, rfl, rfl, hL.at e, (List.getElem?_eq_some_iff.1 e).1, (fun h => by cases h), (fun _ y j h => by
        rw [vH] at h
        have e0 : y9 L i ⟨k, c, a, b, d, xZ⟩ = .ret r (i + 1) := by unfold y9; rw [e]
        rw [e0] at h
        cases h
        exact ⟨rfl, rfl⟩), (fun _ p j h => by
        rw [vH] at h
        have e0 : y9 L i ⟨k, c, a, b, d, xZ⟩ = .ret r (i + 1) := by unfold y9; rw [e]
        rw [e0] at h
        cases h)⟩
    | none =>
      obtain rfl : i = L.length := by have := List.getElem?_eq_none_iff.1 e; omega
      exact ((cdo_end L q0 hL.1 k c a b d).weakR zero_rep).q ⟨zeroL, ⟨L.length, true, vF k c a b d⟩, rfl, rfl, U.zero, Nat.le_refl _, (fun h => by cases h), (fun _ y j h => by
        rw [vH] at h
        have e0 : y9 L L.length ⟨k, c, a, b, d, xZ⟩ = .need ⟨k, c, a, b, d, xZ⟩ L.length := by unfold y9; rw [e]
        rw [e0] at h
        cases h), (fun _ p j h => by
        rw [vH] at h
        have e0 : y9 L L.length ⟨k, c, a, b, d, xZ⟩ = .need ⟨k, c, a, b, d, xZ⟩ L.length := by unfold y9; rw [e]
        rw [e0] at h
        cases h
        rfl)⟩
theorem xP (L : List yQ) (hL : xB L) (c : Int) : FnC 91 [.p (.val (.int .i64 c))] [] (fun x => .p (.val (.int .u64 x))) (fun _ => []) U L (xW c) := by
  refine xS Tryz.func91 rfl Tryz.ntmps91 (Nat.le_of_ble_eq_true rfl) (by decide) fun σ hi => ?_
  repeat' (first | (refine zY.is ?_; first | refine zY.nil ?_ | (refine zY.at_ 5 rfl ?_; refine zY.rc (.m zT (.w zO .e)) ?_) | (refine zY.in_ [9] rfl ?_; refine zY.ofT rfl (zA.cu (i := [1000]) (f := cdo_c L hL (vF 0 c 0 0 xZ) rfl) (r := fun x τ e g hj => ?_)))) | (refine zZ.is ?_; first | refine zZ.seq ?_ | (refine zZ.iR 0 ?_; refine zZ.rc [0, 1] [5, 1000] (r := (.v zW .e)) (h := ?_)) | (refine zZ.iR 1 ?_; refine zZ.rc [0, 1, 4] [5, 1000] (r := (.v yY (.v zX (.v yD .e)))) (h := ?_)) | (refine zZ.iR 2 ?_; refine zZ.rc [4, 5] [5, 1000] (r := (.v zH (.v zL (.v zW .e)))) (h := ?_)) | refine zZ.ret ?_))
  all_goals exact .ret (by exact .inl rfl) (.one rfl rfl) aQ_ (by assumption) (by assumption) (Rel.map (fun r : yQ => r.n) e)
theorem cstore_c (L : List yQ) (hL : xB L) (c v : Int) : FnC 95 [.p (.val (.int .i64 c)), .p (.val (.int .u64 v))] [] (fun _ => .any) (fun _ => []) yes L (kY c v) := by
  refine xS Tryz.func95 rfl Tryz.ntmps95 (Nat.le_of_ble_eq_true rfl) (by decide) fun σ hi => ?_
  repeat' (first | (refine zY.is ?_; first | refine zY.nil ?_ | (refine zY.in_ [10] rfl ?_; refine zY.ofT rfl (zA.cu (i := [1000]) (f := cdo_c L hL (vF 1 c v 0 xZ) rfl) (r := fun x τ e g hj => ?_)))) | (refine zZ.is ?_; (refine zZ.iR 0 ?_; refine zZ.rc [0, 1, 2] [1000] (r := (.v yY (.v zX (.v zX (.v yD .e))))) (h := ?_))))
  all_goals exact .ret (by exact .inr rfl) (.none rfl) aQ_ trivial (by assumption) (Rel.map (fun _ : yQ => ()) e)
theorem ccas_c (L : List yQ) (hL : xB L) (c a b : Int) : FnC 97 [.p (.val (.int .i64 c)), .p (.val (.int .u64 a)), .p (.val (.int .u64 b))] [] (fun x => .p (.val (.bool x))) (fun _ => []) yes L (casP c a b) := by
  refine xS Tryz.func97 rfl Tryz.ntmps97 (Nat.le_of_ble_eq_true rfl) (by decide) fun σ hi => ?_
  repeat' (first | (refine zY.is ?_; first | refine zY.nil ?_ | (refine zY.at_ 9 rfl ?_; refine zY.rc (.m zT (.w zO .e)) ?_) | (refine zY.in_ [15] rfl ?_; refine zY.ofT rfl (zA.cu (i := [1000]) (f := cdo_c L hL (vF 2 c a b xZ) rfl) (r := fun x τ e g hj => ?_)))) | (refine zZ.is ?_; first | refine zZ.seq ?_ | (refine zZ.iR 0 ?_; refine zZ.rc [0, 1, 2, 3] [9, 1000] (r := (.v zW .e)) (h := ?_)) | (refine zZ.iR 1 ?_; refine zZ.rc [0, 1, 2, 3, 8] [9, 1000] (r := (.v yY (.v zX (.v zX (.v zX (.v yD .e)))))) (h := ?_)) | (refine zZ.iR 2 ?_; refine zZ.rc [8, 9] [9, 1000] (r := (.v zH (.v zL (.v wT (.v zW .e))))) (h := ?_)) | refine zZ.ret ?_))
  all_goals exact .ret (by exact .inl rfl) (.one rfl rfl) aQ_ trivial (by assumption) (Rel.map (fun r : yQ => decide (r.n = 1)) e)
theorem cadd_c (L : List yQ) (hL : xB L) (c v : Int) : FnC 167 [.p (.val (.int .i64 c)), .p (.val (.int .u64 v))] [] (fun x => .p (.val (.int .u64 x))) (fun _ => []) U L (addP c v) := by
  refine xS Tryz.func167 rfl Tryz.ntmps167 (Nat.le_of_ble_eq_true rfl) (by decide) fun σ hi => ?_
  repeat' (first | (refine zY.is ?_; first | refine zY.nil ?_ | (refine zY.at_ 7 rfl ?_; refine zY.rc (.m zT (.w zO .e)) ?_) | (refine zY.in_ [12] rfl ?_; refine zY.ofT rfl (zA.cu (i := [1000]) (f := cdo_c L hL (vF 3 c v 0 xZ) rfl) (r := fun x τ e g hj => ?_)))) | (refine zZ.is ?_; first | refine zZ.seq ?_ | (refine zZ.iR 0 ?_; refine zZ.rc [0, 1, 2] [7, 1000] (r := (.v zW .e)) (h := ?_)) | (refine zZ.iR 1 ?_; refine zZ.rc [0, 1, 2, 6] [7, 1000] (r := (.v yY (.v zX (.v zX (.v yD .e))))) (h := ?_)) | (refine zZ.iR 2 ?_; refine zZ.rc [6, 7] [7, 1000] (r := (.v zH (.v zL (.v zW .e)))) (h := ?_)) | refine zZ.ret ?_))
  all_goals exact .ret (by exact .inl rfl) (.one rfl rfl) aQ_ (by assumption) (by assumption) (Rel.map (fun r : yQ => r.n) e)
theorem cswap_c (L : List yQ) (hL : xB L) (c v : Int) : FnC 197 [.p (.val (.int .i64 c)), .p (.val (.int .u64 v))] [] (fun x => .p (.val (.int .u64 x))) (fun _ => []) U L (swapP c v) := by
  refine xS Tryz.func197 rfl Tryz.ntmps197 (Nat.le_of_ble_eq_true rfl) (by decide) fun σ hi => ?_
  repeat' (first | (refine zY.is ?_; first | refine zY.nil ?_ | (refine zY.at_ 7 rfl ?_; refine zY.rc (.m zT (.w zO .e)) ?_) | (refine zY.in_ [12] rfl ?_; refine zY.ofT rfl (zA.cu (i := [1000]) (f := cdo_c L hL (vF 4 c v 0 xZ) rfl) (r := fun x τ e g hj => ?_)))) | (refine zZ.is ?_; first | refine zZ.seq ?_ | (refine zZ.iR 0 ?_; refine zZ.rc [0, 1, 2] [7, 1000] (r := (.v zW .e)) (h := ?_)) | (refine zZ.iR 1 ?_; refine zZ.rc [0, 1, 2, 6] [7, 1000] (r := (.v yY (.v zX (.v zX (.v yD .e))))) (h := ?_)) | (refine zZ.iR 2 ?_; refine zZ.rc [6, 7] [7, 1000] (r := (.v zH (.v zL (.v zW .e)))) (h := ?_)) | refine zZ.ret ?_))
  all_goals exact .ret (by exact .inl rfl) (.one rfl rfl) aQ_ (by assumption) (by assumption) (Rel.map (fun r : yQ => r.n) e)
end
section
instance {α : Type} {fn : Func} {res : α → AV} {bk' : α → List Blk} {good : α → Prop} {L : List yQ} {p : Pr α} {σ : CSt} : PanK (EndC fn res bk' good L p σ) := ⟨fun S hk => by
  cases hk with
  | ret he hg hB hx hj h => rcases he with h | h <;> cases h⟩
end
section
attribute [local irreducible] zY zZ Step zV Sub zF zA Fn zK zI
theorem kP {t r : Int} (h : Rc t r) (f : Int) (hf : 0 ≤ f ∧ f ≤ 7) : Fn Tryz.prog 24 [.val (.int .i64 t), .val (.int .i64 r), .val (.int .i64 f)] (.p (.val (.int .i64 (yJ t r f)))) := fieldRef_fn t r f h.1 h.2 (by unfold Small; omega)
def setF (L : List yQ) (t r b : Int) (σ : CSt) : AS := { t := [(0, .ptr 1000 0), (1, .p (.val (.int .i64 t))), (2, .p (.val (.int .i64 r))), (3, .p (.val (.int .i64 b)))], s := [(1000, qL L σ)] }
def entC (k s y u v x : Int) : Blk := .box 158 [.p (.val (.int .i64 k)), .p (.val (.int .u64 s)), .p (.val (.int .u64 y)), .p (.val (.int .u64 u)), .p (.val (.int .u64 v)), .p (.val (.int .u64 x))]
theorem setRef_c (L : List yQ) (hL : xB L) {t r b : Int} (hR : Rc t r) (hb : b = 1 ∨ b = 2) :
    FnC 98 [.p (.val (.int .i64 t)), .p (.val (.int .i64 r)), .p (.val (.int .i64 b))] [] (fun _ => .any) (fun _ => []) yes L (setP (ov1 b) (yJ t r 2) b) := by
  have cf := kP hR 2 (by decide)
  refine xS Tryz.func98 rfl Tryz.ntmps98 (Nat.le_of_ble_eq_true rfl) (by decide) fun σ0 hi0 => ?_
  repeat' ((refine zZ.is ?_; refine zZ.block ?_))
  have hm0 := wD hL (σ := σ0)
  refine zZ.loop (fun q : Nat × CSt => setF L t r b q.2) (fun q => At L (setP (ov1 b) (yJ t r 2) b) σ0 (.loop (y5 (ov1 b) (yJ t r 2) b) q.1 ()) q.2 ∧ xL L q.2 ≤ q.1) (fun q => xL L q.2) (many, σ0) ?h0 ⟨.refl hi0, hm0⟩ ?rd
  case h0 =>
    exact zM K_1a K_0
  case rd =>
    rintro ⟨m, ω⟩ ⟨ha, hm⟩
    dsimp only at ha hm ⊢
    unfold setF
    have hti := ha.i
    cases hs' : ω.stop
    case true =>
      have hst : (!ω.stop) = false := by rw [hs']; rfl
      repeat' (first | (refine zY.nil ?_) | (refine zZ.is ?_; first | refine zZ.seq ?_ | (refine zZ.iR 0 ?_; refine zZ.rc [0, 1, 2, 3, 8, 9, 10, 15, 24, 34] [1000] (r := (.v yY (.v xD (.v zH (.v zL (.v vK .e)))))) (h := ?_)) | refine zZ.yA rfl bA ?_ | refine zZ.exit ?_) | refine zK.n ?_ | refine zI.eY ?_ | refine zK.e ?_)
      all_goals exact .ret (x := ()) (by exact .inr rfl) (.none rfl) aQ_ trivial ha.i (ha.halt hs' _)
    case false =>
      have hst : (!ω.stop) = true := by rw [hs']; rfl
      obtain ⟨m, rfl⟩ := vJ hm hs'
      repeat' (first | (refine zY.is ?_; first | refine zY.nil ?_ | (refine zY.at_ 10 rfl ?_; refine zY.rc (.v zW .e) ?_) | (refine zY.at_ 29 rfl ?_; refine zY.rc (.v zX (.v zX (.v zX .e))) ?_) | (refine zY.at_ 8 rfl ?_; refine zY.rc (.v zW .e) ?_) | (refine zY.at_ 9 rfl ?_; refine zY.rc (.v zW .e) ?_) | (refine zY.in_ [19, 28] rfl ?_; refine zY.v rfl rfl (zG (cf) rfl rfl rfl (by decide)) ?_) | (refine zY.in_ [23] rfl ?_; refine zY.v rfl rfl (zG (hasRef_fn _ b (U.lo (by assumption)) (U.hi (by assumption))) rfl rfl rfl (by decide)) ?_) | (refine zY.in_ [32] rfl ?_; refine zY.v rfl rfl (zG (with_fn _ b (U.lo (by assumption)) (U.hi (by assumption)) hb (by assumption)) rfl rfl rfl (by decide)) ?_) | (refine zY.in_ [20] rfl ?_; refine zY.ofT rfl (zA.cu (i := [1000]) (f := xP L hL _) (r := fun x τ e g hj => ?_))) | (refine zY.in_ [33] rfl ?_; refine zY.ofT rfl (zA.cu (i := [1000]) (f := ccas_c L hL _ _ _) (r := fun x τ e g hj => ?_)))) | (refine zZ.is ?_; first | refine zZ.seq ?_ | (refine zZ.iR 0 ?_; refine zZ.rc [0, 1, 2, 3, 8, 9, 10, 15, 24, 34] [1000] (r := (.v yY (.v xD (.v zH (.v zL (.v vK .e)))))) (h := ?_)) | (refine zZ.iR 1 ?_; refine zZ.rc [0, 1, 2, 3, 8, 9, 10, 15, 24, 34] [1000] (r := (.v yY (.v zX (.v zX .e)))) (h := ?_)) | (refine zZ.iR 2 ?_; refine zZ.rc [0, 1, 2, 3, 8, 9, 10, 15, 24, 34] [1000] (r := (.v zX (.v zX .e))) (h := ?_)) | (refine zZ.iR 3 ?_; refine zZ.rc [0, 1, 2, 3, 8, 9, 10, 15, 24, 34] [1000] (r := (.v zX .e)) (h := ?_)) | (refine zZ.iR 4 ?_; refine zZ.rc [0, 1, 2, 3, 8, 9, 10, 15, 24, 34] [1000] (r := (.v yY (.v zX (.v zX .e)))) (h := ?_)) | (refine zZ.iR 5 ?_; refine zZ.rc [0, 1, 2, 3, 8, 9, 10, 15, 24, 34] [1000] (r := (.v zX .e)) (h := ?_)) | refine zZ.yB rfl bA ?_ | refine zZ.cond rfl (fun h => ?_) (fun h => ?_) | refine zZ.skip ?_ | refine zZ.block ?_ | refine zZ.ret ?_) | refine zK.n ?_ | refine zK.r ?_ | refine zI.n ?_ | refine zI.r ?_)
      all_goals first
        | (refine .ret (x := ()) (by exact .inl rfl) (.none rfl) aQ_ trivial hj ?_; refine (ha.round (r := .inr ()) ?_ hj).ret; unfold y5 ov1; repeat' (first | exact Rel.ret _ | refine Rel.bind (by assumption) ?_ | refine Rel.yes (by assumption) ?_ | refine Rel.no (by assumption) ?_ | (simp only [cond_true, cond_false, *]; exact Rel.ret _)))
        | skip
      have hr : Rel L (y5 (ov1 b) (yJ t r 2) b ()) ω (.inl ()) τ := by
        unfold y5 ov1
        repeat' (first | refine Rel.bind (by assumption) ?_ | refine Rel.no (by assumption) ?_ | (simp only [cond_true, cond_false, *]; exact Rel.ret _))
      have hl := hr.less hL (fine_round hb (fun _ h => h) ()) ⟨_, _, rfl⟩ hti hs'
      refine ⟨(m, τ), ?_, ⟨ha.round hr hj, by dsimp only at *; omega⟩, hl⟩
      exact zM K_1a K_0
def restF (L : List yQ) (t r b k s y u v x : Int) (σ : CSt) : AS :=
  { t := [(0, .ptr 1000 0), (1, .p (.val (.int .i64 t))), (2, .p (.val (.int .i64 r))), (3, .p (.val (.int .i64 b))), (12, .ptr 12 0)], s := [(1000, qL L σ), (12, entC k s y u v x)] }
theorem wrP_eq (t r b k s y u v x : Int) : wrP t r b k s y u v x = (Pr.ask (vF 5 0 0 0 (.sl (byts (bytesE k s y u v x)))) .ret).bind fun a => bif a.fail then .ret false else (Pr.ask (vF 6 0 0 0 xZ) .ret).bind fun c => bif c.fail then .ret false else (setP (over2 s b) (yJ t r 2) b).bind fun _ => .ret true := by
  show Pr.ask _ _ = Pr.ask _ _
  congr 1
  funext a
  cases ha : a.fail
  · show Pr.bind (bif a.fail then .ret false else .ask _ _) _ = bif a.fail then _ else _
    rw [ha]
    show Pr.ask _ _ = Pr.ask _ _
    congr 1
    funext c
    cases hc : c.fail
    · show Pr.bind (bif c.fail then .ret false else .ret true) _ = bif c.fail then _ else _
      rw [hc]
      rfl
    · show Pr.bind (bif c.fail then .ret false else .ret true) _ = bif c.fail then _ else _
      rw [hc]
      rfl
  · show Pr.bind (bif a.fail then .ret false else .ask _ _) _ = bif a.fail then _ else _
    rw [ha]
    rfl
theorem restRef1_c (L : List yQ) (hL : xB L) {t r f : Int} (hR : Rc t r) (hf : U f) :
    FnC 164 [.p (.val (.int .i64 t)), .p (.val (.int .i64 r)), .p (.val (.int .i64 1)), .p (.val (.int .u64 f))] [] (fun x => .p (.val (.bool x))) (fun _ => []) yes L (qN t r 1 f) := by
  have cf := fun f hf => kP hR f hf
  have ch := hasRef_fn f 1 hf.1 hf.2
  have cs := kN f hf.1 hf.2
  have hs : U (f / 4) := hf.quo
  have z : U 0 := U.zero
  have hb : (1 : Int) = 1 ∨ (1 : Int) = 2 := by decide
  refine xS Tryz.func164 rfl Tryz.ntmps164 (Nat.le_of_ble_eq_true rfl) (by decide) fun σ0 hi0 => ?_
  cases hh : hasF f 1 <;> rw [hh] at ch
  case true =>
    repeat' (first | (refine zY.is ?_; first | refine zY.nil ?_ | (refine zY.at_ 11 rfl ?_; refine zY.rc (.v zW .e) ?_) | (refine zY.in_ [20] rfl ?_; refine zY.v rfl rfl (zG (ch) rfl rfl rfl (by decide)) ?_)) | (refine zZ.is ?_; first | refine zZ.seq ?_ | (refine zZ.iR 0 ?_; refine zZ.rc [0, 1, 2, 3, 4] [12, 13, 14, 1000] (r := (.v zW .e)) (h := ?_)) | (refine zZ.iR 1 ?_; refine zZ.rc [0, 1, 2, 3, 4, 10] [12, 13, 14, 1000] (r := (.v zX (.v zX .e))) (h := ?_)) | (refine zZ.iR 2 ?_; refine zZ.rc [0, 1, 2, 3, 4, 10, 11] [12, 13, 14, 1000] (r := (.v zX .e)) (h := ?_)) | (refine zZ.iR 3 ?_; refine zZ.rc [0, 1, 2, 3, 4, 10] [12, 13, 14, 1000] (r := (.v zW .e)) (h := ?_)) | refine zZ.yB rfl bA ?_ | refine zZ.ret ?_) | refine zK.n ?_ | refine zK.r ?_)
    all_goals exact .ret (x := true) (.inl rfl) (.one rfl rfl) aQ_ trivial (by assumption) (by unfold qN; rw [hh]; exact Rel.ret _)
  case false =>
    repeat' (first | (refine zY.is ?_; first | refine zY.nil ?_ | (refine zY.at_ 11 rfl ?_; refine zY.rc (.v zW .e) ?_) | (refine zY.at_ 13 rfl ?_; refine zY.rc (.m zT (.w zO .e)) ?_) | (refine zY.at_ 14 rfl ?_; refine zY.rc (.m zT (.w zO .e)) ?_) | (refine zY.at_ 24 rfl ?_; refine zY.rc (.v yD (.m zT (.w zO .e))) ?_) | (refine zY.at_ 33 rfl ?_; refine zY.rc (.v zH (.w zO .e)) ?_) | (refine zY.at_ 39 rfl ?_; refine zY.rc (.v zH (.w zO .e)) ?_) | (refine zY.at_ 45 rfl ?_; refine zY.rc (.v zH (.w zO .e)) ?_) | (refine zY.at_ 51 rfl ?_; refine zY.rc (.v zH (.w zO .e)) ?_) | (refine zY.at_ 55 rfl ?_; refine zY.rc (.v yD .e) ?_) | (refine zY.in_ [20] rfl ?_; refine zY.v rfl rfl (zG (ch) rfl rfl rfl (by decide)) ?_) | (refine zY.in_ [23] rfl ?_; refine zY.v rfl rfl (zG (cs) rfl rfl rfl (by decide)) ?_) | (refine zY.in_ [54] rfl ?_; refine zY.v rfl rfl (zG (bytesRef_fn _ _ _ _ _ _ (by assumption) (by assumption) (by assumption) (by assumption) (by assumption)) rfl rfl rfl (by decide)) ?_) | (refine zY.in_ [31, 37, 43, 49] rfl ?_; refine zY.v rfl rfl (zG (cf _ (by decide)) rfl rfl rfl (by decide)) ?_) | (refine zY.in_ [32, 38, 44, 50] rfl ?_; refine zY.ofT rfl (zA.cu (i := [1000]) (f := xP L hL _) (r := fun x τ e g hj => ?_))) | (refine zY.in_ [56] rfl ?_; refine zY.ofT rfl (zA.cu (i := [1000]) (f := cdo_c L hL (vF 5 0 0 0 (.sl (byts _))) rfl) (r := fun x τ e g hj => ?_))) | (refine zY.in_ [61] rfl ?_; refine zY.ofT rfl (zA.cu (i := [1000]) (f := cdo_c L hL (vF 6 0 0 0 xZ) rfl) (r := fun x τ e g hj => ?_)))) | (refine zZ.is ?_; first | refine zZ.seq ?_ | (refine zZ.iR 0 ?_; refine zZ.rc [0, 1, 2, 3, 4] [12, 13, 14, 1000] (r := (.v zW .e)) (h := ?_)) | (refine zZ.iR 1 ?_; refine zZ.rc [0, 1, 2, 3, 4, 10] [12, 13, 14, 1000] (r := (.v zX (.v zX .e))) (h := ?_)) | (refine zZ.iR 2 ?_; refine zZ.rc [0, 1, 2, 3, 4, 10, 11] [12, 13, 14, 1000] (r := (.v zX .e)) (h := ?_)) | (refine zZ.iR 4 ?_; refine zZ.rc [0, 1, 2, 3, 4, 10] [12, 13, 14, 1000] (r := (.v zX .e)) (h := ?_)) | (refine zZ.iR 5 ?_; refine zZ.rc [0, 1, 2, 3, 10, 12] [12, 13, 14, 1000] (r := (.v zX (.v v41_4 .e))) (h := ?_)) | (refine zZ.iR 6 ?_; refine zZ.rc [0, 1, 2, 3, 10, 12] [12, 13, 14, 1000] (r := (.v zH (.w zO .e))) (h := ?_)) | (refine zZ.iR 7 ?_; refine zZ.rc [0, 1, 2, 3, 10, 12] [12, 13, 14, 1000] (r := (.v yY (.v zX (.v zX .e)))) (h := ?_)) | (refine zZ.iR 8 ?_; refine zZ.rc [0, 1, 2, 3, 10, 12] [12, 13, 14, 1000] (r := (.v yY (.v zX (.v zX .e)))) (h := ?_)) | (refine zZ.iR 9 ?_; refine zZ.rc [0, 1, 2, 3, 10, 12] [12, 13, 14, 1000] (r := (.v yY (.v zX (.v zX .e)))) (h := ?_)) | (refine zZ.iR 10 ?_; refine zZ.rc [0, 1, 2, 3, 10, 12] [12, 13, 14, 1000] (r := (.v yY (.v zX (.v zX .e)))) (h := ?_)) | (refine zZ.iR 11 ?_; refine zZ.rc [0, 1, 2, 3, 10, 12] [12, 13, 14, 1000] (r := (.v yY (.v xC .e))) (h := ?_)) | (refine zZ.iR 12 ?_; refine zZ.rc [0, 1, 2, 3, 10, 12, 13] [12, 13, 14, 1000] (r := (.v zH (.v zL .e))) (h := ?_)) | (refine zZ.iR 13 ?_; refine zZ.rc [0, 1, 2, 3, 10, 12] [12, 13, 14, 1000] (r := (.v zW .e)) (h := ?_)) | (refine zZ.iR 14 ?_; refine zZ.rc [0, 1, 2, 3, 10, 12] [12, 13, 14, 1000] (r := (.v yY (.v yD .e))) (h := ?_)) | (refine zZ.iR 15 ?_; refine zZ.rc [0, 1, 2, 3, 10, 12, 14] [12, 13, 14, 1000] (r := (.v zH (.v zL .e))) (h := ?_)) | (refine zZ.iR 16 ?_; refine zZ.rc [0, 1, 2, 3, 10, 12] [12, 13, 14, 1000] (r := (.v zW .e)) (h := ?_)) | refine zZ.yB rfl bA ?_ | refine zZ.yA rfl bA ?_ | refine zZ.cond rfl (fun h => ?_) (fun h => ?_) | refine zZ.skip ?_ | refine zZ.block ?_ | refine zZ.ret ?_) | refine zK.n ?_ | refine zK.r ?_)
    all_goals first
      | (refine .ret (x := false) (.inl rfl) (.one rfl rfl) aQ_ trivial (by assumption) ?_; have hP : qN t r 1 f = (xW (yJ t r 1)).bind fun n1 => (xW (yJ t r 4)).bind fun n2 => (xW (yJ t r 5)).bind fun n3 => (xW (yJ t r 6)).bind fun n4 => wrP t r 1 1 (f / 4) n1 n2 n3 n4 := (by unfold qN; rw [hh]; rfl); simp only [hP, wrP_eq]; repeat' (first | exact Rel.ret _ | refine Rel.bind (by assumption) ?_ | refine Rel.yes (by assumption) ?_ | refine Rel.no (by assumption) ?_))
      | skip
    rename_i n1 τ1 e1 g1 hj1 n2 τ2 e2 g2 hj2 n3 τ3 e3 g3 hj3 n4 τ4 e4 g4 hj4 a τ5 e5 g5 hj5 h5
    have hP : qN t r 1 f = (xW (yJ t r 1)).bind fun n1 => (xW (yJ t r 4)).bind fun n2 => (xW (yJ t r 5)).bind fun n3 => (xW (yJ t r 6)).bind fun n4 => wrP t r 1 1 (f / 4) n1 n2 n3 n4 := by unfold qN; rw [hh]; rfl
    have h0 : At L (qN t r 1 f) σ0 ((Pr.loop (y5 (over2 (f / 4) 1) (yJ t r 2) 1) many ()).bind fun _ => .ret true) τ := by
      rw [hP]
      refine ⟨hj, fun y υ hy => ?_⟩
      refine Rel.bind (by assumption) (Rel.bind (by assumption) (Rel.bind (by assumption) (Rel.bind (by assumption) ?_)))
      rw [wrP_eq]
      exact Rel.bind (by assumption) (Rel.no (by assumption) (Rel.bind (by assumption) (Rel.no (by assumption) hy)))
    have hm0 := wD hL (σ := τ)
    refine zZ.loop (fun q : Nat × CSt => restF L t r 1 1 (f / 4) n1 n2 n3 n4 q.2) (fun q => At L (qN t r 1 f) σ0 ((Pr.loop (y5 (over2 (f / 4) 1) (yJ t r 2) 1) q.1 ()).bind fun _ => .ret true) q.2 ∧ xL L q.2 ≤ q.1) (fun q => xL L q.2) (many, τ) ?h0 ⟨h0, hm0⟩ ?rd
    case h0 =>
      exact zM K_l K_m
    case rd =>
      rintro ⟨m, ω⟩ ⟨ha, hm⟩
      dsimp only at ha hm ⊢
      unfold restF
      clear e h g
      have hti := ha.i
      cases hs' : ω.stop
      case true =>
        have hst : (!ω.stop) = false := by rw [hs']; rfl
        repeat' (first | (refine zY.nil ?_) | (refine zZ.is ?_; first | refine zZ.seq ?_ | (refine zZ.iR 17 ?_; refine zZ.rc [0, 1, 2, 3, 10, 12, 15, 16, 17, 68, 84, 94] [12, 13, 14, 1000] (r := (.v yY (.v xD (.v zH (.v zL (.v vK .e)))))) (h := ?_)) | (refine zZ.iR 25 ?_; refine zZ.rc [10] [12, 13, 14, 1000] (r := (.v zW .e)) (h := ?_)) | refine zZ.yA rfl bA ?_ | refine zZ.exit ?_ | refine zZ.ret ?_) | refine zK.n ?_ | refine zI.eY ?_ | refine zK.e ?_)
        all_goals exact .ret (x := true) (.inl rfl) (.one rfl rfl) aQ_ trivial ha.i (ha.halt hs' _)
      case false =>
        have hst : (!ω.stop) = true := by rw [hs']; rfl
        obtain ⟨m, rfl⟩ := vJ hm hs'
        repeat' (first | (refine zY.is ?_; first | refine zY.nil ?_ | (refine zY.at_ 15 rfl ?_; refine zY.rc (.v zW .e) ?_) | (refine zY.at_ 16 rfl ?_; refine zY.rc (.v zW .e) ?_) | (refine zY.at_ 17 rfl ?_; refine zY.rc (.v zW .e) ?_) | (refine zY.at_ 89 rfl ?_; refine zY.rc (.v zX (.v zX (.v zX .e))) ?_) | (refine zY.in_ [72, 88] rfl ?_; refine zY.v rfl rfl (zG (cf _ (by decide)) rfl rfl rfl (by decide)) ?_) | (refine zY.in_ [76] rfl ?_; refine zY.v rfl rfl (zG (hasRef_fn _ 1 (U.lo (by assumption)) (U.hi (by assumption))) rfl rfl rfl (by decide)) ?_) | (refine zY.in_ [92] rfl ?_; refine zY.v rfl rfl (zG (with_fn _ 1 (U.lo (by assumption)) (U.hi (by assumption)) hb (by assumption)) rfl rfl rfl (by decide)) ?_) | (refine zY.in_ [73] rfl ?_; refine zY.ofT rfl (zA.cu (i := [1000]) (f := xP L hL _) (r := fun x τ e g hj => ?_))) | (refine zY.in_ [93] rfl ?_; refine zY.ofT rfl (zA.cu (i := [1000]) (f := ccas_c L hL _ _ _) (r := fun x τ e g hj => ?_)))) | (refine zZ.is ?_; first | refine zZ.seq ?_ | (refine zZ.iR 17 ?_; refine zZ.rc [0, 1, 2, 3, 10, 12, 15, 16, 17, 68, 84, 94] [12, 13, 14, 1000] (r := (.v yY (.v xD (.v zH (.v zL (.v vK .e)))))) (h := ?_)) | (refine zZ.iR 18 ?_; refine zZ.rc [0, 1, 2, 3, 10, 12, 15, 16, 17, 68, 84, 94] [12, 13, 14, 1000] (r := (.v yY (.v zX (.v zX .e)))) (h := ?_)) | (refine zZ.iR 19 ?_; refine zZ.rc [0, 1, 2, 3, 10, 12, 15, 16, 17, 68, 84, 94] [12, 13, 14, 1000] (r := (.v zX (.v zX .e))) (h := ?_)) | (refine zZ.iR 20 ?_; refine zZ.rk [0, 1, 2, 3, 10, 12, 15, 16, 17, 68, 84, 94] [12, 13, 14, 1000] ?_; refine zZ.draws ?_) | (refine zZ.iR 21 ?_; refine zZ.rc [0, 1, 2, 3, 10, 12, 15, 16, 17, 68, 84, 94] [12, 13, 14, 1000] (r := (.v zW .e)) (h := ?_)) | (refine zZ.iR 22 ?_; refine zZ.rc [0, 1, 2, 3, 10, 12, 15, 16, 17, 68, 84, 94] [12, 13, 14, 1000] (r := (.v yY (.v zX (.v zX .e)))) (h := ?_)) | (refine zZ.iR 23 ?_; refine zZ.rc [0, 1, 2, 3, 10, 12, 15, 16, 17, 68, 84, 94] [12, 13, 14, 1000] (r := (.v zX .e)) (h := ?_)) | (refine zZ.iR 24 ?_; refine zZ.rc [0, 1, 2, 3, 10, 12, 15, 16, 17, 68, 84, 94] [12, 13, 14, 1000] (r := (.v zW .e)) (h := ?_)) | refine zZ.yB rfl bA ?_ | refine zZ.cond rfl (fun h => ?_) (fun h => ?_) | refine zZ.skip ?_ | refine zZ.block ?_ | refine zZ.ret ?_) | refine zK.n ?_ | refine zK.r ?_ | refine zI.n ?_ | refine zI.r ?_ | (refine Draws.is ?_; first | refine Draws.rc (.v zX (.v zX .e)) ?_ | refine Draws.rc (.gY zX .e) ?_ | refine Draws.rc (.gY zH (.gY zL (.gY kE (.v yP .e)))) ?_ | refine Draws.rc (.gF (.gF (.gF (.gF (.gF (.v yH .e)))))) ?_ | (refine Draws.in_ [80] rfl ?_; refine Draws.gY rfl rfl (by decide) rfl bA rfl (zG (kN _ (U.lo (by assumption)) (U.hi (by assumption))) rfl rfl rfl (by decide)) ?_) | (fail_if_success refine Draws.known rfl rfl rfl (by exact .inl (by assumption)) ?_); refine Draws.split rfl rfl rfl (fun h => ?_) (fun h => ?_) | refine Draws.done (by kernel_rfl) (by kernel_rfl) (by kernel_rfl) ?_) | (refine zF.nil ?_))
        all_goals first
          | (refine .ret (x := true) (.inl rfl) (.one rfl rfl) aQ_ trivial hj ?_; refine (ha.qY (r := .inr ()) ?_ hj).ret; unfold y5; refine Rel.bind (by assumption) ?_; first | (refine Rel.yes (by simp_all [over2]) ?_; exact Rel.ret _) | (refine Rel.no (by simp_all [over2]) ?_; refine Rel.bind (by assumption) ?_; simp only [*]; exact Rel.ret _))
          | skip
        rename_i e1 _ _ _ _
        have hr : Rel L (y5 (over2 (f / 4) 1) (yJ t r 2) 1 ()) ω (.inl ()) τ := by
          unfold y5
          refine Rel.bind (by assumption) ?_
          refine Rel.no (by simp_all [over2]) ?_
          refine Rel.bind (by assumption) ?_
          simp only [*]
          exact Rel.ret _
        have hl := hr.less hL (fine_round hb (fun _ h => over2_has h) ()) ⟨_, _, rfl⟩ hti hs'
        refine ⟨(m, τ), ?_, ⟨ha.qY hr hj, by dsimp only at *; omega⟩, hl⟩
        exact zM K_l K_m
theorem restRef2_c (L : List yQ) (hL : xB L) {t r f : Int} (hR : Rc t r) (hf : U f) :
    FnC 164 [.p (.val (.int .i64 t)), .p (.val (.int .i64 r)), .p (.val (.int .i64 2)), .p (.val (.int .u64 f))] [] (fun x => .p (.val (.bool x))) (fun _ => []) yes L (qN t r 2 f) := by
  have cf := fun f hf => kP hR f hf
  have ch := hasRef_fn f 2 hf.1 hf.2
  have cs := kN f hf.1 hf.2
  have hs : U (f / 4) := hf.quo
  have z : U 0 := U.zero
  have hb : (2 : Int) = 1 ∨ (2 : Int) = 2 := by decide
  refine xS Tryz.func164 rfl Tryz.ntmps164 (Nat.le_of_ble_eq_true rfl) (by decide) fun σ0 hi0 => ?_
  cases hh : hasF f 2 <;> rw [hh] at ch
  case true =>
    repeat' (first | (refine zY.is ?_; first | refine zY.nil ?_ | (refine zY.at_ 11 rfl ?_; refine zY.rc (.v zW .e) ?_) | (refine zY.in_ [20] rfl ?_; refine zY.v rfl rfl (zG (ch) rfl rfl rfl (by decide)) ?_)) | (refine zZ.is ?_; first | refine zZ.seq ?_ | (refine zZ.iR 0 ?_; refine zZ.rc [0, 1, 2, 3, 4] [12, 13, 14, 1000] (r := (.v zW .e)) (h := ?_)) | (refine zZ.iR 1 ?_; refine zZ.rc [0, 1, 2, 3, 4, 10] [12, 13, 14, 1000] (r := (.v zX (.v zX .e))) (h := ?_)) | (refine zZ.iR 2 ?_; refine zZ.rc [0, 1, 2, 3, 4, 10, 11] [12, 13, 14, 1000] (r := (.v zX .e)) (h := ?_)) | (refine zZ.iR 3 ?_; refine zZ.rc [0, 1, 2, 3, 4, 10] [12, 13, 14, 1000] (r := (.v zW .e)) (h := ?_)) | refine zZ.yB rfl bA ?_ | refine zZ.ret ?_) | refine zK.n ?_ | refine zK.r ?_)
    all_goals exact .ret (x := true) (.inl rfl) (.one rfl rfl) aQ_ trivial (by assumption) (by unfold qN; rw [hh]; exact Rel.ret _)
  case false =>
    repeat' (first | (refine zY.is ?_; first | refine zY.nil ?_ | (refine zY.at_ 11 rfl ?_; refine zY.rc (.v zW .e) ?_) | (refine zY.at_ 13 rfl ?_; refine zY.rc (.m zT (.w zO .e)) ?_) | (refine zY.at_ 14 rfl ?_; refine zY.rc (.m zT (.w zO .e)) ?_) | (refine zY.at_ 24 rfl ?_; refine zY.rc (.v yD (.m zT (.w zO .e))) ?_) | (refine zY.at_ 55 rfl ?_; refine zY.rc (.v yD .e) ?_) | (refine zY.in_ [20] rfl ?_; refine zY.v rfl rfl (zG (ch) rfl rfl rfl (by decide)) ?_) | (refine zY.in_ [23] rfl ?_; refine zY.v rfl rfl (zG (cs) rfl rfl rfl (by decide)) ?_) | (refine zY.in_ [54] rfl ?_; refine zY.v rfl rfl (zG (bytesRef_fn _ _ _ _ _ _ (by assumption) (by assumption) (by assumption) (by assumption) (by assumption)) rfl rfl rfl (by decide)) ?_) | (refine zY.in_ [56] rfl ?_; refine zY.ofT rfl (zA.cu (i := [1000]) (f := cdo_c L hL (vF 5 0 0 0 (.sl (byts _))) rfl) (r := fun x τ e g hj => ?_))) | (refine zY.in_ [61] rfl ?_; refine zY.ofT rfl (zA.cu (i := [1000]) (f := cdo_c L hL (vF 6 0 0 0 xZ) rfl) (r := fun x τ e g hj => ?_)))) | (refine zZ.is ?_; first | refine zZ.seq ?_ | (refine zZ.iR 0 ?_; refine zZ.rc [0, 1, 2, 3, 4] [12, 13, 14, 1000] (r := (.v zW .e)) (h := ?_)) | (refine zZ.iR 1 ?_; refine zZ.rc [0, 1, 2, 3, 4, 10] [12, 13, 14, 1000] (r := (.v zX (.v zX .e))) (h := ?_)) | (refine zZ.iR 2 ?_; refine zZ.rc [0, 1, 2, 3, 4, 10, 11] [12, 13, 14, 1000] (r := (.v zX .e)) (h := ?_)) | (refine zZ.iR 4 ?_; refine zZ.rc [0, 1, 2, 3, 4, 10] [12, 13, 14, 1000] (r := (.v zX .e)) (h := ?_)) | (refine zZ.iR 5 ?_; refine zZ.rc [0, 1, 2, 3, 10, 12] [12, 13, 14, 1000] (r := (.v zX (.v v41_5 .e))) (h := ?_)) | (refine zZ.iR 11 ?_; refine zZ.rc [0, 1, 2, 3, 10, 12] [12, 13, 14, 1000] (r := (.v yY (.v xC .e))) (h := ?_)) | (refine zZ.iR 12 ?_; refine zZ.rc [0, 1, 2, 3, 10, 12, 13] [12, 13, 14, 1000] (r := (.v zH (.v zL .e))) (h := ?_)) | (refine zZ.iR 13 ?_; refine zZ.rc [0, 1, 2, 3, 10, 12] [12, 13, 14, 1000] (r := (.v zW .e)) (h := ?_)) | (refine zZ.iR 14 ?_; refine zZ.rc [0, 1, 2, 3, 10, 12] [12, 13, 14, 1000] (r := (.v yY (.v yD .e))) (h := ?_)) | (refine zZ.iR 15 ?_; refine zZ.rc [0, 1, 2, 3, 10, 12, 14] [12, 13, 14, 1000] (r := (.v zH (.v zL .e))) (h := ?_)) | (refine zZ.iR 16 ?_; refine zZ.rc [0, 1, 2, 3, 10, 12] [12, 13, 14, 1000] (r := (.v zW .e)) (h := ?_)) | refine zZ.yA rfl bA ?_ | refine zZ.cond rfl (fun h => ?_) (fun h => ?_) | refine zZ.skip ?_ | refine zZ.block ?_ | refine zZ.ret ?_) | refine zK.n ?_ | refine zK.r ?_)
    all_goals first
      | (refine .ret (x := false) (.inl rfl) (.one rfl rfl) aQ_ trivial (by assumption) ?_; have hP : qN t r 2 f = wrP t r 2 2 (f / 4) 0 0 0 0 := (by unfold qN; rw [hh]; rfl); simp only [hP, wrP_eq]; repeat' (first | exact Rel.ret _ | refine Rel.bind (by assumption) ?_ | refine Rel.yes (by assumption) ?_ | refine Rel.no (by assumption) ?_))
      | skip
    rename_i a τ5 e5 g5 hj5 h5
    have hP : qN t r 2 f = wrP t r 2 2 (f / 4) 0 0 0 0 := by unfold qN; rw [hh]; rfl
    have h0 : At L (qN t r 2 f) σ0 ((Pr.loop (y5 (over2 (f / 4) 2) (yJ t r 2) 2) many ()).bind fun _ => .ret true) τ := by
      rw [hP]
      refine ⟨hj, fun y υ hy => ?_⟩
      
      rw [wrP_eq]
      exact Rel.bind (by assumption) (Rel.no (by assumption) (Rel.bind (by assumption) (Rel.no (by assumption) hy)))
    have hm0 := wD hL (σ := τ)
    refine zZ.loop (fun q : Nat × CSt => restF L t r 2 2 (f / 4) 0 0 0 0 q.2) (fun q => At L (qN t r 2 f) σ0 ((Pr.loop (y5 (over2 (f / 4) 2) (yJ t r 2) 2) q.1 ()).bind fun _ => .ret true) q.2 ∧ xL L q.2 ≤ q.1) (fun q => xL L q.2) (many, τ) ?h0 ⟨h0, hm0⟩ ?rd
    case h0 =>
      exact zM K_l K_m
    case rd =>
      rintro ⟨m, ω⟩ ⟨ha, hm⟩
      dsimp only at ha hm ⊢
      unfold restF
      clear e h g
      have hti := ha.i
      cases hs' : ω.stop
      case true =>
        have hst : (!ω.stop) = false := by rw [hs']; rfl
        repeat' (first | (refine zY.nil ?_) | (refine zZ.is ?_; first | refine zZ.seq ?_ | (refine zZ.iR 17 ?_; refine zZ.rc [0, 1, 2, 3, 10, 12, 15, 16, 17, 68, 84, 94] [12, 13, 14, 1000] (r := (.v yY (.v xD (.v zH (.v zL (.v vK .e)))))) (h := ?_)) | (refine zZ.iR 25 ?_; refine zZ.rc [10] [12, 13, 14, 1000] (r := (.v zW .e)) (h := ?_)) | refine zZ.yA rfl bA ?_ | refine zZ.exit ?_ | refine zZ.ret ?_) | refine zK.n ?_ | refine zI.eY ?_ | refine zK.e ?_)
        all_goals exact .ret (x := true) (.inl rfl) (.one rfl rfl) aQ_ trivial ha.i (ha.halt hs' _)
      case false =>
        have hst : (!ω.stop) = true := by rw [hs']; rfl
        obtain ⟨m, rfl⟩ := vJ hm hs'
        repeat' (first | (refine zY.is ?_; first | refine zY.nil ?_ | (refine zY.at_ 15 rfl ?_; refine zY.rc (.v zW .e) ?_) | (refine zY.at_ 16 rfl ?_; refine zY.rc (.v zW .e) ?_) | (refine zY.at_ 17 rfl ?_; refine zY.rc (.v zW .e) ?_) | (refine zY.at_ 89 rfl ?_; refine zY.rc (.v zX (.v zX (.v zX .e))) ?_) | (refine zY.in_ [72, 88] rfl ?_; refine zY.v rfl rfl (zG (cf _ (by decide)) rfl rfl rfl (by decide)) ?_) | (refine zY.in_ [76] rfl ?_; refine zY.v rfl rfl (zG (hasRef_fn _ 2 (U.lo (by assumption)) (U.hi (by assumption))) rfl rfl rfl (by decide)) ?_) | (refine zY.in_ [92] rfl ?_; refine zY.v rfl rfl (zG (with_fn _ 2 (U.lo (by assumption)) (U.hi (by assumption)) hb (by assumption)) rfl rfl rfl (by decide)) ?_) | (refine zY.in_ [73] rfl ?_; refine zY.ofT rfl (zA.cu (i := [1000]) (f := xP L hL _) (r := fun x τ e g hj => ?_))) | (refine zY.in_ [93] rfl ?_; refine zY.ofT rfl (zA.cu (i := [1000]) (f := ccas_c L hL _ _ _) (r := fun x τ e g hj => ?_)))) | (refine zZ.is ?_; first | refine zZ.seq ?_ | (refine zZ.iR 17 ?_; refine zZ.rc [0, 1, 2, 3, 10, 12, 15, 16, 17, 68, 84, 94] [12, 13, 14, 1000] (r := (.v yY (.v xD (.v zH (.v zL (.v vK .e)))))) (h := ?_)) | (refine zZ.iR 18 ?_; refine zZ.rc [0, 1, 2, 3, 10, 12, 15, 16, 17, 68, 84, 94] [12, 13, 14, 1000] (r := (.v yY (.v zX (.v zX .e)))) (h := ?_)) | (refine zZ.iR 19 ?_; refine zZ.rc [0, 1, 2, 3, 10, 12, 15, 16, 17, 68, 84, 94] [12, 13, 14, 1000] (r := (.v zX (.v zX .e))) (h := ?_)) | (refine zZ.iR 20 ?_; refine zZ.rk [0, 1, 2, 3, 10, 12, 15, 16, 17, 68, 84, 94] [12, 13, 14, 1000] ?_; refine zZ.draws ?_) | (refine zZ.iR 21 ?_; refine zZ.rc [0, 1, 2, 3, 10, 12, 15, 16, 17, 68, 84, 94] [12, 13, 14, 1000] (r := (.v zW .e)) (h := ?_)) | (refine zZ.iR 22 ?_; refine zZ.rc [0, 1, 2, 3, 10, 12, 15, 16, 17, 68, 84, 94] [12, 13, 14, 1000] (r := (.v yY (.v zX (.v zX .e)))) (h := ?_)) | (refine zZ.iR 23 ?_; refine zZ.rc [0, 1, 2, 3, 10, 12, 15, 16, 17, 68, 84, 94] [12, 13, 14, 1000] (r := (.v zX .e)) (h := ?_)) | (refine zZ.iR 24 ?_; refine zZ.rc [0, 1, 2, 3, 10, 12, 15, 16, 17, 68, 84, 94] [12, 13, 14, 1000] (r := (.v zW .e)) (h := ?_)) | refine zZ.yB rfl bA ?_ | refine zZ.cond rfl (fun h => ?_) (fun h => ?_) | refine zZ.skip ?_ | refine zZ.block ?_ | refine zZ.ret ?_) | refine zK.n ?_ | refine zK.r ?_ | refine zI.n ?_ | refine zI.r ?_ | (refine Draws.is ?_; first | refine Draws.rc (.v zX (.v zX .e)) ?_ | refine Draws.rc (.gY zX .e) ?_ | refine Draws.rc (.gY zH (.gY zL (.gY kE (.v yP .e)))) ?_ | refine Draws.rc (.gF (.gF (.gF (.gF (.gF (.v yH .e)))))) ?_ | (refine Draws.in_ [80] rfl ?_; refine Draws.gY rfl rfl (by decide) rfl bA rfl (zG (kN _ (U.lo (by assumption)) (U.hi (by assumption))) rfl rfl rfl (by decide)) ?_) | (fail_if_success refine Draws.known rfl rfl rfl (by exact .inl (by assumption)) ?_); refine Draws.split rfl rfl rfl (fun h => ?_) (fun h => ?_) | refine Draws.done (by kernel_rfl) (by kernel_rfl) (by kernel_rfl) ?_) | (refine zF.nil ?_))
        all_goals first
          | (refine .ret (x := true) (.inl rfl) (.one rfl rfl) aQ_ trivial hj ?_; refine (ha.qY (r := .inr ()) ?_ hj).ret; unfold y5; refine Rel.bind (by assumption) ?_; first | (refine Rel.yes (by simp_all [over2]) ?_; exact Rel.ret _) | (refine Rel.no (by simp_all [over2]) ?_; refine Rel.bind (by assumption) ?_; simp only [*]; exact Rel.ret _))
          | skip
        rename_i e1 _ _ _ _
        have hr : Rel L (y5 (over2 (f / 4) 2) (yJ t r 2) 2 ()) ω (.inl ()) τ := by
          unfold y5
          refine Rel.bind (by assumption) ?_
          refine Rel.no (by simp_all [over2]) ?_
          refine Rel.bind (by assumption) ?_
          simp only [*]
          exact Rel.ret _
        have hl := hr.less hL (fine_round hb (fun _ h => over2_has h) ()) ⟨_, _, rfl⟩ hti hs'
        refine ⟨(m, τ), ?_, ⟨ha.qY hr hj, by dsimp only at *; omega⟩, hl⟩
        exact zM K_l K_m
theorem saveRef_c (L : List yQ) (hL : xB L) {t r b : Int} (hR : Rc t r) (hb : b = 1 ∨ b = 2) :
    FnC 109 [.p (.val (.int .i64 t)), .p (.val (.int .i64 r)), .p (.val (.int .i64 b))] [] (fun x => .p (.val (.bool x))) (fun _ => []) yes L (saveP t r b) := by
  have cf := kP hR 2 (by decide)
  rcases hb with rfl | rfl
  all_goals
    refine xS Tryz.func109 rfl Tryz.ntmps109 (Nat.le_of_ble_eq_true rfl) (by decide) fun σ0 hi0 => ?_
    repeat' (first | (refine zY.is ?_; first | refine zY.nil ?_ | (refine zY.at_ 8 rfl ?_; refine zY.rc (.v zW .e) ?_) | (refine zY.at_ 9 rfl ?_; refine zY.rc (.v zW .e) ?_) | (refine zY.in_ [13] rfl ?_; refine zY.v rfl rfl (zG (cf) rfl rfl rfl (by decide)) ?_) | (refine zY.in_ [14] rfl ?_; refine zY.ofT rfl (zA.cu (i := [1000]) (f := xP L hL _) (r := fun x τ e g hj => ?_))) | (refine zY.in_ [20] rfl ?_; refine zY.ofT rfl (zA.cu (i := [1000]) (f := restRef1_c L hL hR (by assumption)) (r := fun x τ e g hj => ?_))) | (refine zY.in_ [20] rfl ?_; refine zY.ofT rfl (zA.cu (i := [1000]) (f := restRef2_c L hL hR (by assumption)) (r := fun x τ e g hj => ?_)))) | (refine zZ.is ?_; first | refine zZ.seq ?_ | (refine zZ.iR 0 ?_; refine zZ.rc [0, 1, 2, 3] [1000] (r := (.v zW .e)) (h := ?_)) | (refine zZ.iR 1 ?_; refine zZ.rc [0, 1, 2, 3, 8] [1000] (r := (.v yY (.v zX (.v zX .e)))) (h := ?_)) | (refine zZ.iR 2 ?_; refine zZ.rc [0, 1, 2, 3, 8, 9] [1000] (r := (.v yY (.v zX (.v zX (.v zX (.v zX .e)))))) (h := ?_)) | refine zZ.ret ?_) | refine zK.n ?_)
    all_goals (exact .ret (by exact .inl rfl) (by exact .one rfl rfl) aQ_ (by assumption) (by assumption) (by unfold saveP flagP; repeat' (first | assumption | refine Rel.bind (by assumption) ?_)))
end
section
theorem sub_curAt {S : AS} (id : Nat) (L : List yQ) (σ : CSt) (h : S.blk id = some (qL L σ)) : Sub S { S with s := putL S.s id (qL L σ) } := by
  have hb : ∀ i, ({ S with s := putL S.s id (qL L σ) } : AS).blk i = S.blk i := fun i => by
    show look (putL S.s id (qL L σ)) i = _
    rw [qR]
    by_cases e : id = i
    · subst e; rw [if_pos rfl]; exact h.symm
    · rw [if_neg e]; rfl
  intro M n w0 ρ a w hs
  have hM : Mut M { S with s := putL S.s id (qL L σ) } ρ = Mut M S ρ := by
    funext k c
    unfold Mut
    simp only [hb]
  exact ⟨ρ, hs.below, hs.out, hs.tab, hs.size, hs.defers, (fun i => by rw [hM]; exact hs.tmps i), (fun id b h => by rw [hM]; rw [hb] at h; exact hs.blks id b h), (fun id b k h => by rw [hb] at h; exact hs.mine id b k h), hs.fix, hs.free, (fun i j bi bj k h1 h2 => by rw [hb] at h1 h2; exact hs.dist i j bi bj k h1 h2)⟩
section
variable {n : Nat} {o : Oper} {S : AS} {d : Nat} {K : Exit → AS → Prop}
theorem zA.cuT {f0 : FuncId} {avs xs : List AV} {bk : List Blk} {res : Took → AV} {bk' : Took → List Blk} {good : Took → Prop} {L : List yQ} {σ : CSt} {p0 : Pr Took} {N : AS → Prop} (i : List Nat) (hd : o.dst = some d := by rfl) (hn : d < n := by decide) (he : Enters Tryz.prog o S f0 avs := by exact enA)
    (hx : avs = (AV.ptr 1000 0 :: xs).map (AV.ren (sig i)) := by rfl) (hh : Hands S i (qL L σ :: bk) := by exact haA) (hxs : (AV.ptr 1000 0 :: xs).all (AV.okE (bk.length + 1)) = true := by rfl) (hrx : ∀ x, (res x).okE (bk.length + 1) = true := by exact fun _ => rfl)
    (hbk' : ∀ x, (bk' x).length = bk.length ∧ (bk' x).all (Blk.okE (bk.length + 1)) = true := by exact fun _ => ⟨rfl, rfl⟩) (hi : σ.i ≤ L.length := by assumption) (f : FnC f0 xs bk res bk' good L p0)
    (r0 : ∀ τ, Rel L p0 σ .fail τ → good .fail → τ.i ≤ L.length → N ((S.after i (qL L τ :: bk' .fail)).put d ((res .fail).ren (sig i))))
    (r1 : ∀ τ, Rel L p0 σ .miss τ → good .miss → τ.i ≤ L.length → N ((S.after i (qL L τ :: bk' .miss)).put d ((res .miss).ren (sig i))))
    (r2 : ∀ τ, Rel L p0 σ .done τ → good .done → τ.i ≤ L.length → N ((S.after i (qL L τ :: bk' .done)).put d ((res .done).ren (sig i)))) : zA Tryz.prog n o S K N :=
  zA.cur i hd hn he hx hh hxs hrx hbk' hi f (fun x => match x with
    | .fail => r0
    | .miss => r1
    | .done => r2)
end
end
section
attribute [local irreducible] zY zZ Step zV Sub zF zA Fn zK zI
theorem limboRef_fn (e : Int) (h0 : 0 ≤ e) : Fn Tryz.prog 191 [.val (.int .u64 e)] (.p (.val (.int .i64 (wP e)))) := by
  have g1 : e.tmod 3 = e % 3 := Int.tmod_eq_emod_of_nonneg h0
  have g2 : IntKind.i64.wrap (e % 3) = e % 3 := wrap_i64 _ (by omega)
  have g3 : IntKind.i64.wrap (4 + e % 3) = wP e := wrap_i64 _ (by omega)
  refine xV Tryz.func191 rfl Tryz.ntmps191 (Nat.le_of_ble_eq_true rfl) ?_
  repeat' (first | (refine zY.nil ?_) | (refine zZ.is ?_; first | refine zZ.seq ?_ | (refine zZ.iR 0 ?_; refine zZ.rc [0] [] (r := (.v zW .e)) (h := ?_)) | (refine zZ.iR 1 ?_; refine zZ.rc [0, 2] [] (r := (.v zX (.v kF (.v qH (.v qQ (.v zW .e)))))) (h := ?_)) | refine zZ.ret ?_) | refine zK.n ?_)
  all_goals exact ⟨.inl rfl, gives1 rfl rfl rfl⟩
def retF (L : List yQ) (t r e : Int) (σ : CSt) : AS := { t := [(0, .ptr 1000 0), (1, .p (.val (.int .i64 t))), (2, .p (.val (.int .i64 r))), (6, .p (.val (.int .u64 e)))], s := [(1000, qL L σ)] }
theorem retireRef_c (L : List yQ) (hL : xB L) {t r : Int} (ht : Small t) (hr : Rf r) : FnC 150 [.p (.val (.int .i64 t)), .p (.val (.int .i64 r))] [] (fun _ => .any) (fun _ => []) yes L (retireP t r) := by
  have wr : IntKind.u64.wrap r = r := wrap_u64 _ ⟨hr.lo, by have := hr.hi; omega⟩
  have hru := hr.u
  have cf := kP (hr.rc ht) 7 (by decide)
  refine xS Tryz.func150 rfl Tryz.ntmps150 (Nat.le_of_ble_eq_true rfl) (by decide) fun σ0 hi0 => ?_
  repeat' (first | (refine zY.is ?_; first | refine zY.nil ?_ | (refine zY.at_ 6 rfl ?_; refine zY.rc (.v zW .e) ?_) | (refine zY.in_ [10] rfl ?_; refine zY.ofT rfl (zA.cu (i := [1000]) (f := xP L hL _) (r := fun x τ e g hj => ?_)))) | (refine zZ.is ?_; first | refine zZ.seq ?_ | (refine zZ.iR 0 ?_; refine zZ.rc [0, 1, 2] [1000] (r := (.v yY .e)) (h := ?_)) | refine zZ.block ?_) | refine zK.n ?_)
  rename Int => x0
  rename CSt => τ0
  have cl := limboRef_fn x0 g.lo
  have h0 : At L (retireP t r) σ0 (.loop (qO t r (wP x0)) many ()) τ0 := (At.refl hi0).step e hj
  have hm0 := wD hL (σ := τ0)
  refine zZ.loop (fun q : Nat × CSt => retF L t r x0 q.2) (fun q => At L (retireP t r) σ0 (.loop (qO t r (wP x0)) q.1 ()) q.2 ∧ xL L q.2 ≤ q.1) (fun q => xL L q.2) (many, τ0) ?h0 ⟨h0, hm0⟩ ?rd
  case h0 =>
    exact zM K_c K_0
  case rd =>
    rintro ⟨m, ω⟩ ⟨ha, hm⟩
    dsimp only at ha hm ⊢
    unfold retF
    clear h0 e
    have hti := ha.i
    cases hs' : ω.stop
    case true =>
      have hst : (!ω.stop) = false := by rw [hs']; rfl
      repeat' (first | (refine zY.nil ?_) | (refine zZ.is ?_; first | refine zZ.seq ?_ | (refine zZ.iR 1 ?_; refine zZ.rc [0, 1, 2, 6, 7, 8, 15, 33] [1000] (r := (.v yY (.v xD (.v zH (.v zL (.v vK .e)))))) (h := ?_)) | refine zZ.yA rfl bA ?_ | refine zZ.exit ?_) | refine zK.n ?_ | refine zI.eY ?_ | refine zK.e ?_)
      all_goals exact .ret (x := ()) (by exact .inr rfl) (.none rfl) aQ_ trivial ha.i (ha.halt hs' _)
    case false =>
      have hst : (!ω.stop) = true := by rw [hs']; rfl
      obtain ⟨m, rfl⟩ := vJ hm hs'
      repeat' (first | (refine zY.is ?_; first | refine zY.nil ?_ | (refine zY.at_ 24 rfl ?_; refine zY.rc (.v zX .e) ?_) | (refine zY.at_ 29 rfl ?_; refine zY.rc (.v zX (.v zX (.v qH .e))) ?_) | (refine zY.at_ 7 rfl ?_; refine zY.rc (.v zW .e) ?_) | (refine zY.at_ 8 rfl ?_; refine zY.rc (.v zW .e) ?_) | (refine zY.in_ [23] rfl ?_; refine zY.v rfl rfl (zG (cf) rfl rfl rfl (by decide)) ?_) | (refine zY.in_ [18, 28] rfl ?_; refine zY.v rfl rfl (zG (cl) rfl rfl rfl (by decide)) ?_) | (refine zY.in_ [19] rfl ?_; refine zY.ofT rfl (zA.cu (i := [1000]) (f := xP L hL _) (r := fun x τ e g hj => ?_))) | (refine zY.in_ [25] rfl ?_; refine zY.ofT rfl (zA.cu (i := [1000]) (f := cstore_c L hL _ _) (r := fun x τ e g hj => ?_))) | (refine zY.in_ [32] rfl ?_; refine zY.ofT rfl (zA.cu (i := [1000]) (f := ccas_c L hL _ _ _) (r := fun x τ e g hj => ?_)))) | (refine zZ.is ?_; first | refine zZ.seq ?_ | (refine zZ.iR 1 ?_; refine zZ.rc [0, 1, 2, 6, 7, 8, 15, 33] [1000] (r := (.v yY (.v xD (.v zH (.v zL (.v vK .e)))))) (h := ?_)) | (refine zZ.iR 2 ?_; refine zZ.rc [0, 1, 2, 6, 7, 8, 15, 33] [1000] (r := (.v yY (.v zX .e))) (h := ?_)) | (refine zZ.iR 3 ?_; refine zZ.rc [0, 1, 2, 6, 7, 8, 15, 33] [1000] (r := (.v yY (.v zX (.v zX .e)))) (h := ?_)) | (refine zZ.iR 4 ?_; refine zZ.rc [0, 1, 2, 6, 7, 8, 15, 33] [1000] (r := (.v yY (.v zX .e))) (h := ?_)) | (refine zZ.iR 5 ?_; refine zZ.rc [0, 1, 2, 6, 7, 8, 15, 33] [1000] (r := (.v zX .e)) (h := ?_)) | refine zZ.yB rfl bA ?_ | refine zZ.cond rfl (fun h => ?_) (fun h => ?_) | refine zZ.skip ?_ | refine zZ.block ?_ | refine zZ.ret ?_) | refine zK.n ?_ | refine zK.r ?_ | refine zI.n ?_ | refine zI.r ?_)
      all_goals first | (refine .ret (x := ()) (by exact .inl rfl) (.none rfl) aQ_ trivial hj ?_; refine (ha.round (r := .inr ()) ?_ hj).ret; unfold qO; repeat' (first | refine Rel.bind (by assumption) ?_ | (simp only [cond_true, cond_false, *]; exact Rel.ret _))) | skip
      have hr' : Rel L (qO t r (wP x0) ()) ω (.inl ()) τ := by
        unfold qO
        repeat' (first | refine Rel.bind (by assumption) ?_ | (simp only [cond_true, cond_false, *]; exact Rel.ret _))
      have hl := hr'.less (good := Next yes yes) hL (.bind (yC _) fun _ hh => .bind (vD _ hh) fun _ _ => .bind (vI _ hh hru) fun d _ => Pr.yV.ret (by cases d <;> trivial)) ⟨_, _, rfl⟩ hti hs'
      refine ⟨(m, τ), ?_, ⟨ha.round hr' hj, by dsimp only at *; omega⟩, hl⟩
      exact zM K_c K_0
theorem outRef_c (L : List yQ) (hL : xB L) {t p x w : Int} (ht : Small t) (hp : Rf p) (hx : Rf x) (hw : U w) : FnC 93 [.p (.val (.int .i64 t)), .p (.val (.int .i64 p)), .p (.val (.int .i64 x)), .p (.val (.int .u64 w))] [] (fun r => .tup ([.val (.bool r.d), .val (.bool r.ok)].map .p)) (fun _ => []) yes L (takeP t p x w) := by
  have cn := cnextRef_fn t p ht hp.le
  have c1 := linkRef_fn x hx.le
  have c2 := linkRef_fn (xY w) (wK w).le
  have c3 := refRef_fn w hw.1 hw.2
  have hxr := hx.rc ht
  refine xS Tryz.func93 rfl Tryz.ntmps93 (Nat.le_of_ble_eq_true rfl) (by decide) fun σ0 hi0 => ?_
  repeat' (first | (refine zY.is ?_; first | refine zY.nil ?_ | (refine zY.at_ 12 rfl ?_; refine zY.rc (.v zW .e) ?_) | (refine zY.at_ 13 rfl ?_; refine zY.rc (.v zW .e) ?_) | (refine zY.at_ 24 rfl ?_; refine zY.rc (.v zX .e) ?_) | (refine zY.at_ 26 rfl ?_; refine zY.rc (.v zX .e) ?_) | (refine zY.in_ [23] rfl ?_; refine zY.v rfl rfl (zG (cn) rfl rfl rfl (by decide)) ?_) | (refine zY.in_ [25] rfl ?_; refine zY.v rfl rfl (zG (c1) rfl rfl rfl (by decide)) ?_) | (refine zY.in_ [28] rfl ?_; refine zY.v rfl rfl (zG (c2) rfl rfl rfl (by decide)) ?_) | (refine zY.in_ [27] rfl ?_; refine zY.v rfl rfl (zG (c3) rfl rfl rfl (by decide)) ?_) | (refine zY.in_ [17] rfl ?_; refine zY.ofT rfl (zA.cu (i := [1000]) (f := saveRef_c L hL hxr (.inr rfl)) (r := fun x τ e g hj => ?_))) | (refine zY.in_ [29] rfl ?_; refine zY.ofT rfl (zA.cu (i := [1000]) (f := ccas_c L hL _ _ _) (r := fun x τ e g hj => ?_))) | (refine zY.in_ [35] rfl ?_; refine zY.ofT rfl (zA.cu (i := [1000]) (f := retireRef_c L hL ht hx) (r := fun x τ e g hj => ?_)))) | (refine zZ.is ?_; first | refine zZ.seq ?_ | (refine zZ.iR 0 ?_; refine zZ.rc [0, 1, 2, 3, 4] [1000] (r := (.v zW (.v zW .e))) (h := ?_)) | (refine zZ.iR 1 ?_; refine zZ.rc [0, 1, 2, 3, 4, 10, 11] [1000] (r := (.v yY (.v zX (.v zX .e)))) (h := ?_)) | (refine zZ.iR 2 ?_; refine zZ.rc [0, 1, 2, 3, 4, 10, 11, 12] [1000] (r := (.v zX (.v wU .e))) (h := ?_)) | (refine zZ.iR 3 ?_; refine zZ.rc [0, 1, 2, 3, 4, 10, 11] [1000] (r := (.v zW (.v zW .e))) (h := ?_)) | (refine zZ.iR 4 ?_; refine zZ.rc [0, 1, 2, 3, 4, 10, 11] [1000] (r := (.v yY (.v zX (.v zX .e)))) (h := ?_)) | (refine zZ.iR 5 ?_; refine zZ.rc [0, 1, 3, 10, 11, 13] [1000] (r := (.v zX (.v wU .e))) (h := ?_)) | (refine zZ.iR 6 ?_; refine zZ.rc [0, 1, 3, 10, 11] [1000] (r := (.v zW (.v zW .e))) (h := ?_)) | (refine zZ.iR 7 ?_; refine zZ.rc [0, 1, 3, 10, 11] [1000] (r := (.v yY (.v zX (.v zX .e)))) (h := ?_)) | (refine zZ.iR 8 ?_; refine zZ.rc [10, 11] [1000] (r := (.v zW (.v zW .e))) (h := ?_)) | refine zZ.cond rfl (fun h => ?_) (fun h => ?_) | refine zZ.skip ?_ | refine zZ.ret ?_) | refine zK.n ?_ | refine zK.r ?_)
  all_goals try simp only [Bool.not_eq_true', Bool.not_eq_false'] at *
  all_goals first | exact .ret (x := .done) (.inl rfl) (.tup rfl (by decide) (.cons (.tmp rfl) (.cons (.tmp rfl) .nil))) aQ_ trivial (by assumption) (by unfold takeP; repeat' (first | exact Rel.ret _ | refine Rel.bind (by assumption) ?_ | refine Rel.yes (by assumption) ?_ | refine Rel.no (by assumption) ?_)) | exact .ret (x := .miss) (.inl rfl) (.tup rfl (by decide) (.cons (.tmp rfl) (.cons (.tmp rfl) .nil))) aQ_ trivial (by assumption) (by unfold takeP; repeat' (first | exact Rel.ret _ | refine Rel.bind (by assumption) ?_ | refine Rel.yes (by assumption) ?_ | refine Rel.no (by assumption) ?_)) | exact .ret (x := .fail) (.inl rfl) (.tup rfl (by decide) (.cons (.tmp rfl) (.cons (.tmp rfl) .nil))) aQ_ trivial (by assumption) (by unfold takeP; repeat' (first | exact Rel.ret _ | refine Rel.bind (by assumption) ?_ | refine Rel.no (by assumption) ?_))
theorem and_no1 {a b : Bool} (h : a = true) : (!a && b) = false := by subst h; rfl
theorem and_no2 {a b : Bool} (h : b = true) : (a && !b) = false := by subst h; cases a <;> rfl
theorem and_yes {a b : Bool} (h : a = false) (k : b = false) : (!a && !b) = true := by subst h k; rfl
theorem rel_took {L : List yQ} {t p x w : Int} {at_ : Int → Int → Int → Pr (WSt ⊕ w9)} {σ τ υ : CSt} {r : Took} (h1 : Rel L (xW (yJ t x 0)) σ w τ) (hm : decide (w % 2 = 1) = true) (h2 : Rel L (takeP t p x w) τ r υ) : Rel L (z8 t at_ (some (p, x))) σ (tookR p x w r) υ :=
  Rel.bind h1 (Rel.yes hm (Rel.bind h2 (Rel.ret _)))
theorem rel_at {L : List yQ} {t p x w : Int} {at_ : Int → Int → Int → Pr (WSt ⊕ w9)} {σ τ υ : CSt} {r : WSt ⊕ w9} (h1 : Rel L (xW (yJ t x 0)) σ w τ) (hm : decide (w % 2 = 1) = false) (h2 : Rel L (at_ p x w) τ r υ) : Rel L (z8 t at_ (some (p, x))) σ r υ :=
  Rel.bind h1 (Rel.no hm h2)
def searchF0 (L : List yQ) (t k : Int) (σ : CSt) : AS := { t := [(0, .ptr 1000 0), (1, .p (.val (.int .i64 t))), (2, .p (.val (.int .u64 k))), (6, .p (.val (.int .i64 0))), (7, .p (.val (.int .i64 0))), (8, .p (.val (.bool false))), (9, .p (.val (.bool false)))], s := [(1000, qL L σ)] }
def searchF (L : List yQ) (t k p x : Int) (d : Bool) (σ : CSt) : AS := { t := [(0, .ptr 1000 0), (1, .p (.val (.int .i64 t))), (2, .p (.val (.int .u64 k))), (6, .p (.val (.int .i64 0))), (7, .p (.val (.int .i64 0))), (8, .p (.val (.bool false))), (9, .p (.val (.bool false))), (10, .p (.val (.int .i64 p))), (11, .p (.val (.int .i64 x))), (12, .p (.val (.bool d)))], s := [(1000, qL L σ)] }
theorem searchRef_c (L : List yQ) (hL : xB L) {t k : Int} (ht : Small t) : FnC 33 [.p (.val (.int .i64 t)), .p (.val (.int .u64 k))] [] (fun r => .tup ([.val (.int .i64 r.p), .val (.int .i64 r.x), .val (.bool r.is), .val (.bool r.ok)].map .p)) (fun _ => []) FOK L (wR t k) := by
  skip
  refine xS Tryz.func33 rfl Tryz.ntmps33 (Nat.le_of_ble_eq_true rfl) (by decide) fun σ0 hi0 => ?_
  repeat' (first | (refine zY.nil ?_) | (refine zZ.is ?_; first | refine zZ.seq ?_ | (refine zZ.iR 0 ?_; refine zZ.rc [0, 1, 2] [1000] (r := (.v zW (.v zW (.v zW (.v zW .e))))) (h := ?_)) | refine zZ.block ?_) | refine zK.n ?_)
  have hm0 := wD hL (σ := σ0)
  refine zZ.loop (fun q : Nat × CSt => searchF0 L t k q.2) (fun q => At L (wR t k) σ0 ((Pr.loop (z8 t (xQ t k)) q.1 none).bind (fun r => bif r.ok then .ret r else .ret ⟨0, 0, false, false⟩)) q.2 ∧ xL L q.2 ≤ q.1) (fun q => xL L q.2) (many, σ0) ?h0 ⟨.refl hi0, hm0⟩ ?rd
  case h0 =>
    exact zM K_4 K_0
  case rd =>
    rintro ⟨m, ω⟩ ⟨ha, hm⟩
    dsimp only at ha hm ⊢
    unfold searchF0
    have hti := ha.i
    cases hs' : ω.stop
    case true =>
      have hst : (!ω.stop) = false := by rw [hs']; rfl
      repeat' (first | (refine zY.nil ?_) | (refine zZ.is ?_; first | refine zZ.seq ?_ | (refine zZ.iR 1 ?_; refine zZ.rc [0, 1, 2, 6, 7, 8, 9, 10, 11, 12, 13, 14, 15, 16, 21, 37, 44, 55, 67, 77] [1000] (r := (.v yY (.v xD (.v zH (.v zL (.v vK .e)))))) (h := ?_)) | (refine zZ.iR 20 ?_; refine zZ.rc [6, 7, 8, 9] [1000] (r := (.v zW (.v zW (.v zW (.v zW .e))))) (h := ?_)) | refine zZ.yA rfl bA ?_ | refine zZ.exit ?_ | refine zZ.ret ?_) | refine zK.n ?_ | refine zI.eY ?_ | refine zK.e ?_)
      all_goals exact .ret (x := ⟨0, 0, false, true⟩) (.inl rfl) (.tup rfl (by decide) (.cons (.tmp rfl) (.cons (.tmp rfl) (.cons (.tmp rfl) (.cons (.tmp rfl) .nil))))) aQ_ ⟨rf_0, rf_0, fun h => by cases h⟩ ha.i (ha.halt hs' _)
    case false =>
      have hst : (!ω.stop) = true := by rw [hs']; rfl
      obtain ⟨m, rfl⟩ := vJ hm hs'
      repeat' (first | (refine zY.is ?_; first | refine zY.nil ?_ | (refine zY.at_ 11 rfl ?_; refine zY.rc (.v zW .e) ?_) | (refine zY.in_ [24] rfl ?_; refine zY.v rfl rfl (zG (refRef_fn _ (U.lo (by assumption)) (U.hi (by assumption))) rfl rfl rfl (by decide)) ?_) | (refine zY.in_ [23] rfl ?_; refine zY.ofT rfl (zA.cu (i := [1000]) (f := xP L hL _) (r := fun x τ e g hj => ?_)))) | (refine zZ.is ?_; first | refine zZ.seq ?_ | (refine zZ.iR 1 ?_; refine zZ.rc [0, 1, 2, 6, 7, 8, 9, 10, 11, 12, 13, 14, 15, 16, 21, 37, 44, 55, 67, 77] [1000] (r := (.v yY (.v xD (.v zH (.v zL (.v vK .e)))))) (h := ?_)) | (refine zZ.iR 2 ?_; refine zZ.rc [0, 1, 2, 6, 7, 8, 9, 10, 11, 12, 13, 14, 15, 16, 21, 37, 44, 55, 67, 77] [1000] (r := (.v zW .e)) (h := ?_)) | (refine zZ.iR 3 ?_; refine zZ.rc [0, 1, 2, 6, 7, 8, 9, 10, 11, 12, 13, 14, 15, 16, 21, 37, 44, 55, 67, 77] [1000] (r := (.v yY .e)) (h := ?_)) | (refine zZ.iR 4 ?_; refine zZ.rc [0, 1, 2, 6, 7, 8, 9, 10, 11, 12, 13, 14, 15, 16, 21, 37, 44, 55, 67, 77] [1000] (r := (.v zW .e)) (h := ?_)) | refine zZ.yB rfl bA ?_ | refine zZ.skip ?_ | refine zZ.block ?_) | refine zK.n ?_)
      rename Int => h0
      rename CSt => τ0
      have hr0 : Rel L (z8 t (xQ t k) none) ω (endW 0 (xY h0)) τ0 := Rel.bind e (Rel.ret _)
      have hl0 := hr0.less hL (vZ (fun p x w h _ _ => kK t k p x w h) none trivial) ⟨_, _, rfl⟩ hti hs'
      have ha0 := ha.qY hr0 hj
      rw [vM] at ha0
      refine zZ.loop (fun q : (Nat × Bool) × (Int × Int) × CSt => searchF L t k q.2.1.1 q.2.1.2 q.1.2 q.2.2) (fun q => At L (wR t k) σ0 ((bif q.1.2 then Pr.loop (z8 t (xQ t k)) q.1.1 none else contL t (xQ t k) q.1.1 q.2.1.1 q.2.1.2).bind (fun r => bif r.ok then .ret r else .ret ⟨0, 0, false, false⟩)) q.2.2 ∧ xL L q.2.2 ≤ q.1.1 ∧ xL L q.2.2 < xL L ω ∧ Rf q.2.1.1 ∧ Rf q.2.1.2) (fun q => xL L q.2.2) ((m, false), (0, xY h0), τ0) ?h1 ⟨ha0, by dsimp only; omega, hl0, rf_0, wK _⟩ ?rd2
      case h1 =>
        exact zM K_n K_0
      case rd2 =>
        clear ha ha0 hr0 e
        rintro ⟨⟨m2, d⟩, ⟨p, y⟩, ω2⟩ ⟨ha, hm2, hl2, hp, hx⟩
        dsimp only at ha hm2 hl2 hp hx ⊢
        unfold searchF
        have hti2 := ha.i
        cases d
        case true =>
          cases hz : decide (y = 0)
          case true =>
            have hz' : (!decide (y = 0)) = false := by rw [hz]; rfl
            repeat' (first | (refine zY.nil ?_) | (refine zZ.is ?_; first | refine zZ.seq ?_ | (refine zZ.iR 5 ?_; refine zZ.rc [0, 1, 2, 6, 7, 8, 9, 10, 11, 12, 13, 14, 15, 16, 21, 37, 44, 55, 67, 77] [1000] (r := (.v zX (.v vY (.v zX (.gT (.gT (.v yP (.v zX (.gT (.gT (.gT (.gT (.gT (.v yP .e)))))))))))))) (h := ?_)) | (refine zZ.iR 18 ?_; refine zZ.rc [0, 1, 2, 6, 7, 8, 9, 10, 11, 12, 13, 14, 15, 16, 21, 37, 44, 55, 67, 77] [1000] (r := (.v zX (.v vS .e))) (h := ?_)) | refine zZ.yA rfl bA ?_ | refine zZ.skip ?_ | refine zZ.exit ?_) | refine zK.n ?_ | refine zI.n ?_ | refine zI.eY ?_ | refine zK.e ?_)
            refine ⟨(m2, ω2), ?_, ⟨ha, hm2⟩, hl2⟩
            exact zM K_4 K_0
          case false =>
            have hz' : (!decide (y = 0)) = true := by rw [hz]; rfl
            repeat' (first | (refine zY.nil ?_) | (refine zZ.is ?_; first | refine zZ.seq ?_ | (refine zZ.iR 5 ?_; refine zZ.rc [0, 1, 2, 6, 7, 8, 9, 10, 11, 12, 13, 14, 15, 16, 21, 37, 44, 55, 67, 77] [1000] (r := (.v zX (.v vY (.v zX (.gY zX (.gY vS (.v yH (.v zX (.gT (.gT (.gT (.gT (.gT (.v yP .e)))))))))))))) (h := ?_)) | (refine zZ.iR 18 ?_; refine zZ.rc [0, 1, 2, 6, 7, 8, 9, 10, 11, 12, 13, 14, 15, 16, 21, 37, 44, 55, 67, 77] [1000] (r := (.v zX (.v vS .e))) (h := ?_)) | refine zZ.yA rfl bA ?_ | refine zZ.skip ?_ | refine zZ.exit ?_) | refine zK.n ?_ | refine zI.n ?_ | refine zI.eY ?_ | refine zK.e ?_)
            refine ⟨(m2, ω2), ?_, ⟨ha, hm2⟩, hl2⟩
            exact zM K_4 K_0
        case false =>
          cases hz : decide (y = 0)
          case true =>
            obtain rfl : y = 0 := of_decide_eq_true hz
            have hz' : (!decide ((0 : Int) = 0)) = false := rfl
            repeat' (first | (refine zY.nil ?_) | (refine zZ.is ?_; first | refine zZ.seq ?_ | (refine zZ.iR 5 ?_; refine zZ.rc [0, 1, 2, 6, 7, 8, 9, 10, 11, 12, 13, 14, 15, 16, 21, 37, 44, 55, 67, 77] [1000] (r := (.v zX (.v vY (.v zX (.gT (.gT (.v yP (.v zX (.gT (.gT (.gT (.gT (.gT (.v yP .e)))))))))))))) (h := ?_)) | (refine zZ.iR 18 ?_; refine zZ.rc [0, 1, 2, 6, 7, 8, 9, 10, 11, 12, 13, 14, 15, 16, 21, 37, 44, 55, 67, 77] [1000] (r := (.v zX (.v qI .e))) (h := ?_)) | (refine zZ.iR 19 ?_; refine zZ.rc [0, 1, 2, 6, 7, 8, 9, 10, 11, 12, 13, 14, 15, 16, 21, 37, 44, 55, 67, 77] [1000] (r := (.v zX (.v zW (.v zW (.v zW (.v zW .e)))))) (h := ?_)) | refine zZ.yB rfl bA ?_ | refine zZ.yA rfl bA ?_ | refine zZ.exit ?_ | refine zZ.ret ?_) | refine zK.n ?_ | refine zK.r ?_ | refine zI.r ?_ | refine zI.eY ?_ | refine zK.e ?_)
            all_goals exact .ret (x := ⟨p, 0, false, true⟩) (.inl rfl) (.tup rfl (by decide) (.cons (.tmp rfl) (.cons (.tmp rfl) (.cons (.tmp rfl) (.cons (.tmp rfl) .nil))))) aQ_ ⟨hp, rf_0, fun h => by cases h⟩ hti2 (show At L (wR t k) σ0 (.ret ⟨p, 0, false, true⟩) ω2 from ha).ret
          case false =>
            have hz' : (!decide (y = 0)) = true := by rw [hz]; rfl
            cases hs2 : ω2.stop
            case true =>
              have hst2 : (!ω2.stop) = false := by rw [hs2]; rfl
              repeat' (first | (refine zY.nil ?_) | (refine zZ.is ?_; first | refine zZ.seq ?_ | (refine zZ.iR 5 ?_; refine zZ.rc [0, 1, 2, 6, 7, 8, 9, 10, 11, 12, 13, 14, 15, 16, 21, 37, 44, 55, 67, 77] [1000] (r := (.v zX (.v vY (.v zX (.gY zX (.gY qI (.v yH (.v zX (.gY yY (.gY xD (.gY zH (.gY zL (.gY vK (.v yH .e)))))))))))))) (h := ?_)) | (refine zZ.iR 18 ?_; refine zZ.rc [0, 1, 2, 6, 7, 8, 9, 10, 11, 12, 13, 14, 15, 16, 21, 37, 44, 55, 67, 77] [1000] (r := (.v zX (.v qI .e))) (h := ?_)) | (refine zZ.iR 19 ?_; refine zZ.rc [0, 1, 2, 6, 7, 8, 9, 10, 11, 12, 13, 14, 15, 16, 21, 37, 44, 55, 67, 77] [1000] (r := (.v zX (.v zW (.v zW (.v zW (.v zW .e)))))) (h := ?_)) | refine zZ.yB rfl bA ?_ | refine zZ.yA rfl bA ?_ | refine zZ.exit ?_ | refine zZ.ret ?_) | refine zK.n ?_ | refine zK.r ?_ | refine zI.r ?_ | refine zI.eY ?_ | refine zK.e ?_)
              all_goals exact .ret (x := ⟨p, 0, false, true⟩) (.inl rfl) (.tup rfl (by decide) (.cons (.tmp rfl) (.cons (.tmp rfl) (.cons (.tmp rfl) (.cons (.tmp rfl) .nil))))) aQ_ ⟨hp, rf_0, fun h => by cases h⟩ hti2 (ha.halt hs2 _)
            case false =>
              have hst2 : (!ω2.stop) = true := by rw [hs2]; rfl
              obtain ⟨m2, rfl⟩ := vJ hm2 hs2
              have ha2 : At L (wR t k) σ0 ((Pr.loop (z8 t (xQ t k)) (m2 + 1) (some (p, y))).bind (fun r => bif r.ok then .ret r else .ret ⟨0, 0, false, false⟩)) ω2 := by
                have h3 := ha
                unfold contL at h3
                rw [hz] at h3
                exact h3
              have hw : WOK p y := ⟨hp, hx, hz⟩
              have hxr := hx.rc ht
              clear ha
              repeat' (first | (refine zY.is ?_; first | refine zY.nil ?_ | (refine zY.at_ 11 rfl ?_; refine zY.rc (.v zW .e) ?_) | (refine zY.at_ 13 rfl ?_; refine zY.rc (.v zW .e) ?_) | (refine zY.at_ 16 rfl ?_; refine zY.rc (.v zW .e) ?_) | (refine zY.at_ 45 rfl ?_; refine zY.rc (.v wW (.v yZ (.v yZ (.v zW (.v zW .e))))) ?_) | (refine zY.in_ [44] rfl ?_; refine zY.v rfl rfl (zG (markRef_fn _ (U.lo (by assumption))) rfl rfl rfl (by decide)) ?_) | (refine zY.in_ [59, 75] rfl ?_; refine zY.v rfl rfl (zG (refRef_fn _ (U.lo (by assumption)) (U.hi (by assumption))) rfl rfl rfl (by decide)) ?_) | (refine zY.in_ [41, 63] rfl ?_; refine zY.v rfl rfl (zG (kP hxr _ (by decide)) rfl rfl rfl (by decide)) ?_) | (refine zY.in_ [42, 64] rfl ?_; refine zY.ofT rfl (zA.cu (i := [1000]) (f := xP L hL _) (r := fun x τ e g hj => ?_))) | (refine zY.in_ [51] rfl ?_; refine zY.ofT rfl (zA.cuT (i := [1000]) (f := outRef_c L hL ht hp hx (by assumption)) (r0 := fun τ e g hj => ?_) (r1 := fun τ e g hj => ?_) (r2 := fun τ e g hj => ?_)))) | (refine zZ.is ?_; first | refine zZ.seq ?_ | (refine zZ.iR 5 ?_; refine zZ.rc [0, 1, 2, 6, 7, 8, 9, 10, 11, 12, 13, 14, 15, 16, 21, 37, 44, 55, 67, 77] [1000] (r := (.v zX (.v vY (.v zX (.gY zX (.gY qI (.v yH (.v zX (.gY yY (.gY xD (.gY zH (.gY zL (.gY vK (.v yH .e)))))))))))))) (h := ?_)) | (refine zZ.iR 6 ?_; refine zZ.rc [0, 1, 2, 6, 7, 8, 9, 10, 11, 12, 13, 14, 15, 16, 21, 37, 44, 55, 67, 77] [1000] (r := (.v yY (.v zX (.v zX .e)))) (h := ?_)) | (refine zZ.iR 7 ?_; refine zZ.rc [0, 1, 2, 6, 7, 8, 9, 10, 11, 12, 13, 14, 15, 16, 21, 37, 44, 55, 67, 77] [1000] (r := (.v zX .e)) (h := ?_)) | (refine zZ.iR 8 ?_; refine zZ.rc [0, 1, 2, 6, 7, 8, 9, 10, 11, 12, 13, 14, 15, 16, 21, 37, 44, 55, 67, 77] [1000] (r := (.v yY (.v zX (.v zX (.v zX (.v zX .e)))))) (h := ?_)) | (refine zZ.iR 9 ?_; refine zZ.rc [0, 1, 2, 6, 7, 8, 9, 10, 11, 12, 13, 14, 15, 16, 21, 37, 44, 55, 67, 77] [1000] (r := (.v zX (.v qI .e))) (h := ?_)) | (refine zZ.iR 9 ?_; refine zZ.rc [0, 1, 2, 6, 7, 8, 9, 10, 11, 12, 13, 14, 15, 16, 21, 37, 44, 55, 67, 77] [1000] (r := (.v zX (.v vS .e))) (h := ?_)) | (refine zZ.iR 10 ?_; refine zZ.rc [0, 1, 2, 6, 7, 8, 9, 10, 11, 12, 13, 14, 15, 16, 21, 37, 44, 55, 67, 77] [1000] (r := (.v zW (.v zW (.v zW (.v zW .e))))) (h := ?_)) | (refine zZ.iR 11 ?_; refine zZ.rc [0, 1, 2, 6, 7, 8, 9, 10, 11, 12, 13, 14, 15, 16, 21, 37, 44, 55, 67, 77] [1000] (r := (.v zX (.v qI (.v zW .e)))) (h := ?_)) | (refine zZ.iR 11 ?_; refine zZ.rc [0, 1, 2, 6, 7, 8, 9, 10, 11, 12, 13, 14, 15, 16, 21, 37, 44, 55, 67, 77] [1000] (r := (.v zX (.v vS (.v zW .e)))) (h := ?_)) | (refine zZ.iR 12 ?_; refine zZ.rc [0, 1, 2, 6, 7, 8, 9, 10, 11, 12, 13, 14, 15, 16, 21, 37, 44, 55, 67, 77] [1000] (r := (.v zX .e)) (h := ?_)) | (refine zZ.iR 13 ?_; refine zZ.rc [0, 1, 2, 6, 7, 8, 9, 10, 11, 12, 13, 14, 15, 16, 21, 37, 44, 55, 67, 77] [1000] (r := (.v yY (.v zX (.v zX .e)))) (h := ?_)) | (refine zZ.iR 14 ?_; refine zZ.rc [0, 1, 2, 6, 7, 8, 9, 10, 11, 12, 13, 14, 15, 16, 21, 37, 44, 55, 67, 77] [1000] (r := (.v zX (.v zX (.v v46_8 .e)))) (h := ?_)) | (refine zZ.iR 15 ?_; refine zZ.rc [0, 1, 2, 6, 7, 8, 9, 10, 11, 12, 13, 14, 15, 16, 21, 37, 44, 55, 67, 77] [1000] (r := (.v zX (.v zX (.v zX (.v zX (.v wT (.v zW (.v zW (.v zW (.v zW .e)))))))))) (h := ?_)) | (refine zZ.iR 16 ?_; refine zZ.rc [0, 1, 2, 6, 7, 8, 9, 10, 11, 12, 13, 14, 15, 16, 21, 37, 44, 55, 67, 77] [1000] (r := (.v zX (.v zW .e))) (h := ?_)) | (refine zZ.iR 17 ?_; refine zZ.rc [0, 1, 2, 6, 7, 8, 9, 10, 11, 12, 13, 14, 15, 16, 21, 37, 44, 55, 67, 77] [1000] (r := (.v zX .e)) (h := ?_)) | refine zZ.yB rfl bA ?_ | refine zZ.yA rfl bA ?_ | refine zZ.cond rfl (fun h => ?_) (fun h => ?_) | refine zZ.skip ?_ | refine zZ.block ?_ | refine zZ.exit ?_ | refine zZ.ret ?_) | refine zK.n ?_ | refine zK.r ?_ | refine zI.n ?_ | refine zI.r ?_ | refine zI.eY ?_ | refine zK.e ?_)
              all_goals try simp only [Bool.not_eq_true', Bool.not_eq_false'] at *
              · exact .ret (x := ⟨0, 0, false, false⟩) (.inl rfl) (.tup rfl (by decide) (.cons (.tmp rfl) (.cons (.tmp rfl) (.cons (.tmp rfl) (.cons (.tmp rfl) .nil))))) aQ_ ⟨rf_0, rf_0, fun h => by cases h⟩ hj (show At L (wR t k) σ0 (.ret ⟨0, 0, false, false⟩) τ from ha2.qY (rel_took (by assumption) (by assumption) e) hj).ret
              · rename Int => w
                have hr : Rel L (z8 t (xQ t k) (some (p, y))) ω2 (.inl none) τ := rel_took (by assumption) (by assumption) e
                have hl := hr.less hL (vZ (fun p x w h _ _ => kK t k p x w h) (some (p, y)) hw) ⟨_, _, rfl⟩ hti2 hs2
                refine ⟨((m2, true), (p, xY w), τ), ?_, ⟨ha2.qY hr hj, by dsimp only at *; omega, by dsimp only at *; omega, hp, wK _⟩, hl⟩
                exact zM K_n K_0
              · rename Int => w
                have hr : Rel L (z8 t (xQ t k) (some (p, y))) ω2 (endW p (xY w)) τ := rel_took (by assumption) (by assumption) e
                have hl := hr.less hL (vZ (fun p x w h _ _ => kK t k p x w h) (some (p, y)) hw) ⟨_, _, rfl⟩ hti2 hs2
                refine ⟨((m2, false), (p, xY w), τ), ?_, ⟨by have h3 := ha2.qY hr hj; rw [vM] at h3; exact h3, by dsimp only at *; omega, by dsimp only at *; omega, hp, wK _⟩, hl⟩
                exact zM K_n K_0
              · rename_i w τ1 e1 g1 hj1 h1
                exact .ret (x := ⟨p, y, decide (x = k), true⟩) (.inl rfl) (.tup rfl (by decide) (.cons (.tmp rfl) (.cons (.tmp rfl) (.cons (.tmp rfl) (.cons (.tmp rfl) .nil))))) aQ_ ⟨hp, hx, fun _ => hw.one⟩ hj (show At L (wR t k) σ0 (.ret ⟨p, y, decide (x = k), true⟩) τ from ha2.qY (rel_at (by assumption) (by assumption) (Rel.bind e (Rel.yes h (Rel.ret _)))) hj).ret
              · rename_i w τ1 e1 g1 hj1 h1
                have hr : Rel L (z8 t (xQ t k) (some (p, y))) ω2 (endW y (xY w)) τ := rel_at (by assumption) (by assumption) (Rel.bind e (Rel.no h (Rel.ret _)))
                have hl := hr.less hL (vZ (fun p x w h _ _ => kK t k p x w h) (some (p, y)) hw) ⟨_, _, rfl⟩ hti2 hs2
                refine ⟨((m2, false), (y, xY w), τ), ?_, ⟨by have h3 := ha2.qY hr hj; rw [vM] at h3; exact h3, by dsimp only at *; omega, by dsimp only at *; omega, hx, wK _⟩, hl⟩
                exact zM K_n K_0
def sweepF0 (L : List yQ) (t k : Int) (σ : CSt) : AS := { t := [(0, .ptr 1000 0), (1, .p (.val (.int .i64 t))), (2, .p (.val (.int .u64 k))), (6, .p (.val (.bool false)))], s := [(1000, qL L σ)] }
def sweepF (L : List yQ) (t k p x : Int) (d : Bool) (σ : CSt) : AS := { t := [(0, .ptr 1000 0), (1, .p (.val (.int .i64 t))), (2, .p (.val (.int .u64 k))), (6, .p (.val (.bool false))), (7, .p (.val (.int .i64 p))), (8, .p (.val (.int .i64 x))), (9, .p (.val (.bool d)))], s := [(1000, qL L σ)] }
theorem sweepRef_c (L : List yQ) (hL : xB L) {t k : Int} (ht : Small t) : FnC 37 [.p (.val (.int .i64 t)), .p (.val (.int .u64 k))] [] (fun r => .p (.val (.bool r))) (fun _ => []) yes L (qX t k) := by
  have F1 := fun (w : Int) (h : U w) => (Int.tmod_eq_emod_of_nonneg h.lo : w.tmod 2147483648 = w % 2147483648)
  have F2 := fun (w : Int) (h : U w) (he : decide (w % 2 = 1) = false) => (wrap_u64 (w + 1) (hw_succ h he) : IntKind.u64.wrap (w + 1) = w + 1)
  refine xS Tryz.func37 rfl Tryz.ntmps37 (Nat.le_of_ble_eq_true rfl) (by decide) fun σ0 hi0 => ?_
  repeat' (first | (refine zY.nil ?_) | (refine zZ.is ?_; first | refine zZ.seq ?_ | (refine zZ.iR 0 ?_; refine zZ.rc [0, 1, 2] [1000] (r := (.v zW .e)) (h := ?_)) | refine zZ.block ?_) | refine zK.n ?_)
  have hm0 := wD hL (σ := σ0)
  refine zZ.loop (fun q : Nat × CSt => sweepF0 L t k q.2) (fun q => At L (qX t k) σ0 ((Pr.loop (z8 t (xJ t k)) q.1 none).bind (fun r => .ret r.ok)) q.2 ∧ xL L q.2 ≤ q.1) (fun q => xL L q.2) (many, σ0) ?h0 ⟨.refl hi0, hm0⟩ ?rd
  case h0 =>
    exact zM K_c K_0
  case rd =>
    rintro ⟨m, ω⟩ ⟨ha, hm⟩
    dsimp only at ha hm ⊢
    unfold sweepF0
    have hti := ha.i
    cases hs' : ω.stop
    case true =>
      have hst : (!ω.stop) = false := by rw [hs']; rfl
      repeat' (first | (refine zY.nil ?_) | (refine zZ.is ?_; first | refine zZ.seq ?_ | (refine zZ.iR 1 ?_; refine zZ.rc [0, 1, 2, 6, 7, 8, 9, 10, 11, 12, 13, 14, 15, 16, 21, 37, 44, 55, 67, 85, 94, 103] [1000] (r := (.v yY (.v xD (.v zH (.v zL (.v vK .e)))))) (h := ?_)) | (refine zZ.iR 25 ?_; refine zZ.rc [6] [1000] (r := (.v zW .e)) (h := ?_)) | refine zZ.yA rfl bA ?_ | refine zZ.exit ?_ | refine zZ.ret ?_) | refine zK.n ?_ | refine zI.eY ?_ | refine zK.e ?_)
      all_goals exact .ret (x := true) (.inl rfl) (.one rfl rfl) aQ_ trivial ha.i (ha.halt hs' _)
    case false =>
      have hst : (!ω.stop) = true := by rw [hs']; rfl
      obtain ⟨m, rfl⟩ := vJ hm hs'
      repeat' (first | (refine zY.is ?_; first | refine zY.nil ?_ | (refine zY.at_ 8 rfl ?_; refine zY.rc (.v zW .e) ?_) | (refine zY.in_ [24] rfl ?_; refine zY.v rfl rfl (zG (refRef_fn _ (U.lo (by assumption)) (U.hi (by assumption))) rfl rfl rfl (by decide)) ?_) | (refine zY.in_ [23] rfl ?_; refine zY.ofT rfl (zA.cu (i := [1000]) (f := xP L hL _) (r := fun x τ e g hj => ?_)))) | (refine zZ.is ?_; first | refine zZ.seq ?_ | (refine zZ.iR 1 ?_; refine zZ.rc [0, 1, 2, 6, 7, 8, 9, 10, 11, 12, 13, 14, 15, 16, 21, 37, 44, 55, 67, 85, 94, 103] [1000] (r := (.v yY (.v xD (.v zH (.v zL (.v vK .e)))))) (h := ?_)) | (refine zZ.iR 2 ?_; refine zZ.rc [0, 1, 2, 6, 7, 8, 9, 10, 11, 12, 13, 14, 15, 16, 21, 37, 44, 55, 67, 85, 94, 103] [1000] (r := (.v zW .e)) (h := ?_)) | (refine zZ.iR 3 ?_; refine zZ.rc [0, 1, 2, 6, 7, 8, 9, 10, 11, 12, 13, 14, 15, 16, 21, 37, 44, 55, 67, 85, 94, 103] [1000] (r := (.v yY .e)) (h := ?_)) | (refine zZ.iR 4 ?_; refine zZ.rc [0, 1, 2, 6, 7, 8, 9, 10, 11, 12, 13, 14, 15, 16, 21, 37, 44, 55, 67, 85, 94, 103] [1000] (r := (.v zW .e)) (h := ?_)) | refine zZ.yB rfl bA ?_ | refine zZ.skip ?_ | refine zZ.block ?_) | refine zK.n ?_)
      rename Int => h0
      rename CSt => τ0
      have hr0 : Rel L (z8 t (xJ t k) none) ω (endW 0 (xY h0)) τ0 := Rel.bind e (Rel.ret _)
      have hl0 := hr0.less hL (vZ (fun p x w h hw hm => q8 t k p x w h hw hm) none trivial) ⟨_, _, rfl⟩ hti hs'
      have ha0 := ha.qY hr0 hj
      rw [vM] at ha0
      refine zZ.loop (fun q : (Nat × Bool) × (Int × Int) × CSt => sweepF L t k q.2.1.1 q.2.1.2 q.1.2 q.2.2) (fun q => At L (qX t k) σ0 ((bif q.1.2 then Pr.loop (z8 t (xJ t k)) q.1.1 none else contL t (xJ t k) q.1.1 q.2.1.1 q.2.1.2).bind (fun r => .ret r.ok)) q.2.2 ∧ xL L q.2.2 ≤ q.1.1 ∧ xL L q.2.2 < xL L ω ∧ Rf q.2.1.1 ∧ Rf q.2.1.2) (fun q => xL L q.2.2) ((m, false), (0, xY h0), τ0) ?h1 ⟨ha0, by dsimp only; omega, hl0, rf_0, wK _⟩ ?rd2
      case h1 =>
        exact zM K_4 K_0
      case rd2 =>
        clear ha ha0 hr0 e
        rintro ⟨⟨m2, d⟩, ⟨p, y⟩, ω2⟩ ⟨ha, hm2, hl2, hp, hx⟩
        dsimp only at ha hm2 hl2 hp hx ⊢
        unfold sweepF
        have hti2 := ha.i
        cases d
        case true =>
          cases hz : decide (y = 0)
          case true =>
            have hz' : (!decide (y = 0)) = false := by rw [hz]; rfl
            repeat' (first | (refine zY.nil ?_) | (refine zZ.is ?_; first | refine zZ.seq ?_ | (refine zZ.iR 5 ?_; refine zZ.rc [0, 1, 2, 6, 7, 8, 9, 10, 11, 12, 13, 14, 15, 16, 21, 37, 44, 55, 67, 85, 94, 103] [1000] (r := (.v zX (.v vY (.v zX (.gT (.gT (.v yP (.v zX (.gT (.gT (.gT (.gT (.gT (.v yP .e)))))))))))))) (h := ?_)) | (refine zZ.iR 23 ?_; refine zZ.rc [0, 1, 2, 6, 7, 8, 9, 10, 11, 12, 13, 14, 15, 16, 21, 37, 44, 55, 67, 85, 94, 103] [1000] (r := (.v zX (.v vS .e))) (h := ?_)) | refine zZ.yA rfl bA ?_ | refine zZ.skip ?_ | refine zZ.exit ?_) | refine zK.n ?_ | refine zI.n ?_ | refine zI.eY ?_ | refine zK.e ?_)
            refine ⟨(m2, ω2), ?_, ⟨ha, hm2⟩, hl2⟩
            exact zM K_c K_0
          case false =>
            have hz' : (!decide (y = 0)) = true := by rw [hz]; rfl
            repeat' (first | (refine zY.nil ?_) | (refine zZ.is ?_; first | refine zZ.seq ?_ | (refine zZ.iR 5 ?_; refine zZ.rc [0, 1, 2, 6, 7, 8, 9, 10, 11, 12, 13, 14, 15, 16, 21, 37, 44, 55, 67, 85, 94, 103] [1000] (r := (.v zX (.v vY (.v zX (.gY zX (.gY vS (.v yH (.v zX (.gT (.gT (.gT (.gT (.gT (.v yP .e)))))))))))))) (h := ?_)) | (refine zZ.iR 23 ?_; refine zZ.rc [0, 1, 2, 6, 7, 8, 9, 10, 11, 12, 13, 14, 15, 16, 21, 37, 44, 55, 67, 85, 94, 103] [1000] (r := (.v zX (.v vS .e))) (h := ?_)) | refine zZ.yA rfl bA ?_ | refine zZ.skip ?_ | refine zZ.exit ?_) | refine zK.n ?_ | refine zI.n ?_ | refine zI.eY ?_ | refine zK.e ?_)
            refine ⟨(m2, ω2), ?_, ⟨ha, hm2⟩, hl2⟩
            exact zM K_c K_0
        case false =>
          cases hz : decide (y = 0)
          case true =>
            obtain rfl : y = 0 := of_decide_eq_true hz
            have hz' : (!decide ((0 : Int) = 0)) = false := rfl
            repeat' (first | (refine zY.nil ?_) | (refine zZ.is ?_; first | refine zZ.seq ?_ | (refine zZ.iR 5 ?_; refine zZ.rc [0, 1, 2, 6, 7, 8, 9, 10, 11, 12, 13, 14, 15, 16, 21, 37, 44, 55, 67, 85, 94, 103] [1000] (r := (.v zX (.v vY (.v zX (.gT (.gT (.v yP (.v zX (.gT (.gT (.gT (.gT (.gT (.v yP .e)))))))))))))) (h := ?_)) | (refine zZ.iR 23 ?_; refine zZ.rc [0, 1, 2, 6, 7, 8, 9, 10, 11, 12, 13, 14, 15, 16, 21, 37, 44, 55, 67, 85, 94, 103] [1000] (r := (.v zX (.v qI .e))) (h := ?_)) | (refine zZ.iR 24 ?_; refine zZ.rc [0, 1, 2, 6, 7, 8, 9, 10, 11, 12, 13, 14, 15, 16, 21, 37, 44, 55, 67, 85, 94, 103] [1000] (r := (.v zW .e)) (h := ?_)) | refine zZ.yB rfl bA ?_ | refine zZ.yA rfl bA ?_ | refine zZ.exit ?_ | refine zZ.ret ?_) | refine zK.n ?_ | refine zK.r ?_ | refine zI.r ?_ | refine zI.eY ?_ | refine zK.e ?_)
            all_goals exact .ret (x := true) (.inl rfl) (.one rfl rfl) aQ_ trivial hti2 (show At L (qX t k) σ0 (.ret true) ω2 from ha).ret
          case false =>
            have hz' : (!decide (y = 0)) = true := by rw [hz]; rfl
            cases hs2 : ω2.stop
            case true =>
              have hst2 : (!ω2.stop) = false := by rw [hs2]; rfl
              repeat' (first | (refine zY.nil ?_) | (refine zZ.is ?_; first | refine zZ.seq ?_ | (refine zZ.iR 5 ?_; refine zZ.rc [0, 1, 2, 6, 7, 8, 9, 10, 11, 12, 13, 14, 15, 16, 21, 37, 44, 55, 67, 85, 94, 103] [1000] (r := (.v zX (.v vY (.v zX (.gY zX (.gY qI (.v yH (.v zX (.gY yY (.gY xD (.gY zH (.gY zL (.gY vK (.v yH .e)))))))))))))) (h := ?_)) | (refine zZ.iR 23 ?_; refine zZ.rc [0, 1, 2, 6, 7, 8, 9, 10, 11, 12, 13, 14, 15, 16, 21, 37, 44, 55, 67, 85, 94, 103] [1000] (r := (.v zX (.v qI .e))) (h := ?_)) | (refine zZ.iR 24 ?_; refine zZ.rc [0, 1, 2, 6, 7, 8, 9, 10, 11, 12, 13, 14, 15, 16, 21, 37, 44, 55, 67, 85, 94, 103] [1000] (r := (.v zW .e)) (h := ?_)) | refine zZ.yB rfl bA ?_ | refine zZ.yA rfl bA ?_ | refine zZ.exit ?_ | refine zZ.ret ?_) | refine zK.n ?_ | refine zK.r ?_ | refine zI.r ?_ | refine zI.eY ?_ | refine zK.e ?_)
              all_goals exact .ret (x := true) (.inl rfl) (.one rfl rfl) aQ_ trivial hti2 (ha.halt hs2 _)
            case false =>
              have hst2 : (!ω2.stop) = true := by rw [hs2]; rfl
              obtain ⟨m2, rfl⟩ := vJ hm2 hs2
              have ha2 : At L (qX t k) σ0 ((Pr.loop (z8 t (xJ t k)) (m2 + 1) (some (p, y))).bind (fun r => .ret r.ok)) ω2 := by
                have h3 := ha
                unfold contL at h3
                rw [hz] at h3
                exact h3
              have hw : WOK p y := ⟨hp, hx, hz⟩
              have hxr := hx.rc ht
              clear ha
              repeat' (first | (refine zY.is ?_; first | refine zY.nil ?_ | (refine zY.at_ 10 rfl ?_; refine zY.rc (.v zW .e) ?_) | (refine zY.at_ 13 rfl ?_; refine zY.rc (.v zW .e) ?_) | (refine zY.at_ 14 rfl ?_; refine zY.rc (.v zW .e) ?_) | (refine zY.at_ 15 rfl ?_; refine zY.rc (.v zW .e) ?_) | (refine zY.at_ 16 rfl ?_; refine zY.rc (.v zW .e) ?_) | (refine zY.at_ 45 rfl ?_; refine zY.rc (.v wW (.v yZ (.v yZ (.v zW (.v zW .e))))) ?_) | (refine zY.at_ 8 rfl ?_; refine zY.rc (.v zW .e) ?_) | (refine zY.at_ 82 rfl ?_; refine zY.rc (.gY zX (.gY zX (.gY wT (.v yP .e)))) ?_) | (refine zY.at_ 82 rfl ?_; refine zY.rc (.gF (.gF (.gF (.v yH .e)))) ?_) | (refine zY.at_ 90 rfl ?_; refine zY.rc (.v zX (.v zX (.v v30_2 .e))) ?_) | (refine zY.in_ [44] rfl ?_; refine zY.v rfl rfl (zG (markRef_fn _ (U.lo (by assumption))) rfl rfl rfl (by decide)) ?_) | (refine zY.in_ [59, 101] rfl ?_; refine zY.v rfl rfl (zG (refRef_fn _ (U.lo (by assumption)) (U.hi (by assumption))) rfl rfl rfl (by decide)) ?_) | (refine zY.in_ [41, 63, 71, 76, 89] rfl ?_; refine zY.v rfl rfl (zG (kP hxr _ (by decide)) rfl rfl rfl (by decide)) ?_) | (refine zY.in_ [42, 64, 72, 77] rfl ?_; refine zY.ofT rfl (zA.cu (i := [1000]) (f := xP L hL _) (r := fun x τ e g hj => ?_))) | (refine zY.in_ [93] rfl ?_; refine zY.ofT rfl (zA.cu (i := [1000]) (f := ccas_c L hL _ _ _) (r := fun x τ e g hj => ?_))) | (refine zY.in_ [98] rfl ?_; refine zY.ofT rfl (zA.cu (i := [1000]) (f := setRef_c L hL hxr (.inr rfl)) (r := fun x τ e g hj => ?_))) | (refine zY.in_ [51] rfl ?_; refine zY.ofT rfl (zA.cuT (i := [1000]) (f := outRef_c L hL ht hp hx (by assumption)) (r0 := fun τ e g hj => ?_) (r1 := fun τ e g hj => ?_) (r2 := fun τ e g hj => ?_))) | (fail_if_success refine zY.known rfl rfl rfl (by fail) ?_); refine zY.split rfl rfl rfl (fun h => ?_) (fun h => ?_)) | (refine zZ.is ?_; first | refine zZ.seq ?_ | (refine zZ.iR 5 ?_; refine zZ.rc [0, 1, 2, 6, 7, 8, 9, 10, 11, 12, 13, 14, 15, 16, 21, 37, 44, 55, 67, 85, 94, 103] [1000] (r := (.v zX (.v vY (.v zX (.gY zX (.gY qI (.v yH (.v zX (.gY yY (.gY xD (.gY zH (.gY zL (.gY vK (.v yH .e)))))))))))))) (h := ?_)) | (refine zZ.iR 6 ?_; refine zZ.rc [0, 1, 2, 6, 7, 8, 9, 10, 11, 12, 13, 14, 15, 16, 21, 37, 44, 55, 67, 85, 94, 103] [1000] (r := (.v yY (.v zX (.v zX .e)))) (h := ?_)) | (refine zZ.iR 7 ?_; refine zZ.rc [0, 1, 2, 6, 7, 8, 9, 10, 11, 12, 13, 14, 15, 16, 21, 37, 44, 55, 67, 85, 94, 103] [1000] (r := (.v zX .e)) (h := ?_)) | (refine zZ.iR 8 ?_; refine zZ.rc [0, 1, 2, 6, 7, 8, 9, 10, 11, 12, 13, 14, 15, 16, 21, 37, 44, 55, 67, 85, 94, 103] [1000] (r := (.v yY (.v zX (.v zX (.v zX (.v zX .e)))))) (h := ?_)) | (refine zZ.iR 9 ?_; refine zZ.rc [0, 1, 2, 6, 7, 8, 9, 10, 11, 12, 13, 14, 15, 16, 21, 37, 44, 55, 67, 85, 94, 103] [1000] (r := (.v zX (.v qI .e))) (h := ?_)) | (refine zZ.iR 9 ?_; refine zZ.rc [0, 1, 2, 6, 7, 8, 9, 10, 11, 12, 13, 14, 15, 16, 21, 37, 44, 55, 67, 85, 94, 103] [1000] (r := (.v zX (.v vS .e))) (h := ?_)) | (refine zZ.iR 10 ?_; refine zZ.rc [0, 1, 2, 6, 7, 8, 9, 10, 11, 12, 13, 14, 15, 16, 21, 37, 44, 55, 67, 85, 94, 103] [1000] (r := (.v zW .e)) (h := ?_)) | (refine zZ.iR 11 ?_; refine zZ.rc [0, 1, 2, 6, 7, 8, 9, 10, 11, 12, 13, 14, 15, 16, 21, 37, 44, 55, 67, 85, 94, 103] [1000] (r := (.v zX (.v qI (.v zW .e)))) (h := ?_)) | (refine zZ.iR 11 ?_; refine zZ.rc [0, 1, 2, 6, 7, 8, 9, 10, 11, 12, 13, 14, 15, 16, 21, 37, 44, 55, 67, 85, 94, 103] [1000] (r := (.v zX (.v vS (.v zW .e)))) (h := ?_)) | (refine zZ.iR 12 ?_; refine zZ.rc [0, 1, 2, 6, 7, 8, 9, 10, 11, 12, 13, 14, 15, 16, 21, 37, 44, 55, 67, 85, 94, 103] [1000] (r := (.v zX .e)) (h := ?_)) | (refine zZ.iR 13 ?_; refine zZ.rc [0, 1, 2, 6, 7, 8, 9, 10, 11, 12, 13, 14, 15, 16, 21, 37, 44, 55, 67, 85, 94, 103] [1000] (r := (.v yY (.v zX (.v zX .e)))) (h := ?_)) | (refine zZ.iR 14 ?_; refine zZ.rc [0, 1, 2, 6, 7, 8, 9, 10, 11, 12, 13, 14, 15, 16, 21, 37, 44, 55, 67, 85, 94, 103] [1000] (r := (.v zX (.v v34_1 (.v kE .e)))) (h := ?_)) | (refine zZ.iR 15 ?_; refine zZ.rc [0, 1, 2, 6, 7, 8, 9, 10, 11, 12, 13, 14, 15, 16, 21, 37, 44, 55, 67, 85, 94, 103] [1000] (r := (.v yY (.v zX (.v zX .e)))) (h := ?_)) | (refine zZ.iR 16 ?_; refine zZ.rc [0, 1, 2, 6, 7, 8, 9, 10, 11, 12, 13, 14, 15, 16, 21, 37, 44, 55, 67, 85, 94, 103] [1000] (r := (.v yY (.v zX (.v zX .e)))) (h := ?_)) | (refine zZ.iR 17 ?_; refine zZ.rc [0, 1, 2, 6, 7, 8, 9, 10, 11, 12, 13, 14, 15, 16, 21, 37, 44, 55, 67, 85, 94, 103] [1000] (r := (.v zX (.v zX (.v wT (.v zX .e))))) (h := ?_)) | (refine zZ.iR 18 ?_; refine zZ.rc [0, 1, 2, 6, 7, 8, 9, 10, 11, 12, 13, 14, 15, 16, 21, 37, 44, 55, 67, 85, 94, 103] [1000] (r := (.v yY (.v zX (.v zX .e)))) (h := ?_)) | (refine zZ.iR 19 ?_; refine zZ.rc [0, 1, 2, 6, 7, 8, 9, 10, 11, 12, 13, 14, 15, 16, 21, 37, 44, 55, 67, 85, 94, 103] [1000] (r := (.v zX .e)) (h := ?_)) | (refine zZ.iR 20 ?_; refine zZ.rc [0, 1, 2, 6, 7, 8, 9, 10, 11, 12, 13, 14, 15, 16, 21, 37, 44, 55, 67, 85, 94, 103] [1000] (r := (.v yY (.v zX (.v zX .e)))) (h := ?_)) | (refine zZ.iR 21 ?_; refine zZ.rc [0, 1, 2, 6, 7, 8, 9, 10, 11, 12, 13, 14, 15, 16, 21, 37, 44, 55, 67, 85, 94, 103] [1000] (r := (.v zX (.v zW .e))) (h := ?_)) | (refine zZ.iR 22 ?_; refine zZ.rc [0, 1, 2, 6, 7, 8, 9, 10, 11, 12, 13, 14, 15, 16, 21, 37, 44, 55, 67, 85, 94, 103] [1000] (r := (.v zX .e)) (h := ?_)) | refine zZ.yB rfl bA ?_ | refine zZ.yA rfl bA ?_ | refine zZ.cond rfl (fun h => ?_) (fun h => ?_) | refine zZ.skip ?_ | refine zZ.block ?_ | refine zZ.exit ?_ | refine zZ.ret ?_) | refine zK.n ?_ | refine zK.r ?_ | refine zI.n ?_ | refine zI.r ?_ | refine zI.eY ?_ | refine zK.e ?_)
              all_goals try simp only [Bool.not_eq_true', Bool.not_eq_false'] at *
              · exact .ret (x := false) (.inl rfl) (.one rfl rfl) aQ_ trivial hj (show At L (qX t k) σ0 (.ret false) τ from ha2.qY (rel_took (by assumption) (by assumption) e) hj).ret
              · rename Int => w
                have hr : Rel L (z8 t (xJ t k) (some (p, y))) ω2 (.inl none) τ := rel_took (by assumption) (by assumption) e
                have hl := hr.less hL (vZ (fun p x w h hw hm => q8 t k p x w h hw hm) (some (p, y)) hw) ⟨_, _, rfl⟩ hti2 hs2
                refine ⟨((m2, true), (p, xY w), τ), ?_, ⟨ha2.qY hr hj, by dsimp only at *; omega, by dsimp only at *; omega, hp, wK _⟩, hl⟩
                exact zM K_4 K_0
              · rename Int => w
                have hr : Rel L (z8 t (xJ t k) (some (p, y))) ω2 (endW p (xY w)) τ := rel_took (by assumption) (by assumption) e
                have hl := hr.less hL (vZ (fun p x w h hw hm => q8 t k p x w h hw hm) (some (p, y)) hw) ⟨_, _, rfl⟩ hti2 hs2
                refine ⟨((m2, false), (p, xY w), τ), ?_, ⟨by have h3 := ha2.qY hr hj; rw [vM] at h3; exact h3, by dsimp only at *; omega, by dsimp only at *; omega, hp, wK _⟩, hl⟩
                exact zM K_4 K_0
              all_goals first | (have hcas : ∃ a b σ1 d τ1, Rel L (casP (yJ t y 0) a b) σ1 d τ1 := ⟨_, _, _, _, _, by assumption⟩; have hr : Rel L (z8 t (xJ t k) (some (p, y))) ω2 (.inl (some (p, y))) τ := (by refine rel_at (by assumption) (by assumption) (Rel.bind (x := true) ?_ (Rel.ret _)); unfold sweepIn setMark; rw [nextF_pos t hz]; (repeat' (first | exact Rel.ret _ | refine Rel.bind (by assumption) ?_ | refine Rel.yes (by assumption) ?_ | refine Rel.no (by assumption) ?_ | refine Rel.no (and_no1 (by assumption)) ?_ | refine Rel.no (and_no2 (by assumption)) ?_))); have hl := hr.less hL (vZ (fun p x w h hw hm => q8 t k p x w h hw hm) (some (p, y)) hw) ⟨_, _, rfl⟩ hti2 hs2; refine ⟨((m2, false), (p, y), τ), ?_, ⟨by have h3 := ha2.qY hr hj; unfold contL; rw [hz]; exact h3, by dsimp only at *; omega, by dsimp only at *; omega, hp, hx⟩, hl⟩; refine sub_keep (is := [0, 1, 2, 6, 7, 8, 9]) (js := [1000]) ?_ ?_; (repeat' first | exact zR.nil | apply zR.p rfl | apply zR.ptr rfl); (repeat' first | exact zU.nil | apply zU.some rfl)) | skip
              · rename_i w τ1 e1 g1 hj1 h1 kk τ2 e2 g2 hj2 h2 su τ3 e3 g3 hj3 h3
                have hr : Rel L (z8 t (xJ t k) (some (p, y))) ω2 (endW y (xY w)) τ := by
                  refine rel_at (by assumption) (by assumption) (Rel.bind (x := false) ?_ (Rel.ret _))
                  unfold sweepIn setMark
                  repeat' (first | exact Rel.ret _ | refine Rel.bind (by assumption) ?_ | refine Rel.no (by assumption) ?_ | refine Rel.yes (and_yes (by assumption) (by assumption)) ?_)
                have hl := hr.less hL (vZ (fun p x w h hw hm => q8 t k p x w h hw hm) (some (p, y)) hw) ⟨_, _, rfl⟩ hti2 hs2
                refine ⟨((m2, false), (y, xY w), τ), ?_, ⟨by have h3 := ha2.qY hr hj; rw [vM] at h3; exact h3, by dsimp only at *; omega, by dsimp only at *; omega, hx, wK _⟩, hl⟩
                exact zM K_4 K_0
              · rename_i w τ1 e1 g1 hj1 h1
                have hr : Rel L (z8 t (xJ t k) (some (p, y))) ω2 (endW y (xY w)) τ := by
                  refine rel_at (by assumption) (by assumption) (Rel.bind (x := false) ?_ (Rel.ret _))
                  unfold sweepIn setMark
                  repeat' (first | exact Rel.ret _ | refine Rel.bind (by assumption) ?_ | refine Rel.yes (by assumption) ?_)
                have hl := hr.less hL (vZ (fun p x w h hw hm => q8 t k p x w h hw hm) (some (p, y)) hw) ⟨_, _, rfl⟩ hti2 hs2
                refine ⟨((m2, false), (y, xY w), τ), ?_, ⟨by have h3 := ha2.qY hr hj; rw [vM] at h3; exact h3, by dsimp only at *; omega, by dsimp only at *; omega, hx, wK _⟩, hl⟩
                exact zM K_4 K_0
end
section
attribute [local irreducible] zY zZ Step zV Sub zF zA Fn zK zI
def popCF (L : List yQ) (t : Int) (σ : CSt) : AS := { t := [(0, .ptr 1000 0), (1, .p (.val (.int .i64 t))), (4, .p (.val (.int .i64 0)))], s := [(1000, qL L σ)] }
theorem popRef_c (L : List yQ) (hL : xB L) {t : Int} (ht : Small t) : FnC 165 [.p (.val (.int .i64 t))] [] (fun r => .p (.val (.int .i64 r))) (fun _ => []) Rf L (popP t) := by
  have F1 := fun (w : Int) (h : U w) => wtag1 h
  refine xS Tryz.func165 rfl Tryz.ntmps165 (Nat.le_of_ble_eq_true rfl) (by decide) fun σ0 hi0 => ?_
  repeat' (first | (refine zY.nil ?_) | (refine zZ.is ?_; first | refine zZ.seq ?_ | (refine zZ.iR 0 ?_; refine zZ.rc [0, 1] [1000] (r := (.v zW .e)) (h := ?_)) | refine zZ.block ?_) | refine zK.n ?_)
  have hm0 := wD hL (σ := σ0)
  refine zZ.loop (fun q : Nat × CSt => popCF L t q.2) (fun q => At L (popP t) σ0 (.loop (vN t) q.1 ()) q.2 ∧ xL L q.2 ≤ q.1) (fun q => xL L q.2) (many, σ0) ?h0 ⟨.refl hi0, hm0⟩ ?rd
  case h0 =>
    exact zM K_2 K_0
  case rd =>
    rintro ⟨m, ω⟩ ⟨ha, hm⟩
    dsimp only at ha hm ⊢
    unfold popCF
    have hti := ha.i
    cases hs' : ω.stop
    case true =>
      have hst : (!ω.stop) = false := by rw [hs']; rfl
      repeat' (first | (refine zY.nil ?_) | (refine zZ.is ?_; first | refine zZ.seq ?_ | (refine zZ.iR 1 ?_; refine zZ.rc [0, 1, 4, 5, 6, 7, 8, 13, 19, 34] [1000] (r := (.v yY (.v xD (.v zH (.v zL (.v vK .e)))))) (h := ?_)) | (refine zZ.iR 10 ?_; refine zZ.rc [4] [1000] (r := (.v zW .e)) (h := ?_)) | refine zZ.yA rfl bA ?_ | refine zZ.exit ?_ | refine zZ.ret ?_) | refine zK.n ?_ | refine zI.eY ?_ | refine zK.e ?_)
      all_goals exact .ret (x := (0 : Int)) (by exact .inl rfl) (.one rfl rfl) aQ_ rf_0 ha.i (ha.halt hs' _)
    case false =>
      have hst : (!ω.stop) = true := by rw [hs']; rfl
      obtain ⟨m, rfl⟩ := vJ hm hs'
      repeat' (first | (refine zY.is ?_; first | refine zY.nil ?_ | (refine zY.at_ 31 rfl ?_; refine zY.rc (.v v30_1 .e) ?_) | (refine zY.at_ 5 rfl ?_; refine zY.rc (.v zW .e) ?_) | (refine zY.at_ 6 rfl ?_; refine zY.rc (.v zW .e) ?_) | (refine zY.at_ 7 rfl ?_; refine zY.rc (.v zW .e) ?_) | (refine zY.at_ 8 rfl ?_; refine zY.rc (.v zW .e) ?_) | (refine zY.in_ [17, 25] rfl ?_; refine zY.v rfl rfl (zG (firstRef_fn _ (U.lo (by assumption)) (U.hi (by assumption))) rfl rfl rfl (by decide)) ?_) | (refine zY.in_ [30] rfl ?_; refine zY.v rfl rfl (zG (tagRef_fn _ (U.lo (by assumption)) (U.hi (by assumption))) rfl rfl rfl (by decide)) ?_) | (refine zY.in_ [32] rfl ?_; refine zY.v rfl rfl (zG (topRef_fn _ _ (firstF_lo _) (firstF_hi _) (tag1 (by assumption))) rfl rfl rfl (by decide)) ?_) | (refine zY.in_ [23] rfl ?_; refine zY.v rfl rfl (zG (kP ((vB _).rc ht) 7 (by decide)) rfl rfl rfl (by decide)) ?_) | (refine zY.in_ [15, 24] rfl ?_; refine zY.ofT rfl (zA.cu (i := [1000]) (f := xP L hL _) (r := fun x τ e g hj => ?_))) | (refine zY.in_ [33] rfl ?_; refine zY.ofT rfl (zA.cu (i := [1000]) (f := ccas_c L hL _ _ _) (r := fun x τ e g hj => ?_)))) | (refine zZ.is ?_; first | refine zZ.seq ?_ | (refine zZ.iR 1 ?_; refine zZ.rc [0, 1, 4, 5, 6, 7, 8, 13, 19, 34] [1000] (r := (.v yY (.v xD (.v zH (.v zL (.v vK .e)))))) (h := ?_)) | (refine zZ.iR 2 ?_; refine zZ.rc [0, 1, 4, 5, 6, 7, 8, 13, 19, 34] [1000] (r := (.v yY .e)) (h := ?_)) | (refine zZ.iR 3 ?_; refine zZ.rc [0, 1, 4, 5, 6, 7, 8, 13, 19, 34] [1000] (r := (.v zX .e)) (h := ?_)) | (refine zZ.iR 4 ?_; refine zZ.rc [0, 1, 4, 5, 6, 7, 8, 13, 19, 34] [1000] (r := (.v zX (.v wT .e))) (h := ?_)) | (refine zZ.iR 5 ?_; refine zZ.rc [0, 1, 4, 5, 6, 7, 8, 13, 19, 34] [1000] (r := (.v zW .e)) (h := ?_)) | (refine zZ.iR 6 ?_; refine zZ.rc [0, 1, 4, 5, 6, 7, 8, 13, 19, 34] [1000] (r := (.v yY (.v zX (.v zX .e)))) (h := ?_)) | (refine zZ.iR 7 ?_; refine zZ.rc [0, 1, 4, 5, 6, 7, 8, 13, 19, 34] [1000] (r := (.v yY (.v zX (.v zX (.v zX .e))))) (h := ?_)) | (refine zZ.iR 8 ?_; refine zZ.rc [0, 1, 4, 5, 6, 7, 8, 13, 19, 34] [1000] (r := (.v zX .e)) (h := ?_)) | (refine zZ.iR 9 ?_; refine zZ.rc [0, 1, 4, 5, 6, 7, 8, 13, 19, 34] [1000] (r := (.v zX (.v zW .e))) (h := ?_)) | refine zZ.yB rfl bA ?_ | refine zZ.cond rfl (fun h => ?_) (fun h => ?_) | refine zZ.skip ?_ | refine zZ.block ?_ | refine zZ.ret ?_) | refine zK.n ?_ | refine zK.r ?_ | refine zI.n ?_ | refine zI.r ?_)
      all_goals first
        | (refine .ret (x := (0 : Int)) (by exact .inl rfl) (.one rfl rfl) aQ_ rf_0 hj ?_; refine (ha.round (r := .inr (0 : Int)) ?_ hj).ret; unfold vN; repeat' (first | exact Rel.ret _ | refine Rel.bind (by assumption) ?_ | refine Rel.yes (by assumption) ?_))
        | (refine .ret (x := xA _) (by exact .inl rfl) (.one rfl rfl) aQ_ (vB _) hj ?_; refine (ha.round (r := .inr (xA _)) ?_ hj).ret; unfold vN; repeat' (first | refine Rel.bind (by assumption) ?_ | refine Rel.no (by assumption) ?_ | (simp only [cond_true, cond_false, *]; exact Rel.ret _)))
        | skip
      have hr : Rel L (vN t ()) ω (.inl ()) τ := by
        unfold vN
        repeat' (first | refine Rel.bind (by assumption) ?_ | refine Rel.no (by assumption) ?_ | (simp only [cond_true, cond_false, *]; exact Rel.ret _))
      have hl := hr.less hL (fine_popR t ()) ⟨_, _, rfl⟩ hti hs'
      refine ⟨(m, τ), ?_, ⟨ha.round hr hj, by dsimp only at *; omega⟩, hl⟩
      exact zM K_2 K_0
def pushCF (L : List yQ) (t r : Int) (σ : CSt) : AS := { t := [(0, .ptr 1000 0), (1, .p (.val (.int .i64 t))), (2, .p (.val (.int .i64 r)))], s := [(1000, qL L σ)] }
theorem pushRef_c (L : List yQ) (hL : xB L) {t r : Int} (ht : Small t) (hr0 : Rf r) : FnC 112 [.p (.val (.int .i64 t)), .p (.val (.int .i64 r))] [] (fun _ => .any) (fun _ => []) yes L (pushP t r) := by
  have F1 := fun (w : Int) (h : U w) => wtag1 h
  have F2 := wfirst
  have cf := kP (hr0.rc ht) 7 (by decide)
  have ct := fun g => topRef_fn r g hr0.lo (by have := hr0.hi; omega)
  refine xS Tryz.func112 rfl Tryz.ntmps112 (Nat.le_of_ble_eq_true rfl) (by decide) fun σ0 hi0 => ?_
  repeat' ((refine zZ.is ?_; refine zZ.block ?_))
  have hm0 := wD hL (σ := σ0)
  refine zZ.loop (fun q : Nat × CSt => pushCF L t r q.2) (fun q => At L (pushP t r) σ0 (.loop (vV t r) q.1 ()) q.2 ∧ xL L q.2 ≤ q.1) (fun q => xL L q.2) (many, σ0) ?h0 ⟨.refl hi0, hm0⟩ ?rd
  case h0 =>
    exact zM K_f K_0
  case rd =>
    rintro ⟨m, ω⟩ ⟨ha, hm⟩
    dsimp only at ha hm ⊢
    unfold pushCF
    have hti := ha.i
    cases hs' : ω.stop
    case true =>
      have hst : (!ω.stop) = false := by rw [hs']; rfl
      repeat' (first | (refine zY.nil ?_) | (refine zZ.is ?_; first | refine zZ.seq ?_ | (refine zZ.iR 0 ?_; refine zZ.rc [0, 1, 2, 6, 7, 12, 31] [1000] (r := (.v yY (.v xD (.v zH (.v zL (.v vK .e)))))) (h := ?_)) | refine zZ.yA rfl bA ?_ | refine zZ.exit ?_) | refine zK.n ?_ | refine zI.eY ?_ | refine zK.e ?_)
      all_goals exact .ret (x := ()) (by exact .inr rfl) (.none rfl) aQ_ trivial ha.i (ha.halt hs' _)
    case false =>
      have hst : (!ω.stop) = true := by rw [hs']; rfl
      obtain ⟨m, rfl⟩ := vJ hm hs'
      repeat' (first | (refine zY.is ?_; first | refine zY.nil ?_ | (refine zY.at_ 19 rfl ?_; refine zY.rc (.v zX .e) ?_) | (refine zY.at_ 21 rfl ?_; refine zY.rc (.v v6_2 .e) ?_) | (refine zY.at_ 28 rfl ?_; refine zY.rc (.v v30_1 .e) ?_) | (refine zY.at_ 6 rfl ?_; refine zY.rc (.v zW .e) ?_) | (refine zY.at_ 7 rfl ?_; refine zY.rc (.v zW .e) ?_) | (refine zY.in_ [18] rfl ?_; refine zY.v rfl rfl (zG (cf) rfl rfl rfl (by decide)) ?_) | (refine zY.in_ [20] rfl ?_; refine zY.v rfl rfl (zG (firstRef_fn _ (U.lo (by assumption)) (U.hi (by assumption))) rfl rfl rfl (by decide)) ?_) | (refine zY.in_ [27] rfl ?_; refine zY.v rfl rfl (zG (tagRef_fn _ (U.lo (by assumption)) (U.hi (by assumption))) rfl rfl rfl (by decide)) ?_) | (refine zY.in_ [29] rfl ?_; refine zY.v rfl rfl (zG (ct _ (tag1 (by assumption))) rfl rfl rfl (by decide)) ?_) | (refine zY.in_ [14] rfl ?_; refine zY.ofT rfl (zA.cu (i := [1000]) (f := xP L hL _) (r := fun x τ e g hj => ?_))) | (refine zY.in_ [22] rfl ?_; refine zY.ofT rfl (zA.cu (i := [1000]) (f := cstore_c L hL _ _) (r := fun x τ e g hj => ?_))) | (refine zY.in_ [30] rfl ?_; refine zY.ofT rfl (zA.cu (i := [1000]) (f := ccas_c L hL _ _ _) (r := fun x τ e g hj => ?_)))) | (refine zZ.is ?_; first | refine zZ.seq ?_ | (refine zZ.iR 0 ?_; refine zZ.rc [0, 1, 2, 6, 7, 12, 31] [1000] (r := (.v yY (.v xD (.v zH (.v zL (.v vK .e)))))) (h := ?_)) | (refine zZ.iR 1 ?_; refine zZ.rc [0, 1, 2, 6, 7, 12, 31] [1000] (r := (.v yY .e)) (h := ?_)) | (refine zZ.iR 2 ?_; refine zZ.rc [0, 1, 2, 6, 7, 12, 31] [1000] (r := (.v yY (.v zX (.v zX .e)))) (h := ?_)) | (refine zZ.iR 3 ?_; refine zZ.rc [0, 1, 2, 6, 7, 12, 31] [1000] (r := (.v yY (.v zX (.v zX (.v zX .e))))) (h := ?_)) | (refine zZ.iR 4 ?_; refine zZ.rc [0, 1, 2, 6, 7, 12, 31] [1000] (r := (.v zX .e)) (h := ?_)) | refine zZ.yB rfl bA ?_ | refine zZ.cond rfl (fun h => ?_) (fun h => ?_) | refine zZ.skip ?_ | refine zZ.block ?_ | refine zZ.ret ?_) | refine zK.n ?_ | refine zK.r ?_ | refine zI.n ?_ | refine zI.r ?_)
      all_goals first
        | (refine .ret (x := ()) (by exact .inl rfl) (.none rfl) aQ_ trivial hj ?_; refine (ha.round (r := .inr ()) ?_ hj).ret; unfold vV; repeat' (first | refine Rel.bind (by assumption) ?_ | (simp only [cond_true, cond_false, *]; exact Rel.ret _)))
        | skip
      have hr : Rel L (vV t r ()) ω (.inl ()) τ := by
        unfold vV
        repeat' (first | refine Rel.bind (by assumption) ?_ | (simp only [cond_true, cond_false, *]; exact Rel.ret _))
      have hl := hr.less hL (fine_pushR t hr0 ()) ⟨_, _, rfl⟩ hti hs'
      refine ⟨(m, τ), ?_, ⟨ha.round hr hj, by dsimp only at *; omega⟩, hl⟩
      exact zM K_f K_0
theorem pinRef_c (L : List yQ) (hL : xB L) {me : Int} (hm : Small me) : FnC 108 [.p (.val (.int .i64 me))] [] (fun _ => .any) (fun _ => []) yes L (pinP me) := by
  have cp := pinRef_fn me hm
  have F1 := fun e : Int => (rfl : IntKind.u64.wrap (e + 1) = wr1 e)
  refine xS Tryz.func108 rfl Tryz.ntmps108 (Nat.le_of_ble_eq_true rfl) (by decide) fun σ0 hi0 => ?_
  repeat' (first | (refine zY.is ?_; first | refine zY.nil ?_ | (refine zY.at_ 10 rfl ?_; refine zY.rc (.v zX (.v v30_1 .e)) ?_) | (refine zY.at_ 4 rfl ?_; refine zY.rc (.v zW .e) ?_) | (refine zY.in_ [9] rfl ?_; refine zY.v rfl rfl (zG (cp) rfl rfl rfl (by decide)) ?_) | (refine zY.in_ [6] rfl ?_; refine zY.ofT rfl (zA.cu (i := [1000]) (f := xP L hL _) (r := fun x τ e g hj => ?_))) | (refine zY.in_ [12] rfl ?_; refine zY.ofT rfl (zA.cu (i := [1000]) (f := cstore_c L hL _ _) (r := fun x τ e g hj => ?_)))) | (refine zZ.is ?_; first | refine zZ.seq ?_ | (refine zZ.iR 0 ?_; refine zZ.rc [0, 1] [1000] (r := (.v yY .e)) (h := ?_)) | (refine zZ.iR 1 ?_; refine zZ.rc [0, 1, 4] [1000] (r := (.v yY (.v zX .e))) (h := ?_))) | refine zK.n ?_)
  all_goals (exact .ret (by exact .inr rfl) (by exact .none rfl) aQ_ (by assumption) (by assumption) (by unfold pinP; repeat' (first | assumption | refine Rel.bind (by assumption) ?_)))
theorem unpinRef_c (L : List yQ) (hL : xB L) {me : Int} (hm : Small me) : FnC 114 [.p (.val (.int .i64 me))] [] (fun _ => .any) (fun _ => []) yes L (unpinP me) := by
  have cp := pinRef_fn me hm
  refine xS Tryz.func114 rfl Tryz.ntmps114 (Nat.le_of_ble_eq_true rfl) (by decide) fun σ0 hi0 => ?_
  repeat' (first | (refine zY.is ?_; first | refine zY.nil ?_ | (refine zY.in_ [6] rfl ?_; refine zY.v rfl rfl (zG (cp) rfl rfl rfl (by decide)) ?_) | (refine zY.in_ [7] rfl ?_; refine zY.ofT rfl (zA.cu (i := [1000]) (f := cstore_c L hL _ _) (r := fun x τ e g hj => ?_)))) | (refine zZ.is ?_; (refine zZ.iR 0 ?_; refine zZ.rc [0, 1] [1000] (r := (.v yY (.v zX .e))) (h := ?_))))
  all_goals (exact .ret (by exact .inr rfl) (by exact .none rfl) aQ_ (by assumption) (by assumption) (by unfold unpinP; repeat' (assumption)))
def advCF (L : List yQ) (t e : Int) (i : Nat) (σ : CSt) : AS := { t := [(0, .ptr 1000 0), (1, .p (.val (.int .i64 t))), (4, .p (.val (.bool false))), (5, .p (.val (.int .u64 e))), (6, .p (.val (.int .i64 (i : Nat))))], s := [(1000, qL L σ)] }
def chCF (L : List yQ) (t r : Int) (σ : CSt) : AS := { t := [(0, .ptr 1000 0), (1, .p (.val (.int .i64 t))), (4, .p (.val (.bool false))), (9, .p (.val (.int .i64 r)))], s := [(1000, qL L σ)] }
theorem andF1 {a b : Bool} (ha : a = false) : (a && b) = false := by subst ha; rfl
theorem andF2 {a b : Bool} (hb : b = false) : (a && b) = false := by subst hb; cases a <;> rfl
theorem andT {a b : Bool} (ha : a = true) (hb : b = true) : (a && b) = true := by subst ha hb; rfl
theorem advanceRef_c (L : List yQ) (hL : xB L) {t : Int} (ht : Small t) (t0 : 0 ≤ t) : FnC 166 [.p (.val (.int .i64 t))] [] (fun b => .p (.val (.bool b))) (fun _ => []) yes L (xG t) := by
  have F1 := fun e : Int => (rfl : IntKind.u64.wrap (e + 1) = wr1 e)
  have F2 := fun e : Int => (rfl : IntKind.u64.wrap (e + 2) = wr2 e)
  refine xS Tryz.func166 rfl Tryz.ntmps166 (Nat.le_of_ble_eq_true rfl) (by decide) fun σ0 hi0 => ?_
  repeat' (first | (refine zY.is ?_; first | refine zY.nil ?_ | (refine zY.at_ 5 rfl ?_; refine zY.rc (.v zW .e) ?_) | (refine zY.in_ [12] rfl ?_; refine zY.ofT rfl (zA.cu (i := [1000]) (f := xP L hL _) (r := fun x τ e g hj => ?_)))) | (refine zZ.is ?_; first | refine zZ.seq ?_ | (refine zZ.iR 0 ?_; refine zZ.rc [0, 1] [1000] (r := (.v zW .e)) (h := ?_)) | (refine zZ.iR 1 ?_; refine zZ.rc [0, 1, 4] [1000] (r := (.v yY .e)) (h := ?_)) | (refine zZ.iR 2 ?_; refine zZ.rc [0, 1, 4, 5] [1000] (r := (.v zW .e)) (h := ?_)) | refine zZ.block ?_) | refine zK.n ?_)
  rename Int => e0
  rename CSt => τ0
  have hx := g
  have h0 : At L (xG t) σ0 ((scanP e0 (t.toNat - 0) 0).bind (qK t e0)) τ0 := (At.refl hi0).step e hj
  have hm0 := wD hL (σ := τ0)
  refine zZ.loop (fun q : Nat × CSt => advCF L t e0 q.1 q.2) (fun q => q.1 ≤ t.toNat ∧ At L (xG t) σ0 ((scanP e0 (t.toNat - q.1) q.1).bind (qK t e0)) q.2) (fun q => t.toNat - q.1) (0, τ0) ?h0 ⟨Nat.zero_le _, h0⟩ ?rd
  case h0 =>
    exact zM K_1b K_0
  case rd =>
    clear h0 e g hj hm0
    rintro ⟨i, ω⟩ ⟨hi, ha⟩
    dsimp only at hi ha ⊢
    unfold advCF
    have hti := ha.i
    by_cases hlt : i < t.toNat
    case pos =>
      have f1 : decide ((i : Int) < t) = true := decide_eq_true (by omega)
      have hsm : Small ((i : Nat) : Int) := ⟨by omega, by have := ht.2; omega⟩
      have cp := pinRef_fn ((i : Nat) : Int) hsm
      have f2 : IntKind.i64.wrap ((i : Nat) + 1) = ((i + 1 : Nat) : Int) := by rw [wrap_i64 _ (by have := hsm.2; omega)]; omega
      rw [show t.toNat - i = (t.toNat - (i + 1)) + 1 by omega, scanP] at ha
      repeat' (first | (refine zY.is ?_; first | refine zY.nil ?_ | (refine zY.at_ 25 rfl ?_; refine zY.rc (.gY zX (.gY zX (.gY v30_1 (.gY kE (.v yH .e))))) ?_) | (refine zY.at_ 25 rfl ?_; refine zY.rc (.gT (.gT (.gT (.gT (.v yP .e))))) ?_) | (refine zY.at_ 7 rfl ?_; refine zY.rc (.v zW .e) ?_) | (refine zY.in_ [20] rfl ?_; refine zY.v rfl rfl (zG (cp) rfl rfl rfl (by decide)) ?_) | (refine zY.in_ [21] rfl ?_; refine zY.ofT rfl (zA.cu (i := [1000]) (f := xP L hL _) (r := fun x τ e g hj => ?_))) | (fail_if_success refine zY.known rfl rfl rfl (by fail) ?_); refine zY.split rfl rfl rfl (fun h => ?_) (fun h => ?_)) | (refine zZ.is ?_; first | refine zZ.seq ?_ | (refine zZ.iR 3 ?_; refine zZ.rc [0, 1, 4, 5, 6, 7, 15, 29] [1000] (r := (.v zX (.v zX (.v yU .e)))) (h := ?_)) | (refine zZ.iR 5 ?_; refine zZ.rc [0, 1, 4, 5, 6, 7, 15, 29] [1000] (r := (.v yY (.v zX .e))) (h := ?_)) | (refine zZ.iR 6 ?_; refine zZ.rc [0, 1, 4, 5, 6, 7, 15, 29] [1000] (r := (.v zX (.v kE (.v zX .e)))) (h := ?_)) | (refine zZ.iR 7 ?_; refine zZ.rc [0, 1, 4, 5, 6, 7, 15, 29] [1000] (r := (.v zW .e)) (h := ?_)) | (refine zZ.iR 4 ?_; refine zZ.rc [0, 1, 4, 5, 6, 7, 15, 29] [1000] (r := (.v zX (.v qQ (.v zW .e)))) (h := ?_)) | refine zZ.yB rfl bA ?_ | refine zZ.yA rfl bA ?_ | refine zZ.cond rfl (fun h => ?_) (fun h => ?_) | refine zZ.skip ?_ | refine zZ.block ?_ | refine zZ.ret ?_) | refine zK.n ?_ | refine zK.r ?_ | refine zI.n ?_ | refine zI.r ?_)
      all_goals first
        | exact .ret (x := false) (.inl rfl) (.one rfl rfl) aQ_ trivial hj ((ha.step (f := qK t e0) (Rel.bind e (Rel.yes (andT (by assumption) (by assumption)) (Rel.ret false))) hj).go _ _ (Rel.ret false))
        | skip
      all_goals
        have hb : (!decide (x = 0) && !decide (x = wr1 e0)) = false := by
          first
            | exact andF1 (by assumption)
            | exact andF2 (by assumption)
        refine ⟨(i + 1, τ), ?_, ⟨hlt, hj, fun y υ hy => ha.go y υ ?_⟩, by show t.toNat - (i + 1) < t.toNat - i; omega⟩
        · exact zM K_1b K_0
        · rw [Pr.bind_assoc]
          refine Rel.bind e ?_
          rw [hb, cond_false]
          exact hy
    case neg =>
      have f1 : decide ((i : Int) < t) = false := decide_eq_false (by omega)
      rw [show t.toNat - i = 0 by omega, scanP] at ha
      have hm0 := wD hL (σ := ω)
      have ha1 : At L (xG t) σ0 (qK t e0 true) ω := ha
      unfold qK at ha1
      rw [cond_true] at ha1
      repeat' (first | (refine zY.is ?_; first | refine zY.nil ?_ | (refine zY.at_ 8 rfl ?_; refine zY.rc (.v zW .e) ?_) | (refine zY.at_ 9 rfl ?_; refine zY.rc (.v zW .e) ?_) | (refine zY.in_ [40] rfl ?_; refine zY.v rfl rfl (zG (limboRef_fn _ (U.lo (wr2_U _))) rfl rfl rfl (by decide)) ?_) | (refine zY.in_ [42] rfl ?_; refine zY.v rfl rfl (zG (firstRef_fn _ (U.lo (by assumption)) (U.hi (by assumption))) rfl rfl rfl (by decide)) ?_) | (refine zY.in_ [34] rfl ?_; refine zY.ofT rfl (zA.cu (i := [1000]) (f := ccas_c L hL _ _ _) (r := fun x τ e g hj => ?_))) | (refine zY.in_ [41] rfl ?_; refine zY.ofT rfl (zA.cu (i := [1000]) (f := cswap_c L hL _ _) (r := fun x τ e g hj => ?_)))) | (refine zZ.is ?_; first | refine zZ.seq ?_ | (refine zZ.iR 3 ?_; refine zZ.rc [0, 1, 4, 5, 6, 7, 15, 29] [1000] (r := (.v zX (.v zX (.v yU .e)))) (h := ?_)) | (refine zZ.iR 8 ?_; refine zZ.rc [0, 1, 4, 5] [1000] (r := (.v yY (.v zX (.v zX (.v v30_1 .e))))) (h := ?_)) | (refine zZ.iR 9 ?_; refine zZ.rc [0, 1, 4, 5, 8] [1000] (r := (.v zX (.v wU .e))) (h := ?_)) | (refine zZ.iR 10 ?_; refine zZ.rc [0, 1, 4, 5] [1000] (r := (.v zW .e)) (h := ?_)) | (refine zZ.iR 11 ?_; refine zZ.rc [0, 1, 4, 5] [1000] (r := (.v yY (.v zX (.v v30_2 .e)))) (h := ?_)) | refine zZ.yA rfl bA ?_ | refine zZ.cond rfl (fun h => ?_) (fun h => ?_) | refine zZ.skip ?_ | refine zZ.block ?_ | refine zZ.exit ?_ | refine zZ.ret ?_) | refine zK.n ?_ | refine zK.r ?_ | refine zI.eY ?_ | refine zK.e ?_)
      all_goals try simp only [Bool.not_eq_true', Bool.not_eq_false'] at *
      all_goals first
        | exact .ret (x := false) (.inl rfl) (.one rfl rfl) aQ_ trivial hj (ha1.go _ _ (Rel.bind e (Rel.no (by assumption) (Rel.ret false))))
        | skip
      rename_i d τ1 e1 g1 hj1
      have hm1 := wD hL (σ := τ)
      have ha2 : At L (xG t) σ0 ((chainL t (pushP t) many (xA x)).bind fun _ => .ret true) τ := ⟨hj, fun y υ hy => ha1.go y υ (Rel.bind e1 (Rel.yes (by assumption) (Rel.bind e hy)))⟩
      refine zZ.loop (fun q : Nat × Int × CSt => chCF L t q.2.1 q.2.2) (fun q => At L (xG t) σ0 ((chainL t (pushP t) q.1 q.2.1).bind fun _ => .ret true) q.2.2 ∧ xL L q.2.2 ≤ q.1 ∧ Rf q.2.1) (fun q => xL L q.2.2) (many, xA x, τ) ?h1 ⟨ha2, hm1, vB _⟩ ?rd2
      case h1 =>
        exact zM K_1c K_0
      case rd2 =>
        clear ha ha1 ha2 e e1 hm0 hm1 hj hj1 g hti
        rintro ⟨m, r, ω2⟩ ⟨ha, hm, hr0⟩
        dsimp only at ha hm hr0 ⊢
        unfold chCF
        have hti := ha.i
        cases hz : decide (r = 0)
        case true =>
          obtain rfl : r = 0 := of_decide_eq_true hz
          have hz' : (!decide ((0 : Int) = 0)) = false := rfl
          repeat' (first | (refine zY.nil ?_) | (refine zZ.is ?_; first | refine zZ.seq ?_ | (refine zZ.iR 12 ?_; refine zZ.rc [0, 1, 4, 9, 10, 51] [1000] (r := (.v zX (.v vY (.v zX (.gT (.gT (.gT (.gT (.gT (.v yP .e)))))))))) (h := ?_)) | (refine zZ.iR 16 ?_; refine zZ.rc [4] [1000] (r := (.v zW .e)) (h := ?_)) | refine zZ.yA rfl bA ?_ | refine zZ.exit ?_ | refine zZ.ret ?_) | refine zK.n ?_ | refine zI.eY ?_ | refine zK.e ?_)
          all_goals exact .ret (x := true) (.inl rfl) (.one rfl rfl) aQ_ trivial hti (show At L (xG t) σ0 (.ret true) ω2 from ha).ret
        case false =>
          have hz' : (!decide (r = 0)) = true := by rw [hz]; rfl
          cases hs : ω2.stop
          case true =>
            have hst : (!ω2.stop) = false := by rw [hs]; rfl
            repeat' (first | (refine zY.nil ?_) | (refine zZ.is ?_; first | refine zZ.seq ?_ | (refine zZ.iR 12 ?_; refine zZ.rc [0, 1, 4, 9, 10, 51] [1000] (r := (.v zX (.v vY (.v zX (.gY yY (.gY xD (.gY zH (.gY zL (.gY vK (.v yH .e)))))))))) (h := ?_)) | (refine zZ.iR 16 ?_; refine zZ.rc [4] [1000] (r := (.v zW .e)) (h := ?_)) | refine zZ.yA rfl bA ?_ | refine zZ.exit ?_ | refine zZ.ret ?_) | refine zK.n ?_ | refine zI.eY ?_ | refine zK.e ?_)
            all_goals exact .ret (x := true) (.inl rfl) (.one rfl rfl) aQ_ trivial hti (ha.halt hs _)
          case false =>
            have hst : (!ω2.stop) = true := by rw [hs]; rfl
            obtain ⟨m, rfl⟩ := vJ hm hs
            have ha2 : At L (xG t) σ0 ((Pr.loop (vE t (pushP t)) (m + 1) r).bind fun _ => .ret true) ω2 := by
              have h3 := ha
              unfold chainL at h3
              rw [hz] at h3
              exact h3
            clear ha
            repeat' (first | (refine zY.is ?_; first | refine zY.nil ?_ | (refine zY.at_ 10 rfl ?_; refine zY.rc (.v zW .e) ?_) | (refine zY.at_ 9 rfl ?_; refine zY.rc (.v zW .e) ?_) | (refine zY.in_ [55] rfl ?_; refine zY.v rfl rfl (zG (kP (hr0.rc ht) 7 (by decide)) rfl rfl rfl (by decide)) ?_) | (refine zY.in_ [62] rfl ?_; refine zY.v rfl rfl (zG (firstRef_fn _ (U.lo (by assumption)) (U.hi (by assumption))) rfl rfl rfl (by decide)) ?_) | (refine zY.in_ [56] rfl ?_; refine zY.ofT rfl (zA.cu (i := [1000]) (f := xP L hL _) (r := fun x τ e g hj => ?_))) | (refine zY.in_ [60] rfl ?_; refine zY.ofT rfl (zA.cu (i := [1000]) (f := pushRef_c L hL ht hr0) (r := fun x τ e g hj => ?_)))) | (refine zZ.is ?_; first | refine zZ.seq ?_ | (refine zZ.iR 12 ?_; refine zZ.rc [0, 1, 4, 9, 10, 51] [1000] (r := (.v zX (.v vY (.v zX (.gY yY (.gY xD (.gY zH (.gY zL (.gY vK (.v yH .e)))))))))) (h := ?_)) | (refine zZ.iR 13 ?_; refine zZ.rc [0, 1, 4, 9, 10, 51] [1000] (r := (.v yY (.v zX (.v zX .e)))) (h := ?_)) | (refine zZ.iR 14 ?_; refine zZ.rc [0, 1, 4, 9, 10, 51] [1000] (r := (.v yY (.v zX (.v zX .e)))) (h := ?_)) | (refine zZ.iR 15 ?_; refine zZ.rc [0, 1, 4, 9, 10, 51] [1000] (r := (.v zX .e)) (h := ?_)) | refine zZ.yB rfl bA ?_ | refine zZ.skip ?_ | refine zZ.block ?_) | refine zK.n ?_ | refine zI.n ?_)
            rename_i n0 τ2 e2 g2 hj2
            have hr : Rel L (vE t (pushP t) r) ω2 (endC (xA n0)) τ := Rel.bind e2 (Rel.bind e (Rel.ret _))
            have hl := hr.less hL (fine_chainR t (fun r hr => fine_push t hr) r hr0) ⟨_, _, rfl⟩ hti hs
            refine ⟨(m, xA n0, τ), ?_, ⟨by have h3 := ha2.qY hr hj; rw [chainL_eq] at h3; exact h3, by dsimp only at *; omega, vB _⟩, hl⟩
            exact zM K_1c K_0
def allCF (L : List yQ) (t me r : Int) (i : Nat) (σ : CSt) : AS := { t := [(0, .ptr 1000 0), (1, .p (.val (.int .i64 t))), (2, .p (.val (.int .i64 me))), (6, .p (.val (.int .i64 0))), (7, .p (.val (.int .i64 r))), (8, .p (.val (.int .i64 (i : Nat))))], s := [(1000, qL L σ)] }
theorem allocRef_c (L : List yQ) (hL : xB L) {t me : Int} (ht : Small t) (t0 : 0 ≤ t) (hme : Small me) : FnC 110 [.p (.val (.int .i64 t)), .p (.val (.int .i64 me))] [] (fun r => .p (.val (.int .i64 r))) (fun _ => []) Rf L (allocP t me) := by
  refine xS Tryz.func110 rfl Tryz.ntmps110 (Nat.le_of_ble_eq_true rfl) (by decide) fun σ0 hi0 => ?_
  repeat' (first | (refine zY.is ?_; first | refine zY.nil ?_ | (refine zY.at_ 7 rfl ?_; refine zY.rc (.v zW .e) ?_) | (refine zY.in_ [11] rfl ?_; refine zY.ofT rfl (zA.cu (i := [1000]) (f := popRef_c L hL ht) (r := fun x τ e g hj => ?_)))) | (refine zZ.is ?_; first | refine zZ.seq ?_ | (refine zZ.iR 0 ?_; refine zZ.rc [0, 1, 2] [1000] (r := (.v zW .e)) (h := ?_)) | (refine zZ.iR 1 ?_; refine zZ.rc [0, 1, 2, 6] [1000] (r := (.v yY (.v zX .e))) (h := ?_)) | (refine zZ.iR 2 ?_; refine zZ.rc [0, 1, 2, 6, 7] [1000] (r := (.v zW .e)) (h := ?_)) | refine zZ.block ?_) | refine zK.n ?_)
  have h0 : At L (allocP t me) σ0 (allocL t me (3 - 0) x) τ := (At.refl hi0).step e hj
  refine zZ.loop (fun q : Nat × Int × CSt => allCF L t me q.2.1 q.1 q.2.2) (fun q => q.1 ≤ 3 ∧ Rf q.2.1 ∧ At L (allocP t me) σ0 (allocL t me (3 - q.1) q.2.1) q.2.2) (fun q => 3 - q.1) (0, x, τ) ?h0 ⟨Nat.zero_le _, g, h0⟩ ?rd
  case h0 =>
    exact zM K_g K_0
  case rd =>
    clear h0 hj g e
    rintro ⟨i, r, ω⟩ ⟨hi, hr, ha⟩
    dsimp only at hi hr ha ⊢
    unfold allCF
    have hti := ha.i
    by_cases hlt : i < 3
    case neg =>
      have f1 : decide ((i : Int) < 3) = false := decide_eq_false (by omega)
      rw [show 3 - i = 0 by omega, allocL] at ha
      repeat' (first | (refine zY.nil ?_) | (refine zZ.is ?_; first | refine zZ.seq ?_ | (refine zZ.iR 3 ?_; refine zZ.rc [0, 1, 2, 6, 7, 8, 13, 17] [1000] (r := (.v zX (.v yU .e))) (h := ?_)) | (refine zZ.iR 10 ?_; refine zZ.rc [6, 7] [1000] (r := (.v zX (.v zW .e))) (h := ?_)) | refine zZ.yA rfl bA ?_ | refine zZ.exit ?_ | refine zZ.ret ?_) | refine zK.n ?_ | refine zI.eY ?_ | refine zK.e ?_)
      all_goals exact .ret (x := r) (.inl rfl) (.one rfl rfl) aQ_ hr hti ha.ret
    case pos =>
      have f1 : decide ((i : Int) < 3) = true := decide_eq_true (by omega)
      have f2 : IntKind.i64.wrap ((i : Nat) + 1) = ((i + 1 : Nat) : Int) := by rw [wrap_i64 _ (by omega)]; omega
      rw [show 3 - i = (3 - (i + 1)) + 1 by omega, allocL] at ha
      cases hz : decide (r = 0)
      case false =>
        rw [hz, cond_false] at ha
        have hz' : (!decide (r = 0)) = true := by rw [hz]; rfl
        repeat' (first | (refine zY.nil ?_) | (refine zZ.is ?_; first | refine zZ.seq ?_ | (refine zZ.iR 3 ?_; refine zZ.rc [0, 1, 2, 6, 7, 8, 13, 17] [1000] (r := (.v zX (.v yU .e))) (h := ?_)) | (refine zZ.iR 5 ?_; refine zZ.rc [0, 1, 2, 6, 7, 8, 13, 17] [1000] (r := (.v zX (.v vY .e))) (h := ?_)) | (refine zZ.iR 6 ?_; refine zZ.rc [0, 1, 2, 6, 7, 8, 13, 17] [1000] (r := (.v zX (.v zW .e))) (h := ?_)) | refine zZ.yB rfl bA ?_ | refine zZ.skip ?_ | refine zZ.block ?_ | refine zZ.ret ?_) | refine zK.n ?_ | refine zK.r ?_ | refine zI.r ?_)
        all_goals exact .ret (x := r) (.inl rfl) (.one rfl rfl) aQ_ hr hti ha.ret
      case true =>
        rw [hz, cond_true] at ha
        have hz' : (!decide (r = 0)) = false := by rw [hz]; rfl
        repeat' (first | (refine zY.is ?_; first | refine zY.nil ?_ | (refine zY.at_ 7 rfl ?_; refine zY.rc (.v zW .e) ?_) | (refine zY.in_ [27] rfl ?_; refine zY.ofT rfl (zA.cu (i := [1000]) (f := popRef_c L hL ht) (r := fun x τ e g hj => ?_))) | (refine zY.in_ [21] rfl ?_; refine zY.ofT rfl (zA.cu (i := [1000]) (f := pinRef_c L hL hme) (r := fun x τ e g hj => ?_))) | (refine zY.in_ [24] rfl ?_; refine zY.ofT rfl (zA.cu (i := [1000]) (f := advanceRef_c L hL ht t0) (r := fun x τ e g hj => ?_)))) | (refine zZ.is ?_; first | refine zZ.seq ?_ | (refine zZ.iR 3 ?_; refine zZ.rc [0, 1, 2, 6, 7, 8, 13, 17] [1000] (r := (.v zX (.v yU .e))) (h := ?_)) | (refine zZ.iR 5 ?_; refine zZ.rc [0, 1, 2, 6, 7, 8, 13, 17] [1000] (r := (.v zX (.v vY .e))) (h := ?_)) | (refine zZ.iR 7 ?_; refine zZ.rc [0, 1, 2, 6, 7, 8, 13, 17] [1000] (r := (.v yY (.v zX .e))) (h := ?_)) | (refine zZ.iR 8 ?_; refine zZ.rc [0, 1, 2, 6, 7, 8, 13, 17] [1000] (r := (.v yY (.v zX .e))) (h := ?_)) | (refine zZ.iR 9 ?_; refine zZ.rc [0, 1, 2, 6, 7, 8, 13, 17] [1000] (r := (.v yY (.v zX .e))) (h := ?_)) | (refine zZ.iR 4 ?_; refine zZ.rc [0, 1, 2, 6, 7, 8, 13, 17] [1000] (r := (.v zX (.v qQ (.v zW .e)))) (h := ?_)) | refine zZ.yB rfl bA ?_ | refine zZ.yA rfl bA ?_ | refine zZ.skip ?_ | refine zZ.block ?_) | refine zK.n ?_ | refine zI.n ?_)
        rename_i u1 τ1 e1 g1 hj1 u2 τ2 e2 g2 hj2
        refine ⟨(i + 1, x, τ), ?_, ⟨by show i + 1 ≤ 3; omega, g, hj, fun y υ hy => ha.go y υ (Rel.bind e1 (Rel.bind e2 (Rel.bind e hy)))⟩, by show 3 - (i + 1) < 3 - i; omega⟩
        exact zM K_g K_0
theorem makeRef_c (L : List yQ) (hL : xB L) {t r : Int} (hR : Rc t r) (k s y u v z q : Int) :
    FnC 111 [.p (.val (.int .i64 t)), .p (.val (.int .i64 r)), .p (entV k s y u v z), .p (.val (.int .u64 q))] [] (fun x => .p (.val (.int .u64 x))) (fun _ => []) U L (makeP t r y q u v z) := by
  have cf := fun f hf => kP hR f hf
  refine xS Tryz.func111 rfl Tryz.ntmps111 (Nat.le_of_ble_eq_true rfl) (by decide) fun σ0 hi0 => ?_
  repeat' (first | (refine zY.is ?_; first | refine zY.nil ?_ | (refine zY.at_ 11 rfl ?_; refine zY.rc (.v zW .e) ?_) | (refine zY.at_ 18 rfl ?_; refine zY.rc (.v zX (.v v30_6 .e)) ?_) | (refine zY.at_ 33 rfl ?_; refine zY.rc (.v zX .e) ?_) | (refine zY.in_ [17, 32] rfl ?_; refine zY.v rfl rfl (zG (cf _ (by decide)) rfl rfl rfl (by decide)) ?_) | (refine zY.in_ [20] rfl ?_; refine zY.v rfl rfl (zG (flagRef_fn _ _ (wrapU_U _).1) rfl rfl rfl (by decide)) ?_) | (refine zY.in_ [13] rfl ?_; refine zY.ofT rfl (zA.cu (i := [1000]) (f := cadd_c L hL _ _) (r := fun x τ e g hj => ?_))) | (refine zY.in_ [21, 34] rfl ?_; refine zY.ofT rfl (zA.cu (i := [1000]) (f := cstore_c L hL _ _) (r := fun x τ e g hj => ?_)))) | (refine zZ.is ?_; first | refine zZ.seq ?_ | (refine zZ.iR 0 ?_; refine zZ.rc [0, 1, 2, 3, 4] [8, 1000] (r := (.m yI (.v zW .e))) (h := ?_)) | (refine zZ.iR 1 ?_; refine zZ.rc [0, 1, 2, 4, 8, 10] [8, 1000] (r := (.v yY .e)) (h := ?_)) | (refine zZ.iR 2 ?_; refine zZ.rc [0, 1, 2, 4, 8, 10, 11] [8, 1000] (r := (.v yY (.v zX (.v zX .e)))) (h := ?_)) | (refine zZ.iR 3 ?_; refine zZ.rk [0, 1, 2, 4, 8, 10, 11] [8, 1000] ?_; refine zZ.draws ?_) | (refine zZ.iR 4 ?_; refine zZ.rc [0, 1, 2, 4, 8, 10, 11] [8, 1000] (r := (.v yY (.v zX (.v zX .e)))) (h := ?_)) | (refine zZ.iR 5 ?_; refine zZ.rk [0, 1, 2, 8, 10, 11] [8, 1000] ?_; refine zZ.draws ?_) | (refine zZ.iR 6 ?_; refine zZ.rk [0, 1, 2, 8, 10, 11] [8, 1000] ?_; refine zZ.draws ?_) | (refine zZ.iR 7 ?_; refine zZ.rk [0, 1, 2, 8, 10, 11] [8, 1000] ?_; refine zZ.draws ?_) | (refine zZ.iR 8 ?_; refine zZ.rc [10, 11] [8, 1000] (r := (.v zX (.v v30_6 (.v zW .e)))) (h := ?_)) | refine zZ.ret ?_) | refine zK.n ?_ | (refine Draws.is ?_; first | refine Draws.rc (.v yY (.v zX (.v zX .e))) ?_ | refine Draws.rc (.v zH (.v zL .e)) ?_ | (refine Draws.in_ [25, 38, 45, 52] rfl ?_; refine Draws.v rfl rfl (zG (cf _ (by decide)) rfl rfl rfl (by decide)) ?_) | refine Draws.done (by kernel_rfl) (by kernel_rfl) (by kernel_rfl) ?_) | (refine zF.is ?_; first | refine zF.nil ?_ | (refine zF.in_ [28, 41, 48, 55] rfl ?_; refine zF.ofT rfl (zA.cu (i := [1000]) (f := cstore_c L hL _ _) (r := fun x τ e g hj => ?_)))))
  all_goals (exact .ret (by exact .inl rfl) (by exact .one rfl rfl) aQ_ (by exact wrapU_U _) (by assumption) (by unfold makeP; refine Rel.bind (by assumption) (Rel.bind (x := ()) ?_ (Rel.ret _)); simp only [wN, wO]; repeat' (first | assumption | refine Rel.bind (by assumption) ?_)))
end
section
attribute [local irreducible] zY zZ Step zV Sub zF zA Fn zK zI
def seekF (L : List yQ) (t k x : Int) (σ : CSt) : AS := { t := [(0, .ptr 1000 0), (1, .p (.val (.int .i64 t))), (3, .p (.val (.int .u64 k))), (8, .p (.val (.int .i64 0))), (9, .p (.val (.bool false))), (10, .p (.val (.int .i64 x)))], s := [(1000, qL L σ)] }
theorem seekRef_c (L : List yQ) (hL : xB L) {t f k : Int} (ht : Small t) (hf : Rf f) : FnC 34 [.p (.val (.int .i64 t)), .p (.val (.int .i64 f)), .p (.val (.int .u64 k))] [] (fun r => .tup ([.val (.int .i64 r.1), .val (.bool r.2)].map .p)) (fun _ => []) SFound L (seekP t f k) := by
  have cn := cnextRef_fn t f ht hf.le
  refine xS Tryz.func34 rfl Tryz.ntmps34 (Nat.le_of_ble_eq_true rfl) (by decide) fun σ0 hi0 => ?_
  repeat' (first | (refine zY.is ?_; first | refine zY.nil ?_ | (refine zY.at_ 10 rfl ?_; refine zY.rc (.v zW .e) ?_) | (refine zY.in_ [15] rfl ?_; refine zY.v rfl rfl (zG (cn) rfl rfl rfl (by decide)) ?_) | (refine zY.in_ [17] rfl ?_; refine zY.v rfl rfl (zG (refRef_fn _ (U.lo (by assumption)) (U.hi (by assumption))) rfl rfl rfl (by decide)) ?_) | (refine zY.in_ [16] rfl ?_; refine zY.ofT rfl (zA.cu (i := [1000]) (f := xP L hL _) (r := fun x τ e g hj => ?_)))) | (refine zZ.is ?_; first | refine zZ.seq ?_ | (refine zZ.iR 0 ?_; refine zZ.rc [0, 1, 2, 3] [1000] (r := (.v zW (.v zW .e))) (h := ?_)) | (refine zZ.iR 1 ?_; refine zZ.rc [0, 1, 2, 3, 8, 9] [1000] (r := (.v yY (.v zX (.v zX .e)))) (h := ?_)) | refine zZ.block ?_) | refine zK.n ?_)
  rename Int => w0
  rename CSt => τ0
  have h0 : At L (seekP t f k) σ0 (contS t k many (xY w0)) τ0 := (At.refl hi0).step e hj
  have hm0 := wD hL (σ := τ0)
  refine zZ.loop (fun q : Nat × Int × CSt => seekF L t k q.2.1 q.2.2) (fun q => At L (seekP t f k) σ0 (contS t k q.1 q.2.1) q.2.2 ∧ xL L q.2.2 ≤ q.1 ∧ Rf q.2.1) (fun q => xL L q.2.2) (many, xY w0, τ0) ?h0 ⟨h0, hm0, wK _⟩ ?rd
  case h0 =>
    exact zM K_1d K_0
  case rd =>
    clear h0 e
    rintro ⟨m, y, ω⟩ ⟨ha, hm, hx⟩
    dsimp only at ha hm hx ⊢
    unfold seekF
    have hti := ha.i
    cases hz : decide (y = 0)
    case true =>
      obtain rfl : y = 0 := of_decide_eq_true hz
      have hz' : (!decide ((0 : Int) = 0)) = false := rfl
      repeat' (first | (refine zY.nil ?_) | (refine zZ.is ?_; first | refine zZ.seq ?_ | (refine zZ.iR 2 ?_; refine zZ.rc [0, 1, 3, 8, 9, 10, 11, 26, 34] [1000] (r := (.v zX (.v vY (.v zX (.gT (.gT (.gT (.gT (.gT (.v yP .e)))))))))) (h := ?_)) | (refine zZ.iR 7 ?_; refine zZ.rc [8, 9] [1000] (r := (.v zW (.v zW .e))) (h := ?_)) | refine zZ.yA rfl bA ?_ | refine zZ.exit ?_ | refine zZ.ret ?_) | refine zK.n ?_ | refine zI.eY ?_ | refine zK.e ?_)
      all_goals exact .ret (x := (0, false)) (.inl rfl) (.tup rfl (by decide) (.cons (.tmp rfl) (.cons (.tmp rfl) .nil))) aQ_ ⟨rf_0, fun h => by cases h⟩ hti (show At L (seekP t f k) σ0 (.ret (0, false)) ω from ha).ret
    case false =>
      have hz' : (!decide (y = 0)) = true := by rw [hz]; rfl
      cases hs : ω.stop
      case true =>
        have hst : (!ω.stop) = false := by rw [hs]; rfl
        repeat' (first | (refine zY.nil ?_) | (refine zZ.is ?_; first | refine zZ.seq ?_ | (refine zZ.iR 2 ?_; refine zZ.rc [0, 1, 3, 8, 9, 10, 11, 26, 34] [1000] (r := (.v zX (.v vY (.v zX (.gY yY (.gY xD (.gY zH (.gY zL (.gY vK (.v yH .e)))))))))) (h := ?_)) | (refine zZ.iR 7 ?_; refine zZ.rc [8, 9] [1000] (r := (.v zW (.v zW .e))) (h := ?_)) | refine zZ.yA rfl bA ?_ | refine zZ.exit ?_ | refine zZ.ret ?_) | refine zK.n ?_ | refine zI.eY ?_ | refine zK.e ?_)
        all_goals exact .ret (x := (0, false)) (.inl rfl) (.tup rfl (by decide) (.cons (.tmp rfl) (.cons (.tmp rfl) .nil))) aQ_ ⟨rf_0, fun h => by cases h⟩ hti (ha.halt hs _)
      case false =>
        have hst : (!ω.stop) = true := by rw [hs]; rfl
        obtain ⟨m, rfl⟩ := vJ hm hs
        have ha2 : At L (seekP t f k) σ0 (.loop (vL t k) (m + 1) y) ω := by
          have h3 := ha
          unfold contS at h3
          rw [hz] at h3
          exact h3
        have hw : SOK y := ⟨hx, hz⟩
        have hxr := hx.rc ht
        clear ha
        repeat' (first | (refine zY.is ?_; first | refine zY.nil ?_ | (refine zY.at_ 10 rfl ?_; refine zY.rc (.v zW .e) ?_) | (refine zY.at_ 11 rfl ?_; refine zY.rc (.v zW .e) ?_) | (refine zY.in_ [44] rfl ?_; refine zY.v rfl rfl (zG (refRef_fn _ (U.lo (by assumption)) (U.hi (by assumption))) rfl rfl rfl (by decide)) ?_) | (refine zY.in_ [30, 42] rfl ?_; refine zY.v rfl rfl (zG (kP hxr _ (by decide)) rfl rfl rfl (by decide)) ?_) | (refine zY.in_ [31, 43] rfl ?_; refine zY.ofT rfl (zA.cu (i := [1000]) (f := xP L hL _) (r := fun x τ e g hj => ?_)))) | (refine zZ.is ?_; first | refine zZ.seq ?_ | (refine zZ.iR 2 ?_; refine zZ.rc [0, 1, 3, 8, 9, 10, 11, 26, 34] [1000] (r := (.v zX (.v vY (.v zX (.gY yY (.gY xD (.gY zH (.gY zL (.gY vK (.v yH .e)))))))))) (h := ?_)) | (refine zZ.iR 3 ?_; refine zZ.rc [0, 1, 3, 8, 9, 10, 11, 26, 34] [1000] (r := (.v yY (.v zX (.v zX .e)))) (h := ?_)) | (refine zZ.iR 4 ?_; refine zZ.rc [0, 1, 3, 8, 9, 10, 11, 26, 34] [1000] (r := (.v zX (.v zX (.v v46_8 .e)))) (h := ?_)) | (refine zZ.iR 5 ?_; refine zZ.rc [0, 1, 3, 8, 9, 10, 11, 26, 34] [1000] (r := (.v zX (.v zX (.v zX (.v wT (.v zW (.v zW .e))))))) (h := ?_)) | (refine zZ.iR 6 ?_; refine zZ.rc [0, 1, 3, 8, 9, 10, 11, 26, 34] [1000] (r := (.v yY (.v zX (.v zX .e)))) (h := ?_)) | refine zZ.yB rfl bA ?_ | refine zZ.cond rfl (fun h => ?_) (fun h => ?_) | refine zZ.skip ?_ | refine zZ.block ?_ | refine zZ.ret ?_) | refine zK.n ?_ | refine zK.r ?_ | refine zI.n ?_ | refine zI.r ?_)
        · exact .ret (x := (y, decide (x = k))) (.inl rfl) (.tup rfl (by decide) (.cons (.tmp rfl) (.cons (.tmp rfl) .nil))) aQ_ ⟨hx, fun _ => hw.one⟩ hj (show At L (seekP t f k) σ0 (.ret (y, decide (x = k))) τ from ha2.round (Rel.bind e (Rel.yes h (Rel.ret _))) hj).ret
        · have hr : Rel L (vL t k y) ω (endS (xY x)) τ := Rel.bind (by assumption) (Rel.no (by assumption) (Rel.bind e (Rel.ret _)))
          have hl := hr.less hL (fine_seekR t k y hw) ⟨_, _, rfl⟩ hti hs
          refine ⟨(m, xY x, τ), ?_, ⟨by have h3 := ha2.round hr hj; rw [contS_eq] at h3; exact h3, by dsimp only at *; omega, wK _⟩, hl⟩
          exact zM K_1d K_0
theorem linkRef_c (L : List yQ) (hL : xB L) {t p x r : Int} (ht : Small t) (hp : Rf p) (hx : Rf x) (hr : Rf r) : FnC 35 [.p (.val (.int .i64 t)), .p (.val (.int .i64 p)), .p (.val (.int .i64 x)), .p (.val (.int .i64 r))] [] (fun x => .p (.val (.bool x))) (fun _ => []) yes L (linkP t p x r) := by
  have cn := cnextRef_fn t p ht hp.le
  have cm := cnextRef_fn t r ht hr.le
  have cx := linkRef_fn x hx.le
  have cr := linkRef_fn r hr.le
  refine xS Tryz.func35 rfl Tryz.ntmps35 (Nat.le_of_ble_eq_true rfl) (by decide) fun σ0 hi0 => ?_
  repeat' (first | (refine zY.is ?_; first | refine zY.nil ?_ | (refine zY.at_ 10 rfl ?_; refine zY.rc (.v zW .e) ?_) | (refine zY.at_ 15 rfl ?_; refine zY.rc (.v zX .e) ?_) | (refine zY.at_ 22 rfl ?_; refine zY.rc (.v zX .e) ?_) | (refine zY.at_ 24 rfl ?_; refine zY.rc (.v zX .e) ?_) | (refine zY.in_ [21] rfl ?_; refine zY.v rfl rfl (zG (cn) rfl rfl rfl (by decide)) ?_) | (refine zY.in_ [14] rfl ?_; refine zY.v rfl rfl (zG (cm) rfl rfl rfl (by decide)) ?_) | (refine zY.in_ [16, 23] rfl ?_; refine zY.v rfl rfl (zG (cx) rfl rfl rfl (by decide)) ?_) | (refine zY.in_ [25] rfl ?_; refine zY.v rfl rfl (zG (cr) rfl rfl rfl (by decide)) ?_) | (refine zY.in_ [17] rfl ?_; refine zY.ofT rfl (zA.cu (i := [1000]) (f := cstore_c L hL _ _) (r := fun x τ e g hj => ?_))) | (refine zY.in_ [26] rfl ?_; refine zY.ofT rfl (zA.cu (i := [1000]) (f := ccas_c L hL _ _ _) (r := fun x τ e g hj => ?_)))) | (refine zZ.is ?_; first | refine zZ.seq ?_ | (refine zZ.iR 0 ?_; refine zZ.rc [0, 1, 2, 3, 4] [1000] (r := (.v zW .e)) (h := ?_)) | (refine zZ.iR 1 ?_; refine zZ.rc [0, 1, 2, 3, 4, 10] [1000] (r := (.v yY (.v zX (.v zX .e)))) (h := ?_)) | (refine zZ.iR 2 ?_; refine zZ.rc [0, 1, 2, 3, 4, 10] [1000] (r := (.v yY (.v zX (.v zX .e)))) (h := ?_)) | refine zZ.ret ?_) | refine zK.n ?_)
  all_goals (exact .ret (by exact .inl rfl) (by exact .one rfl rfl) aQ_ (by assumption) (by assumption) (by unfold linkP; repeat' (first | assumption | refine Rel.bind (by assumption) ?_)))
theorem markRef_c (L : List yQ) (hL : xB L) {t x : Int} (ht : Small t) (hx : Rf x) : FnC 36 [.p (.val (.int .i64 t)), .p (.val (.int .i64 x))] [] (fun x => .p (.val (.bool x))) (fun _ => []) yes L (markP t x) := by
  have cn := cnextRef_fn t x ht hx.le
  have F2 := fun (w : Int) (h : U w) (he : decide (w % 2 = 1) = false) => (wrap_u64 (w + 1) (hw_succ h he) : IntKind.u64.wrap (w + 1) = w + 1)
  refine xS Tryz.func36 rfl Tryz.ntmps36 (Nat.le_of_ble_eq_true rfl) (by decide) fun σ0 hi0 => ?_
  repeat' (first | (refine zY.is ?_; first | refine zY.nil ?_ | (refine zY.at_ 19 rfl ?_; refine zY.rc (.v zX (.v zX (.v v30_2 .e))) ?_) | (refine zY.at_ 6 rfl ?_; refine zY.rc (.v zW .e) ?_) | (refine zY.at_ 7 rfl ?_; refine zY.rc (.v zW .e) ?_) | (refine zY.in_ [11, 18] rfl ?_; refine zY.v rfl rfl (zG (cn) rfl rfl rfl (by decide)) ?_) | (refine zY.in_ [14] rfl ?_; refine zY.v rfl rfl (zG (markRef_fn _ (U.lo (by assumption))) rfl rfl rfl (by decide)) ?_) | (refine zY.in_ [12] rfl ?_; refine zY.ofT rfl (zA.cu (i := [1000]) (f := xP L hL _) (r := fun x τ e g hj => ?_))) | (refine zY.in_ [22] rfl ?_; refine zY.ofT rfl (zA.cu (i := [1000]) (f := ccas_c L hL _ _ _) (r := fun x τ e g hj => ?_)))) | (refine zZ.is ?_; first | refine zZ.seq ?_ | (refine zZ.iR 0 ?_; refine zZ.rc [0, 1, 2] [1000] (r := (.v zW .e)) (h := ?_)) | (refine zZ.iR 1 ?_; refine zZ.rc [0, 1, 2, 6] [1000] (r := (.v yY (.v zX (.v zX .e)))) (h := ?_)) | (refine zZ.iR 2 ?_; refine zZ.rc [0, 1, 2, 6, 7] [1000] (r := (.v zX .e)) (h := ?_)) | (refine zZ.iR 3 ?_; refine zZ.rc [0, 1, 2, 6, 7] [1000] (r := (.v zW .e)) (h := ?_)) | (refine zZ.iR 4 ?_; refine zZ.rc [0, 1, 2, 6, 7] [1000] (r := (.v yY (.v zX (.v zX .e)))) (h := ?_)) | refine zZ.cond rfl (fun h => ?_) (fun h => ?_) | refine zZ.skip ?_ | refine zZ.ret ?_) | refine zK.n ?_ | refine zK.r ?_)
  all_goals (exact .ret (by exact .inl rfl) (by exact .one rfl rfl) aQ_ (by first | assumption | exact trivial) (by assumption) (by unfold markP setMark; repeat' (first | exact Rel.ret _ | assumption | refine Rel.bind (by assumption) ?_ | refine Rel.yes (by assumption) ?_ | refine Rel.no (by assumption) ?_)))
theorem nT {b : Bool} (h : (!b) = true) : b = false := by cases b <;> simp_all
theorem nF {b : Bool} (h : (!b) = false) : b = true := by cases b <;> simp_all
def zN : Ned := vF 0 0 0 0 xZ
def cur0 : CSt := ⟨0, false, zN⟩
def toldV (σ : CSt) (e : Int) (is : Bool) (n w : Int) : List PV := [.agg [.val (.int .i64 (bif σ.stop then σ.q.kind else 0)), .val (.int .i64 (bif σ.stop then σ.q.cell else 0)), .val (.int .u64 (bif σ.stop then σ.q.a else 0)), .val (.int .u64 (bif σ.stop then σ.q.b else 0)), bif σ.stop then σ.q.d else xZ, bif σ.stop then σ.q.w else xZ],
  qZ (bif σ.stop then 0 else e) (bif σ.stop then false else is) (bif σ.stop then 0 else n) (bif σ.stop then 0 else w), .val (.bool (!σ.stop))]
theorem told_fn (L : List yQ) (σ : CSt) (e : Int) (is : Bool) (n w : Int) :
    FnE Tryz.prog 38 [.ptr 1000 0, .p (qZ e is n w)] [qL L σ] (.ret (.tup ((toldV σ e is n w).map .p))) [qL L σ] := by
  refine fn_ofE Tryz.func38 rfl Tryz.ntmps38 (Nat.le_of_ble_eq_true rfl) (by decide) ?_
  cases hs : σ.stop
  all_goals
    simp only [toldV, hs, cond_true, cond_false, Bool.not_true, Bool.not_false]
    repeat' (first | (refine zY.nil ?_) | (refine zZ.is ?_; first | refine zZ.seq ?_ | (refine zZ.iR 0 ?_; refine zZ.rc [0, 1] [3, 4, 5, 1000] (r := (.m yI (.m zT (.m zT (.v zW .e))))) (h := ?_)) | (refine zZ.iR 1 ?_; refine zZ.rc [0, 3, 4, 5, 6] [3, 4, 5, 1000] (r := (.v yY (.v xD (.v zH (.v zL .e))))) (h := ?_)) | (refine zZ.iR 2 ?_; refine zZ.rc [0, 3, 4, 5, 6] [3, 4, 5, 1000] (r := (.v yY (.v xD (.v zH (.v xC (.v yD (.w zO (.w zO (.v zW .e))))))))) (h := ?_)) | (refine zZ.iR 3 ?_; refine zZ.rk [3, 4, 5, 6] [3, 4, 5, 1000] ?_; refine zZ.drawGo (by kernel_rfl) ?_) | refine zZ.yB rfl bA ?_ | refine zZ.yA rfl bA ?_ | refine zZ.skip ?_ | refine zZ.ret ?_) | refine zK.n ?_ | refine zK.r ?_ | (refine DGo.at_ [] ?_; refine DGo.all [0, 1] (by kernel_rfl) ?_) | (refine DGo.at_ [1] ?_; refine DGo.all [0] (by kernel_rfl) ?_) | (refine DGo.at_ [0, 1] ?_; refine DGo.all [2] (by kernel_rfl) ?_) | (refine DGo.at_ [2, 0, 1] ?_; refine DGo.all [3] (by kernel_rfl) ?_) | (refine DGo.at_ [3, 2, 0, 1] ?_; refine DGo.fr 4 ?_) | (refine DGo.at_ [4, 3, 2, 0, 1] ?_; refine DGo.fin (by kernel_rfl) ?_) | (refine DGo.at_ [0] ?_; refine DGo.all [1, 2] (by kernel_rfl) ?_) | (refine DGo.at_ [2, 0] ?_; refine DGo.all [1] (by kernel_rfl) ?_) | (refine DGo.at_ [1, 2, 0] ?_; refine DGo.all [3] (by kernel_rfl) ?_) | (refine DGo.at_ [3, 1, 2, 0] ?_; refine DGo.fr 4 ?_) | (refine DGo.at_ [4, 3, 1, 2, 0] ?_; refine DGo.fin (by kernel_rfl) ?_) | (refine DGo.at_ [1, 0] ?_; refine DGo.all [2] (by kernel_rfl) ?_) | (refine DGo.at_ [2, 1, 0] ?_; refine DGo.all [3] (by kernel_rfl) ?_) | (refine DGo.at_ [3, 2, 1, 0] ?_; refine DGo.fr 4 ?_) | (refine DGo.at_ [4, 3, 2, 1, 0] ?_; refine DGo.fin (by kernel_rfl) ?_) | refine zP.cons ?_ ?_ | exact zP.nil | (refine zS.at_ 0 ?_; refine zS.v rfl rfl rfl (w_build rfl (by rfl) (by rfl) (by rfl) (by rfl) rfl (by decide)) ?_) | (refine zS.at_ 1 ?_; refine zS.v rfl rfl rfl (xX rfl rfl rfl (by rfl) (by rfl) rfl (by decide)) ?_) | (refine zS.at_ 2 ?_; refine zS.w rfl rfl (by exact y8 rfl rfl rfl rfl rfl (by rfl) (by exact Nat.le_of_ble_eq_true rfl) rfl rfl) ?_) | (refine zS.at_ 3 ?_; refine zS.w rfl rfl (by exact y8 rfl rfl rfl rfl rfl (by rfl) (by exact Nat.le_of_ble_eq_true rfl) rfl rfl) ?_))
    all_goals exact ⟨(by exact .inl rfl), _, Sub.refl _, .tup rfl (by decide) (.cons (.cellN rfl rfl (by rfl) (by rfl)) (.cons (.cellN rfl rfl (by rfl) (by rfl)) (.cons (.tmp rfl) .nil))), x9 aQ_⟩
theorem told_done {L : List yQ} {P : Pr OutN} {o : OutN} {j : Nat} {e n w : Int} {is : Bool} {τ : CSt} (hm : P.run (y9 L) 0 = .done o j) (h : Rel L P cur0 ⟨e, is, n, w⟩ τ) : toldV τ e is n w = [accV 0 0 0 0 xZ, qZ o.e o.is o.n o.w, .val (.bool true)] := by
  obtain ⟨e1, e2⟩ := h.done rfl o j hm
  subst e1 e2
  rfl
theorem told_need {L : List yQ} (hL : xB L) {P : Pr OutN} {good : OutN → Prop} (hf : P.yV good) {q : Ned} {j : Nat} {e n w : Int} {is : Bool} {τ : CSt} (hm : P.run (y9 L) 0 = .need q j) (h : Rel L P cur0 ⟨e, is, n, w⟩ τ) : toldV τ e is n w = [accQ q, qZ 0 false 0 0, .val (.bool false)] := by
  have e2 := h.need rfl q j hm
  have h3 := hf.log hL (i := 0) (Nat.zero_le _)
  rw [hm] at h3
  have h4 := h3.1.w
  subst e2
  obtain ⟨a, b, c, d, f, g⟩ := q
  obtain rfl : g = xZ := h4
  rfl
end
end Go.Proofs.YtohlllohmoojiaaGreatDoor
