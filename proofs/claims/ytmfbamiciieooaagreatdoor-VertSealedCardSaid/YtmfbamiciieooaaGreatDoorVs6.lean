/- Of a sealed store each operation of a vertex that may be is answered so, by one access, and turns nothing; one of a key that may not be by none. (Part 6 of 9.) -/
import Derived.Test.YtmfbamiciieooaaGreatDoorVs5
import Derived.Recover
/- Chains, and epochs: the program's, whatever makes its accesses: contracts. -/
namespace Go.Proofs.YtmfbamiciieooaaGreatDoor
set_option maxRecDepth 100000
set_option maxHeartbeats 16000000
open Go Go.RowKit
set_option linter.unusedSimpArgs false
set_option linter.unusedVariables false
attribute [local irreducible] zY zZ Step zX Sub zD zF Fn zB zP
theorem okH (H : Hnd) (s : H.σ) {m : Nat} (hm : 3 ≤ m) {l : List Blk} (h : l.all (Blk.okE m) = true) : (H.b0 s :: H.b1 s :: H.b2 s :: l).all (Blk.okE m) = true := by
  obtain ⟨a, b, c⟩ := H.okE s m hm
  simp only [List.all_cons, a, b, c, Bool.true_and]
  exact h
/-- a call that hands back new variables, of what makes accesses -/
theorem zF.newH {o : Oper} {S : AS} {K : Exit → AS → Prop} {n d : Nat} {f : FuncId} {avs xs : List AV} {New : List Blk} {rx : AV} {N : AS → Prop} (H : Hnd) {s : H.σ} (nids : List Nat) (hf : FnX Tryz.prog f xs [H.b0 s, H.b1 s, H.b2 s] rx [H.b0 s, H.b1 s, H.b2 s] New) (hd : o.dst = some d) (hn : d < n) (he : Enters Tryz.prog o S f avs)
    (hx : avs = xs.map (AV.ren (sig [1000, 1001, 1002]))) (h0 : (S.drops nids).blk 1000 = some (H.b0 s)) (h1 : (S.drops nids).blk 1001 = some (H.b1 s)) (h2 : (S.drops nids).blk 1002 = some (H.b2 s)) (hlo : nids.all (fun k => decide (k < 1000)) = true) (hnl : nids.length = New.length) (hnd : ([1000, 1001, 1002] ++ nids).Nodup)
    (hok : New.all (Blk.okE (New.length + 3)) = true) (hxs : xs.all (AV.okE 3) = true) (hrx : rx.okE (New.length + 3) = true)
    (hr : N (({ S.drops nids with s := vJ (1000 :: 1001 :: 1002 :: nids) (H.b0 s :: H.b1 s :: H.b2 s :: New.map (Blk.ren (sig (1000 :: 1001 :: 1002 :: nids)))) (S.drops nids).s } : AS).put d (rx.ren (sig (1000 :: 1001 :: 1002 :: nids))))) : zF Tryz.prog n o S K N := by
  have hall : ∀ (k : Nat) (l : List Blk), l.all (Blk.okE (k + 3)) = true → (H.b0 s :: H.b1 s :: H.b2 s :: l).all (Blk.okE (k + 3)) = true := fun k l hl => by
    obtain ⟨a, b, c⟩ := H.okE s (k + 3) (by omega)
    simp [a, b, c, hl]
  obtain ⟨a0, b0, c0⟩ := H.ren s []
  have hh : Hands (S.drops nids) [1000, 1001, 1002] [H.b0 s, H.b1 s, H.b2 s] := vH (by decide) (hall 0 [] rfl) ⟨by rw [a0]; exact h0, by rw [b0]; exact h1, by rw [c0]; exact h2, trivial⟩
  have hl : ([H.b0 s, H.b1 s, H.b2 s] ++ New).length = New.length + 3 := by simp
  refine zF.eNew [1000, 1001, 1002] nids hf hd hn he hx hh hlo rfl hnl hnd (by rw [hl]; exact hall _ _ hok) hxs (by rw [hl]; exact hrx) ?_
  obtain ⟨a, b, c⟩ := H.ren s nids
  have hmap : (([H.b0 s, H.b1 s, H.b2 s] ++ New).map (Blk.ren (sig ([1000, 1001, 1002] ++ nids)))) = H.b0 s :: H.b1 s :: H.b2 s :: New.map (Blk.ren (sig (1000 :: 1001 :: 1002 :: nids))) := by
    show [Blk.ren _ (H.b0 s), Blk.ren _ (H.b1 s), Blk.ren _ (H.b2 s)] ++ _ = _
    rw [show ([1000, 1001, 1002] ++ nids : List Nat) = 1000 :: 1001 :: 1002 :: nids from rfl, a, b, c]
    rfl
  unfold AS.after
  rw [hmap]
  exact hr
theorem afterH (H : Hnd) (s : H.σ) (S : AS) (ks : List Nat) (bk : List Blk) : S.after (1000 :: 1001 :: 1002 :: ks) (H.b0 s :: H.b1 s :: H.b2 s :: bk) = { S with s := vJ (1000 :: 1001 :: 1002 :: ks) (H.b0 s :: H.b1 s :: H.b2 s :: bk.map (Blk.ren (sig (1000 :: 1001 :: 1002 :: ks)))) S.s } := by
  obtain ⟨a, b, c⟩ := H.ren s ks
  unfold AS.after
  simp only [List.map_cons, a, b, c]
theorem handsH (H : Hnd) (s : H.σ) {S : AS} {ks : List Nat} {bk : List Blk} (hnd : (1000 :: 1001 :: 1002 :: ks).Nodup) (hok : bk.all (Blk.okE (bk.length + 3)) = true) (h0 : S.blk 1000 = some (H.b0 s)) (h1 : S.blk 1001 = some (H.b1 s)) (h2 : S.blk 1002 = some (H.b2 s))
    (hat : AtB S (1000 :: 1001 :: 1002 :: ks) ks bk) : Hands S (1000 :: 1001 :: 1002 :: ks) (H.b0 s :: H.b1 s :: H.b2 s :: bk) := by
  obtain ⟨a, b, c⟩ := H.ren s ks
  exact vH hnd (okH H s (by simp) hok) ⟨by rw [a]; exact h0, by rw [b]; exact h1, by rw [c]; exact h2, hat⟩
theorem HP.ok {α : Type} {H : Hnd} {res : α → AV} {bk : List Blk} {bk' : α → List Blk} {m : Held H.σ α} (hb : bk.all (Blk.okE (bk.length + 3)) = true) (hb' : ∀ x, (bk' x).length = bk.length ∧ (bk' x).all (Blk.okE (bk.length + 3)) = true) (ev : EV) (B : List Blk) (h : HP H res bk bk' m ev B) :
    B.length = bk.length + 3 ∧ B.all (Blk.okE (bk.length + 3)) = true := by
  cases m with
  | done x s' =>
    obtain ⟨_, rfl⟩ := h
    exact ⟨by show (bk' x).length + 3 = _; rw [(hb' x).1], okH H s' (by omega) (hb' x).2⟩
  | need q s' =>
    obtain ⟨_, rfl⟩ := h
    exact ⟨by show (bk.map Blk.forget).length + 3 = _; rw [List.length_map], okH H s' (by omega) (forget_okE hb)⟩
  | stuck => exact h.elim
def wordB (w : Int) : Blk := .box 27 [.p (.val (.int .u64 w))]
theorem chain_x (H : Hnd) (s : H.σ) (t h : Int) : FnX Tryz.prog 118 [H.doA, .p (.val (.int .i64 t)), .p (.val (.int .u64 h))] [H.b0 s, H.b1 s, H.b2 s] (.clo 130 [1003, 1004, 1005]) [H.b0 s, H.b1 s, H.b2 s] [wordB h, doB H, yG t] := by
  unfold Hnd.doA
  refine fn_ofX [1000, 1001, 1002, 5, 3, 4] Tryz.func118 rfl Tryz.ntmps118 (Nat.le_of_ble_eq_true rfl) (by decide) rfl rfl ?_
  repeat' (first | (refine zY.nil ?_) | (refine zZ.is ?_; first | refine zZ.seq ?_ | (refine zZ.isR (id := 0) ?_; refine zZ.rc [0, 1, 2] [3, 4, 5, 1000, 1001, 1002] (r := (.m m18_3 (.m m18_1 (.m m18_1 (.v zK .e))))) (h := ?_)) | (refine zZ.isR (id := 1) ?_; refine zZ.rc [3, 4, 5, 6] [3, 4, 5, 1000, 1001, 1002] (r := (.v v14_0 (.v v1_5 .e))) (h := ?_)) | refine zZ.ret ?_) | refine zB.n ?_)
  obtain ⟨a, b, c⟩ := H.ren s [5, 3, 4]
  refine ⟨.inl rfl, _, Sub.refl _, .one rfl rfl, vH (by decide) (okH H s (by show 3 ≤ 6; decide) rfl) ⟨?_, ?_, ?_, ?_⟩⟩
  · rw [a]; rfl
  · rw [b]; rfl
  · rw [c]; rfl
  · repeat' first | exact trivial | rfl | constructor
/-! ### The chain's iterator -/
/-- what a round may turn, and the loop's record -/
def bkY (H : Hnd) (t : Int) (l : Nat) (rc : Loop) : List Blk := [doB H, yG t, recB l rc]
def bkI (H : Hnd) (t h : Int) (l : Nat) (rc : Loop) : List Blk := [doB H, yG t, recB l rc, wordB h, doB H, yG t]
def boolT (_ : Unit) : AV := .p (.val (.bool true))
def chS (H : Hnd) (t h : Int) (l : Nat) (rc : Loop) (r : Int) (s : H.σ) : AS :=
  { t := [(0, .p (.val (.func (.yield l) #[] #[]))), (2, .ptr 1007 0), (3, .ptr 1008 0), (5, .p (.val (.int .i64 r)))], s := [(1000, H.b0 s), (1001, H.b1 s), (1002, H.b2 s), (1003, doB H), (1004, yG t), (1005, recB l rc), (1006, wordB h), (1007, doB H), (1008, yG t)] }
theorem WX.out {n : Nat} {M : Nat → Nat → Prop} {h : Home} {Q : Exit → Act → World → Prop} {S : AS} {K : Act → World → Prop} {i j : Nat} (hw : WX n M h Q (.panic []) S) : WX n M h (Exit.inBlock i (Exit.then K (Exit.inBlock j Q))) (.panic []) S := WX.blkP (WX.thn (WX.blkP hw))
theorem chain1_l (H : Hnd) (s0 : H.σ) {t h : Int} (ht : Small t) (hh : U h) {yb : Int → Pr Unit} (hyf : ∀ r, Rf r → (yb r).yZ yes) {l : Nat} {rc : Loop} {pv : Nat → Value} (hok0 : H.ok s0) (hns : (chainP t yb h).run H.st s0 ≠ .stuck)
    (hY : ∀ s r, H.ok s → Rf r → (yb r).run H.st s ≠ .stuck → YieldQ Tryz.prog l pv 5 [.p (.val (.int .i64 r))] (H.b0 s :: H.b1 s :: H.b2 s :: bkY H t l rc) (HP H boolT (bkY H t l rc) (fun _ => bkY H t l rc) ((yb r).run H.st s))) :
    FnL Tryz.prog 130 pv 5 [.p (.val (.func (.yield l) #[] #[])), .ptr 1006 0, .ptr 1007 0, .ptr 1008 0] (H.b0 s0 :: H.b1 s0 :: H.b2 s0 :: bkI H t h l rc) (HP H (fun _ => .any) (bkI H t h l rc) (fun _ => bkI H t h l rc) ((chainP t yb h).run H.st s0)) := by
  refine fn_ofL (n := 22) Tryz.func130 rfl Tryz.ntmps130 (Nat.le_of_ble_eq_true rfl) (by decide) (by show 5 ≤ 9; decide) fun M hm hd hpin => ?_
  have c0 := first_fn h hh.1 hh.2
  refine WC.seqX ?_
  unfold bkI
  repeat' (first | (refine zY.is ?_; first | refine zY.nil ?_ | (refine zY.at_ 5 rfl ?_; refine zY.rc (.v zK .e) ?_) | (refine zY.in_ [8] rfl ?_; refine zY.v rfl rfl (zL (c0) rfl rfl rfl (by decide)) ?_)) | (refine zZ.is ?_; (refine zZ.isR (id := 0) ?_; refine zZ.rc [0, 1, 2, 3] [1000, 1001, 1002, 1003, 1004, 1005, 1006, 1007, 1008] (r := (.v zN .e)) (h := ?_))) | refine zB.n ?_)
  refine WC.sub (S' := chS H t h l rc (x9 h) s0) ?sub (WC.block (WC.mk fun ρ a w hs => ?_))
  case sub =>
    unfold chS
    exact zT K_z K_n
  refine wp_loop_iter (N := many) (i0 := 0) (fun i a w => ∃ n r s ρ, i + n = many ∧ H.ok s ∧ Rf r ∧ (chainL t yb n r).run H.st s = (chainP t yb h).run H.st s0 ∧ Sat M 22 hm (chS H t h l rc r s) ρ a w) ⟨many, x9 h, s0, ρ, by omega, hok0, qV h, rfl, hs⟩ (Nat.zero_le _) ?rd
  case rd =>
    clear hs ρ a w
    rintro i a w hi ⟨n, r, s, ρ, hin, hok, hr, ho, hs⟩
    refine WC.run ?_ hs
    clear hs ρ a w
    have hns1 := hns
    rw [← ho] at hns1
    unfold chS
    unfold chainL at ho hns1
    cases hz : decide (r = 0)
    case true =>
      rw [hz] at ho hns1
      obtain rfl : r = 0 := of_decide_eq_true hz
      have hz' : (!decide ((0 : Int) = 0)) = false := rfl
      refine WC.seqX ?_
      repeat' (first | (refine zY.nil ?_) | (refine zZ.is ?_; first | refine zZ.seq ?_ | (refine zZ.isR (id := 1) ?_; refine zZ.rc [0, 2, 3, 5, 6, 10, 19] [1000, 1001, 1002, 1003, 1004, 1005, 1006, 1007, 1008] (r := (.v zV (.v v42_0 .e))) (h := ?_)) | refine zZ.yH rfl bA ?_ | refine zZ.exit ?_) | refine zB.n ?_ | refine zB.e ?_)
      exact WX.endX (WX.endQ hd (EndH.q (.ret (x := ()) (s' := s) (.inr rfl) (.none rfl) (by repeat' first | exact trivial | rfl | constructor) ho.symm)))
    case false =>
      rw [hz] at ho hns1
      rw [cond_false] at ho hns1
      have hz' : (!decide (r = 0)) = true := by rw [hz]; rfl
      cases n with
      | zero => exact absurd rfl hns1
      | succ n =>
        rw [vK] at ho hns1
        have cf := qZ (hr.rc ht) 7 (by decide)
        refine WC.seqX ?_
        repeat' (first | (refine zY.nil ?_) | (refine zZ.is ?_; first | refine zZ.seq ?_ | (refine zZ.isR (id := 1) ?_; refine zZ.rc [0, 2, 3, 5, 6, 10, 19] [1000, 1001, 1002, 1003, 1004, 1005, 1006, 1007, 1008] (r := (.v zV (.v v42_0 .e))) (h := ?_)) | refine zZ.yF rfl bA ?_ | refine zZ.skip ?_) | refine zB.n ?_)
        refine WC.block (WC.seqX ?_)
        repeat' (first | (refine zZ.is ?_; (refine zZ.isR (id := 2) ?_; refine zZ.rk [0, 2, 3, 5, 6, 10, 19] [1000, 1001, 1002, 1003, 1004, 1005, 1006, 1007, 1008] ?_; refine zZ.draws ?_)) | refine zB.n ?_ | refine zB.p ?_ | (refine Draws.is ?_; first | refine Draws.rc (.v wB (.v zN (.v zV .e))) ?_ | (refine Draws.in_ [14] rfl ?_; refine Draws.v rfl rfl (zL (cf) rfl rfl rfl (by decide)) ?_) | refine Draws.done (by kernel_rfl) (by kernel_rfl) (by kernel_rfl) ?_) | (refine zD.is ?_; first | refine zD.nil ?_ | (refine zD.at_ 6 rfl ?_; refine zD.rc (.v zK .e) ?_) | (refine zD.in_ [15] rfl ?_; refine zD.ofT rfl (zF.hd (i := []) (f := vI H _ _) (r := fun x s e g hk => ?_) (p := fun q s e => ?_) (t := ?_)))))
        case refine_3 => exact fun e => hns1 (by simp only [vL, run_bind, e, Held.zQ])
        case refine_2 =>
          exact WX.out (WX.endQ hd (EndH.q (.pan (q := q) rfl (by repeat' first | exact trivial | rfl | constructor) (by repeat' first | exact trivial | exact ⟨_, rfl, rfl⟩ | constructor) (ho.symm.trans (by simp only [vL, run_bind, e, Held.zA])))))
        have hy0 : (yb r).run H.st s ≠ .stuck := fun h => hns1 (by simp only [vL, run_bind, e, Held.zW, h, Held.zQ])
        refine WC.pairX (WC.yieldQ (id := 3) (d := 18) (l := l) (m := 5) (pre := [_, _]) (post := [_]) (x := .tmp 16) (B := H.b0 s :: H.b1 s :: H.b2 s :: bkY H t l rc) { t := [(0, .p (.val (.func (.yield l) #[] #[]))), (2, .ptr 1007 0), (3, .ptr 1008 0), (5, .p (.val (.int .i64 r))), (6, .p (.val (.int .u64 x))), (16, .p (.val (.func (.yield l) #[] #[]))), (17, .p (.val (.int .i64 r)))], s := [(1000, H.b0 s), (1001, H.b1 s), (1002, H.b2 s), (1003, doB H), (1004, yG t), (1005, recB l rc), (1006, wordB h), (1007, doB H), (1008, yG t)] }
          [1000, 1001, 1002, 1003, 1004, 1005] [.p (.val (.int .i64 r))] ?pre rfl rfl rfl rfl rfl (by decide) rfl (hY s r hk hr hy0) rfl (handsH H s (by decide) rfl rfl rfl rfl (by repeat' first | exact trivial | rfl | constructor)) rfl (by show 5 ≤ 6; decide) (HP.ok rfl fun _ => ⟨rfl, rfl⟩) (fun i hi => by
            rcases (by omega : i = 0 ∨ i = 1 ∨ i = 2 ∨ i = 3 ∨ i = 4) with rfl | rfl | rfl | rfl | rfl <;> exact hpin _ hi) (fun rx B' hp => ?yr) (fun rx B' hp => ?yp))
        case pre =>
          repeat' ((refine zY.is ?_; first | refine zY.nil ?_ | (refine zY.at_ 16 rfl ?_; refine zY.rc (.v zV (.v zV .e)) ?_)))
          refine ⟨rfl, ?_⟩
          exact zT K_1h K_n
        case yp =>
          generalize hm2 : (yb r).run H.st s = m2 at hp
          cases m2 with
          | stuck => exact hp.elim
          | done u s2 => cases hp.1
          | need q s2 =>
            obtain ⟨he, rfl⟩ := hp
            injection he with he
            subst he
            refine ⟨rfl, ?_⟩
            rw [afterH]
            exact WX.thn (WX.out (WX.endQ hd (EndH.q (.pan (q := q) rfl (by repeat' first | exact trivial | rfl | constructor) (by repeat' first | exact trivial | exact ⟨_, rfl, rfl⟩ | constructor) (ho.symm.trans (by simp only [vL, run_bind, e, Held.zW, hm2, Held.zA]))))))
        case yr =>
          generalize hm2 : (yb r).run H.st s = m2 at hp
          cases m2 with
          | stuck => exact hp.elim
          | need q s2 => cases hp.1
          | done u s2 =>
            have hk2 : H.ok s2 := by
              have := Pr.yZ.run H.stOK (hyf r hr) hk
              rw [hm2] at this
              exact this.2
            obtain ⟨he, rfl⟩ := hp
            injection he with he
            subst he
            refine ⟨rfl, ?_⟩
            rw [afterH]
            unfold boolT
            have cx := first_fn x g.1 g.2
            repeat' (first | (refine zY.is ?_; first | refine zY.nil ?_ | (refine zY.at_ 19 rfl ?_; refine zY.rc (.v qI .e) ?_)) | refine zB.n ?_)
            refine WC.ofX ?_
            repeat' ((refine zZ.is ?_; first | refine zZ.yH rfl bA ?_ | refine zZ.skip ?_))
            refine WX.nxtC (WC.ofX ?_)
            repeat' (first | (refine zY.is ?_; first | refine zY.nil ?_ | (refine zY.at_ 5 rfl ?_; refine zY.rc (.v zK .e) ?_) | (refine zY.in_ [21] rfl ?_; refine zY.v rfl rfl (zL (cx) rfl rfl rfl (by decide)) ?_)) | (refine zZ.is ?_; (refine zZ.isR (id := 4) ?_; refine zZ.rc [0, 2, 3, 5, 6, 10, 19] [1000, 1001, 1002, 1003, 1004, 1005, 1006, 1007, 1008] (r := (.v zV .e)) (h := ?_))))
            refine WX.subN (S' := chS H t h l rc (x9 x) s2) ?sub3 (WX.mk (by simp) fun e' ρ a w he hs _ => ?_)
            case sub3 =>
              unfold chS
              exact zT K_z K_n
            obtain rfl := bare_of he (fun c hc => by cases hc)
            refine ⟨i + 1, by omega, by omega, n, x9 x, s2, ρ, by omega, hk2, qV x, ?_, hs⟩
            rw [← ho, vL, run_bind, run_bind, e, Held.zW, run_bind, hm2, Held.zW, zC, Held.zW, chainL_eq]
/-! ### Epochs -/
theorem scanT {a b : Bool} (ha : a = true) (hb : b = true) : (a && b) = true := by subst ha hb; rfl
theorem scanF1 {a b : Bool} (ha : a = false) : (a && b) = false := by subst ha; rfl
theorem scanF2 {a b : Bool} (hb : b = false) : (a && b) = false := by subst hb; cases a <;> rfl
def advS (H : Hnd) (t e : Int) (i : Nat) (s : H.σ) : AS :=
  { t := [(2, .ptr 2 0), (3, .ptr 3 0), (4, .p (.val (.bool false))), (5, .p (.val (.int .u64 e))), (11, .p (.val (.int .i64 t))), (12, .p (.val (.int .i64 (i : Nat))))], s := [(1000, H.b0 s), (1001, H.b1 s), (1002, H.b2 s), (2, doB H), (3, yG t)] }
theorem advance_h (H : Hnd) (s0 : H.σ) {t : Int} (ht : Small t) (h0 : 0 ≤ t) : FnH H 84 [H.doA, .p (.val (.int .i64 t))] [] (fun b => .p (.val (.bool b))) (fun _ => []) yes s0 (wS t) := by
  unfold Hnd.doA
  refine fn_ofHQ (fine_advance t) fun hok hns => fn_ofA (n := 47) Tryz.func84 rfl Tryz.ntmps84 (Nat.le_of_ble_eq_true rfl) (by decide) fun M hm hd => ?_
  have hK : ∀ e S, EndH H Tryz.f84 (fun b : Bool => AV.p (.val (.bool b))) [] (fun _ => []) ((wS t).run H.st s0) e S → WX 47 M hm (bodyPostM Fence.wide 0 Tryz.prog Tryz.f84 (PQ M hm (HP H (fun b : Bool => AV.p (.val (.bool b))) [] (fun _ => []) ((wS t).run H.st s0)))) e S := fun e S he => WX.endN hd he.q
  replace hK : ∀ e S, e ≠ .normal → EndH H Tryz.f84 (fun b : Bool => AV.p (.val (.bool b))) [] (fun _ => []) ((wS t).run H.st s0) e S → WX 47 M hm _ e S := fun e S _ h => hK e S h
  refine WA.seqK hK ?_
  repeat' (first | (refine zY.nil ?_) | (refine zZ.is ?_; (refine zZ.isR (id := 0) ?_; refine zZ.rc [0, 1] [2, 3, 1000, 1001, 1002] (r := (.m m18_3 (.m m18_1 (.v zK .e)))) (h := ?_))) | refine zB.n ?_)
  refine WA.seqK hK ?_
  repeat' (first | (refine zY.is ?_; first | refine zY.nil ?_ | (refine zY.at_ 5 rfl ?_; refine zY.rc (.v zK .e) ?_) | (refine zY.in_ [10] rfl ?_; refine zY.ofT rfl (zF.hd (i := []) (f := vI H _ 3) (r := fun x s e g hk => ?_) (p := fun q s e => ?_) (t := ?_)))) | (refine zZ.is ?_; (refine zZ.isR (id := 1) ?_; refine zZ.rc [2, 3, 4] [2, 3, 1000, 1001, 1002] (r := (.v wB .e)) (h := ?_))) | refine zB.n ?_ | refine zB.p ?_)
  all_goals (first | exact fun e => hns (by clear hns; simp only [wS, run_bind, zC, zJ, Held.zW, Held.zA, Held.zQ, cond_true, cond_false, *]) | exact .pan (q := q) rfl (by repeat' first | exact trivial | rfl | constructor) (by repeat' exact trivial) (by simp only [wS, run_bind, zC, zJ, Held.zW, Held.zA, Held.zQ, cond_true, cond_false, *]) | skip)
  have hx := g
  have ho0 : ((scanP x t.toNat 0).bind (advRest t x)).run H.st s = (wS t).run H.st s0 := ((run_bind H.st (fun e => (scanP e t.toNat 0).bind (advRest t e)) (xL 3) s0).trans (by rw [e]; rfl)).symm
  clear e g
  generalize x = e0 at *
  refine WA.seqK hK ?_
  repeat' (first | (refine zY.nil ?_) | (refine zZ.is ?_; first | refine zZ.seq ?_ | (refine zZ.isR (id := 2) ?_; refine zZ.rc [2, 3, 4, 5] [2, 3, 1000, 1001, 1002] (r := (.v zN (.v zV .e))) (h := ?_)) | refine zZ.block ?_) | refine zB.n ?_)
  refine zZ.loop (fun q : Nat × H.σ => advS H t e0 q.1 q.2) (fun q => q.1 ≤ t.toNat ∧ H.ok q.2 ∧ ((scanP e0 (t.toNat - q.1) q.1).bind (advRest t e0)).run H.st q.2 = (wS t).run H.st s0) (fun q => t.toNat - q.1) (0, s) ?h0 ⟨Nat.zero_le _, hk, ho0⟩ ?rd
  case h0 =>
    exact zT K_10 K_11
  case rd =>
    clear hk ho0
    rintro ⟨i, s1⟩ ⟨hi, hok1, ho⟩
    dsimp only at hi hok1 ho ⊢
    have hns1 := hns
    rw [← ho] at hns1
    unfold advS
    by_cases hlt : i < t.toNat
    case pos =>
      have f1 : decide ((i : Int) < t) = true := decide_eq_true (by omega)
      have hsm : Small ((i : Nat) : Int) := ⟨by omega, by have := ht.2; omega⟩
      have cp := pin_fn ((i : Nat) : Int) hsm
      have f2 : IntKind.i64.wrap ((i : Nat) + 1) = ((i + 1 : Nat) : Int) := by rw [wrap_i64 _ (by have := hsm.2; omega)]; omega
      rw [show t.toNat - i = (t.toNat - (i + 1)) + 1 by omega, scanP] at ho hns1
      repeat' (first | (refine zY.is ?_; first | refine zY.nil ?_ | (refine zY.at_ 22 rfl ?_; refine zY.rc (.gY zV (.gY zV (.gY v30_6 (.gY v42_8 (.v y8 .e))))) ?_) | (refine zY.at_ 22 rfl ?_; refine zY.rc (.gT (.gT (.gT (.gT (.v xC .e))))) ?_) | (fail_if_success refine zY.known rfl rfl rfl (by fail) ?_); refine zY.split rfl rfl rfl (fun h => ?_) (fun h => ?_)) | (refine zZ.is ?_; first | refine zZ.seq ?_ | (refine zZ.isR (id := 3) ?_; refine zZ.rc [2, 3, 4, 5, 6, 7, 11, 12, 13, 26] [2, 3, 1000, 1001, 1002] (r := (.v xY .e)) (h := ?_)) | (refine zZ.isR (id := 4) ?_; refine zZ.rc [2, 3, 4, 5, 6, 7, 11, 12, 13, 26] [2, 3, 1000, 1001, 1002] (r := (.v zV (.v zK .e))) (h := ?_)) | (refine zZ.isR (id := 5) ?_; refine zZ.rk [2, 3, 4, 5, 6, 7, 11, 12, 13, 26] [2, 3, 1000, 1001, 1002] ?_; refine zZ.draws ?_) | (refine zZ.isR (id := 6) ?_; refine zZ.rc [2, 3, 4, 5, 6, 7, 11, 12, 13, 26] [2, 3, 1000, 1001, 1002] (r := (.v zV (.v v42_8 (.v zV .e)))) (h := ?_)) | (refine zZ.isR (id := 7) ?_; refine zZ.rc [2, 3, 4, 5, 6, 7, 11, 12, 13, 26] [2, 3, 1000, 1001, 1002] (r := (.v zK .e)) (h := ?_)) | (refine zZ.isR (id := 8) ?_; refine zZ.rc [2, 3, 4, 5, 6, 7, 11, 12, 13, 26] [2, 3, 1000, 1001, 1002] (r := (.v wC (.v zV .e))) (h := ?_)) | refine zZ.yF rfl bA ?_ | refine zZ.yH rfl bA ?_ | refine zZ.cond rfl (fun h => ?_) (fun h => ?_) | refine zZ.skip ?_ | refine zZ.block ?_ | refine zZ.ret ?_) | refine zB.n ?_ | refine zB.r ?_ | refine zB.p ?_ | refine zP.n ?_ | refine zP.r ?_ | refine zP.p ?_ | (refine Draws.is ?_; first | refine Draws.rc (.v wB (.v zV .e)) ?_ | (refine Draws.in_ [17] rfl ?_; refine Draws.v rfl rfl (zL (cp) rfl rfl rfl (by decide)) ?_) | refine Draws.done (by kernel_rfl) (by kernel_rfl) (by kernel_rfl) ?_) | (refine zD.is ?_; first | refine zD.nil ?_ | (refine zD.at_ 7 rfl ?_; refine zD.rc (.v zK .e) ?_) | (refine zD.in_ [18] rfl ?_; refine zD.ofT rfl (zF.hd (i := []) (f := vI H _ _) (r := fun x s e g hk => ?_) (p := fun q s e => ?_) (t := ?_)))))
      all_goals first
        | exact fun e => hns1 (by simp only [run_bind, e, Held.zQ])
        | exact .pan (q := q) rfl (by repeat' first | exact trivial | rfl | constructor) (by repeat' exact trivial) (ho.symm.trans (by simp only [run_bind, e, Held.zA]))
        | exact .ret (x := false) (s' := s) (.inl rfl) (.one rfl rfl) (by repeat' first | exact trivial | rfl | constructor) (ho.symm.trans (by rw [run_bind, run_bind, e, Held.zW, (scanT (by assumption) (by assumption) : (!decide (x = 0) && !decide (x = wr1 e0)) = true)]; rfl))
        | skip
      all_goals
        refine ⟨(i + 1, s), ?_, ⟨hlt, hk, Eq.trans ?_ ho⟩, by show t.toNat - (i + 1) < t.toNat - i; omega⟩
        · exact zT K_10 K_11
        · symm
          have hb : (!decide (x = 0) && !decide (x = wr1 e0)) = false := by
            first
              | exact scanF1 (by assumption)
              | exact scanF2 (by assumption)
          rw [run_bind, run_bind, e, Held.zW, hb, cond_false]
          exact (run_bind H.st (advRest t e0) _ s).symm
    case neg =>
      have f1 : decide ((i : Int) < t) = false := decide_eq_false (by omega)
      rw [show t.toNat - i = 0 by omega, scanP] at ho hns1
      repeat' (first | (refine zY.nil ?_) | (refine zZ.is ?_; first | refine zZ.seq ?_ | (refine zZ.isR (id := 3) ?_; refine zZ.rc [2, 3, 4, 5, 6, 7, 11, 12, 13, 26] [2, 3, 1000, 1001, 1002] (r := (.v xY .e)) (h := ?_)) | refine zZ.yH rfl bA ?_ | refine zZ.exit ?_) | refine zB.n ?_ | refine zP.eY ?_ | refine zB.e ?_)
      replace ho : (advRest t e0 true).run H.st s1 = (wS t).run H.st s0 := ho
      replace hns1 : (advRest t e0 true).run H.st s1 ≠ .stuck := hns1
      unfold advRest at ho hns1
      rw [cond_true] at ho hns1
      refine WA.seqK hK ?_
      repeat' (first | (refine zY.is ?_; first | refine zY.nil ?_ | (refine zY.at_ 33 rfl ?_; refine zY.rc (.v v52_8 .e) ?_) | (refine zY.in_ [32] rfl ?_; refine zY.ofT rfl (zF.hd (i := []) (f := cas_h H _ 3 e0 (wr1 e0) hx (wr1_U e0)) (r := fun x s e g hk => ?_) (p := fun q s e => ?_) (t := ?_)))) | (refine zZ.is ?_; first | refine zZ.seq ?_ | (refine zZ.isR (id := 9) ?_; refine zZ.rc [2, 3, 4, 5] [2, 3, 1000, 1001, 1002] (r := (.v wB (.v zV (.v zV (.v v30_6 .e))))) (h := ?_)) | (refine zZ.isR (id := 10) ?_; refine zZ.rc [2, 3, 4, 5] [2, 3, 1000, 1001, 1002] (r := (.v zK .e)) (h := ?_)) | refine zZ.cond rfl (fun h => ?_) (fun h => ?_) | refine zZ.skip ?_ | refine zZ.ret ?_) | refine zB.n ?_ | refine zB.r ?_ | refine zB.p ?_)
      all_goals first
        | exact fun e => hns1 (by simp only [run_bind, e, Held.zQ])
        | exact .pan (q := q) rfl (by repeat' first | exact trivial | rfl | constructor) (by repeat' exact trivial) (ho.symm.trans (by simp only [run_bind, e, Held.zA]))
        | exact .ret (x := false) (s' := s) (.inl rfl) (.one rfl rfl) (by repeat' first | exact trivial | rfl | constructor) (ho.symm.trans (by rw [run_bind, e, Held.zW, (by simpa using h : x = false)]; rfl))
        | skip
      have hxt : x = true := by simpa using h
      replace ho : ((swapP (vZ (wr2 e0)) 0).bind fun h => (chainP t (pushP t) h).bind fun _ => .ret true).run H.st s = (wS t).run H.st s0 := by rw [← ho, run_bind (p := casP _ _ _), e, Held.zW, hxt]; rfl
      have hns2 := hns
      rw [← ho] at hns2
      clear hns1 e g h hxt
      refine WA.pair (WA.seqK (fun e S hn h => WX.thnK hn (hK e S hn h)) ?_)
      have cl := limbo_fn (wr2 e0) (U.lo (wr2_U _))
      refine zZ.rk [2, 3, 4, 5] [2, 3, 1000, 1001, 1002] ?_
      refine zZ.drawGo (by kernel_rfl) ?_
      refine DGo.fr 3 ?_ (h := f_mv (.inl rfl) rfl)
      refine DGo.shareA (α := Int × H.σ) (c := fun y => (swapP (vZ (wr2 e0)) 0).run H.st s = .done y.1 y.2 ∧ U y.1 ∧ H.ok y.2) (fu' := 1) (D' := [3, 0, 1, 2, 4, 5, 6]) (F' := fun y => { t := [(2, .ptr 2 0), (3, .ptr 3 0), (4, .p (.val (.bool false))), (5, .p (.val (.int .u64 e0))), (37, .p (.val (.int .u64 e0))), (34, .clo H.fn [1000, 1001]), (35, .p (.val (.int .i64 t))), (40, .p (.val (.int .u64 y.1)))], s := [(2, doB H), (3, yG t), (1000, H.b0 y.2), (1001, H.b1 y.2), (1002, H.b2 y.2)] }) ?A3111 (fun A3111 => ?_)
      case A3111 =>
        rintro ⟨x, s2⟩ ⟨e, g, hk⟩
        dsimp only at e g hk ⊢
        refine DGo.all [7] (by kernel_rfl) ?_
        refine zI.cons ?_ (zI.nil)
        refine zM.at_ 7 ?_
        refine zM.ofT rfl rfl (zF.newH H [60, 61, 62] (chain_x H _ _ _) rfl (by decide) (enters_fn rfl) rfl (by exact xB rfl (H.nk _).1 (by repeat' first | exact KB.refl | apply KB.kill | decide)) (by exact xB rfl (H.nk _).2.1 (by repeat' first | exact KB.refl | apply KB.kill | decide)) (by exact xB rfl (H.nk _).2.2 (by repeat' first | exact KB.refl | apply KB.kill | decide)) rfl rfl (by decide) rfl rfl rfl ?_)
        refine DGo.fin (by kernel_rfl) (zB.n ?_)
        have hns3 : (chainP t (pushP t) x).run H.st s2 ≠ .stuck := fun h => hns2 (by rw [run_bind, e, Held.zW, run_bind, h]; rfl)
        have hox : ((chainP t (pushP t) x).bind fun _ => .ret true).run H.st s2 = (wS t).run H.st s0 := by rw [← ho, run_bind (p := swapP _ _), e, Held.zW]
        refine WA.block (WA.sub (S' := { t := [(2, .ptr 2 0), (3, .ptr 3 0), (4, .p (.val (.bool false))), (41, .clo 130 [60, 61, 62])], s := [(1000, H.b0 s2), (1001, H.b1 s2), (1002, H.b2 s2), (2, doB H), (3, yG t), (60, wordB x), (61, doB H), (62, yG t)] }) ?sub ?rg)
        case sub =>
          exact zT K_1i K_1j
        refine WA.range (n := 47) (B := H.b0 s2 :: H.b1 s2 :: H.b2 s2 :: [doB H, yG t]) (Bc := [wordB x, doB H, yG t]) (m := 5) (Tl := [(2, .ptr 1003 0), (3, .ptr 1004 0)]) (caps := [.ptr 1006 0, .ptr 1007 0, .ptr 1008 0]) (kc := [60, 61, 62]) (gf := 130)
          (Post := fun l r => HP H (fun _ => .any) (bkI H t x l r) (fun _ => bkI H t x l r) ((chainP t (pushP t) x).run H.st s2)) 45 46 [1000, 1001, 1002, 2, 3, 46, 60, 61, 62] (by decide) (by decide) (fun _ _ _ => rfl) ?hT (fun D l r => handsH H s2 (by decide) rfl (by exact xB rfl (H.nk _).1 (by repeat' first | exact KB.refl | apply KB.kill | decide)) (by exact xB rfl (H.nk _).2.1 (by repeat' first | exact KB.refl | apply KB.kill | decide)) (by exact xB rfl (H.nk _).2.2 (by repeat' first | exact KB.refl | apply KB.kill | decide)) (by repeat' first | exact trivial | rfl | constructor)) rfl rfl rfl ?hit (fun l r => HP.ok rfl fun _ => ⟨rfl, rfl⟩) ?hret ?hpan
        case hT =>
          intro p hp
          simp only [List.mem_cons, List.not_mem_nil, or_false] at hp
          rcases hp with rfl | rfl <;> exact ⟨rfl, fun _ _ _ => rfl⟩
        case hit =>
          intro l r pv hrok
          refine chain1_l H s2 ht g (fun r hr => fine_push t hr) hk hns3 (fun s1 r1 hok1 hr1 hy1 => ?_)
          refine yieldQ_of (n := 47) (fn := Tryz.f84) (B := H.b0 s1 :: H.b1 s1 :: H.b2 s1 :: [doB H, yG t]) (x := .int .i64 r1) (d := 42) { t := [(2, .ptr 1003 0), (3, .ptr 1004 0), (8, .p (.val (.int .i64 r1)))], s := [(1000, H.b0 s1), (1001, H.b1 s1), (1002, H.b2 s1), (1003, doB H), (1004, yG t), (1005, recB l r)] } Tryz.func84 hrok rfl (by decide) (by decide) rfl (ACodeR.region rfl ?asg) rfl
            ((ACodeR.block (ACodeR.region rfl ?bd)).mono (K := EndYH H l r [doB H, yG t] ((pushP t r1).run H.st s1)) fun e S h => h.y)
          case asg =>
            repeat' ((refine zY.is ?_; first | refine zY.nil ?_ | (refine zY.at_ 8 rfl ?_; refine zY.rc (.v zK .e) ?_)))
            refine ⟨rfl, ?_⟩
            exact zT K_1k K_1l
          case bd =>
            repeat' (first | (refine zY.is ?_; first | refine zY.nil ?_ | (refine zY.at_ 43 rfl ?_; refine zY.rc (.v wB (.v zN (.v zV .e))) ?_) | (refine zY.in_ [46] rfl ?_; refine zY.ofT rfl (zF.hd (i := []) (f := push_h H _ ht hr1) (r := fun x s e g hk => ?_) (p := fun q s e => ?_) (t := ?_)))) | refine zP.n ?_ | refine zP.p ?_)
            all_goals first
              | exact hy1
              | exact .norm (by repeat' first | exact trivial | rfl | constructor) e
              | exact .pan (q := q) rfl (by repeat' first | exact trivial | rfl | constructor) (by repeat' first | exact trivial | exact ⟨_, rfl, rfl⟩ | constructor) e
        case hret =>
          intro D l r rx B' hp
          generalize hm2 : (chainP t (pushP t) x).run H.st s2 = m2 at hp
          cases m2 with
          | stuck => exact hp.elim
          | need q s3 => cases hp.1
          | done u s3 =>
            obtain ⟨he, rfl⟩ := hp
            injection he with he
            subst he
            refine ⟨rfl, rfl, WX.blkN (WX.nxt (WA.of ?_))⟩
            rw [afterH, hd]
            repeat' (first | (refine zY.nil ?_) | (refine zZ.is ?_; first | refine zZ.seq ?_ | (refine zZ.isR (id := 14) ?_; refine zZ.rc [4] [2, 3, 45, 46, 60, 61, 62, 1000, 1001, 1002] (r := (.v zK .e)) (h := ?_)) | refine zZ.ret ?_) | refine zB.n ?_)
            refine WX.endM 45 hd rfl (EndH.q (.ret (x := true) (s' := s3) (.inl rfl) (.one rfl rfl) (by repeat' first | exact trivial | rfl | constructor) (hox.symm.trans (by rw [run_bind, hm2]; rfl))))
        case hpan =>
          intro D l r rx B' hp
          generalize hm2 : (chainP t (pushP t) x).run H.st s2 = m2 at hp
          cases m2 with
          | stuck => exact hp.elim
          | done u s3 => cases hp.1
          | need q s3 =>
            obtain ⟨he, rfl⟩ := hp
            injection he with he
            subst he
            refine ⟨rfl, WX.blkP (WX.thn ?_)⟩
            rw [afterH, hd]
            refine WX.endM 45 hd rfl (EndH.q (.pan (q := q) rfl (by repeat' first | exact trivial | rfl | constructor) (by repeat' exact trivial) (hox.symm.trans (by rw [run_bind, hm2]; rfl))))
      refine DGo.share (fu' := 2) (D' := [3, 0, 1, 2, 4, 5]) (F' := { t := [(2, .ptr 2 0), (3, .ptr 3 0), (4, .p (.val (.bool false))), (5, .p (.val (.int .u64 e0))), (37, .p (.val (.int .u64 e0))), (34, .clo H.fn [1000, 1001]), (35, .p (.val (.int .i64 t))), (36, .clo H.fn [1000, 1001]), (39, .p (.val (.int .i64 (vZ (wr2 e0)))))], s := [(2, doB H), (3, yG t), (1000, H.b0 s), (1001, H.b1 s), (1002, H.b2 s)] }) ?A2111 (fun A2111 => ?_)
      case A2111 =>
        refine DGo.all [6] (by kernel_rfl) ?_
        refine zI.cons ?_ (zI.nil)
        · refine zM.at_ 6 ?_
          refine zM.ofT rfl rfl (zF.hd (i := []) (f := swap_h H _ _ _ U.zero) (r := fun x s2 e g hk => ?r6) (p := fun q s2 e => ?p6) (t := fun e => hns2 (by rw [run_bind, e]; rfl)))
          case p6 => exact zB.p (.pan (q := q) rfl (by repeat' first | exact trivial | rfl | constructor) (by repeat' exact trivial) (ho.symm.trans (by rw [run_bind, e]; rfl)))
          case r6 => exact DGo.keep [2, 3, 4, 5, 37, 34, 35, 40] [2, 3, 1000, 1001, 1002] (A3111 ⟨x, s2⟩ ⟨e, g, hk⟩)
      refine DGo.shareA (α := Int × H.σ) (c := fun y => (swapP (vZ (wr2 e0)) 0).run H.st s = .done y.1 y.2 ∧ U y.1 ∧ H.ok y.2) (fu' := 2) (D' := [3, 1, 2, 4, 5, 6]) (F' := fun y => { t := [(2, .ptr 2 0), (3, .ptr 3 0), (4, .p (.val (.bool false))), (5, .p (.val (.int .u64 e0))), (37, .p (.val (.int .u64 e0))), (35, .p (.val (.int .i64 t))), (40, .p (.val (.int .u64 y.1)))], s := [(2, doB H), (3, yG t), (1000, H.b0 y.2), (1001, H.b1 y.2), (1002, H.b2 y.2)] }) ?A3101 (fun A3101 => ?_)
      case A3101 =>
        rintro ⟨x, s2⟩ ⟨e, g, hk⟩
        dsimp only at e g hk ⊢
        refine DGo.all [0] (by kernel_rfl) ?_
        refine zI.cons ?_ (zI.nil)
        · refine zM.at_ 0 ?_
          refine zM.v rfl rfl rfl (yP rfl rfl rfl rfl rfl (by decide)) ?_
          exact DGo.keep [2, 3, 4, 5, 37, 34, 35, 40] [2, 3, 1000, 1001, 1002] (A3111 ⟨x, s2⟩ ⟨e, g, hk⟩)
      refine DGo.shareA (α := Int × H.σ) (c := fun y => (swapP (vZ (wr2 e0)) 0).run H.st s = .done y.1 y.2 ∧ U y.1 ∧ H.ok y.2) (fu' := 2) (D' := [3, 0, 2, 4, 5, 6]) (F' := fun y => { t := [(2, .ptr 2 0), (3, .ptr 3 0), (4, .p (.val (.bool false))), (5, .p (.val (.int .u64 e0))), (37, .p (.val (.int .u64 e0))), (34, .clo H.fn [1000, 1001]), (40, .p (.val (.int .u64 y.1)))], s := [(2, doB H), (3, yG t), (1000, H.b0 y.2), (1001, H.b1 y.2), (1002, H.b2 y.2)] }) ?A3110 (fun A3110 => ?_)
      case A3110 =>
        rintro ⟨x, s2⟩ ⟨e, g, hk⟩
        dsimp only at e g hk ⊢
        refine DGo.all [1] (by kernel_rfl) ?_
        refine zI.cons ?_ (zI.nil)
        · refine zM.at_ 1 ?_
          refine zM.v rfl rfl rfl (yX rfl rfl rfl rfl rfl (by decide)) ?_
          exact DGo.keep [2, 3, 4, 5, 37, 34, 35, 40] [2, 3, 1000, 1001, 1002] (A3111 ⟨x, s2⟩ ⟨e, g, hk⟩)
      refine DGo.share (fu' := 3) (D' := [3, 0, 1, 2, 4]) (F' := { t := [(2, .ptr 2 0), (3, .ptr 3 0), (4, .p (.val (.bool false))), (5, .p (.val (.int .u64 e0))), (37, .p (.val (.int .u64 e0))), (34, .clo H.fn [1000, 1001]), (35, .p (.val (.int .i64 t))), (36, .clo H.fn [1000, 1001]), (38, .p (.val (.int .u64 (wr2 e0))))], s := [(2, doB H), (3, yG t), (1000, H.b0 s), (1001, H.b1 s), (1002, H.b2 s)] }) ?A1111 (fun A1111 => ?_)
      case A1111 =>
        refine DGo.all [5] (by kernel_rfl) ?_
        refine zI.cons ?_ (zI.nil)
        · refine zM.at_ 5 ?_
          refine zM.v rfl rfl rfl (by exact zL cl rfl rfl rfl (by decide)) ?_
          exact DGo.keep [2, 3, 4, 5, 37, 34, 35, 36, 39] [2, 3, 1000, 1001, 1002] A2111
      refine DGo.share (fu' := 3) (D' := [3, 0, 1, 4, 5]) (F' := { t := [(2, .ptr 2 0), (3, .ptr 3 0), (4, .p (.val (.bool false))), (5, .p (.val (.int .u64 e0))), (37, .p (.val (.int .u64 e0))), (34, .clo H.fn [1000, 1001]), (35, .p (.val (.int .i64 t))), (39, .p (.val (.int .i64 (vZ (wr2 e0)))))], s := [(2, doB H), (3, yG t), (1000, H.b0 s), (1001, H.b1 s), (1002, H.b2 s)] }) ?A2011 (fun A2011 => ?_)
      case A2011 =>
        refine DGo.all [2] (by kernel_rfl) ?_
        refine zI.cons ?_ (zI.nil)
        · refine zM.at_ 2 ?_
          refine zM.v rfl rfl rfl (yP rfl rfl rfl rfl rfl (by decide)) ?_
          exact DGo.keep [2, 3, 4, 5, 37, 34, 35, 36, 39] [2, 3, 1000, 1001, 1002] A2111
      refine DGo.share (fu' := 3) (D' := [3, 1, 2, 4, 5]) (F' := { t := [(2, .ptr 2 0), (3, .ptr 3 0), (4, .p (.val (.bool false))), (5, .p (.val (.int .u64 e0))), (37, .p (.val (.int .u64 e0))), (35, .p (.val (.int .i64 t))), (36, .clo H.fn [1000, 1001]), (39, .p (.val (.int .i64 (vZ (wr2 e0)))))], s := [(2, doB H), (3, yG t), (1000, H.b0 s), (1001, H.b1 s), (1002, H.b2 s)] }) ?A2101 (fun A2101 => ?_)
      case A2101 =>
        refine DGo.all [0, 6] (by kernel_rfl) ?_
        refine zI.cons ?_ (zI.cons ?_ (zI.nil))
        · refine zM.at_ 0 ?_
          refine zM.v rfl rfl rfl (yP rfl rfl rfl rfl rfl (by decide)) ?_
          exact DGo.keep [2, 3, 4, 5, 37, 34, 35, 36, 39] [2, 3, 1000, 1001, 1002] A2111
        · refine zM.at_ 6 ?_
          refine zM.ofT rfl rfl (zF.hd (i := []) (f := swap_h H _ _ _ U.zero) (r := fun x s2 e g hk => ?r6) (p := fun q s2 e => ?p6) (t := fun e => hns2 (by rw [run_bind, e]; rfl)))
          case p6 => exact zB.p (.pan (q := q) rfl (by repeat' first | exact trivial | rfl | constructor) (by repeat' exact trivial) (ho.symm.trans (by rw [run_bind, e]; rfl)))
          case r6 => exact DGo.keep [2, 3, 4, 5, 37, 35, 40] [2, 3, 1000, 1001, 1002] (A3101 ⟨x, s2⟩ ⟨e, g, hk⟩)
      refine DGo.share (fu' := 3) (D' := [3, 0, 2, 4, 5]) (F' := { t := [(2, .ptr 2 0), (3, .ptr 3 0), (4, .p (.val (.bool false))), (5, .p (.val (.int .u64 e0))), (37, .p (.val (.int .u64 e0))), (34, .clo H.fn [1000, 1001]), (36, .clo H.fn [1000, 1001]), (39, .p (.val (.int .i64 (vZ (wr2 e0)))))], s := [(2, doB H), (3, yG t), (1000, H.b0 s), (1001, H.b1 s), (1002, H.b2 s)] }) ?A2110 (fun A2110 => ?_)
      case A2110 =>
        refine DGo.all [1, 6] (by kernel_rfl) ?_
        refine zI.cons ?_ (zI.cons ?_ (zI.nil))
        · refine zM.at_ 1 ?_
          refine zM.v rfl rfl rfl (yX rfl rfl rfl rfl rfl (by decide)) ?_
          exact DGo.keep [2, 3, 4, 5, 37, 34, 35, 36, 39] [2, 3, 1000, 1001, 1002] A2111
        · refine zM.at_ 6 ?_
          refine zM.ofT rfl rfl (zF.hd (i := []) (f := swap_h H _ _ _ U.zero) (r := fun x s2 e g hk => ?r6) (p := fun q s2 e => ?p6) (t := fun e => hns2 (by rw [run_bind, e]; rfl)))
          case p6 => exact zB.p (.pan (q := q) rfl (by repeat' first | exact trivial | rfl | constructor) (by repeat' exact trivial) (ho.symm.trans (by rw [run_bind, e]; rfl)))
          case r6 => exact DGo.keep [2, 3, 4, 5, 37, 34, 40] [2, 3, 1000, 1001, 1002] (A3110 ⟨x, s2⟩ ⟨e, g, hk⟩)
      refine DGo.shareA (α := Int × H.σ) (c := fun y => (swapP (vZ (wr2 e0)) 0).run H.st s = .done y.1 y.2 ∧ U y.1 ∧ H.ok y.2) (fu' := 3) (D' := [3, 2, 4, 5, 6]) (F' := fun y => { t := [(2, .ptr 2 0), (3, .ptr 3 0), (4, .p (.val (.bool false))), (5, .p (.val (.int .u64 e0))), (37, .p (.val (.int .u64 e0))), (40, .p (.val (.int .u64 y.1)))], s := [(2, doB H), (3, yG t), (1000, H.b0 y.2), (1001, H.b1 y.2), (1002, H.b2 y.2)] }) ?A3100 (fun A3100 => ?_)
      case A3100 =>
        rintro ⟨x, s2⟩ ⟨e, g, hk⟩
        dsimp only at e g hk ⊢
        refine DGo.all [0, 1] (by kernel_rfl) ?_
        refine zI.cons ?_ (zI.cons ?_ (zI.nil))
        · refine zM.at_ 0 ?_
          refine zM.v rfl rfl rfl (yP rfl rfl rfl rfl rfl (by decide)) ?_
          exact DGo.keep [2, 3, 4, 5, 37, 34, 40] [2, 3, 1000, 1001, 1002] (A3110 ⟨x, s2⟩ ⟨e, g, hk⟩)
        · refine zM.at_ 1 ?_
          refine zM.v rfl rfl rfl (yX rfl rfl rfl rfl rfl (by decide)) ?_
          exact DGo.keep [2, 3, 4, 5, 37, 35, 40] [2, 3, 1000, 1001, 1002] (A3101 ⟨x, s2⟩ ⟨e, g, hk⟩)
      refine DGo.share (fu' := 4) (D' := [3, 0, 1, 2]) (F' := { t := [(2, .ptr 2 0), (3, .ptr 3 0), (4, .p (.val (.bool false))), (5, .p (.val (.int .u64 e0))), (37, .p (.val (.int .u64 e0))), (34, .clo H.fn [1000, 1001]), (35, .p (.val (.int .i64 t))), (36, .clo H.fn [1000, 1001])], s := [(2, doB H), (3, yG t), (1000, H.b0 s), (1001, H.b1 s), (1002, H.b2 s)] }) ?A0111 (fun A0111 => ?_)
      case A0111 =>
        refine DGo.all [4] (by kernel_rfl) ?_
        refine zI.cons ?_ (zI.nil)
        · refine zM.at_ 4 ?_
          refine zM.v rfl rfl rfl (a_add rfl rfl rfl rfl rfl (by decide)) ?_
          exact DGo.keep [2, 3, 4, 5, 37, 34, 35, 36, 38] [2, 3, 1000, 1001, 1002] A1111
      refine DGo.share (fu' := 4) (D' := [3, 0, 1, 4]) (F' := { t := [(2, .ptr 2 0), (3, .ptr 3 0), (4, .p (.val (.bool false))), (5, .p (.val (.int .u64 e0))), (37, .p (.val (.int .u64 e0))), (34, .clo H.fn [1000, 1001]), (35, .p (.val (.int .i64 t))), (38, .p (.val (.int .u64 (wr2 e0))))], s := [(2, doB H), (3, yG t), (1000, H.b0 s), (1001, H.b1 s), (1002, H.b2 s)] }) ?A1011 (fun A1011 => ?_)
      case A1011 =>
        refine DGo.all [2, 5] (by kernel_rfl) ?_
        refine zI.cons ?_ (zI.cons ?_ (zI.nil))
        · refine zM.at_ 2 ?_
          refine zM.v rfl rfl rfl (yP rfl rfl rfl rfl rfl (by decide)) ?_
          exact DGo.keep [2, 3, 4, 5, 37, 34, 35, 36, 38] [2, 3, 1000, 1001, 1002] A1111
        · refine zM.at_ 5 ?_
          refine zM.v rfl rfl rfl (by exact zL cl rfl rfl rfl (by decide)) ?_
          exact DGo.keep [2, 3, 4, 5, 37, 34, 35, 39] [2, 3, 1000, 1001, 1002] A2011
      refine DGo.share (fu' := 4) (D' := [3, 1, 2, 4]) (F' := { t := [(2, .ptr 2 0), (3, .ptr 3 0), (4, .p (.val (.bool false))), (5, .p (.val (.int .u64 e0))), (37, .p (.val (.int .u64 e0))), (35, .p (.val (.int .i64 t))), (36, .clo H.fn [1000, 1001]), (38, .p (.val (.int .u64 (wr2 e0))))], s := [(2, doB H), (3, yG t), (1000, H.b0 s), (1001, H.b1 s), (1002, H.b2 s)] }) ?A1101 (fun A1101 => ?_)
      case A1101 =>
        refine DGo.all [0, 5] (by kernel_rfl) ?_
        refine zI.cons ?_ (zI.cons ?_ (zI.nil))
        · refine zM.at_ 0 ?_
          refine zM.v rfl rfl rfl (yP rfl rfl rfl rfl rfl (by decide)) ?_
          exact DGo.keep [2, 3, 4, 5, 37, 34, 35, 36, 38] [2, 3, 1000, 1001, 1002] A1111
        · refine zM.at_ 5 ?_
          refine zM.v rfl rfl rfl (by exact zL cl rfl rfl rfl (by decide)) ?_
          exact DGo.keep [2, 3, 4, 5, 37, 35, 36, 39] [2, 3, 1000, 1001, 1002] A2101
      refine DGo.share (fu' := 4) (D' := [3, 0, 2, 4]) (F' := { t := [(2, .ptr 2 0), (3, .ptr 3 0), (4, .p (.val (.bool false))), (5, .p (.val (.int .u64 e0))), (37, .p (.val (.int .u64 e0))), (34, .clo H.fn [1000, 1001]), (36, .clo H.fn [1000, 1001]), (38, .p (.val (.int .u64 (wr2 e0))))], s := [(2, doB H), (3, yG t), (1000, H.b0 s), (1001, H.b1 s), (1002, H.b2 s)] }) ?A1110 (fun A1110 => ?_)
      case A1110 =>
        refine DGo.all [1, 5] (by kernel_rfl) ?_
        refine zI.cons ?_ (zI.cons ?_ (zI.nil))
        · refine zM.at_ 1 ?_
          refine zM.v rfl rfl rfl (yX rfl rfl rfl rfl rfl (by decide)) ?_
          exact DGo.keep [2, 3, 4, 5, 37, 34, 35, 36, 38] [2, 3, 1000, 1001, 1002] A1111
        · refine zM.at_ 5 ?_
          refine zM.v rfl rfl rfl (by exact zL cl rfl rfl rfl (by decide)) ?_
          exact DGo.keep [2, 3, 4, 5, 37, 34, 36, 39] [2, 3, 1000, 1001, 1002] A2110
      refine DGo.share (fu' := 4) (D' := [3, 1, 4, 5]) (F' := { t := [(2, .ptr 2 0), (3, .ptr 3 0), (4, .p (.val (.bool false))), (5, .p (.val (.int .u64 e0))), (37, .p (.val (.int .u64 e0))), (35, .p (.val (.int .i64 t))), (39, .p (.val (.int .i64 (vZ (wr2 e0)))))], s := [(2, doB H), (3, yG t), (1000, H.b0 s), (1001, H.b1 s), (1002, H.b2 s)] }) ?A2001 (fun A2001 => ?_)
      case A2001 =>
        refine DGo.all [0, 2] (by kernel_rfl) ?_
        refine zI.cons ?_ (zI.cons ?_ (zI.nil))
        · refine zM.at_ 0 ?_
          refine zM.v rfl rfl rfl (yP rfl rfl rfl rfl rfl (by decide)) ?_
          exact DGo.keep [2, 3, 4, 5, 37, 34, 35, 39] [2, 3, 1000, 1001, 1002] A2011
        · refine zM.at_ 2 ?_
          refine zM.v rfl rfl rfl (yP rfl rfl rfl rfl rfl (by decide)) ?_
          exact DGo.keep [2, 3, 4, 5, 37, 35, 36, 39] [2, 3, 1000, 1001, 1002] A2101
      refine DGo.share (fu' := 4) (D' := [3, 0, 4, 5]) (F' := { t := [(2, .ptr 2 0), (3, .ptr 3 0), (4, .p (.val (.bool false))), (5, .p (.val (.int .u64 e0))), (37, .p (.val (.int .u64 e0))), (34, .clo H.fn [1000, 1001]), (39, .p (.val (.int .i64 (vZ (wr2 e0)))))], s := [(2, doB H), (3, yG t), (1000, H.b0 s), (1001, H.b1 s), (1002, H.b2 s)] }) ?A2010 (fun A2010 => ?_)
      case A2010 =>
        refine DGo.all [1, 2] (by kernel_rfl) ?_
        refine zI.cons ?_ (zI.cons ?_ (zI.nil))
        · refine zM.at_ 1 ?_
          refine zM.v rfl rfl rfl (yX rfl rfl rfl rfl rfl (by decide)) ?_
          exact DGo.keep [2, 3, 4, 5, 37, 34, 35, 39] [2, 3, 1000, 1001, 1002] A2011
        · refine zM.at_ 2 ?_
          refine zM.v rfl rfl rfl (yP rfl rfl rfl rfl rfl (by decide)) ?_
          exact DGo.keep [2, 3, 4, 5, 37, 34, 36, 39] [2, 3, 1000, 1001, 1002] A2110
      refine DGo.share (fu' := 4) (D' := [3, 2, 4, 5]) (F' := { t := [(2, .ptr 2 0), (3, .ptr 3 0), (4, .p (.val (.bool false))), (5, .p (.val (.int .u64 e0))), (37, .p (.val (.int .u64 e0))), (36, .clo H.fn [1000, 1001]), (39, .p (.val (.int .i64 (vZ (wr2 e0)))))], s := [(2, doB H), (3, yG t), (1000, H.b0 s), (1001, H.b1 s), (1002, H.b2 s)] }) ?A2100 (fun A2100 => ?_)
      case A2100 =>
        refine DGo.all [0, 1, 6] (by kernel_rfl) ?_
        refine zI.cons ?_ (zI.cons ?_ (zI.cons ?_ (zI.nil)))
        · refine zM.at_ 0 ?_
          refine zM.v rfl rfl rfl (yP rfl rfl rfl rfl rfl (by decide)) ?_
          exact DGo.keep [2, 3, 4, 5, 37, 34, 36, 39] [2, 3, 1000, 1001, 1002] A2110
        · refine zM.at_ 1 ?_
          refine zM.v rfl rfl rfl (yX rfl rfl rfl rfl rfl (by decide)) ?_
          exact DGo.keep [2, 3, 4, 5, 37, 35, 36, 39] [2, 3, 1000, 1001, 1002] A2101
        · refine zM.at_ 6 ?_
          refine zM.ofT rfl rfl (zF.hd (i := []) (f := swap_h H _ _ _ U.zero) (r := fun x s2 e g hk => ?r6) (p := fun q s2 e => ?p6) (t := fun e => hns2 (by rw [run_bind, e]; rfl)))
          case p6 => exact zB.p (.pan (q := q) rfl (by repeat' first | exact trivial | rfl | constructor) (by repeat' exact trivial) (ho.symm.trans (by rw [run_bind, e]; rfl)))
          case r6 => exact DGo.keep [2, 3, 4, 5, 37, 40] [2, 3, 1000, 1001, 1002] (A3100 ⟨x, s2⟩ ⟨e, g, hk⟩)
      refine DGo.share (fu' := 5) (D' := [3, 0, 1]) (F' := { t := [(2, .ptr 2 0), (3, .ptr 3 0), (4, .p (.val (.bool false))), (5, .p (.val (.int .u64 e0))), (37, .p (.val (.int .u64 e0))), (34, .clo H.fn [1000, 1001]), (35, .p (.val (.int .i64 t)))], s := [(2, doB H), (3, yG t), (1000, H.b0 s), (1001, H.b1 s), (1002, H.b2 s)] }) ?A0011 (fun A0011 => ?_)
      case A0011 =>
        refine DGo.all [2, 4] (by kernel_rfl) ?_
        refine zI.cons ?_ (zI.cons ?_ (zI.nil))
        · refine zM.at_ 2 ?_
          refine zM.v rfl rfl rfl (yP rfl rfl rfl rfl rfl (by decide)) ?_
          exact DGo.keep [2, 3, 4, 5, 37, 34, 35, 36] [2, 3, 1000, 1001, 1002] A0111
        · refine zM.at_ 4 ?_
          refine zM.v rfl rfl rfl (a_add rfl rfl rfl rfl rfl (by decide)) ?_
          exact DGo.keep [2, 3, 4, 5, 37, 34, 35, 38] [2, 3, 1000, 1001, 1002] A1011
      refine DGo.share (fu' := 5) (D' := [3, 1, 2]) (F' := { t := [(2, .ptr 2 0), (3, .ptr 3 0), (4, .p (.val (.bool false))), (5, .p (.val (.int .u64 e0))), (37, .p (.val (.int .u64 e0))), (35, .p (.val (.int .i64 t))), (36, .clo H.fn [1000, 1001])], s := [(2, doB H), (3, yG t), (1000, H.b0 s), (1001, H.b1 s), (1002, H.b2 s)] }) ?A0101 (fun A0101 => ?_)
      case A0101 =>
        refine DGo.all [0, 4] (by kernel_rfl) ?_
        refine zI.cons ?_ (zI.cons ?_ (zI.nil))
        · refine zM.at_ 0 ?_
          refine zM.v rfl rfl rfl (yP rfl rfl rfl rfl rfl (by decide)) ?_
          exact DGo.keep [2, 3, 4, 5, 37, 34, 35, 36] [2, 3, 1000, 1001, 1002] A0111
        · refine zM.at_ 4 ?_
          refine zM.v rfl rfl rfl (a_add rfl rfl rfl rfl rfl (by decide)) ?_
          exact DGo.keep [2, 3, 4, 5, 37, 35, 36, 38] [2, 3, 1000, 1001, 1002] A1101
      refine DGo.share (fu' := 5) (D' := [3, 0, 2]) (F' := { t := [(2, .ptr 2 0), (3, .ptr 3 0), (4, .p (.val (.bool false))), (5, .p (.val (.int .u64 e0))), (37, .p (.val (.int .u64 e0))), (34, .clo H.fn [1000, 1001]), (36, .clo H.fn [1000, 1001])], s := [(2, doB H), (3, yG t), (1000, H.b0 s), (1001, H.b1 s), (1002, H.b2 s)] }) ?A0110 (fun A0110 => ?_)
      case A0110 =>
        refine DGo.all [1, 4] (by kernel_rfl) ?_
        refine zI.cons ?_ (zI.cons ?_ (zI.nil))
        · refine zM.at_ 1 ?_
          refine zM.v rfl rfl rfl (yX rfl rfl rfl rfl rfl (by decide)) ?_
          exact DGo.keep [2, 3, 4, 5, 37, 34, 35, 36] [2, 3, 1000, 1001, 1002] A0111
        · refine zM.at_ 4 ?_
          refine zM.v rfl rfl rfl (a_add rfl rfl rfl rfl rfl (by decide)) ?_
          exact DGo.keep [2, 3, 4, 5, 37, 34, 36, 38] [2, 3, 1000, 1001, 1002] A1110
      refine DGo.share (fu' := 5) (D' := [3, 1, 4]) (F' := { t := [(2, .ptr 2 0), (3, .ptr 3 0), (4, .p (.val (.bool false))), (5, .p (.val (.int .u64 e0))), (37, .p (.val (.int .u64 e0))), (35, .p (.val (.int .i64 t))), (38, .p (.val (.int .u64 (wr2 e0))))], s := [(2, doB H), (3, yG t), (1000, H.b0 s), (1001, H.b1 s), (1002, H.b2 s)] }) ?A1001 (fun A1001 => ?_)
      case A1001 =>
        refine DGo.all [0, 2, 5] (by kernel_rfl) ?_
        refine zI.cons ?_ (zI.cons ?_ (zI.cons ?_ (zI.nil)))
        · refine zM.at_ 0 ?_
          refine zM.v rfl rfl rfl (yP rfl rfl rfl rfl rfl (by decide)) ?_
          exact DGo.keep [2, 3, 4, 5, 37, 34, 35, 38] [2, 3, 1000, 1001, 1002] A1011
        · refine zM.at_ 2 ?_
          refine zM.v rfl rfl rfl (yP rfl rfl rfl rfl rfl (by decide)) ?_
          exact DGo.keep [2, 3, 4, 5, 37, 35, 36, 38] [2, 3, 1000, 1001, 1002] A1101
        · refine zM.at_ 5 ?_
          refine zM.v rfl rfl rfl (by exact zL cl rfl rfl rfl (by decide)) ?_
          exact DGo.keep [2, 3, 4, 5, 37, 35, 39] [2, 3, 1000, 1001, 1002] A2001
      refine DGo.share (fu' := 5) (D' := [3, 0, 4]) (F' := { t := [(2, .ptr 2 0), (3, .ptr 3 0), (4, .p (.val (.bool false))), (5, .p (.val (.int .u64 e0))), (37, .p (.val (.int .u64 e0))), (34, .clo H.fn [1000, 1001]), (38, .p (.val (.int .u64 (wr2 e0))))], s := [(2, doB H), (3, yG t), (1000, H.b0 s), (1001, H.b1 s), (1002, H.b2 s)] }) ?A1010 (fun A1010 => ?_)
      case A1010 =>
        refine DGo.all [1, 2, 5] (by kernel_rfl) ?_
        refine zI.cons ?_ (zI.cons ?_ (zI.cons ?_ (zI.nil)))
        · refine zM.at_ 1 ?_
          refine zM.v rfl rfl rfl (yX rfl rfl rfl rfl rfl (by decide)) ?_
          exact DGo.keep [2, 3, 4, 5, 37, 34, 35, 38] [2, 3, 1000, 1001, 1002] A1011
        · refine zM.at_ 2 ?_
          refine zM.v rfl rfl rfl (yP rfl rfl rfl rfl rfl (by decide)) ?_
          exact DGo.keep [2, 3, 4, 5, 37, 34, 36, 38] [2, 3, 1000, 1001, 1002] A1110
        · refine zM.at_ 5 ?_
          refine zM.v rfl rfl rfl (by exact zL cl rfl rfl rfl (by decide)) ?_
          exact DGo.keep [2, 3, 4, 5, 37, 34, 39] [2, 3, 1000, 1001, 1002] A2010
      refine DGo.share (fu' := 5) (D' := [3, 2, 4]) (F' := { t := [(2, .ptr 2 0), (3, .ptr 3 0), (4, .p (.val (.bool false))), (5, .p (.val (.int .u64 e0))), (37, .p (.val (.int .u64 e0))), (36, .clo H.fn [1000, 1001]), (38, .p (.val (.int .u64 (wr2 e0))))], s := [(2, doB H), (3, yG t), (1000, H.b0 s), (1001, H.b1 s), (1002, H.b2 s)] }) ?A1100 (fun A1100 => ?_)
      case A1100 =>
        refine DGo.all [0, 1, 5] (by kernel_rfl) ?_
        refine zI.cons ?_ (zI.cons ?_ (zI.cons ?_ (zI.nil)))
        · refine zM.at_ 0 ?_
          refine zM.v rfl rfl rfl (yP rfl rfl rfl rfl rfl (by decide)) ?_
          exact DGo.keep [2, 3, 4, 5, 37, 34, 36, 38] [2, 3, 1000, 1001, 1002] A1110
        · refine zM.at_ 1 ?_
          refine zM.v rfl rfl rfl (yX rfl rfl rfl rfl rfl (by decide)) ?_
          exact DGo.keep [2, 3, 4, 5, 37, 35, 36, 38] [2, 3, 1000, 1001, 1002] A1101
        · refine zM.at_ 5 ?_
          refine zM.v rfl rfl rfl (by exact zL cl rfl rfl rfl (by decide)) ?_
          exact DGo.keep [2, 3, 4, 5, 37, 36, 39] [2, 3, 1000, 1001, 1002] A2100
      refine DGo.share (fu' := 5) (D' := [3, 4, 5]) (F' := { t := [(2, .ptr 2 0), (3, .ptr 3 0), (4, .p (.val (.bool false))), (5, .p (.val (.int .u64 e0))), (37, .p (.val (.int .u64 e0))), (39, .p (.val (.int .i64 (vZ (wr2 e0)))))], s := [(2, doB H), (3, yG t), (1000, H.b0 s), (1001, H.b1 s), (1002, H.b2 s)] }) ?A2000 (fun A2000 => ?_)
      case A2000 =>
        refine DGo.all [0, 1, 2] (by kernel_rfl) ?_
        refine zI.cons ?_ (zI.cons ?_ (zI.cons ?_ (zI.nil)))
        · refine zM.at_ 0 ?_
          refine zM.v rfl rfl rfl (yP rfl rfl rfl rfl rfl (by decide)) ?_
          exact DGo.keep [2, 3, 4, 5, 37, 34, 39] [2, 3, 1000, 1001, 1002] A2010
        · refine zM.at_ 1 ?_
          refine zM.v rfl rfl rfl (yX rfl rfl rfl rfl rfl (by decide)) ?_
          exact DGo.keep [2, 3, 4, 5, 37, 35, 39] [2, 3, 1000, 1001, 1002] A2001
        · refine zM.at_ 2 ?_
          refine zM.v rfl rfl rfl (yP rfl rfl rfl rfl rfl (by decide)) ?_
          exact DGo.keep [2, 3, 4, 5, 37, 36, 39] [2, 3, 1000, 1001, 1002] A2100
      refine DGo.share (fu' := 6) (D' := [3, 1]) (F' := { t := [(2, .ptr 2 0), (3, .ptr 3 0), (4, .p (.val (.bool false))), (5, .p (.val (.int .u64 e0))), (37, .p (.val (.int .u64 e0))), (35, .p (.val (.int .i64 t)))], s := [(2, doB H), (3, yG t), (1000, H.b0 s), (1001, H.b1 s), (1002, H.b2 s)] }) ?A0001 (fun A0001 => ?_)
      case A0001 =>
        refine DGo.all [0, 2, 4] (by kernel_rfl) ?_
        refine zI.cons ?_ (zI.cons ?_ (zI.cons ?_ (zI.nil)))
        · refine zM.at_ 0 ?_
          refine zM.v rfl rfl rfl (yP rfl rfl rfl rfl rfl (by decide)) ?_
          exact DGo.keep [2, 3, 4, 5, 37, 34, 35] [2, 3, 1000, 1001, 1002] A0011
        · refine zM.at_ 2 ?_
          refine zM.v rfl rfl rfl (yP rfl rfl rfl rfl rfl (by decide)) ?_
          exact DGo.keep [2, 3, 4, 5, 37, 35, 36] [2, 3, 1000, 1001, 1002] A0101
        · refine zM.at_ 4 ?_
          refine zM.v rfl rfl rfl (a_add rfl rfl rfl rfl rfl (by decide)) ?_
          exact DGo.keep [2, 3, 4, 5, 37, 35, 38] [2, 3, 1000, 1001, 1002] A1001
      refine DGo.share (fu' := 6) (D' := [3, 0]) (F' := { t := [(2, .ptr 2 0), (3, .ptr 3 0), (4, .p (.val (.bool false))), (5, .p (.val (.int .u64 e0))), (37, .p (.val (.int .u64 e0))), (34, .clo H.fn [1000, 1001])], s := [(2, doB H), (3, yG t), (1000, H.b0 s), (1001, H.b1 s), (1002, H.b2 s)] }) ?A0010 (fun A0010 => ?_)
      case A0010 =>
        refine DGo.all [1, 2, 4] (by kernel_rfl) ?_
        refine zI.cons ?_ (zI.cons ?_ (zI.cons ?_ (zI.nil)))
        · refine zM.at_ 1 ?_
          refine zM.v rfl rfl rfl (yX rfl rfl rfl rfl rfl (by decide)) ?_
          exact DGo.keep [2, 3, 4, 5, 37, 34, 35] [2, 3, 1000, 1001, 1002] A0011
        · refine zM.at_ 2 ?_
          refine zM.v rfl rfl rfl (yP rfl rfl rfl rfl rfl (by decide)) ?_
          exact DGo.keep [2, 3, 4, 5, 37, 34, 36] [2, 3, 1000, 1001, 1002] A0110
        · refine zM.at_ 4 ?_
          refine zM.v rfl rfl rfl (a_add rfl rfl rfl rfl rfl (by decide)) ?_
          exact DGo.keep [2, 3, 4, 5, 37, 34, 38] [2, 3, 1000, 1001, 1002] A1010
      refine DGo.share (fu' := 6) (D' := [3, 2]) (F' := { t := [(2, .ptr 2 0), (3, .ptr 3 0), (4, .p (.val (.bool false))), (5, .p (.val (.int .u64 e0))), (37, .p (.val (.int .u64 e0))), (36, .clo H.fn [1000, 1001])], s := [(2, doB H), (3, yG t), (1000, H.b0 s), (1001, H.b1 s), (1002, H.b2 s)] }) ?A0100 (fun A0100 => ?_)
      case A0100 =>
        refine DGo.all [0, 1, 4] (by kernel_rfl) ?_
        refine zI.cons ?_ (zI.cons ?_ (zI.cons ?_ (zI.nil)))
        · refine zM.at_ 0 ?_
          refine zM.v rfl rfl rfl (yP rfl rfl rfl rfl rfl (by decide)) ?_
          exact DGo.keep [2, 3, 4, 5, 37, 34, 36] [2, 3, 1000, 1001, 1002] A0110
        · refine zM.at_ 1 ?_
          refine zM.v rfl rfl rfl (yX rfl rfl rfl rfl rfl (by decide)) ?_
          exact DGo.keep [2, 3, 4, 5, 37, 35, 36] [2, 3, 1000, 1001, 1002] A0101
        · refine zM.at_ 4 ?_
          refine zM.v rfl rfl rfl (a_add rfl rfl rfl rfl rfl (by decide)) ?_
          exact DGo.keep [2, 3, 4, 5, 37, 36, 38] [2, 3, 1000, 1001, 1002] A1100
      refine DGo.share (fu' := 6) (D' := [3, 4]) (F' := { t := [(2, .ptr 2 0), (3, .ptr 3 0), (4, .p (.val (.bool false))), (5, .p (.val (.int .u64 e0))), (37, .p (.val (.int .u64 e0))), (38, .p (.val (.int .u64 (wr2 e0))))], s := [(2, doB H), (3, yG t), (1000, H.b0 s), (1001, H.b1 s), (1002, H.b2 s)] }) ?A1000 (fun A1000 => ?_)
      case A1000 =>
        refine DGo.all [0, 1, 2, 5] (by kernel_rfl) ?_
        refine zI.cons ?_ (zI.cons ?_ (zI.cons ?_ (zI.cons ?_ (zI.nil))))
        · refine zM.at_ 0 ?_
          refine zM.v rfl rfl rfl (yP rfl rfl rfl rfl rfl (by decide)) ?_
          exact DGo.keep [2, 3, 4, 5, 37, 34, 38] [2, 3, 1000, 1001, 1002] A1010
        · refine zM.at_ 1 ?_
          refine zM.v rfl rfl rfl (yX rfl rfl rfl rfl rfl (by decide)) ?_
          exact DGo.keep [2, 3, 4, 5, 37, 35, 38] [2, 3, 1000, 1001, 1002] A1001
        · refine zM.at_ 2 ?_
          refine zM.v rfl rfl rfl (yP rfl rfl rfl rfl rfl (by decide)) ?_
          exact DGo.keep [2, 3, 4, 5, 37, 36, 38] [2, 3, 1000, 1001, 1002] A1100
        · refine zM.at_ 5 ?_
          refine zM.v rfl rfl rfl (by exact zL cl rfl rfl rfl (by decide)) ?_
          exact DGo.keep [2, 3, 4, 5, 37, 39] [2, 3, 1000, 1001, 1002] A2000
      refine DGo.all [0, 1, 2, 4] (by kernel_rfl) ?_
      refine zI.cons ?_ (zI.cons ?_ (zI.cons ?_ (zI.cons ?_ (zI.nil))))
      · refine zM.at_ 0 ?_
        refine zM.v rfl rfl rfl (yP rfl rfl rfl rfl rfl (by decide)) ?_
        exact DGo.keep [2, 3, 4, 5, 37, 34] [2, 3, 1000, 1001, 1002] A0010
      · refine zM.at_ 1 ?_
        refine zM.v rfl rfl rfl (yX rfl rfl rfl rfl rfl (by decide)) ?_
        exact DGo.keep [2, 3, 4, 5, 37, 35] [2, 3, 1000, 1001, 1002] A0001
      · refine zM.at_ 2 ?_
        refine zM.v rfl rfl rfl (yP rfl rfl rfl rfl rfl (by decide)) ?_
        exact DGo.keep [2, 3, 4, 5, 37, 36] [2, 3, 1000, 1001, 1002] A0100
      · refine zM.at_ 4 ?_
        refine zM.v rfl rfl rfl (a_add rfl rfl rfl rfl rfl (by decide)) ?_
        exact DGo.keep [2, 3, 4, 5, 37, 38] [2, 3, 1000, 1001, 1002] A1000
end Go.Proofs.YtmfbamiciieooaaGreatDoor
/- A record is made: the program's, whatever makes its accesses: a contract. -/
namespace Go.Proofs.YtmfbamiciieooaaGreatDoor
set_option maxRecDepth 100000
set_option maxHeartbeats 16000000
open Go Go.RowKit
set_option linter.unusedSimpArgs false
set_option linter.unusedVariables false
attribute [local irreducible] zY zZ Step zX Sub zD zF Fn
def itemCells (s y e u v x : Int) : List PV := [.val (.int .i64 2), .val (.int .u64 (flagF s 0)), .val (.int .i64 1), .val (.int .u64 y), .val (.int .i64 3), .val (.int .u64 e), .val (.int .i64 4), .val (.int .u64 u), .val (.int .i64 5), .val (.int .u64 v), .val (.int .i64 6), .val (.int .u64 x)]
def makeS (H : Hnd) (t r s y e u v x : Int) (p : Nat × H.σ) : AS :=
  { t := [(0, H.doA), (1, .p (.val (.int .i64 t))), (2, .p (.val (.int .i64 r))), (11, .p (.val (.int .u64 s))), (34, .p (.agg (itemCells s y e u v x))), (35, .p (.val (.int .i64 p.1)))], s := [(1000, H.b0 p.2), (1001, H.b1 p.2), (1002, H.b2 p.2)] }
theorem item0 (t r s y e u v x : Int) : wV t r ((wW s y e u v x).drop 0) = (qD (yK t r 2) (flagF s 0)).bind fun _ => wV t r ((wW s y e u v x).drop 1) := rfl
theorem item1 (t r s y e u v x : Int) : wV t r ((wW s y e u v x).drop 1) = (qD (yK t r 1) y).bind fun _ => wV t r ((wW s y e u v x).drop 2) := rfl
theorem item2 (t r s y e u v x : Int) : wV t r ((wW s y e u v x).drop 2) = (qD (yK t r 3) e).bind fun _ => wV t r ((wW s y e u v x).drop 3) := rfl
theorem item3 (t r s y e u v x : Int) : wV t r ((wW s y e u v x).drop 3) = (qD (yK t r 4) u).bind fun _ => wV t r ((wW s y e u v x).drop 4) := rfl
theorem item4 (t r s y e u v x : Int) : wV t r ((wW s y e u v x).drop 4) = (qD (yK t r 5) v).bind fun _ => wV t r ((wW s y e u v x).drop 5) := rfl
theorem item5 (t r s y e u v x : Int) : wV t r ((wW s y e u v x).drop 5) = (qD (yK t r 6) x).bind fun _ => wV t r ((wW s y e u v x).drop 6) := rfl
theorem make_h (H : Hnd) (s0 : H.σ) {t r : Int} (k0 sx : Int) {y e0 u v x0 : Int} (hR : Rc t r) (hy : U y) (he : U e0) (hu : U u) (hv : U v) (hx : U x0) :
    FnH H 51 [H.doA, .p (.val (.int .i64 t)), .p (.val (.int .i64 r)), .p (entV k0 sx y u v x0), .p (.val (.int .u64 e0))] [] (fun x => .p (.val (.int .u64 x))) (fun _ => []) U s0 (makeP t r y e0 u v x0) := by
  have z1 : U 1 := by unfold U; decide
  unfold Hnd.doA
  refine yO Tryz.func51 rfl Tryz.ntmps51 (Nat.le_of_ble_eq_true rfl) (by decide) (fine_make t r hy he hu hv hx) fun hok hns => ?_
  repeat' (first | (refine zY.is ?_; first | refine zY.nil ?_ | (refine zY.at_ 16 rfl ?_; refine zY.rc (.v v30_6 (.v zK .e)) ?_) | (refine zY.in_ [15] rfl ?_; refine zY.ofT rfl (zF.hd (i := []) (f := add_h H _ 2 1 z1) (r := fun x s e g hk => ?_) (p := fun q s e => ?_) (t := ?_)))) | (refine zZ.is ?_; first | refine zZ.seq ?_ | (refine zZ.isR (id := 0) ?_; refine zZ.rc [0, 1, 2, 3, 4] [8, 13, 1000, 1001, 1002] (r := (.m yD (.v zK .e))) (h := ?_)) | (refine zZ.isR (id := 1) ?_; refine zZ.rc [0, 1, 2, 4, 8, 10] [8, 13, 1000, 1001, 1002] (r := (.v xJ .e)) (h := ?_)) | (refine zZ.isR (id := 2) ?_; refine zZ.rk [0, 1, 2, 4, 8, 10, 11] [8, 13, 1000, 1001, 1002] ?_; refine zZ.draws ?_) | refine zZ.block ?_) | refine zB.p ?_ | (refine Draws.is ?_; first | refine Draws.rc (.v zV .e) ?_ | refine Draws.rc (.v y9 (.v zH (.v zN (.v y9 (.v zV (.v y9 (.v zH (.v zN (.v y9 (.v zH (.v zN (.v y9 (.v zH (.v zN (.v y9 (.v v10_1 (.v zV .e))))))))))))))))) ?_ | (refine Draws.in_ [18] rfl ?_; refine Draws.v rfl rfl (zL (flag_fn _ 0) rfl rfl rfl (by decide)) ?_) | refine Draws.done (by kernel_rfl) (by kernel_rfl) (by kernel_rfl) ?_) | (refine zD.nil ?_))
  all_goals (first | exact fun e => hns (by clear hns; simp only [makeP, run_bind, zC, zJ, Held.zW, Held.zA, Held.zQ, cond_true, cond_false, *]) | exact .pan (q := q) rfl (by repeat' first | exact trivial | rfl | constructor) (by repeat' exact trivial) (by simp only [makeP, run_bind, zC, zJ, Held.zW, Held.zA, Held.zQ, cond_true, cond_false, *]) | skip)
  have ho0 : (makeP t r y e0 u v x0).run H.st s0 = ((wV t r (wW (IntKind.u64.wrap (x + 1)) y e0 u v x0)).run H.st s).bind fun _ s' => .done (IntKind.u64.wrap (x + 1)) s' := by simp only [makeP, run_bind, zC, Held.zW, *]
  clear e
  have zs : U (flagF (IntKind.u64.wrap (x + 1)) 0) := flagF_U _ _
  generalize IntKind.u64.wrap (x + 1) = st at *
  refine zZ.loop (makeS H t r st y e0 u v x0) (fun p => p.1 ≤ 6 ∧ H.ok p.2 ∧ (wV t r ((wW st y e0 u v x0).drop p.1)).run H.st p.2 = (wV t r (wW st y e0 u v x0)).run H.st s) (fun p => 6 - p.1) (0, s) ?h0 ⟨Nat.zero_le _, by assumption, rfl⟩ ?rd
  case h0 =>
    exact yL K_7 K_0
  case rd =>
    rintro ⟨k, l⟩ ⟨hk, hok2, ho⟩
    simp only at hk hok2 ho
    have hk6 : k = 0 ∨ k = 1 ∨ k = 2 ∨ k = 3 ∨ k = 4 ∨ k = 5 ∨ k = 6 := by omega
    rcases hk6 with rfl | rfl | rfl | rfl | rfl | rfl | rfl
    · have gl : decide (((0 : Nat) : Int) < 6) = true := rfl
      have gw : IntKind.i64.wrap (((0 : Nat) : Int) + 1) = ((1 : Nat) : Int) := rfl
      have hs := item0 t r st y e0 u v x0
      rw [hs, run_bind] at ho
      repeat' (first | (refine zY.nil ?_) | (refine zZ.is ?_; first | refine zZ.seq ?_ | (refine zZ.isR (id := 3) ?_; refine zZ.rc [0, 1, 2, 10, 11, 13, 34, 35, 36] [8, 13, 1000, 1001, 1002] (r := (.v xY .e)) (h := ?_)) | (refine zZ.isR (id := 4) ?_; refine zZ.rc [0, 1, 2, 10, 11, 13, 34, 35, 36] [8, 13, 1000, 1001, 1002] (r := (.v v12_4 (.m zS (.w zR .e)))) (h := ?_)) | (refine zZ.isR (id := 5) ?_; refine zZ.rk [0, 1, 2, 10, 11, 13, 34, 35, 36] [8, 13, 1000, 1001, 1002] ?_; refine zZ.draws ?_) | (refine zZ.isR (id := 6) ?_; refine zZ.rc [0, 1, 2, 10, 11, 13, 34, 35, 36] [8, 13, 1000, 1001, 1002] (r := (.v wC (.v zV .e))) (h := ?_)) | refine zZ.yF rfl bA ?_ | refine zZ.skip ?_ | refine zZ.block ?_) | refine zB.n ?_ | refine zB.p ?_ | refine zP.p ?_ | (refine Draws.is ?_; first | refine Draws.rc (.v xJ (.v zV (.v zV (.v zH (.v zN .e))))) ?_ | refine Draws.rc (.v zH (.v zN .e)) ?_ | (refine Draws.in_ [43] rfl ?_; refine Draws.v rfl rfl (zL (qZ hR _ (by decide)) rfl rfl rfl (by decide)) ?_) | refine Draws.done (by kernel_rfl) (by kernel_rfl) (by kernel_rfl) ?_) | (refine zD.is ?_; first | refine zD.nil ?_ | (refine zD.in_ [46] rfl ?_; refine zD.ofT rfl (zF.hd (i := []) (f := qJ H _ _ _ (by assumption)) (r := fun x s e g hk => ?_) (p := fun q s e => ?_) (t := ?_)))))
      all_goals first
        | exact fun e => hns (by rw [ho0, ← ho, e]; rfl)
        | exact .pan (q := q) rfl (by repeat' first | exact trivial | rfl | constructor) (by repeat' exact trivial) (by rw [ho0, ← ho, e]; rfl)
        | skip
      refine ⟨(1, _), ?_, ⟨(by show 1 ≤ 6; decide), by assumption, ?_⟩, (by show 6 - 1 < 6 - 0; decide)⟩
      · exact yL K_7 K_0
      · rw [← ho, e]; rfl
    · have gl : decide (((1 : Nat) : Int) < 6) = true := rfl
      have gw : IntKind.i64.wrap (((1 : Nat) : Int) + 1) = ((2 : Nat) : Int) := rfl
      have hs := item1 t r st y e0 u v x0
      rw [hs, run_bind] at ho
      repeat' (first | (refine zY.nil ?_) | (refine zZ.is ?_; first | refine zZ.seq ?_ | (refine zZ.isR (id := 3) ?_; refine zZ.rc [0, 1, 2, 10, 11, 13, 34, 35, 36] [8, 13, 1000, 1001, 1002] (r := (.v xY .e)) (h := ?_)) | (refine zZ.isR (id := 4) ?_; refine zZ.rc [0, 1, 2, 10, 11, 13, 34, 35, 36] [8, 13, 1000, 1001, 1002] (r := (.v v12_4 (.m zS (.w zR .e)))) (h := ?_)) | (refine zZ.isR (id := 5) ?_; refine zZ.rk [0, 1, 2, 10, 11, 13, 34, 35, 36] [8, 13, 1000, 1001, 1002] ?_; refine zZ.draws ?_) | (refine zZ.isR (id := 6) ?_; refine zZ.rc [0, 1, 2, 10, 11, 13, 34, 35, 36] [8, 13, 1000, 1001, 1002] (r := (.v wC (.v zV .e))) (h := ?_)) | refine zZ.yF rfl bA ?_ | refine zZ.skip ?_ | refine zZ.block ?_) | refine zB.n ?_ | refine zB.p ?_ | refine zP.p ?_ | (refine Draws.is ?_; first | refine Draws.rc (.v xJ (.v zV (.v zV (.v zH (.v zN .e))))) ?_ | refine Draws.rc (.v zH (.v zN .e)) ?_ | (refine Draws.in_ [43] rfl ?_; refine Draws.v rfl rfl (zL (qZ hR _ (by decide)) rfl rfl rfl (by decide)) ?_) | refine Draws.done (by kernel_rfl) (by kernel_rfl) (by kernel_rfl) ?_) | (refine zD.is ?_; first | refine zD.nil ?_ | (refine zD.in_ [46] rfl ?_; refine zD.ofT rfl (zF.hd (i := []) (f := qJ H _ _ _ (by assumption)) (r := fun x s e g hk => ?_) (p := fun q s e => ?_) (t := ?_)))))
      all_goals first
        | exact fun e => hns (by rw [ho0, ← ho, e]; rfl)
        | exact .pan (q := q) rfl (by repeat' first | exact trivial | rfl | constructor) (by repeat' exact trivial) (by rw [ho0, ← ho, e]; rfl)
        | skip
      refine ⟨(2, _), ?_, ⟨(by show 2 ≤ 6; decide), by assumption, ?_⟩, (by show 6 - 2 < 6 - 1; decide)⟩
      · exact yL K_7 K_0
      · rw [← ho, e]; rfl
    · have gl : decide (((2 : Nat) : Int) < 6) = true := rfl
      have gw : IntKind.i64.wrap (((2 : Nat) : Int) + 1) = ((3 : Nat) : Int) := rfl
      have hs := item2 t r st y e0 u v x0
      rw [hs, run_bind] at ho
      repeat' (first | (refine zY.nil ?_) | (refine zZ.is ?_; first | refine zZ.seq ?_ | (refine zZ.isR (id := 3) ?_; refine zZ.rc [0, 1, 2, 10, 11, 13, 34, 35, 36] [8, 13, 1000, 1001, 1002] (r := (.v xY .e)) (h := ?_)) | (refine zZ.isR (id := 4) ?_; refine zZ.rc [0, 1, 2, 10, 11, 13, 34, 35, 36] [8, 13, 1000, 1001, 1002] (r := (.v v12_4 (.m zS (.w zR .e)))) (h := ?_)) | (refine zZ.isR (id := 5) ?_; refine zZ.rk [0, 1, 2, 10, 11, 13, 34, 35, 36] [8, 13, 1000, 1001, 1002] ?_; refine zZ.draws ?_) | (refine zZ.isR (id := 6) ?_; refine zZ.rc [0, 1, 2, 10, 11, 13, 34, 35, 36] [8, 13, 1000, 1001, 1002] (r := (.v wC (.v zV .e))) (h := ?_)) | refine zZ.yF rfl bA ?_ | refine zZ.skip ?_ | refine zZ.block ?_) | refine zB.n ?_ | refine zB.p ?_ | refine zP.p ?_ | (refine Draws.is ?_; first | refine Draws.rc (.v xJ (.v zV (.v zV (.v zH (.v zN .e))))) ?_ | refine Draws.rc (.v zH (.v zN .e)) ?_ | (refine Draws.in_ [43] rfl ?_; refine Draws.v rfl rfl (zL (qZ hR _ (by decide)) rfl rfl rfl (by decide)) ?_) | refine Draws.done (by kernel_rfl) (by kernel_rfl) (by kernel_rfl) ?_) | (refine zD.is ?_; first | refine zD.nil ?_ | (refine zD.in_ [46] rfl ?_; refine zD.ofT rfl (zF.hd (i := []) (f := qJ H _ _ _ (by assumption)) (r := fun x s e g hk => ?_) (p := fun q s e => ?_) (t := ?_)))))
      all_goals first
        | exact fun e => hns (by rw [ho0, ← ho, e]; rfl)
        | exact .pan (q := q) rfl (by repeat' first | exact trivial | rfl | constructor) (by repeat' exact trivial) (by rw [ho0, ← ho, e]; rfl)
        | skip
      refine ⟨(3, _), ?_, ⟨(by show 3 ≤ 6; decide), by assumption, ?_⟩, (by show 6 - 3 < 6 - 2; decide)⟩
      · exact yL K_7 K_0
      · rw [← ho, e]; rfl
    · have gl : decide (((3 : Nat) : Int) < 6) = true := rfl
      have gw : IntKind.i64.wrap (((3 : Nat) : Int) + 1) = ((4 : Nat) : Int) := rfl
      have hs := item3 t r st y e0 u v x0
      rw [hs, run_bind] at ho
      repeat' (first | (refine zY.nil ?_) | (refine zZ.is ?_; first | refine zZ.seq ?_ | (refine zZ.isR (id := 3) ?_; refine zZ.rc [0, 1, 2, 10, 11, 13, 34, 35, 36] [8, 13, 1000, 1001, 1002] (r := (.v xY .e)) (h := ?_)) | (refine zZ.isR (id := 4) ?_; refine zZ.rc [0, 1, 2, 10, 11, 13, 34, 35, 36] [8, 13, 1000, 1001, 1002] (r := (.v v12_4 (.m zS (.w zR .e)))) (h := ?_)) | (refine zZ.isR (id := 5) ?_; refine zZ.rk [0, 1, 2, 10, 11, 13, 34, 35, 36] [8, 13, 1000, 1001, 1002] ?_; refine zZ.draws ?_) | (refine zZ.isR (id := 6) ?_; refine zZ.rc [0, 1, 2, 10, 11, 13, 34, 35, 36] [8, 13, 1000, 1001, 1002] (r := (.v wC (.v zV .e))) (h := ?_)) | refine zZ.yF rfl bA ?_ | refine zZ.skip ?_ | refine zZ.block ?_) | refine zB.n ?_ | refine zB.p ?_ | refine zP.p ?_ | (refine Draws.is ?_; first | refine Draws.rc (.v xJ (.v zV (.v zV (.v zH (.v zN .e))))) ?_ | refine Draws.rc (.v zH (.v zN .e)) ?_ | (refine Draws.in_ [43] rfl ?_; refine Draws.v rfl rfl (zL (qZ hR _ (by decide)) rfl rfl rfl (by decide)) ?_) | refine Draws.done (by kernel_rfl) (by kernel_rfl) (by kernel_rfl) ?_) | (refine zD.is ?_; first | refine zD.nil ?_ | (refine zD.in_ [46] rfl ?_; refine zD.ofT rfl (zF.hd (i := []) (f := qJ H _ _ _ (by assumption)) (r := fun x s e g hk => ?_) (p := fun q s e => ?_) (t := ?_)))))
      all_goals first
        | exact fun e => hns (by rw [ho0, ← ho, e]; rfl)
        | exact .pan (q := q) rfl (by repeat' first | exact trivial | rfl | constructor) (by repeat' exact trivial) (by rw [ho0, ← ho, e]; rfl)
        | skip
      refine ⟨(4, _), ?_, ⟨(by show 4 ≤ 6; decide), by assumption, ?_⟩, (by show 6 - 4 < 6 - 3; decide)⟩
      · exact yL K_7 K_0
      · rw [← ho, e]; rfl
    · have gl : decide (((4 : Nat) : Int) < 6) = true := rfl
      have gw : IntKind.i64.wrap (((4 : Nat) : Int) + 1) = ((5 : Nat) : Int) := rfl
      have hs := item4 t r st y e0 u v x0
      rw [hs, run_bind] at ho
      repeat' (first | (refine zY.nil ?_) | (refine zZ.is ?_; first | refine zZ.seq ?_ | (refine zZ.isR (id := 3) ?_; refine zZ.rc [0, 1, 2, 10, 11, 13, 34, 35, 36] [8, 13, 1000, 1001, 1002] (r := (.v xY .e)) (h := ?_)) | (refine zZ.isR (id := 4) ?_; refine zZ.rc [0, 1, 2, 10, 11, 13, 34, 35, 36] [8, 13, 1000, 1001, 1002] (r := (.v v12_4 (.m zS (.w zR .e)))) (h := ?_)) | (refine zZ.isR (id := 5) ?_; refine zZ.rk [0, 1, 2, 10, 11, 13, 34, 35, 36] [8, 13, 1000, 1001, 1002] ?_; refine zZ.draws ?_) | (refine zZ.isR (id := 6) ?_; refine zZ.rc [0, 1, 2, 10, 11, 13, 34, 35, 36] [8, 13, 1000, 1001, 1002] (r := (.v wC (.v zV .e))) (h := ?_)) | refine zZ.yF rfl bA ?_ | refine zZ.skip ?_ | refine zZ.block ?_) | refine zB.n ?_ | refine zB.p ?_ | refine zP.p ?_ | (refine Draws.is ?_; first | refine Draws.rc (.v xJ (.v zV (.v zV (.v zH (.v zN .e))))) ?_ | refine Draws.rc (.v zH (.v zN .e)) ?_ | (refine Draws.in_ [43] rfl ?_; refine Draws.v rfl rfl (zL (qZ hR _ (by decide)) rfl rfl rfl (by decide)) ?_) | refine Draws.done (by kernel_rfl) (by kernel_rfl) (by kernel_rfl) ?_) | (refine zD.is ?_; first | refine zD.nil ?_ | (refine zD.in_ [46] rfl ?_; refine zD.ofT rfl (zF.hd (i := []) (f := qJ H _ _ _ (by assumption)) (r := fun x s e g hk => ?_) (p := fun q s e => ?_) (t := ?_)))))
      all_goals first
        | exact fun e => hns (by rw [ho0, ← ho, e]; rfl)
        | exact .pan (q := q) rfl (by repeat' first | exact trivial | rfl | constructor) (by repeat' exact trivial) (by rw [ho0, ← ho, e]; rfl)
        | skip
      refine ⟨(5, _), ?_, ⟨(by show 5 ≤ 6; decide), by assumption, ?_⟩, (by show 6 - 5 < 6 - 4; decide)⟩
      · exact yL K_7 K_0
      · rw [← ho, e]; rfl
    · have gl : decide (((5 : Nat) : Int) < 6) = true := rfl
      have gw : IntKind.i64.wrap (((5 : Nat) : Int) + 1) = ((6 : Nat) : Int) := rfl
      have hs := item5 t r st y e0 u v x0
      rw [hs, run_bind] at ho
      repeat' (first | (refine zY.nil ?_) | (refine zZ.is ?_; first | refine zZ.seq ?_ | (refine zZ.isR (id := 3) ?_; refine zZ.rc [0, 1, 2, 10, 11, 13, 34, 35, 36] [8, 13, 1000, 1001, 1002] (r := (.v xY .e)) (h := ?_)) | (refine zZ.isR (id := 4) ?_; refine zZ.rc [0, 1, 2, 10, 11, 13, 34, 35, 36] [8, 13, 1000, 1001, 1002] (r := (.v v12_4 (.m zS (.w zR .e)))) (h := ?_)) | (refine zZ.isR (id := 5) ?_; refine zZ.rk [0, 1, 2, 10, 11, 13, 34, 35, 36] [8, 13, 1000, 1001, 1002] ?_; refine zZ.draws ?_) | (refine zZ.isR (id := 6) ?_; refine zZ.rc [0, 1, 2, 10, 11, 13, 34, 35, 36] [8, 13, 1000, 1001, 1002] (r := (.v wC (.v zV .e))) (h := ?_)) | refine zZ.yF rfl bA ?_ | refine zZ.skip ?_ | refine zZ.block ?_) | refine zB.n ?_ | refine zB.p ?_ | refine zP.p ?_ | (refine Draws.is ?_; first | refine Draws.rc (.v xJ (.v zV (.v zV (.v zH (.v zN .e))))) ?_ | refine Draws.rc (.v zH (.v zN .e)) ?_ | (refine Draws.in_ [43] rfl ?_; refine Draws.v rfl rfl (zL (qZ hR _ (by decide)) rfl rfl rfl (by decide)) ?_) | refine Draws.done (by kernel_rfl) (by kernel_rfl) (by kernel_rfl) ?_) | (refine zD.is ?_; first | refine zD.nil ?_ | (refine zD.in_ [46] rfl ?_; refine zD.ofT rfl (zF.hd (i := []) (f := qJ H _ _ _ (by assumption)) (r := fun x s e g hk => ?_) (p := fun q s e => ?_) (t := ?_)))))
      all_goals first
        | exact fun e => hns (by rw [ho0, ← ho, e]; rfl)
        | exact .pan (q := q) rfl (by repeat' first | exact trivial | rfl | constructor) (by repeat' exact trivial) (by rw [ho0, ← ho, e]; rfl)
        | skip
      refine ⟨(6, _), ?_, ⟨(by show 6 ≤ 6; decide), by assumption, ?_⟩, (by show 6 - 6 < 6 - 5; decide)⟩
      · exact yL K_7 K_0
      · rw [← ho, e]; rfl
    · have gl : decide (((6 : Nat) : Int) < 6) = false := rfl
      repeat' (first | (refine zY.nil ?_) | (refine zZ.is ?_; first | refine zZ.seq ?_ | (refine zZ.isR (id := 3) ?_; refine zZ.rc [0, 1, 2, 10, 11, 13, 34, 35, 36] [8, 13, 1000, 1001, 1002] (r := (.v xY .e)) (h := ?_)) | (refine zZ.isR (id := 7) ?_; refine zZ.rc [10, 11] [8, 13, 1000, 1001, 1002] (r := (.v zV (.v zK .e))) (h := ?_)) | refine zZ.yH rfl bA ?_ | refine zZ.exit ?_ | refine zZ.ret ?_))
      all_goals exact .ret (by exact .inl rfl) (.one rfl rfl) (by repeat' first | exact trivial | rfl | constructor) (by rw [ho0, ← ho]; rfl)
end Go.Proofs.YtmfbamiciieooaaGreatDoor
/- A call of what takes a record out: three ways. (No walk here: a text with walks is cut, and what is found by itself would be cut, too.) -/
namespace Go.Proofs.YtmfbamiciieooaaGreatDoor
set_option maxRecDepth 100000
set_option maxHeartbeats 16000000
open Go Go.RowKit
set_option linter.unusedVariables false
section
variable {n : Nat} {o : Oper} {S : AS} {d : Nat} {K : Exit → AS → Prop}
/-- a call of what takes a record out -/
theorem zF.hdT {f0 : FuncId} {avs xs : List AV} {bk : List Blk} {res : Took → AV} {bk' : Took → List Blk} {good : Took → Prop} {H : Hnd} {s : H.σ} {p0 : Pr Took} {N : AS → Prop} (i : List Nat) (hd : o.dst = some d := by rfl) (hn : d < n := by decide) (he : Enters Tryz.prog o S f0 avs := by exact enA)
    (hx : avs = xs.map (AV.ren (sig (1000 :: 1001 :: 1002 :: i))) := by rfl) (hnd : (1000 :: 1001 :: 1002 :: i).Nodup := by decide)
    (h0 : S.blk 1000 = some (H.b0 s) := by first | rfl | exact xB rfl (H.nk _).1 (by repeat' first | exact KB.refl | apply KB.kill | decide)) (h1 : S.blk 1001 = some (H.b1 s) := by first | rfl | exact xB rfl (H.nk _).2.1 (by repeat' first | exact KB.refl | apply KB.kill | decide)) (h2 : S.blk 1002 = some (H.b2 s) := by first | rfl | exact xB rfl (H.nk _).2.2 (by repeat' first | exact KB.refl | apply KB.kill | decide))
    (hat : AtB S (1000 :: 1001 :: 1002 :: i) i bk := by repeat' first | exact trivial | rfl | constructor) (hbk : bk.all (Blk.okE (bk.length + 3)) = true := by rfl) (hxs : xs.all (AV.okE (bk.length + 3)) = true := by rfl) (hrx : ∀ x, (res x).okE (bk.length + 3) = true := by exact fun _ => rfl)
    (hbk' : ∀ x, (bk' x).length = bk.length ∧ (bk' x).all (Blk.okE (bk.length + 3)) = true := by exact fun _ => ⟨rfl, rfl⟩) (hok : H.ok s := by assumption) (f : FnH H f0 xs bk res bk' good s p0)
    (r0 : ∀ s', p0.run H.st s = .done .fail s' → good .fail → H.ok s' → N (({ S with s := vJ (1000 :: 1001 :: 1002 :: i) (H.b0 s' :: H.b1 s' :: H.b2 s' :: (bk' .fail).map (Blk.ren (sig (1000 :: 1001 :: 1002 :: i)))) S.s } : AS).put d ((res .fail).ren (sig (1000 :: 1001 :: 1002 :: i)))))
    (r1 : ∀ s', p0.run H.st s = .done .miss s' → good .miss → H.ok s' → N (({ S with s := vJ (1000 :: 1001 :: 1002 :: i) (H.b0 s' :: H.b1 s' :: H.b2 s' :: (bk' .miss).map (Blk.ren (sig (1000 :: 1001 :: 1002 :: i)))) S.s } : AS).put d ((res .miss).ren (sig (1000 :: 1001 :: 1002 :: i)))))
    (r2 : ∀ s', p0.run H.st s = .done .done s' → good .done → H.ok s' → N (({ S with s := vJ (1000 :: 1001 :: 1002 :: i) (H.b0 s' :: H.b1 s' :: H.b2 s' :: (bk' .done).map (Blk.ren (sig (1000 :: 1001 :: 1002 :: i)))) S.s } : AS).put d ((res .done).ren (sig (1000 :: 1001 :: 1002 :: i)))))
    (p : ∀ q s', p0.run H.st s = .need q s' → K (.panic []) { S with s := vJ (1000 :: 1001 :: 1002 :: i) (H.b0 s' :: H.b1 s' :: H.b2 s' :: (bk.map Blk.forget).map (Blk.ren (sig (1000 :: 1001 :: 1002 :: i)))) S.s, x := needA (accQ q) })
    (t : p0.run H.st s ≠ .stuck) : zF Tryz.prog n o S K N := zF.held H i hd hn he hx hnd h0 h1 h2 hat hbk hxs hrx hbk' hok f (fun x => match x with
    | .fail => r0
    | .miss => r1
    | .done => r2) p t
end
end Go.Proofs.YtmfbamiciieooaaGreatDoor
/- Searches, seeks, links and marks: the program's, whatever makes its accesses: contracts. -/
namespace Go.Proofs.YtmfbamiciieooaaGreatDoor
set_option maxRecDepth 100000
set_option maxHeartbeats 16000000
open Go Go.RowKit
set_option linter.unusedSimpArgs false
set_option linter.unusedVariables false
attribute [local irreducible] zY zZ Step zX Sub zD zF Fn zB zP xA
theorem notT {b : Bool} (h : (!b) = true) : b = false := by cases b <;> simp_all
theorem or1 (w : Int) (hw : U w) (he : decide (w % 2 = 1) = false) : bits .or .u64 w 1 = w + 1 := by
  refine (orBit w 1 hw.lo hw.hi (.inl rfl) ?_).1
  unfold hasF
  simpa using he
theorem mark_h (H : Hnd) (s0 : H.σ) {t x w : Int} (ht : Small t) (hx : Rf x) (hw : U w) (he : decide (w % 2 = 1) = false) : FnH H 92 [H.doA, .p (.val (.int .i64 t)), .p (.val (.int .i64 x)), .p (.val (.int .u64 w))] [] (fun x => .p (.val (.bool x))) (fun _ => []) yes s0 (setMark t x w) := by
  have cn := cnext_fn t x ht hx.le
  have g1 := or1 w hw he
  have u1 := hw.succ he
  unfold Hnd.doA
  refine yO Tryz.func92 rfl Tryz.ntmps92 (Nat.le_of_ble_eq_true rfl) (by decide) (vW _ hw u1) fun hok hns => ?_
  repeat' (first | (refine zY.is ?_; first | refine zY.nil ?_ | (refine zY.at_ 13 rfl ?_; refine zY.rc (.v zV (.v zV (.v v36_0 .e))) ?_) | (refine zY.at_ 8 rfl ?_; refine zY.rc (.v zK .e) ?_) | (refine zY.in_ [12] rfl ?_; refine zY.v rfl rfl (zL (cn) rfl rfl rfl (by decide)) ?_) | (refine zY.in_ [16] rfl ?_; refine zY.ofT rfl (zF.hd (i := []) (f := cas_h H _ _ _ _ hw u1) (r := fun x s e g hk => ?_) (p := fun q s e => ?_) (t := ?_)))) | (refine zZ.is ?_; first | refine zZ.seq ?_ | (refine zZ.isR (id := 0) ?_; refine zZ.rc [0, 1, 2, 3] [1000, 1001, 1002] (r := (.v zK .e)) (h := ?_)) | (refine zZ.isR (id := 1) ?_; refine zZ.rc [0, 1, 2, 3, 8] [1000, 1001, 1002] (r := (.v xJ (.v zV (.v zV .e)))) (h := ?_)) | refine zZ.ret ?_) | refine zB.n ?_ | refine zB.p ?_)
  all_goals (first | exact fun e => hns (by clear hns; simp only [setMark, run_bind, zC, zJ, Held.zW, Held.zA, Held.zQ, cond_true, cond_false, *]) | exact .pan (q := q) rfl (by repeat' first | exact trivial | rfl | constructor) (by repeat' exact trivial) (by simp only [setMark, run_bind, zC, zJ, Held.zW, Held.zA, Held.zQ, cond_true, cond_false, *]) | exact .ret (by exact .inl rfl) (by exact .one rfl rfl) (by repeat' first | exact trivial | rfl | constructor) (by simp only [setMark, run_bind, zC, zJ, Held.zW, Held.zA, Held.zQ, cond_true, cond_false, *] <;> rfl))
theorem markOp_h (H : Hnd) (s0 : H.σ) {t x : Int} (ht : Small t) (hx : Rf x) : FnH H 54 [H.doA, .p (.val (.int .i64 t)), .p (.val (.int .i64 x))] [] (fun x => .p (.val (.bool x))) (fun _ => []) yes s0 (markP t x) := by
  have cn := cnext_fn t x ht hx.le
  unfold Hnd.doA
  refine yO Tryz.func54 rfl Tryz.ntmps54 (Nat.le_of_ble_eq_true rfl) (by decide) (fine_mark t x) fun hok hns => ?_
  repeat' (first | (refine zY.is ?_; first | refine zY.nil ?_ | (refine zY.at_ 15 rfl ?_; refine zY.rc (.v v52_8 (.v zV .e)) ?_) | (refine zY.at_ 17 rfl ?_; refine zY.rc (.gY xJ (.gY zV (.gY zV (.gY zV .e)))) ?_) | (refine zY.at_ 17 rfl ?_; refine zY.rc (.gT (.gT (.gT (.gT (.gT (.v xC (.v zK .e))))))) ?_) | (refine zY.at_ 22 rfl ?_; refine zY.rc (.v y8 (.v zK .e)) ?_) | (refine zY.at_ 7 rfl ?_; refine zY.rc (.v zK .e) ?_) | (refine zY.in_ [11] rfl ?_; refine zY.v rfl rfl (zL (cn) rfl rfl rfl (by decide)) ?_) | (refine zY.in_ [14] rfl ?_; refine zY.v rfl rfl (zL (mark_fn _ (U.lo (by assumption)) (U.hi (by assumption))) rfl rfl rfl (by decide)) ?_) | (refine zY.in_ [12] rfl ?_; refine zY.ofT rfl (zF.hd (i := []) (f := vI H _ _) (r := fun x s e g hk => ?_) (p := fun q s e => ?_) (t := ?_))) | (refine zY.in_ [21] rfl ?_; refine zY.ofTg rfl rfl (by decide) rfl bA (zF.hd (i := []) (f := mark_h H _ ht hx (by assumption) (notT (by assumption))) (r := fun x s e g hk => ?_) (p := fun q s e => ?_) (t := ?_))) | (fail_if_success refine zY.known rfl rfl rfl (by fail) ?_); refine zY.split rfl rfl rfl (fun h => ?_) (fun h => ?_)) | (refine zZ.is ?_; first | refine zZ.seq ?_ | (refine zZ.isR (id := 0) ?_; refine zZ.rc [0, 1, 2] [1000, 1001, 1002] (r := (.v zK .e)) (h := ?_)) | (refine zZ.isR (id := 1) ?_; refine zZ.rc [0, 1, 2, 6] [1000, 1001, 1002] (r := (.v xJ (.v zV (.v zV .e)))) (h := ?_)) | (refine zZ.isR (id := 2) ?_; refine zZ.rc [0, 1, 2, 6, 7] [1000, 1001, 1002] (r := (.v zV .e)) (h := ?_)) | refine zZ.ret ?_) | refine zB.n ?_ | refine zB.p ?_)
  all_goals try simp only [Bool.not_eq_true', Bool.not_eq_false'] at *
  all_goals (first | exact fun e => hns (by clear hns; simp only [markP, run_bind, zC, zJ, Held.zW, Held.zA, Held.zQ, cond_true, cond_false, *]) | exact .pan (q := q) rfl (by repeat' first | exact trivial | rfl | constructor) (by repeat' exact trivial) (by simp only [markP, run_bind, zC, zJ, Held.zW, Held.zA, Held.zQ, cond_true, cond_false, *]) | exact .ret (by exact .inl rfl) (by exact .one rfl rfl) (by repeat' first | exact trivial | rfl | constructor) (by simp only [markP, run_bind, zC, zJ, Held.zW, Held.zA, Held.zQ, cond_true, cond_false, *] <;> rfl))
theorem link_h (H : Hnd) (s0 : H.σ) {t p x r : Int} (ht : Small t) (hp : Rf p) (hx : Rf x) (hr : Rf r) : FnH H 53 [H.doA, .p (.val (.int .i64 t)), .p (.val (.int .i64 p)), .p (.val (.int .i64 x)), .p (.val (.int .i64 r))] [] (fun x => .p (.val (.bool x))) (fun _ => []) yes s0 (linkP t p x r) := by
  have cn := cnext_fn t p ht hp.le
  have cm := cnext_fn t r ht hr.le
  have cx := link_fn x hx.le
  have cr := link_fn r hr.le
  have ux := hx.u2
  have ur := hr.u2
  unfold Hnd.doA
  refine yO Tryz.func53 rfl Tryz.ntmps53 (Nat.le_of_ble_eq_true rfl) (by decide) (fine_link t p hx hr) fun hok hns => ?_
  repeat' (first | (refine zY.is ?_; first | refine zY.nil ?_ | (refine zY.at_ 10 rfl ?_; refine zY.rc (.v zK .e) ?_) | (refine zY.at_ 11 rfl ?_; refine zY.rc (.v zK .e) ?_) | (refine zY.at_ 18 rfl ?_; refine zY.rc (.v zV .e) ?_) | (refine zY.at_ 24 rfl ?_; refine zY.rc (.v zV (.v zV .e)) ?_) | (refine zY.in_ [23] rfl ?_; refine zY.v rfl rfl (zL (cn) rfl rfl rfl (by decide)) ?_) | (refine zY.in_ [17] rfl ?_; refine zY.v rfl rfl (zL (cm) rfl rfl rfl (by decide)) ?_) | (refine zY.in_ [13] rfl ?_; refine zY.v rfl rfl (zL (cx) rfl rfl rfl (by decide)) ?_) | (refine zY.in_ [26] rfl ?_; refine zY.v rfl rfl (zL (cr) rfl rfl rfl (by decide)) ?_) | (refine zY.in_ [19] rfl ?_; refine zY.ofT rfl (zF.hd (i := []) (f := qJ H _ _ _ ux) (r := fun x s e g hk => ?_) (p := fun q s e => ?_) (t := ?_))) | (refine zY.in_ [27] rfl ?_; refine zY.ofT rfl (zF.hd (i := []) (f := cas_h H _ _ _ _ ux ur) (r := fun x s e g hk => ?_) (p := fun q s e => ?_) (t := ?_)))) | (refine zZ.is ?_; first | refine zZ.seq ?_ | (refine zZ.isR (id := 0) ?_; refine zZ.rc [0, 1, 2, 3, 4] [1000, 1001, 1002] (r := (.v zK .e)) (h := ?_)) | (refine zZ.isR (id := 1) ?_; refine zZ.rc [0, 1, 2, 3, 4, 10] [1000, 1001, 1002] (r := (.v zV .e)) (h := ?_)) | (refine zZ.isR (id := 2) ?_; refine zZ.rc [0, 1, 2, 4, 10, 11] [1000, 1001, 1002] (r := (.v xJ (.v zV (.v zV .e)))) (h := ?_)) | (refine zZ.isR (id := 3) ?_; refine zZ.rc [0, 1, 2, 4, 10, 11] [1000, 1001, 1002] (r := (.v xJ (.v zV (.v zV .e)))) (h := ?_)) | refine zZ.ret ?_) | refine zB.n ?_ | refine zB.p ?_)
  all_goals (first | exact fun e => hns (by clear hns; simp only [linkP, run_bind, zC, zJ, Held.zW, Held.zA, Held.zQ, cond_true, cond_false, *]) | exact .pan (q := q) rfl (by repeat' first | exact trivial | rfl | constructor) (by repeat' exact trivial) (by simp only [linkP, run_bind, zC, zJ, Held.zW, Held.zA, Held.zQ, cond_true, cond_false, *]) | exact .ret (by exact .inl rfl) (by exact .one rfl rfl) (by repeat' first | exact trivial | rfl | constructor) (by simp only [linkP, run_bind, zC, zJ, Held.zW, Held.zA, Held.zQ, cond_true, cond_false, *] <;> rfl))
/-! ### Seeks -/
def seekS (H : Hnd) (t k p x : Int) (s : H.σ) : AS :=
  { t := [(3, .p (.val (.int .u64 k))), (8, .p (.val (.int .i64 0))), (9, .p (.val (.bool false))), (10, .ptr 21 0)], s := [(1000, H.b0 s), (1001, H.b1 s), (1002, H.b2 s), (21, vQ H t p x)] }
theorem seek_h (H : Hnd) (s0 : H.σ) {t f k : Int} (ht : Small t) (hf : Rf f) : FnH H 59 [H.doA, .p (.val (.int .i64 t)), .p (.val (.int .i64 f)), .p (.val (.int .u64 k))] [] (fun r => .tup ([.val (.int .i64 r.1), .val (.bool r.2)].map .p)) (fun _ => []) SFound s0 (seekP t f k) := by
  have cn := cnext_fn t f ht hf.le
  unfold Hnd.doA
  refine yO Tryz.func59 rfl Tryz.ntmps59 (Nat.le_of_ble_eq_true rfl) (by decide) (fine_seek t f k) fun hok hns => ?_
  repeat' (first | (refine zY.is ?_; first | refine zY.nil ?_ | (refine zY.at_ 10 rfl ?_; refine zY.rc (.v v1_2 .e) ?_) | (refine zY.in_ [17] rfl ?_; refine zY.v rfl rfl (zL (cn) rfl rfl rfl (by decide)) ?_) | (refine zY.in_ [19] rfl ?_; refine zY.v rfl rfl (zL (ref_fn _ (U.lo (by assumption)) (U.hi (by assumption))) rfl rfl rfl (by decide)) ?_) | (refine zY.in_ [18] rfl ?_; refine zY.ofT rfl (zF.hd (i := []) (f := vI H _ _) (r := fun x s e g hk => ?_) (p := fun q s e => ?_) (t := ?_))) | refine zY.buildBx rfl rfl rfl rfl rfl rfl (by decide) (by decide) rfl rfl rfl rfl ?_) | (refine zZ.is ?_; first | refine zZ.seq ?_ | (refine zZ.isR (id := 0) ?_; refine zZ.rc [0, 1, 2, 3] [21, 1000, 1001, 1002] (r := (.v zK (.v zK .e))) (h := ?_)) | (refine zZ.isR (id := 1) ?_; refine zZ.rc [0, 1, 2, 3, 8, 9] [21, 1000, 1001, 1002] (r := (.v xJ (.v zV (.v xJ (.v zV (.v zV .e)))))) (h := ?_)) | refine zZ.block ?_) | refine zB.n ?_ | refine zB.p ?_)
  all_goals (first | exact fun e => hns (by clear hns; simp only [seekP, run_bind, zC, zJ, Held.zW, Held.zA, Held.zQ, cond_true, cond_false, *]) | exact .pan (q := q) rfl (by repeat' first | exact trivial | rfl | constructor) (by repeat' exact trivial) (by simp only [seekP, run_bind, zC, zJ, Held.zW, Held.zA, Held.zQ, cond_true, cond_false, *]) | skip)
  have ho0 : (seekP t f k).run H.st s0 = (contS t k many (xU x)).run H.st s := by
    simp only [seekP, run_bind, zC, Held.zW, *]
    rfl
  rw [ho0] at hns ⊢
  refine zZ.loop (fun q : Nat × (Int × Int) × H.σ => seekS H t k q.2.1.1 q.2.1.2 q.2.2) (fun q => H.ok q.2.2 ∧ Rf q.2.1.2 ∧ (contS t k q.1 q.2.1.2).run H.st q.2.2 = (contS t k many (xU x)).run H.st s) (fun q => q.1) (many, (0, xU x), s) ?h0 ⟨by assumption, qU _, rfl⟩ ?rd
  case h0 =>
    exact zT K_12 K_13
  case rd =>
    clear e
    generalize xU x = y0 at *
    rintro ⟨n, ⟨p, x1⟩, s1⟩ ⟨hok1, hx, ho⟩
    dsimp only at hok1 hx ho ⊢
    rw [← ho] at hns ⊢
    unfold seekS
    unfold contS at *
    cases hz : decide (x1 = 0)
    case true =>
      rw [hz] at ho hns
      have hz' : (!decide (x1 = 0)) = false := by rw [hz]; rfl
      unfold vQ Hnd.doA
      repeat' (first | (refine zY.nil ?_) | (refine zZ.is ?_; first | refine zZ.seq ?_ | (refine zZ.isR (id := 2) ?_; refine zZ.rc [3, 8, 9, 10, 11, 26, 31] [21, 1000, 1001, 1002] (r := (.v v0_2 (.v v4_0 (.v zH (.v zN (.v v42_0 .e)))))) (h := ?_)) | (refine zZ.isR (id := 7) ?_; refine zZ.rc [8, 9] [21, 1000, 1001, 1002] (r := (.v zK (.v zK .e))) (h := ?_)) | refine zZ.yH rfl bA ?_ | refine zZ.exit ?_ | refine zZ.ret ?_) | refine zB.n ?_ | refine zP.eY ?_ | refine zB.e ?_)
      all_goals (exact .ret (x := (_, _)) (by exact .inl rfl) (by exact .tup rfl (by decide) (.cons (.tmp rfl) (.cons (.tmp rfl) .nil))) (by repeat' first | exact trivial | rfl | constructor) (by simp only [run_bind, zC, zJ, Held.zW, Held.zA, Held.zQ, cond_true, cond_false, *] <;> rfl))
    case false =>
      rw [hz] at ho hns
      have hz' : (!decide (x1 = 0)) = true := by rw [hz]; rfl
      have hxr := hx.rc ht
      rw [cond_false] at ho hns ⊢
      cases n with
      | zero => exact absurd rfl hns
      | succ n =>
        rw [vK] at ho hns ⊢
        repeat' (first | (refine zY.is ?_; first | refine zY.nil ?_ | (refine zY.at_ 11 rfl ?_; refine zY.rc (.v zK .e) ?_) | (refine zY.in_ [28, 41] rfl ?_; refine zY.ofT rfl (zF.hd (i := [21]) (f := field_h H _ hxr (by decide)) (r := fun x s e g hk => ?_) (p := fun q s e => ?_) (t := ?_))) | (refine zY.in_ [42] rfl ?_; refine zY.ofT rfl (zF.h0 (i := [21]) (f := on_h H _ (by assumption)) (r := fun g => ?_)))) | (refine zZ.is ?_; first | refine zZ.seq ?_ | (refine zZ.isR (id := 2) ?_; refine zZ.rc [3, 8, 9, 10, 11, 26, 31] [21, 1000, 1001, 1002] (r := (.v v0_2 (.v v4_0 (.v zH (.v zN (.v v42_0 .e)))))) (h := ?_)) | (refine zZ.isR (id := 3) ?_; refine zZ.rc [3, 8, 9, 10, 11, 26, 31] [21, 1000, 1001, 1002] (r := (.v v0_2 .e)) (h := ?_)) | (refine zZ.isR (id := 4) ?_; refine zZ.rc [3, 8, 9, 10, 11, 26, 31] [21, 1000, 1001, 1002] (r := (.v zV (.v zV (.v v46_8 .e)))) (h := ?_)) | (refine zZ.isR (id := 5) ?_; refine zZ.rc [3, 8, 9, 10, 11, 26, 31] [21, 1000, 1001, 1002] (r := (.v v0_2 (.v v4_0 (.v zH (.v zN (.v zV (.v zV (.v v41_8 (.v zK (.v zK .e)))))))))) (h := ?_)) | (refine zZ.isR (id := 6) ?_; refine zZ.rc [3, 8, 9, 10, 11, 26, 31] [21, 1000, 1001, 1002] (r := (.v v0_2 (.v v0_2 .e))) (h := ?_)) | refine zZ.yF rfl bA ?_ | refine zZ.cond rfl (fun h => ?_) (fun h => ?_) | refine zZ.skip ?_ | refine zZ.block ?_ | refine zZ.ret ?_) | refine zB.n ?_ | refine zB.r ?_ | refine zB.p ?_ | refine zP.n ?_ | refine zP.r ?_ | refine zP.p ?_)
        all_goals (first | exact fun e => hns (by clear hns; simp only [vR, run_bind, zC, zJ, Held.zW, Held.zA, Held.zQ, cond_true, cond_false, *]) | exact .pan (q := q) rfl (by repeat' first | exact trivial | rfl | constructor) (by repeat' exact trivial) (by simp only [vR, run_bind, zC, zJ, Held.zW, Held.zA, Held.zQ, cond_true, cond_false, *]) | exact .ret (x := (_, _)) (by exact .inl rfl) (by exact .tup rfl (by decide) (.cons (.tmp rfl) (.cons (.tmp rfl) .nil))) (by repeat' first | exact trivial | rfl | constructor) (by simp only [vR, run_bind, zC, zJ, Held.zW, Held.zA, Held.zQ, cond_true, cond_false, *] <;> rfl) | skip)
        refine ⟨(n, (x1, xU x), s), ?_, ⟨hk, qU _, ?_⟩, Nat.lt_succ_self n⟩
        · exact zT K_12 K_13
        · have e1 : (vR t k x1).run H.st s1 = .done (endS (xU x)) s := by
            clear ho hns ho0
            simp only [vR, run_bind, zC, zJ, Held.zW, cond_false, *]
          rw [run_bind, e1, Held.zW]
          exact congrArg (fun p => Pr.run H.st p s) (contS_eq t k n (xU x)).symm
/-! ### A walk that is told where to stop -/
def ptrB (i : Nat) : Blk := .box 152 [.ptr i 0]
def keyB (k : Int) : Blk := .box 27 [.p (.val (.int .u64 k))]
theorem search1_h (H : Hnd) (s0 : H.σ) {t p x k w : Int} (f : Bool) (hx : Rc t x) : FnH H 80 [.p (.val (.int .u64 w)), .ptr 1004 0, .ptr 1005 0, .ptr 1006 0] [vQ H t p x, ptrB 1003, keyB k, isB f] (fun n => .tup ([.val (.bool (decide (k ≤ n))), .val (.bool false)].map .p)) (fun n => [vQ H t p x, ptrB 1003, keyB k, isB (decide (n = k))]) U s0 (xL (yK t x 1)) := by
  unfold ptrB keyB
  refine yO Tryz.func80 rfl Tryz.ntmps80 (Nat.le_of_ble_eq_true rfl) (by decide) (yQ _) fun hok hns => ?_
  repeat' (first | (refine zY.is ?_; first | refine zY.nil ?_ | (refine zY.at_ 7 rfl ?_; refine zY.rc (.v zK .e) ?_) | (refine zY.in_ [9] rfl ?_; refine zY.ofT rfl (zF.hd (i := [1003]) (f := field_h H _ hx (by decide)) (r := fun x s e g hk => ?_) (p := fun q s e => ?_) (t := ?_)))) | (refine zZ.is ?_; first | refine zZ.seq ?_ | (refine zZ.isR (id := 0) ?_; refine zZ.rc [1, 2, 3] [1000, 1001, 1002, 1003, 1004, 1005, 1006] (r := (.v zK (.v zK .e))) (h := ?_)) | (refine zZ.isR (id := 1) ?_; refine zZ.rc [1, 2, 3, 5, 6] [1000, 1001, 1002, 1003, 1004, 1005, 1006] (r := (.v v2_12 .e)) (h := ?_)) | (refine zZ.isR (id := 2) ?_; refine zZ.rc [2, 3, 5, 6, 7] [1000, 1001, 1002, 1003, 1004, 1005, 1006] (r := (.v zV (.v zN (.v v41_8 (.w zR .e))))) (h := ?_)) | (refine zZ.isR (id := 3) ?_; refine zZ.rc [2, 5, 6, 7] [1000, 1001, 1002, 1003, 1004, 1005, 1006] (r := (.v zV (.v zN (.v v46_8 (.v zK (.v zK .e)))))) (h := ?_)) | refine zZ.ret ?_) | refine zB.n ?_ | refine zB.p ?_)
  all_goals (first | exact fun e => hns (by clear hns; simp only [run_bind, zC, zJ, Held.zW, Held.zA, Held.zQ, cond_true, cond_false, *]) | exact .pan (q := q) rfl (by repeat' first | exact trivial | rfl | constructor) (by repeat' first | exact trivial | exact ⟨_, rfl, rfl⟩ | constructor) (by simp only [run_bind, zC, zJ, Held.zW, Held.zA, Held.zQ, cond_true, cond_false, *]) | exact .ret (x := x) (by exact .inl rfl) (by exact .tup rfl (by decide) (.cons (.tmp rfl) (.cons (.tmp rfl) .nil))) (by repeat' first | exact trivial | rfl | constructor) (by simp only [run_bind, zC, zJ, Held.zW, Held.zA, Held.zQ, cond_true, cond_false, *] <;> rfl))
def alongF (H : Hnd) (t k p x : Int) (s : H.σ) : AS :=
  { t := [(0, .ptr 1003 0), (1, .clo 80 [1004, 1005, 1006]), (4, .p (.val (.bool false)))], s := [(1000, H.b0 s), (1001, H.b1 s), (1002, H.b2 s), (1003, vQ H t p x), (1004, ptrB 1003), (1005, keyB k), (1006, isB false)] }
theorem along_h (H : Hnd) (s0 : H.σ) {t k : Int} (ht : Small t) : FnH H 79 [.ptr 1003 0, .clo 80 [1004, 1005, 1006]] [vQ H t 0 0, ptrB 1003, keyB k, isB false] (fun r => .p (.val (.bool r.ok))) (fun r => [vQ H t r.p r.x, ptrB 1003, keyB k, isB r.is]) FOK s0 (alongP t k) := by
  refine yO Tryz.func79 rfl Tryz.ntmps79 (Nat.le_of_ble_eq_true rfl) (by decide) (fine_along t k) fun hok hns => ?_
  repeat' (first | (refine zY.nil ?_) | (refine zZ.is ?_; first | refine zZ.seq ?_ | (refine zZ.isR (id := 0) ?_; refine zZ.rc [0, 1] [1000, 1001, 1002, 1003, 1004, 1005, 1006] (r := (.v zK .e)) (h := ?_))) | refine zB.n ?_)
  refine zZ.scopeL 0 (fun q : Nat × (Int × Int) × H.σ => alongF H t k q.2.1.1 q.2.1.2 q.2.2) (fun q => H.ok q.2.2 ∧ (Pr.loop (yJ t (wX t k)) q.1 none).run H.st q.2.2 = (alongP t k).run H.st s0) (fun q => q.1) (many, (0, 0), s0) ?h0 ⟨hok, rfl⟩ ?rd
  case h0 =>
    exact zT K_3 K_f
  case rd =>
    rintro ⟨n, ⟨p, x⟩, s1⟩ ⟨hok1, ho⟩
    dsimp only at hok1 ho ⊢
    rw [← ho] at hns ⊢
    unfold alongF
    cases n with
    | zero => exact absurd rfl hns
    | succ n =>
      rw [vK] at ho hns ⊢
      repeat' (first | (refine zY.is ?_; first | refine zY.nil ?_ | (refine zY.in_ [11] rfl ?_; refine zY.ofT rfl (zF.hd (i := [1003]) (f := start_h H _ ht) (r := fun x s e g hk => ?_) (p := fun q s e => ?_) (t := ?_)))) | (refine zZ.is ?_; first | refine zZ.seq ?_ | (refine zZ.isR (id := 1) ?_; refine zZ.rc [0, 1, 4] [1000, 1001, 1002, 1003, 1004, 1005, 1006] (r := (.v v0_2 .e)) (h := ?_)) | refine zZ.block ?_) | refine zB.n ?_ | refine zB.p ?_ | refine xA.p ?_)
      all_goals (first | exact fun e => hns (by clear hns; simp only [yJ, run_bind, zC, zJ, Held.zW, Held.zA, Held.zQ, cond_true, cond_false, *]) | exact .pan (q := q) rfl (by repeat' first | exact trivial | rfl | constructor) (by repeat' first | exact trivial | exact ⟨_, rfl, rfl⟩ | constructor) (by simp only [yJ, run_bind, zC, zJ, Held.zW, Held.zA, Held.zQ, cond_true, cond_false, *]) | skip)
      have e1 : (yJ t (wX t k) none).run H.st s1 = .done (endW 0 (xU x)) s := by
        clear ho hns
        simp only [yJ, run_bind, zC, Held.zW, *]
      rw [run_bind, e1, Held.zW, contL_eq] at ho hns ⊢
      refine zZ.loop (fun q : Nat × (Int × Int) × H.σ => alongF H t k q.2.1.1 q.2.1.2 q.2.2) (fun q => q.1 ≤ n ∧ H.ok q.2.2 ∧ Rf q.2.1.1 ∧ Rf q.2.1.2 ∧ (contL t (wX t k) q.1 q.2.1.1 q.2.1.2).run H.st q.2.2 = (contL t (wX t k) n 0 (xU x)).run H.st s) (fun q => q.1) (n, (0, xU x), s) ?h0 ⟨Nat.le_refl _, hk, rf_0, qU _, rfl⟩ ?rd
      case h0 =>
        exact zT K_3 K_f
      case rd =>
        rintro ⟨m, ⟨p1, x1⟩, s2⟩ ⟨hmn, hok2, hp1, hx1, ho2⟩
        dsimp only at hmn hok2 hp1 hx1 ho2 ⊢
        clear e1 e hk
        rw [← ho2] at ho hns ⊢
        unfold alongF
        unfold contL at ho hns ⊢
        cases hz : decide (x1 = 0)
        case true =>
          rw [hz] at ho hns
          obtain rfl : x1 = 0 := of_decide_eq_true hz
          have hz' : (!decide ((0 : Int) = 0)) = false := rfl
          repeat' (first | (refine zY.nil ?_) | (refine zZ.is ?_; first | refine zZ.seq ?_ | (refine zZ.isR (id := 2) ?_; refine zZ.rc [0, 1, 4, 5, 6, 7, 8, 9, 16, 20, 28, 30, 37, 39] [1000, 1001, 1002, 1003, 1004, 1005, 1006] (r := (.v v0_2 (.v v4_0 (.v zH (.v zN (.v v42_0 .e)))))) (h := ?_)) | (refine zZ.isR (id := 14) ?_; refine zZ.rc [4] [1000, 1001, 1002, 1003, 1004, 1005, 1006] (r := (.v zK .e)) (h := ?_)) | refine zZ.yH rfl bA ?_ | refine zZ.exit ?_ | refine zZ.ret ?_) | refine zB.n ?_ | refine zP.eY ?_ | refine zB.e ?_ | refine xA.r ?_)
          all_goals (exact .ret (x := ⟨_, _, _, _⟩) (by exact .inl rfl) (by exact .one rfl rfl) (by repeat' first | exact trivial | rfl | constructor) (by simp only [run_bind, zC, zJ, Held.zW, Held.zA, Held.zQ, cond_true, cond_false, *] <;> rfl))
        case false =>
          rw [hz] at ho hns
          have hz' : (!decide (x1 = 0)) = true := by rw [hz]; rfl
          have hxr := hx1.rc ht
          have hw : WOK p1 x1 := ⟨hp1, hx1, hz⟩
          have hnk : ∀ n : Int, decide (k ≤ n) = false → decide (n = k) = false := fun n h => by
            have := of_decide_eq_false h
            exact decide_eq_false (by omega)
          rw [cond_false] at ho hns ⊢
          cases m with
          | zero => exact absurd rfl hns
          | succ m =>
            rw [vK] at ho hns ⊢
            repeat' (first | (refine zY.is ?_; first | refine zY.nil ?_ | (refine zY.at_ 21 rfl ?_; refine zY.rc (.v wQ (.v yV (.v yV (.v zK (.v zK .e))))) ?_) | (refine zY.at_ 31 rfl ?_; refine zY.rc (.v wQ (.v yV (.v yV (.v zK (.v zK .e))))) ?_) | (refine zY.at_ 5 rfl ?_; refine zY.rc (.v zK .e) ?_) | (refine zY.in_ [20] rfl ?_; refine zY.v rfl rfl (zL (mark_fn _ (U.lo (by assumption)) (U.hi (by assumption))) rfl rfl rfl (by decide)) ?_) | (refine zY.in_ [18] rfl ?_; refine zY.ofT rfl (zF.hd (i := [1003]) (f := field_h H _ hxr (by decide)) (r := fun x s e g hk => ?_) (p := fun q s e => ?_) (t := ?_))) | (refine zY.in_ [34] rfl ?_; refine zY.ofT rfl (zF.hd (i := [1003, 1004, 1005, 1006]) (f := search1_h H _ _ hxr) (r := fun x s e g hk => ?_) (p := fun q s e => ?_) (t := ?_))) | (refine zY.in_ [24] rfl ?_; refine zY.ofT rfl (zF.hdT (i := [1003]) (f := out_h H _ ht hw (by assumption)) (r0 := fun s e g hk => ?_) (r1 := fun s e g hk => ?_) (r2 := fun s e g hk => ?_) (p := fun q s e => ?_) (t := ?_))) | (refine zY.in_ [42] rfl ?_; refine zY.ofT rfl (zF.h0 (i := [1003]) (f := on_h H _ (by assumption)) (r := fun g => ?_)))) | (refine zZ.is ?_; first | refine zZ.seq ?_ | (refine zZ.isR (id := 2) ?_; refine zZ.rc [0, 1, 4, 5, 6, 7, 8, 9, 16, 20, 28, 30, 37, 39] [1000, 1001, 1002, 1003, 1004, 1005, 1006] (r := (.v v0_2 (.v v4_0 (.v zH (.v zN (.v v42_0 .e)))))) (h := ?_)) | (refine zZ.isR (id := 3) ?_; refine zZ.rc [0, 1, 4, 5, 6, 7, 8, 9, 16, 20, 28, 30, 37, 39] [1000, 1001, 1002, 1003, 1004, 1005, 1006] (r := (.v v0_2 .e)) (h := ?_)) | (refine zZ.isR (id := 4) ?_; refine zZ.rc [0, 1, 4, 5, 6, 7, 8, 9, 16, 20, 28, 30, 37, 39] [1000, 1001, 1002, 1003, 1004, 1005, 1006] (r := (.v zV .e)) (h := ?_)) | (refine zZ.isR (id := 5) ?_; refine zZ.rc [0, 1, 4, 5, 6, 7, 8, 9, 16, 20, 28, 30, 37, 39] [1000, 1001, 1002, 1003, 1004, 1005, 1006] (r := (.v v0_2 (.v zV .e))) (h := ?_)) | (refine zZ.isR (id := 6) ?_; refine zZ.rc [0, 1, 4, 5, 6, 7, 8, 9, 16, 20, 28, 30, 37, 39] [1000, 1001, 1002, 1003, 1004, 1005, 1006] (r := (.v zV (.v v52_4 .e))) (h := ?_)) | (refine zZ.isR (id := 6) ?_; refine zZ.rc [0, 1, 4, 5, 6, 7, 8, 9, 16, 20, 28, 30, 37, 39] [1000, 1001, 1002, 1003, 1004, 1005, 1006] (r := (.v zV (.v qI .e))) (h := ?_)) | (refine zZ.isR (id := 7) ?_; refine zZ.rc [0, 1, 4, 5, 6, 7, 8, 9, 16, 20, 28, 30, 37, 39] [1000, 1001, 1002, 1003, 1004, 1005, 1006] (r := (.v zK .e)) (h := ?_)) | (refine zZ.isR (id := 8) ?_; refine zZ.rc [0, 1, 4, 5, 6, 7, 8, 9, 16, 20, 28, 30, 37, 39] [1000, 1001, 1002, 1003, 1004, 1005, 1006] (r := (.v zV (.v v52_4 .e))) (h := ?_)) | (refine zZ.isR (id := 8) ?_; refine zZ.rc [0, 1, 4, 5, 6, 7, 8, 9, 16, 20, 28, 30, 37, 39] [1000, 1001, 1002, 1003, 1004, 1005, 1006] (r := (.v zV (.v qI .e))) (h := ?_)) | (refine zZ.isR (id := 9) ?_; refine zZ.rc [0, 1, 4, 5, 6, 7, 8, 9, 16, 20, 28, 30, 37, 39] [1000, 1001, 1002, 1003, 1004, 1005, 1006] (r := (.v xJ (.v zV .e))) (h := ?_)) | (refine zZ.isR (id := 10) ?_; refine zZ.rc [0, 1, 4, 5, 6, 7, 8, 9, 16, 20, 28, 30, 37, 39] [1000, 1001, 1002, 1003, 1004, 1005, 1006] (r := (.v zV .e)) (h := ?_)) | (refine zZ.isR (id := 11) ?_; refine zZ.rc [0, 1, 4, 5, 6, 7, 8, 9, 16, 20, 28, 30, 37, 39] [1000, 1001, 1002, 1003, 1004, 1005, 1006] (r := (.v zK .e)) (h := ?_)) | (refine zZ.isR (id := 12) ?_; refine zZ.rc [0, 1, 4, 5, 6, 7, 8, 9, 16, 20, 28, 30, 37, 39] [1000, 1001, 1002, 1003, 1004, 1005, 1006] (r := (.v zV (.v v52_4 .e))) (h := ?_)) | (refine zZ.isR (id := 13) ?_; refine zZ.rc [0, 1, 4, 5, 6, 7, 8, 9, 16, 20, 28, 30, 37, 39] [1000, 1001, 1002, 1003, 1004, 1005, 1006] (r := (.v v0_2 (.v zV .e))) (h := ?_)) | refine zZ.yF rfl bA ?_ | refine zZ.yH rfl bA ?_ | refine zZ.cond rfl (fun h => ?_) (fun h => ?_) | refine zZ.skip ?_ | refine zZ.block ?_ | refine zZ.exit ?_ | refine zZ.ret ?_ | refine zZ.goto ?_) | refine zB.n ?_ | refine zB.r ?_ | refine zB.p ?_ | refine zP.n ?_ | refine zP.r ?_ | refine zP.eY ?_ | refine zB.e ?_ | refine zP.p ?_ | refine zB.g ?_ | refine xA.r ?_ | refine xA.g ?_ | refine zP.g ?_ | refine xA.p ?_)
            all_goals (first | exact fun e => hns (by clear hns; simp only [yJ, tookP, tookR, wX, run_bind, zC, zJ, Held.zW, Held.zA, Held.zQ, cond_true, cond_false, *]) | exact .pan (q := q) rfl (by repeat' first | exact trivial | rfl | constructor) (by repeat' first | exact trivial | exact ⟨_, rfl, rfl⟩ | constructor) (by simp only [yJ, tookP, tookR, wX, run_bind, zC, zJ, Held.zW, Held.zA, Held.zQ, cond_true, cond_false, *]) | exact .ret (x := ⟨_, _, _, _⟩) (by exact .inl rfl) (by exact .one rfl rfl) (by repeat' first | exact trivial | rfl | constructor) (by simp only [yJ, tookP, tookR, wX, run_bind, zC, zJ, Held.zW, Held.zA, Held.zQ, cond_true, cond_false, *] <;> rfl) | skip)
            · have e1 : (yJ t (wX t k) (some (p1, x1))).run H.st s2 = .done (.inl none) s := by
                clear ho hns ho2
                simp only [yJ, tookP, tookR, run_bind, zC, zJ, Held.zW, cond_true, cond_false, *]
              refine ⟨(m, (p1, x1), s), ?_, ⟨hk, (by rw [run_bind, e1, Held.zW]; rfl)⟩, by dsimp only; omega⟩
              exact zT K_3 K_f
            · have e1 : (yJ t (wX t k) (some (p1, x1))).run H.st s2 = .done (endW p1 (xU x)) s := by
                clear ho hns ho2
                simp only [yJ, tookP, tookR, run_bind, zC, zJ, Held.zW, cond_true, cond_false, *]
              refine ⟨(m, (p1, xU x), s), ?_, ⟨by dsimp only; omega, hk, hp1, qU _, ?_⟩, Nat.lt_succ_self m⟩
              · exact zT K_3 K_f
              · rw [run_bind, e1, Held.zW]
                exact congrArg (fun p => Pr.run H.st p s) (contL_eq t (wX t k) m p1 (xU x)).symm
            · rename_i w s4 e4 g4 hk4 hm4 g5
              have e1 : (yJ t (wX t k) (some (p1, x1))).run H.st s2 = .done (endW x1 (xU w)) s := by
                clear ho hns ho2
                simp only [yJ, wX, run_bind, zC, zJ, Held.zW, cond_true, cond_false, *]
              have hdk := hnk x h
              refine ⟨(m, (x1, xU w), s), ?_, ⟨by dsimp only; omega, hk, hx1, qU _, ?_⟩, Nat.lt_succ_self m⟩
              · rw [hdk]
                exact zT K_3 K_f
              · rw [run_bind, e1, Held.zW]
                exact congrArg (fun p => Pr.run H.st p s) (contL_eq t (wX t k) m x1 (xU w)).symm
theorem search_h (H : Hnd) (s0 : H.σ) {t k : Int} (ht : Small t) : FnH H 48 [H.doA, .p (.val (.int .i64 t)), .p (.val (.int .u64 k))] [] (fun r => .tup ([.val (.int .i64 r.p), .val (.int .i64 r.x), .val (.bool r.is), .val (.bool r.ok)].map .p)) (fun _ => []) FOK s0 (qA t k) := by
  unfold Hnd.doA
  refine yO Tryz.func48 rfl Tryz.ntmps48 (Nat.le_of_ble_eq_true rfl) (by decide) (fine_search t k) fun hok hns => ?_
  repeat' (first | (refine zY.is ?_; first | refine zY.nil ?_ | (refine zY.at_ 10 rfl ?_; refine zY.rc (.m zS (.w zR .e)) ?_) | (refine zY.at_ 9 rfl ?_; refine zY.rc (.v zK .e) ?_) | (refine zY.in_ [17] rfl ?_; refine zY.ofT rfl (zF.hdB (c := wR.is) (i := [14, 10, 5, 8]) (f := along_h H _ ht) (r0 := fun x s e g hk h => ?_) (r1 := fun x s e g hk h => ?_) (p := fun q s e => ?_) (t := ?_))) | refine zY.buildBx rfl rfl rfl rfl rfl rfl (by decide) (by decide) rfl rfl rfl rfl ?_) | (refine zZ.is ?_; first | refine zZ.seq ?_ | (refine zZ.isR (id := 0) ?_; refine zZ.rc [0, 1, 2] [5, 8, 10, 14, 1000, 1001, 1002] (r := (.m m18_1 (.v zK (.v zK (.m zS (.v zK .e)))))) (h := ?_)) | (refine zZ.isR (id := 1) ?_; refine zZ.rc [0, 1, 5, 6, 7, 8, 9] [5, 8, 10, 14, 1000, 1001, 1002] (r := (.v xJ (.v zV .e))) (h := ?_)) | (refine zZ.isR (id := 2) ?_; refine zZ.rc [5, 6, 7, 8, 9, 10] [5, 8, 10, 14, 1000, 1001, 1002] (r := (.v v2_12 (.v v14_0 .e))) (h := ?_)) | (refine zZ.isR (id := 3) ?_; refine zZ.rc [6, 7, 8, 9, 10] [5, 8, 10, 14, 1000, 1001, 1002] (r := (.v zV (.v v52_8 .e))) (h := ?_)) | (refine zZ.isR (id := 4) ?_; refine zZ.rc [6, 7, 8, 9, 10] [5, 8, 10, 14, 1000, 1001, 1002] (r := (.v zK (.v zK (.w zR (.v zK .e))))) (h := ?_)) | (refine zZ.isR (id := 5) ?_; refine zZ.dc [6, 7, 8, 9, 10] [5, 8, 10, 14, 1000, 1001, 1002] (r := (.v v2_12 (.v v4_0 (.v zH (.v zN (.v v2_12 (.v v4_0 (.v zH (.v zN (.v zN (.v zV (.gY v2_12 (.gY v4_0 (.gY zH (.gY zN (.gY v42_8 (.v y8 (.v zK (.v zK .e))))))))))))))))))) (q := (.w zR (.v zK .e))) (h := ?_)) | (refine zZ.isR (id := 5) ?_; refine zZ.dc [6, 7, 8, 9, 10] [5, 8, 10, 14, 1000, 1001, 1002] (r := (.v v2_12 (.v v4_0 (.v zH (.v zN (.v v2_12 (.v v4_0 (.v zH (.v zN (.v zN (.v zV (.gT (.gT (.gT (.gT (.gT (.v xC (.v zK (.v zK .e))))))))))))))))))) (q := (.w zR (.v zK .e))) (h := ?_)) | refine zZ.cond rfl (fun h => ?_) (fun h => ?_) | refine zZ.skip ?_ | refine zZ.ret ?_) | refine zB.n ?_ | refine zB.r ?_ | refine zB.p ?_ | (refine zD.nil ?_))
  all_goals try
    rename_i his
    obtain ⟨p, y, is, ok⟩ := x
    obtain rfl : is = _ := his
  all_goals try
    have hok2 : ok = false := by simpa using h
    subst hok2
    exact .ret (x := ⟨0, 0, false, false⟩) (.inl rfl) (.tup rfl (by decide) (.cons (.tmp rfl) (.cons (.tmp rfl) (.cons (.cell1 rfl rfl rfl) (.cons (.tmp rfl) .nil))))) (by repeat' first | exact trivial | rfl | constructor) (by simp only [qA, run_bind, e, Held.zW, cond_false, zC])
  all_goals try
    have hok2 : ok = true := by simpa using h
    subst hok2
    first
      | exact .ret (x := ⟨p, y, false, true⟩) (.inl rfl) (.tup rfl (by decide) (.cons (.tmp rfl) (.cons (.tmp rfl) (.cons (.cell1 rfl rfl rfl) (.cons (.tmp rfl) .nil))))) (by repeat' first | exact trivial | rfl | constructor) (by simp only [qA, run_bind, e, Held.zW, cond_true, zC])
      | (have hy : (!decide (y = 0)) = true := by
           have : 1 ≤ y := g.n rfl
           rw [decide_eq_false (by omega)]
           rfl
         refine .ret (x := ⟨p, y, true, true⟩) (.inl rfl) (.tup rfl (by decide) (.cons (.tmp rfl) (.cons (.tmp rfl) (.cons (.cell1 rfl rfl (by rw [← hy]; rfl)) (.cons (.tmp rfl) .nil))))) (by repeat' first | exact trivial | rfl | constructor) (by simp only [qA, run_bind, e, Held.zW, cond_true, zC]))
  all_goals (first | exact fun e => hns (by clear hns; simp only [qA, run_bind, zC, zJ, Held.zW, Held.zA, Held.zQ, cond_true, cond_false, *]) | exact .pan (q := q) rfl (by repeat' first | exact trivial | rfl | constructor) (by repeat' exact trivial) (by simp only [qA, run_bind, zC, zJ, Held.zW, Held.zA, Held.zQ, cond_true, cond_false, *]))
end Go.Proofs.YtmfbamiciieooaaGreatDoor
/- Sweeps: the program's, whatever makes its accesses: contracts. -/
namespace Go.Proofs.YtmfbamiciieooaaGreatDoor
set_option maxRecDepth 100000
set_option maxHeartbeats 16000000
open Go Go.RowKit
set_option linter.unusedSimpArgs false
set_option linter.unusedVariables false
attribute [local irreducible] zY zZ Step zX Sub zD zF Fn zB zP xA
theorem ksplit_fn (k : Int) (h0 : 0 ≤ k) (h1 : k < 18446744073709551616) : Fn Tryz.prog 95 [.val (.int .u64 k)] (.tup [.val (.int .i64 (k / 2147483648)), .val (.int .i64 (k % 2147483648 - 1))]) := by
  have g1 : bits .and .u64 k 2147483647 = k % 2147483648 := andLow k 31 (by decide) h0 h1
  have g2 : IntKind.i64.wrap (k / 2147483648) = k / 2147483648 := wrap_i64 _ (by omega)
  have g3 : IntKind.i64.wrap (k % 2147483648) = k % 2147483648 := wrap_i64 _ (by omega)
  have g4 : IntKind.i64.wrap (k % 2147483648 - 1) = k % 2147483648 - 1 := wrap_i64 _ (by omega)
  refine vY Tryz.func95 rfl Tryz.ntmps95 (Nat.le_of_ble_eq_true rfl) ?_
  repeat' (first | (refine zY.nil ?_) | (refine zZ.is ?_; first | refine zZ.seq ?_ | (refine zZ.isR (id := 0) ?_; refine zZ.rc [0] [] (r := (.v zK (.v zK .e))) (h := ?_)) | (refine zZ.isR (id := 1) ?_; refine zZ.rc [0, 2, 3] [] (r := (.v zV (.v v39_1 (.v v6_0 (.v zV (.v v35_0 (.v v6_0 (.v v31_0 (.v zK (.v zK .e)))))))))) (h := ?_)) | refine zZ.ret ?_) | refine zB.n ?_)
  all_goals exact ⟨.inl rfl, givesT (ts := [2, 3]) rfl (by decide) rfl⟩
theorem sweep1_h (H : Hnd) (s0 : H.σ) {t p x k w : Int} (ht : Small t) (hW : WOK p x) (hw : U w) (he : decide (w % 2 = 1) = false) : FnH H 94 [.p (.val (.int .u64 w)), .ptr 1004 0, .ptr 1005 0, .ptr 1006 0, .ptr 1007 0] [vQ H t p x, ptrB 1003, keyB k, doB H, yG t] (fun b => .tup ([.val (.bool false), .val (.bool b)].map .p)) (fun _ => [vQ H t p x, ptrB 1003, keyB k, doB H, yG t]) yes s0 (sweepIn t k x w) := by
  have hxr := hW.x.rc ht
  have hxx := hW.x
  have F1 := fun y : Int => (decide_eq_decide.2 (by omega) : decide (y % 2147483648 - 1 < 0) = decide (y % 2147483648 = 0))
  unfold ptrB keyB doB yG vQ Hnd.doA
  refine yO Tryz.func94 rfl Tryz.ntmps94 (Nat.le_of_ble_eq_true rfl) (by decide) (fine_sweepIn t k x w hw he) fun hok hns => ?_
  repeat' (first | (refine zY.is ?_; first | refine zY.nil ?_ | (refine zY.at_ 10 rfl ?_; refine zY.rc (.v zK .e) ?_) | (refine zY.at_ 11 rfl ?_; refine zY.rc (.v zK .e) ?_) | (refine zY.at_ 12 rfl ?_; refine zY.rc (.v wQ (.v yV (.v yV (.v zK (.v zK .e))))) ?_) | (refine zY.at_ 28 rfl ?_; refine zY.rc (.gY zV (.gY zN (.gY v42_8 (.v y8 .e)))) ?_) | (refine zY.at_ 28 rfl ?_; refine zY.rc (.gT (.gT (.gT (.v xC .e)))) ?_) | (refine zY.in_ [15] rfl ?_; refine zY.v rfl rfl (yS (ksplit_fn _ (U.lo (by assumption)) (U.hi (by assumption))) rfl rfl rfl (by decide)) ?_) | (refine zY.in_ [14, 21, 23] rfl ?_; refine zY.ofT rfl (zF.hd (i := [1003]) (f := field_h H _ hxr (by decide)) (r := fun x s e g hk => ?_) (p := fun q s e => ?_) (t := ?_))) | (fail_if_success refine zY.known rfl rfl rfl (by fail) ?_); refine zY.split rfl rfl rfl (fun h => ?_) (fun h => ?_)) | (refine zZ.is ?_; first | refine zZ.seq ?_ | (refine zZ.isR (id := 0) ?_; refine zZ.rc [0, 1, 2, 3, 4] [1000, 1001, 1002, 1003, 1004, 1005, 1006, 1007] (r := (.v zK (.v zK .e))) (h := ?_)) | (refine zZ.isR (id := 1) ?_; refine zZ.rc [0, 1, 2, 3, 4, 6, 7] [1000, 1001, 1002, 1003, 1004, 1005, 1006, 1007] (r := (.v v2_12 .e)) (h := ?_)) | (refine zZ.isR (id := 2) ?_; refine zZ.rc [0, 1, 2, 3, 4, 6, 7, 9] [1000, 1001, 1002, 1003, 1004, 1005, 1006, 1007] (r := (.v zV (.v v43_1 .e))) (h := ?_)) | (refine zZ.isR (id := 3) ?_; refine zZ.rc [0, 1, 2, 3, 4, 6, 7] [1000, 1001, 1002, 1003, 1004, 1005, 1006, 1007] (r := (.v zK (.v zK .e))) (h := ?_)) | (refine zZ.isR (id := 4) ?_; refine zZ.rc [0, 1, 2, 3, 4, 6, 7] [1000, 1001, 1002, 1003, 1004, 1005, 1006, 1007] (r := (.v v2_12 .e)) (h := ?_)) | (refine zZ.isR (id := 5) ?_; refine zZ.rc [0, 1, 2, 3, 4, 6, 7, 10] [1000, 1001, 1002, 1003, 1004, 1005, 1006, 1007] (r := (.v v2_12 .e)) (h := ?_)) | (refine zZ.isR (id := 6) ?_; refine zZ.rc [0, 1, 2, 3, 4, 6, 7, 10, 11] [1000, 1001, 1002, 1003, 1004, 1005, 1006, 1007] (r := (.v zV (.v zN (.v v42_8 (.v zV .e))))) (h := ?_)) | (refine zZ.isR (id := 7) ?_; refine zZ.rc [0, 1, 3, 4, 6, 7] [1000, 1001, 1002, 1003, 1004, 1005, 1006, 1007] (r := (.v zK (.v zK .e))) (h := ?_)) | (refine zZ.isR (id := 8) ?_; refine zZ.rk [0, 1, 3, 4, 6, 7] [1000, 1001, 1002, 1003, 1004, 1005, 1006, 1007] ?_; refine zZ.draws ?_) | (refine zZ.isR (id := 9) ?_; refine zZ.rk [1, 3, 4, 6, 7] [1000, 1001, 1002, 1003, 1004, 1005, 1006, 1007] ?_; refine zZ.draws ?_) | (refine zZ.isR (id := 10) ?_; refine zZ.rc [6, 7] [1000, 1001, 1002, 1003, 1004, 1005, 1006, 1007] (r := (.v zK (.v zK .e))) (h := ?_)) | refine zZ.yH rfl bA ?_ | refine zZ.cond rfl (fun h => ?_) (fun h => ?_) | refine zZ.skip ?_ | refine zZ.ret ?_) | refine zB.n ?_ | refine zB.r ?_ | refine zB.p ?_ | (refine Draws.is ?_; first | refine Draws.rc (.v wB (.v zN (.v v2_12 (.v v4_0 (.v zH (.v zN (.v zV .e))))))) ?_ | refine Draws.rc (.v wB (.v zN (.v v2_12 (.v v4_0 (.v zH (.v zN .e)))))) ?_ | refine Draws.done (by kernel_rfl) (by kernel_rfl) (by kernel_rfl) ?_) | (refine zD.is ?_; first | refine zD.nil ?_ | (refine zD.in_ [39] rfl ?_; refine zD.ofT rfl (zF.hd (i := []) (f := mark_h H _ ht hxx hw he) (r := fun x s e g hk => ?_) (p := fun q s e => ?_) (t := ?_))) | (refine zD.in_ [46] rfl ?_; refine zD.ofT rfl (zF.hd (i := []) (f := setOp_h H _ hxr (.inr rfl)) (r := fun x s e g hk => ?_) (p := fun q s e => ?_) (t := ?_)))))
  all_goals (first | exact fun e => hns (by clear hns; simp only [sweepIn, Bool.true_and, Bool.false_and, run_bind, zC, zJ, Held.zW, Held.zA, Held.zQ, cond_true, cond_false, *]) | exact .pan (q := q) rfl (by repeat' first | exact trivial | rfl | constructor) (by repeat' first | exact trivial | exact ⟨_, rfl, rfl⟩ | constructor) (by simp only [sweepIn, Bool.true_and, Bool.false_and, run_bind, zC, zJ, Held.zW, Held.zA, Held.zQ, cond_true, cond_false, *]) | exact .ret (x := _) (by exact .inl rfl) (by exact .tup rfl (by decide) (.cons (.tmp rfl) (.cons (.tmp rfl) .nil))) (by repeat' first | exact trivial | rfl | constructor) (by simp only [sweepIn, Bool.true_and, Bool.false_and, run_bind, zC, zJ, Held.zW, Held.zA, Held.zQ, cond_true, cond_false, *] <;> rfl))
def alongG (H : Hnd) (t k p x : Int) (s : H.σ) : AS :=
  { t := [(0, .ptr 1003 0), (1, .clo 94 [1004, 1005, 1006, 1007]), (4, .p (.val (.bool false)))], s := [(1000, H.b0 s), (1001, H.b1 s), (1002, H.b2 s), (1003, vQ H t p x), (1004, ptrB 1003), (1005, keyB k), (1006, doB H), (1007, yG t)] }
theorem alongS_h (H : Hnd) (s0 : H.σ) {t k : Int} (ht : Small t) : FnH H 79 [.ptr 1003 0, .clo 94 [1004, 1005, 1006, 1007]] [vQ H t 0 0, ptrB 1003, keyB k, doB H, yG t] (fun r => .p (.val (.bool r.ok))) (fun r => [vQ H t r.p r.x, ptrB 1003, keyB k, doB H, yG t]) FOK s0 (sweepL t k) := by
  refine yO Tryz.func79 rfl Tryz.ntmps79 (Nat.le_of_ble_eq_true rfl) (by decide) (fine_sweepL t k) fun hok hns => ?_
  repeat' (first | (refine zY.nil ?_) | (refine zZ.is ?_; first | refine zZ.seq ?_ | (refine zZ.isR (id := 0) ?_; refine zZ.rc [0, 1] [1000, 1001, 1002, 1003, 1004, 1005, 1006, 1007] (r := (.v zK .e)) (h := ?_))) | refine zB.n ?_)
  refine zZ.scopeL 0 (fun q : Nat × (Int × Int) × H.σ => alongG H t k q.2.1.1 q.2.1.2 q.2.2) (fun q => H.ok q.2.2 ∧ (Pr.loop (yJ t (wM t k)) q.1 none).run H.st q.2.2 = (sweepL t k).run H.st s0) (fun q => q.1) (many, (0, 0), s0) ?h0 ⟨hok, rfl⟩ ?rd
  case h0 =>
    exact zT K_3 K_9
  case rd =>
    rintro ⟨n, ⟨p, x⟩, s1⟩ ⟨hok1, ho⟩
    dsimp only at hok1 ho ⊢
    rw [← ho] at hns ⊢
    unfold alongG
    cases n with
    | zero => exact absurd rfl hns
    | succ n =>
      rw [vK] at ho hns ⊢
      repeat' (first | (refine zY.is ?_; first | refine zY.nil ?_ | (refine zY.in_ [11] rfl ?_; refine zY.ofT rfl (zF.hd (i := [1003]) (f := start_h H _ ht) (r := fun x s e g hk => ?_) (p := fun q s e => ?_) (t := ?_)))) | (refine zZ.is ?_; first | refine zZ.seq ?_ | (refine zZ.isR (id := 1) ?_; refine zZ.rc [0, 1, 4] [1000, 1001, 1002, 1003, 1004, 1005, 1006, 1007] (r := (.v v0_2 .e)) (h := ?_)) | refine zZ.block ?_) | refine zB.n ?_ | refine zB.p ?_ | refine xA.p ?_)
      all_goals (first | exact fun e => hns (by clear hns; simp only [yJ, run_bind, zC, zJ, Held.zW, Held.zA, Held.zQ, cond_true, cond_false, *]) | exact .pan (q := q) rfl (by repeat' first | exact trivial | rfl | constructor) (by repeat' first | exact trivial | exact ⟨_, rfl, rfl⟩ | constructor) (by simp only [yJ, run_bind, zC, zJ, Held.zW, Held.zA, Held.zQ, cond_true, cond_false, *]) | skip)
      have e1 : (yJ t (wM t k) none).run H.st s1 = .done (endW 0 (xU x)) s := by
        clear ho hns
        simp only [yJ, run_bind, zC, Held.zW, *]
      rw [run_bind, e1, Held.zW, contL_eq] at ho hns ⊢
      refine zZ.loop (fun q : Nat × (Int × Int) × H.σ => alongG H t k q.2.1.1 q.2.1.2 q.2.2) (fun q => q.1 ≤ n ∧ H.ok q.2.2 ∧ Rf q.2.1.1 ∧ Rf q.2.1.2 ∧ (contL t (wM t k) q.1 q.2.1.1 q.2.1.2).run H.st q.2.2 = (contL t (wM t k) n 0 (xU x)).run H.st s) (fun q => q.1) (n, (0, xU x), s) ?h0 ⟨Nat.le_refl _, hk, rf_0, qU _, rfl⟩ ?rd
      case h0 =>
        exact zT K_3 K_9
      case rd =>
        rintro ⟨m, ⟨p1, x1⟩, s2⟩ ⟨hmn, hok2, hp1, hx1, ho2⟩
        dsimp only at hmn hok2 hp1 hx1 ho2 ⊢
        clear e1 e hk
        rw [← ho2] at ho hns ⊢
        unfold alongG
        unfold contL at ho hns ⊢
        cases hz : decide (x1 = 0)
        case true =>
          rw [hz] at ho hns
          obtain rfl : x1 = 0 := of_decide_eq_true hz
          have hz' : (!decide ((0 : Int) = 0)) = false := rfl
          repeat' (first | (refine zY.nil ?_) | (refine zZ.is ?_; first | refine zZ.seq ?_ | (refine zZ.isR (id := 2) ?_; refine zZ.rc [0, 1, 4, 5, 6, 7, 8, 9, 16, 20, 28, 30, 37, 39] [1000, 1001, 1002, 1003, 1004, 1005, 1006, 1007] (r := (.v v0_2 (.v v4_0 (.v zH (.v zN (.v v42_0 .e)))))) (h := ?_)) | (refine zZ.isR (id := 14) ?_; refine zZ.rc [4] [1000, 1001, 1002, 1003, 1004, 1005, 1006, 1007] (r := (.v zK .e)) (h := ?_)) | refine zZ.yH rfl bA ?_ | refine zZ.exit ?_ | refine zZ.ret ?_) | refine zB.n ?_ | refine zP.eY ?_ | refine zB.e ?_ | refine xA.r ?_)
          all_goals (exact .ret (x := ⟨_, _, _, _⟩) (by exact .inl rfl) (by exact .one rfl rfl) (by repeat' first | exact trivial | rfl | constructor) (by simp only [run_bind, zC, zJ, Held.zW, Held.zA, Held.zQ, cond_true, cond_false, *] <;> rfl))
        case false =>
          rw [hz] at ho hns
          have hz' : (!decide (x1 = 0)) = true := by rw [hz]; rfl
          have hxr := hx1.rc ht
          have hw : WOK p1 x1 := ⟨hp1, hx1, hz⟩
          rw [cond_false] at ho hns ⊢
          cases m with
          | zero => exact absurd rfl hns
          | succ m =>
            rw [vK] at ho hns ⊢
            repeat' (first | (refine zY.is ?_; first | refine zY.nil ?_ | (refine zY.at_ 21 rfl ?_; refine zY.rc (.v wQ (.v yV (.v yV (.v zK (.v zK .e))))) ?_) | (refine zY.at_ 31 rfl ?_; refine zY.rc (.v wQ (.v yV (.v yV (.v zK (.v zK .e))))) ?_) | (refine zY.at_ 5 rfl ?_; refine zY.rc (.v zK .e) ?_) | (refine zY.in_ [20] rfl ?_; refine zY.v rfl rfl (zL (mark_fn _ (U.lo (by assumption)) (U.hi (by assumption))) rfl rfl rfl (by decide)) ?_) | (refine zY.in_ [18] rfl ?_; refine zY.ofT rfl (zF.hd (i := [1003]) (f := field_h H _ hxr (by decide)) (r := fun x s e g hk => ?_) (p := fun q s e => ?_) (t := ?_))) | (refine zY.in_ [34] rfl ?_; refine zY.ofT rfl (zF.hd (i := [1003, 1004, 1005, 1006, 1007]) (f := sweep1_h H _ ht hw (by assumption) (by assumption)) (r := fun x s e g hk => ?_) (p := fun q s e => ?_) (t := ?_))) | (refine zY.in_ [24] rfl ?_; refine zY.ofT rfl (zF.hdT (i := [1003]) (f := out_h H _ ht hw (by assumption)) (r0 := fun s e g hk => ?_) (r1 := fun s e g hk => ?_) (r2 := fun s e g hk => ?_) (p := fun q s e => ?_) (t := ?_))) | (refine zY.in_ [42] rfl ?_; refine zY.ofT rfl (zF.h0 (i := [1003]) (f := on_h H _ (by assumption)) (r := fun g => ?_)))) | (refine zZ.is ?_; first | refine zZ.seq ?_ | (refine zZ.isR (id := 2) ?_; refine zZ.rc [0, 1, 4, 5, 6, 7, 8, 9, 16, 20, 28, 30, 37, 39] [1000, 1001, 1002, 1003, 1004, 1005, 1006, 1007] (r := (.v v0_2 (.v v4_0 (.v zH (.v zN (.v v42_0 .e)))))) (h := ?_)) | (refine zZ.isR (id := 3) ?_; refine zZ.rc [0, 1, 4, 5, 6, 7, 8, 9, 16, 20, 28, 30, 37, 39] [1000, 1001, 1002, 1003, 1004, 1005, 1006, 1007] (r := (.v v0_2 .e)) (h := ?_)) | (refine zZ.isR (id := 4) ?_; refine zZ.rc [0, 1, 4, 5, 6, 7, 8, 9, 16, 20, 28, 30, 37, 39] [1000, 1001, 1002, 1003, 1004, 1005, 1006, 1007] (r := (.v zV .e)) (h := ?_)) | (refine zZ.isR (id := 5) ?_; refine zZ.rc [0, 1, 4, 5, 6, 7, 8, 9, 16, 20, 28, 30, 37, 39] [1000, 1001, 1002, 1003, 1004, 1005, 1006, 1007] (r := (.v v0_2 (.v zV .e))) (h := ?_)) | (refine zZ.isR (id := 6) ?_; refine zZ.rc [0, 1, 4, 5, 6, 7, 8, 9, 16, 20, 28, 30, 37, 39] [1000, 1001, 1002, 1003, 1004, 1005, 1006, 1007] (r := (.v zV (.v v52_4 .e))) (h := ?_)) | (refine zZ.isR (id := 6) ?_; refine zZ.rc [0, 1, 4, 5, 6, 7, 8, 9, 16, 20, 28, 30, 37, 39] [1000, 1001, 1002, 1003, 1004, 1005, 1006, 1007] (r := (.v zV (.v qI .e))) (h := ?_)) | (refine zZ.isR (id := 7) ?_; refine zZ.rc [0, 1, 4, 5, 6, 7, 8, 9, 16, 20, 28, 30, 37, 39] [1000, 1001, 1002, 1003, 1004, 1005, 1006, 1007] (r := (.v zK .e)) (h := ?_)) | (refine zZ.isR (id := 8) ?_; refine zZ.rc [0, 1, 4, 5, 6, 7, 8, 9, 16, 20, 28, 30, 37, 39] [1000, 1001, 1002, 1003, 1004, 1005, 1006, 1007] (r := (.v zV (.v v52_4 .e))) (h := ?_)) | (refine zZ.isR (id := 8) ?_; refine zZ.rc [0, 1, 4, 5, 6, 7, 8, 9, 16, 20, 28, 30, 37, 39] [1000, 1001, 1002, 1003, 1004, 1005, 1006, 1007] (r := (.v zV (.v qI .e))) (h := ?_)) | (refine zZ.isR (id := 9) ?_; refine zZ.rc [0, 1, 4, 5, 6, 7, 8, 9, 16, 20, 28, 30, 37, 39] [1000, 1001, 1002, 1003, 1004, 1005, 1006, 1007] (r := (.v xJ (.v zV .e))) (h := ?_)) | (refine zZ.isR (id := 10) ?_; refine zZ.rc [0, 1, 4, 5, 6, 7, 8, 9, 16, 20, 28, 30, 37, 39] [1000, 1001, 1002, 1003, 1004, 1005, 1006, 1007] (r := (.v zV .e)) (h := ?_)) | (refine zZ.isR (id := 12) ?_; refine zZ.rc [0, 1, 4, 5, 6, 7, 8, 9, 16, 20, 28, 30, 37, 39] [1000, 1001, 1002, 1003, 1004, 1005, 1006, 1007] (r := (.v zV (.v v52_8 .e))) (h := ?_)) | (refine zZ.isR (id := 13) ?_; refine zZ.rc [0, 1, 4, 5, 6, 7, 8, 9, 16, 20, 28, 30, 37, 39] [1000, 1001, 1002, 1003, 1004, 1005, 1006, 1007] (r := (.v v0_2 (.v zV .e))) (h := ?_)) | refine zZ.yF rfl bA ?_ | refine zZ.yH rfl bA ?_ | refine zZ.cond rfl (fun h => ?_) (fun h => ?_) | refine zZ.skip ?_ | refine zZ.block ?_ | refine zZ.exit ?_ | refine zZ.ret ?_ | refine zZ.goto ?_) | refine zB.n ?_ | refine zB.r ?_ | refine zB.p ?_ | refine zP.n ?_ | refine zP.r ?_ | refine zP.eY ?_ | refine zB.e ?_ | refine zP.p ?_ | refine zB.g ?_ | refine xA.r ?_ | refine xA.g ?_ | refine zP.g ?_ | refine xA.p ?_)
            all_goals (first | exact fun e => hns (by clear hns; simp only [yJ, tookP, tookR, wM, run_bind, zC, zJ, Held.zW, Held.zA, Held.zQ, cond_true, cond_false, *]) | exact .pan (q := q) rfl (by repeat' first | exact trivial | rfl | constructor) (by repeat' first | exact trivial | exact ⟨_, rfl, rfl⟩ | constructor) (by simp only [yJ, tookP, tookR, wM, run_bind, zC, zJ, Held.zW, Held.zA, Held.zQ, cond_true, cond_false, *]) | exact .ret (x := ⟨_, _, _, _⟩) (by exact .inl rfl) (by exact .one rfl rfl) (by repeat' first | exact trivial | rfl | constructor) (by simp only [yJ, tookP, tookR, wM, run_bind, zC, zJ, Held.zW, Held.zA, Held.zQ, cond_true, cond_false, *] <;> rfl) | skip)
            · have e1 : (yJ t (wM t k) (some (p1, x1))).run H.st s2 = .done (.inl none) s := by
                clear ho hns ho2
                simp only [yJ, tookP, tookR, run_bind, zC, zJ, Held.zW, cond_true, cond_false, *]
              refine ⟨(m, (p1, x1), s), ?_, ⟨hk, (by rw [run_bind, e1, Held.zW]; rfl)⟩, by dsimp only; omega⟩
              exact zT K_3 K_9
            · have e1 : (yJ t (wM t k) (some (p1, x1))).run H.st s2 = .done (endW p1 (xU x)) s := by
                clear ho hns ho2
                simp only [yJ, tookP, tookR, run_bind, zC, zJ, Held.zW, cond_true, cond_false, *]
              refine ⟨(m, (p1, xU x), s), ?_, ⟨by dsimp only; omega, hk, hp1, qU _, ?_⟩, Nat.lt_succ_self m⟩
              · exact zT K_3 K_9
              · rw [run_bind, e1, Held.zW]
                exact congrArg (fun p => Pr.run H.st p s) (contL_eq t (wM t k) m p1 (xU x)).symm
            · rename_i w s4 e4 g4 hk4 hm4 g5
              have hx : x = false := by simpa using h
              have e1 : (yJ t (wM t k) (some (p1, x1))).run H.st s2 = .done (endW x1 (xU w)) s := by
                clear ho hns ho2
                simp only [yJ, wM, run_bind, zC, zJ, Held.zW, cond_true, cond_false, *]
              refine ⟨(m, (x1, xU w), s), ?_, ⟨by dsimp only; omega, hk, hx1, qU _, ?_⟩, Nat.lt_succ_self m⟩
              · exact zT K_3 K_9
              · rw [run_bind, e1, Held.zW]
                exact congrArg (fun p => Pr.run H.st p s) (contL_eq t (wM t k) m x1 (xU w)).symm
            · have hx : x = true := by simpa using h
              have e1 : (yJ t (wM t k) (some (p1, x1))).run H.st s2 = .done (.inl (some (p1, x1))) s := by
                clear ho hns ho2
                simp only [yJ, wM, run_bind, zC, zJ, Held.zW, cond_true, cond_false, *]
              refine ⟨(m, (p1, x1), s), ?_, ⟨by dsimp only; omega, hk, hp1, hx1, ?_⟩, Nat.lt_succ_self m⟩
              · exact zT K_3 K_9
              · rw [run_bind, e1, Held.zW]
                dsimp only
                rw [hz]
                rfl
theorem sweep_h (H : Hnd) (s0 : H.σ) {t k : Int} (ht : Small t) : FnH H 58 [H.doA, .p (.val (.int .i64 t)), .p (.val (.int .u64 k))] [] (fun r => .p (.val (.bool r))) (fun _ => []) yes s0 (sweepP t k) := by
  unfold Hnd.doA
  refine yO Tryz.func58 rfl Tryz.ntmps58 (Nat.le_of_ble_eq_true rfl) (by decide) (fine_sweep t k) fun hok hns => ?_
  repeat' (first | (refine zY.is ?_; first | refine zY.nil ?_ | (refine zY.at_ 6 rfl ?_; refine zY.rc (.v zK .e) ?_) | (refine zY.at_ 7 rfl ?_; refine zY.rc (.m zS (.w zR .e)) ?_) | (refine zY.in_ [14] rfl ?_; refine zY.ofT rfl (zF.hd (i := [11, 7, 5, 3, 4]) (f := alongS_h H _ ht) (r := fun x s e g hk => ?_) (p := fun q s e => ?_) (t := ?_))) | refine zY.buildBx rfl rfl rfl rfl rfl rfl (by decide) (by decide) rfl rfl rfl rfl ?_) | (refine zZ.is ?_; first | refine zZ.seq ?_ | (refine zZ.isR (id := 0) ?_; refine zZ.rc [0, 1, 2] [3, 4, 5, 7, 11, 1000, 1001, 1002] (r := (.m m18_3 (.m m18_1 (.m m18_1 (.v zK .e))))) (h := ?_)) | (refine zZ.isR (id := 1) ?_; refine zZ.rc [3, 4, 5, 6] [3, 4, 5, 7, 11, 1000, 1001, 1002] (r := (.v wB (.v zN .e))) (h := ?_)) | (refine zZ.isR (id := 2) ?_; refine zZ.rc [3, 4, 5, 6, 7] [3, 4, 5, 7, 11, 1000, 1001, 1002] (r := (.v v2_12 (.v v14_0 .e))) (h := ?_)) | refine zZ.ret ?_) | refine zB.n ?_ | refine zB.p ?_)
  all_goals (first | exact fun e => hns (by clear hns; simp only [sweepP, run_bind, zC, zJ, Held.zW, Held.zA, Held.zQ, cond_true, cond_false, *]) | exact .pan (q := q) rfl (by repeat' first | exact trivial | rfl | constructor) (by repeat' exact trivial) (by simp only [sweepP, run_bind, zC, zJ, Held.zW, Held.zA, Held.zQ, cond_true, cond_false, *]) | exact .ret (by exact .inl rfl) (by exact .one rfl rfl) (by repeat' first | exact trivial | rfl | constructor) (by simp only [sweepP, run_bind, zC, zJ, Held.zW, Held.zA, Held.zQ, cond_true, cond_false, *] <;> rfl))
end Go.Proofs.YtmfbamiciieooaaGreatDoor
/- Functions that turn own rows, too: contracts. Generic over the program. -/
namespace Go.Proofs.YtmfbamiciieooaaGreatDoor
set_option maxRecDepth 100000
set_option maxHeartbeats 16000000
open Go Go.RowKit
set_option linter.unusedSimpArgs false
set_option linter.unusedVariables false
def Blk.okZ (m : Nat) : Blk → Bool
  | .box _ xs => xs.all (AV.okE m)
  | .obj _ _ => true
  | .row _ _ _ xs => xs.all (AV.okE m)
  | .prow _ _ _ _ => true
  | .lent _ _ _ _ => false
structure HandedZ (h : Home) (p : Nat) (L : List Blk) (ρ : Nat → Value) : Prop where
  r : ∀ i, i < p → h.r (1000 + i) = some (ρ (1000 + i))
  no : ∀ k, 1000 + p ≤ k → h.r k = none
  t : ∀ k, h.t k → ∃ i, i < L.length ∧ zU (ρ (1000 + i)) = some k
structure HandsZ (S : AS) (ids : List Nat) (L : List Blk) : Prop where
  len : ids.length = L.length
  nodup : ids.Nodup
  ok : L.all (Blk.okZ L.length) = true
  at_ : ∀ (i : Nat) id b, ids[i]? = some id → L[i]? = some b → S.blk id = some (b.ren (sig ids))
/-! ### names that are dropped -/
def AV.kills (l : List Nat) (x : AV) : AV := l.foldl (fun x id => x.kill id) x
def Blk.kills (l : List Nat) (b : Blk) : Blk := l.foldl (fun b id => b.kill id) b
section
variable {P : Program} {n : Nat} {o : Oper} {S : AS} {d : Nat}
end
end Go.Proofs.YtmfbamiciieooaaGreatDoor
/- Functions that turn own rows and hand back several things, own rows among them: contracts. Generic over the program. (Written by gen_fnz2.py.) -/
namespace Go.Proofs.YtmfbamiciieooaaGreatDoor
set_option maxRecDepth 100000
set_option maxHeartbeats 16000000
open Go Go.RowKit
set_option linter.unusedSimpArgs false
set_option linter.unusedVariables false
/-! ### what a function hands back -/
inductive ResA (P : Program) (S : AS) : ResultVar → AV → Prop
  | v {r : ResultVar} {x : PV} (h : ResV P S r x) : ResA P S r (.p x)
  | tmp {t : Nat} {x : AV} (h : S.tmp t = x) : ResA P S (.tmp t) x
  | ag {a t id off m : Nat} {b : Blk} {cs : List Cl} [ht : TyA P t true m] (h : S.tmp a = .ptr id off) (hb : S.blk id = some b) (hc : cls ((b.xs.drop off).take m) = some cs) (hl : cs.length = m) : ResA P S (.cell a t) (.ag cs)
inductive ResAs (P : Program) (S : AS) : List ResultVar → List AV → Prop
  | nil : ResAs P S [] []
  | cons {r : ResultVar} {x : AV} {rs : List ResultVar} {xs : List AV} (h : ResA P S r x) (t : ResAs P S rs xs) : ResAs P S (r :: rs) (x :: xs)
section
variable {P : Program} {n : Nat} {o : Oper} {S : AS} {d : Nat}
end
end Go.Proofs.YtmfbamiciieooaaGreatDoor
/- Functions with one deferred call; the deferred function, that may recover. Generic over the program. -/
namespace Go.Proofs.YtmfbamiciieooaaGreatDoor
set_option maxRecDepth 100000
set_option maxHeartbeats 16000000
open Go Go.RowKit
section
variable {P : Program} {M : Nat → Nat → Prop} {n : Nat} {h : Home} {w : World} {S : AS} {ρ : Nat → Value} {a : Act}
theorem xO.defer (hb : xO h w) (D : List Deferred) : xO { h with d := D } w := ⟨hb.os, hb.tape, hb.output, hb.size, hb.block⟩
theorem xO.undefer {D : List Deferred} (hb : xO { h with d := D } w) : xO h w := ⟨hb.os, hb.tape, hb.output, hb.size, hb.block⟩
theorem Sat.frame {B : List Blk} (hs : Sat M 0 h (Proofs.YtmfbamiciieooaaGreatDoor.asB B) ρ xP w) {T : List (Nat × AV)} (hn : a.tmps.size = n) (h1000 : n ≤ 1000) (ht : ∀ i x, look T i = some x → yY (Mut M (Proofs.YtmfbamiciieooaaGreatDoor.asB B) ρ) ρ w x (a.tmps.getD i undef)) : Sat M n { h with d := a.defers } { t := T, s := numB 1000 B } ρ a w := by
  refine ⟨hs.below.defer _, hs.out, hs.tab, hn, rfl, fun i => ?_, hs.blks, hs.mine, hs.fix, fun k hk => h.lo k (by omega), hs.dist⟩
  show yY _ _ _ ((look T i).getD .any) _
  cases e : look T i with
  | none => exact .any _
  | some x => exact ht i x e
theorem Sat.unframe {B : List Blk} {D : List Deferred} (hs : Sat M n { h with d := D } S ρ a w) (hd : h.d = []) (hb : HasB S B) : Sat M 0 h (Proofs.YtmfbamiciieooaaGreatDoor.asB B) ρ xP w ∧ ∀ k c, Mut M (Proofs.YtmfbamiciieooaaGreatDoor.asB B) ρ k c → Mut M S ρ k c := by
  have hm : ∀ k c, Mut M (Proofs.YtmfbamiciieooaaGreatDoor.asB B) ρ k c → Mut M S ρ k c := by
    rintro k c (hk | ⟨id, b, hb1, hk⟩)
    · exact .inl hk
    · obtain ⟨i, rfl, h1⟩ := yI hb1
      exact .inr ⟨_, b, hb i b h1, hk⟩
  refine ⟨⟨hs.below.undefer, hs.out, hs.tab, rfl, hd.symm, fun i => .any _, fun id b hb1 => ?_, fun id b k hb1 hk => ?_, hs.fix, fun k hk => by omega, fun i j bi bj k hi hj h1 h2 => ?_⟩, hm⟩
  · obtain ⟨i, rfl, h1⟩ := yI hb1
    exact (hs.blks _ b (hb i b h1)).mono hm
  · obtain ⟨i, rfl, h1⟩ := yI hb1
    exact hs.mine _ b k (hb i b h1) hk
  · obtain ⟨i', rfl, h3⟩ := yI hi
    obtain ⟨j', rfl, h4⟩ := yI hj
    exact hs.dist _ _ bi bj k (hb i' bi h3) (hb j' bj h4) h1 h2
theorem gives_res {fn : Func} {x : AV} {B : List Blk} {D : List Deferred} (hs' : Sat M n { h with d := D } S ρ a w) (hd : h.d = []) (hg : GivesA P fn S x) (hB : HasB S B) :
    ∃ v, (results fn a.tmps).run P w = .ok v w ∧ ∃ ρ', Sat M 0 h (asB B) ρ' xP w ∧ EvOK (Mut M (asB B) ρ') ρ' w (.ret x) (.returned v) := by
  obtain ⟨h1, h2⟩ := hs'.unframe hd hB
  cases hg with
  | none hr => exact ⟨_, results_none hr _ _ _, ρ, h1, _, rfl, .any _⟩
  | one hr ht =>
    subst ht
    exact ⟨_, results_tmp hr _ _ _, ρ, h1, _, rfl, (hs'.tmps _).mono fun k c _ hk => h2 k c hk⟩
  | p hr hx =>
    obtain ⟨v, g1, g2⟩ := res_oneM hs' hx
    have g3 := xX (P := P) (w := w) fn a.tmps (rs := [_]) (vs := [v]) hr (by simp only [List.mapM_cons, List.mapM_nil, Sem.run_bind, Sem.run_pure, g1, Result.andThen_ok])
    exact ⟨v, g3, ρ, h1, _, rfl, .p (g2.mono fun k c _ hk => h2 k c hk)⟩
  | tup hr hl hx =>
    obtain ⟨us, g1, g2, g4, g3⟩ := res_allM hs' hx
    have g5 := xX (P := P) (w := w) fn a.tmps hr g1
    rw [dif_neg (by simp only [List.size_toArray]; omega)] at g5
    refine ⟨_, g5, ρ, h1, _, rfl, .tup _ us (by simpa using g2) fun i c v hc hv => ?_⟩
    rw [List.getElem?_map, Option.map_eq_some_iff] at hc
    obtain ⟨y, hy, rfl⟩ := hc
    exact .p ((g3 i y v hy hv).mono fun k c _ hk => h2 k c hk)
end
/-- what is pending at a deferred call: nothing, or a panic -/
def Pending (M : Nat → Nat → Prop) (w : World) : Option PV → FrameMode → Prop
  | none, u => u = .returning
  | some x, u => ∃ v, u = .panicking [{ v := v, recovered := false }] ∧ Rep M w x v
/-- Function f, called deferred, of its callers' variables B: behind it nothing is pending. -/
def FnD (P : Program) (f : FuncId) (B : List Blk) (px : Option PV) (B' : List Blk) : Prop :=
  ∀ (M : Nat → Nat → Prop) (h : Home) (ρ : Nat → Value) (vs : List Value) (u : FrameMode), Handed h B ρ → Sat M 0 h (asB B) ρ xP h.w → vs.length = B.length →
    (∀ (i : Nat) v, vs[i]? = some v → yY (Mut M (asB B) ρ) ρ h.w (.ptr (1000 + i) 0) v) → Pending (Mut M (asB B) ρ) h.w px u →
    CallsD P f vs.toArray u h.w fun e u' w' => settle u' = .returning ∧ (∃ v, e = .returned v) ∧ ∃ ρ', Sat M 0 h (asB B') ρ' xP w'
section
variable {P : Program} {n : Nat}
theorem wpS_recover {id : Nat} {o0 : Oper} {l : List Oper} {ts : Array TypeId} {Q : Exit → Act → List Frame → World → Prop} {a : Act} {cs cs' : List Frame} {w : World} {v : Value} (ho : o0.op = .call { callee := .builtin .recover, args := #[], argTypes := ts }) (hg : o0.guard = none)
    (hrec : recoverD cs = some (v, cs') ∨ (recoverD cs = none ∧ v = .nilIface ∧ cs' = cs)) (h : wpList P (o0 :: l).toArray (fun e a' w' => Q e a' cs' w') l (a.put o0.dst v) w) : (Code.region id (o0 :: l).toArray false).wpS P Q a cs w := by
  intro b k hb hro
  have hr : (execOp a.eval o0).run P w = .ok .recover w := by unfold execOp; rw [ho]; rfl
  have hw : Region.wanted o0 (yielded (o0 :: l).toArray a.tmps) = true := by simp [Region.wanted, hg]
  have h0 : (o0 :: l).toArray[0]? = some o0 := rfl
  have e : List.range (o0 :: l).toArray.size = 0 :: List.range' 1 l.length := by
    rw [List.size_toArray, List.length_cons, List.range_eq_range', List.range'_succ]
  have h1 : step P (lone (b.at a (.code (.region id (o0 :: l).toArray false) :: k)) cs w) = .next (lone (b.at a (.inRegion (o0 :: l).toArray (0 :: List.range' 1 l.length) :: k)) cs w) := by rw [← e]; exact step_region
  have h2 : step P (lone (b.at a (.inRegion (o0 :: l).toArray (0 :: List.range' 1 l.length) :: k)) cs w) = .next (lone (b.at (a.put o0.dst v) (.inRegion (o0 :: l).toArray (List.range' 1 l.length) :: k)) cs' w) := by
    have hs := stepG_op (P := P) (b := b) (k := k) (cs := cs) (w := w) (rest := List.range' 1 l.length) h0 hw
    have hfin : ∀ v, (b.at a (.inRegion (o0 :: l).toArray (0 :: List.range' 1 l.length) :: k)).finish v = b.at (a.put o0.dst v) (.inRegion (o0 :: l).toArray (List.range' 1 l.length) :: k) := by
      intro v; rw [Frame.finish_at, h0]; rfl
    have hk : (b.at a (.inRegion (o0 :: l).toArray (0 :: List.range' 1 l.length) :: k)).kind = .deferred := hb
    have htr := tryRecover_deferred hk cs
    refine step_lone_go ?_
    rw [hs, ← hfin]
    simp only [Frame.at] at htr ⊢
    rcases hrec with hrec | ⟨hrec, rfl, rfl⟩
    · simp [stepG.apply, hr, htr, hrec]
    · simp [stepG.apply, hr, htr, hrec]
  have h3 : wpOps P (o0 :: l).toArray (fun e a' w' => Q e a' cs' w') (List.range' 1 l.length) (a.put o0.dst v) w := by
    rw [wpOps_eq_wpList l 1 (fun j => by simp [Nat.add_comm 1 j])]
    exact h
  obtain ⟨ex, a', w', hq, harr⟩ := wp_ops _ _ _ h3 b k cs'
  exact ⟨ex, a', cs', w', hq, .of_steps (.head h1 (.one h2)) harr⟩
def ptrsA (m : Nat) : List AV := (List.range m).map fun i => .ptr (1000 + i) 0
def pendV : Option PV → PV
  | none => .val .nilIface
  | some x => x
def EndR (B' : List Blk) (e : Exit) (S : AS) : Prop := (e = .ret ∨ e = .normal) ∧ HasB S B'
theorem fn_ofDef {f : FuncId} {fn : Func} {id d0 : Nat} {o0 : Oper} {l : List Oper} {rest : Code} {ts : Array TypeId} {B B' : List Blk} {px : Option PV} (hf : P.funcs[f]? = some fn) (hb : fn.body = some (.seq (.region id (o0 :: l).toArray false) rest)) (hn : fn.ntmps = n) (hle : B.length ≤ n) (h1000 : n ≤ 1000)
    (ho : o0.op = .call { callee := .builtin .recover, args := #[], argTypes := ts }) (hg : o0.guard = none) (hd : o0.dst = some d0) (hdn : d0 < n) (hr : fn.results = #[])
    (h : zY P n (o0 :: l).toArray l { t := (d0, .p (pendV px)) :: zipA 0 (ptrsA B.length), s := numB 1000 B } (zB (fun S => zZ P n rest S (EndR B')) (EndR B'))) : FnD P f B px B' := by
  intro M hh ρ vs u hand hs0 hvl hvs hpend
  refine callsD_of_wpS hf hb fun c₀ cs hu => ?_
  have hm : ({ c₀ with mode := u } : Frame) = c₀ := by subst hu; rfl
  obtain ⟨v, u', hrec, hset, hv⟩ : ∃ v u', ((recoverD (c₀ :: cs) = some (v, { c₀ with mode := u' } :: cs)) ∨ (recoverD (c₀ :: cs) = none ∧ v = .nilIface ∧ { c₀ with mode := u' } :: cs = c₀ :: cs)) ∧ settle u' = .returning ∧ Rep (Mut M (asB B) ρ) hh.w (pendV px) v := by
    cases px with
    | none =>
      obtain rfl : u = .returning := hpend
      exact ⟨.nilIface, .returning, .inr ⟨by simp [recoverD, hu], rfl, by rw [hm]⟩, rfl, .val _⟩
    | some x =>
      obtain ⟨v, rfl, hv⟩ := hpend
      exact ⟨v, .panicking [{ v := v, recovered := true }], .inl (by simp [recoverD, hu]), by simp [settle], hv⟩
  have hsat : Sat M n hh { t := zipA 0 (ptrsA B.length), s := numB 1000 B } ρ { tmps := vs.toArray ++ Array.replicate (fn.ntmps - vs.toArray.size) undef, defers := [] } hh.w := by
    refine ⟨hs0.below, hs0.out, hs0.tab, by simp; omega, hs0.defers, fun i => ?_, hs0.blks, hs0.mine, hs0.fix, fun k hk => hh.lo k (by omega), hs0.dist⟩
    show yY _ _ _ ((look (zipA 0 (ptrsA B.length)) i).getD .any) _
    rw [look_zipA]
    simp only [Nat.zero_le, if_true, Nat.sub_zero]
    cases hx : (ptrsA B.length)[i]? with
    | none => exact .any _
    | some x =>
      have hi : i < vs.length := by
        have := (List.getElem?_eq_some_iff.1 hx).1
        simp [ptrsA] at this
        omega
      have e : ({ tmps := vs.toArray ++ Array.replicate (fn.ntmps - vs.toArray.size) undef, defers := [] } : Act).tmps.getD i undef = vs[i] := by
        simp [Array.getD_eq_getD_getElem?, Array.getElem?_append, hi]
      rw [e]
      have hx2 : x = .ptr (1000 + i) 0 := by
        unfold ptrsA at hx
        rw [List.getElem?_map, List.getElem?_range (by omega)] at hx
        exact (Option.some.inj hx).symm
      subst hx2
      exact hvs i vs[i] (List.getElem?_eq_getElem hi)
  have hsat2 := hsat.put hdn (.p hv)
  have fin : ∀ e S1 ρ1 a1 w1, EndR B' (bare e) S1 → Sat M n hh S1 ρ1 a1 w1 → bodyPostS P fn c₀ cs (fun e u' w' => settle u' = .returning ∧ (∃ v, e = .returned v) ∧ ∃ ρ', Sat M 0 hh (asB B') ρ' xP w') e a1 ({ c₀ with mode := u' } :: cs) w1 := by
    rintro e S1 ρ1 a1 w1 ⟨he, hB⟩ hs1
    have main : a1.defers = [] ∧ ∃ u'', ({ c₀ with mode := u' } :: cs : List Frame) = { c₀ with mode := u'' } :: cs ∧ ∃ v, (results fn a1.tmps).run P w1 = .ok v w1 ∧ (settle u'' = .returning ∧ (∃ v', Ending.returned v = .returned v') ∧ ∃ ρ', Sat M 0 hh (asB B') ρ' xP w1) :=
      ⟨hs1.defers.trans hs0.defers.symm, u', rfl, _, results_none hr _ _ _, hset, ⟨_, rfl⟩, ρ1, (hs1.asB hs0.defers.symm hB).1⟩
    cases e with
    | ret => exact main
    | normal => exact main
    | exit id => rcases he with h | h <;> cases h
    | goto l => rcases he with h | h <;> cases h
    | panic c => rcases he with h | h <;> cases h
    | outgrown => rcases he with h | h <;> cases h
  refine wpS_seq (wpS_recover ho hg hrec ?_)
  rw [hd]
  refine h M hh ρ _ hh.w _ hsat2 fun e S1 ρ1 a1 w1 hk hs1 _ => ?_
  cases e with
  | normal => exact wpS_of_wp (hk M hh ρ1 a1 w1 _ hs1 fun e S2 ρ2 a2 w2 hk2 hs2 _ => fin e S2 ρ2 a2 w2 hk2 hs2)
  | ret => exact fin .ret S1 ρ1 a1 w1 hk hs1
  | exit id => exact fin (.exit id) S1 ρ1 a1 w1 hk hs1
  | goto l => exact fin (.goto l) S1 ρ1 a1 w1 hk hs1
  | panic c => exact fin (.panic c) S1 ρ1 a1 w1 hk hs1
  | outgrown => exact fin .outgrown S1 ρ1 a1 w1 hk hs1
end
end Go.Proofs.YtmfbamiciieooaaGreatDoor
