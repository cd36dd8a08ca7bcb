/- Vertices that are added alone, in whatever order, by any thread, are linked by their numbers, rising. (Part 10 of 10.) -/
import Derived.Test.YtmfbamiciieooaaGreatDoorVo9
import Derived.Test.YtmfbamiciieooaaGreatDoorRows
import Derived.LaidLaws
import Derived.ChangeSame
import Derived.ChangeVars
import Derived.JoinedOf
import Derived.Stop.Joined
import Derived.RowKitTokens
import Derived.Test.YtmfbamiciieooaaGreatDoorCards
import Derived.Test.YtmfbamiciieooaaGreatDoorTie
import Derived.SevenTiedAt
/- The law VertOrder: its walk. -/
namespace Go.Proofs.YtmfbamiciieooaaGreatDoor
set_option maxRecDepth 100000
set_option maxHeartbeats 16000000
open Go Go.RowKit
set_option linter.unusedSimpArgs false
set_option linter.unusedVariables false
attribute [local irreducible] zY zZ Step zX Sub zD zG Fn zF zO
def orF (l : List Int) (i : Nat) (W : Wd) (many : Int) : AS :=
  { t := [(0, .p (.sl (u16s l))), (3, .p (.val (.bool true))), (4, .ptr 4 0), (5, .p (.val (.int .i64 many))), (6, .p (.val (.int .i64 (i : Nat))))],
    s := [(4, .box 33 (W.pv.cells.map AV.p))] }
def orG (l : List Int) (i : Nat) (W : Wd) (R : List Int) (last : Int) : AS :=
  { t := [(0, .p (.sl (u16s l))), (3, .p (.val (.bool true))), (4, .ptr 4 0), (10, .p (.sl (nmsP R))), (11, .p (.val (.int .i64 last))), (12, .p (.val (.int .i64 (i : Nat))))],
    s := [(4, .box 33 (W.pv.cells.map AV.p))] }
def orH (l : List Int) (i : Nat) (W : Wd) (R : List Int) (last u : Int) (b : Bool) (k : Nat) : AS :=
  { t := [(0, .p (.sl (u16s l))), (3, .p (.val (.bool true))), (4, .ptr 4 0), (10, .p (.sl (nmsP R))), (11, .p (.val (.int .i64 last))), (12, .p (.val (.int .i64 (i : Nat)))), (13, .p (.val (.int .i64 u))), (14, .p (.val (.int .i64 (-1)))), (15, .p (.val (.bool b))), (16, .p (.val (.int .i64 (k : Nat))))],
    s := [(4, .box 33 (W.pv.cells.map AV.p))] }
structure OrS (l : List Int) (i : Nat) (W : Wd) (many : Int) : Prop where
  le : i ≤ l.length
  h : ∃ M R, LwV 8 (400000 * i) W M R (3 * i) ∧ OrI M R (l.take i) ∧ many = R.length
def anyU (u : Int) (l : List Int) : Bool := l.any fun x => decide (x = u)
theorem anyU_snoc (u x : Int) (l : List Int) : anyU u (l ++ [x]) = (anyU u l || decide (x = u)) := by simp [anyU]
theorem vertOrder_start (l : List Int) (hn : l.length ≤ 8) (hl : ∀ x ∈ l, 0 ≤ x ∧ x < 65536) : Fn Tryz.prog 7 [.sl (u16s l)] (.p (.val (.bool true))) := by
  have c0 := shown16_fn
  have c1 := new10V_fn 8 (by decide)
  have f1 : decide ((8 : Int) < ((u16s l).length : Nat)) = false := decide_eq_false (by rw [u16s_len]; omega)
  have e1 := u16s_cells l
  refine yR Tryz.func7 rfl Tryz.ntmps7 (Nat.le_of_ble_eq_true rfl) ?_
  repeat' (first | (refine zY.is ?_; first | refine zY.nil ?_ | (refine zY.at_ 3 rfl ?_; refine zY.rc (.v zC .e) ?_) | (refine zY.at_ 4 rfl ?_; refine zY.rc (.m zT (.w zR .e)) ?_) | (refine zY.in_ [17] rfl ?_; refine zY.v rfl rfl (zN (c0) rfl rfl rfl (by decide)) ?_) | (refine zY.in_ [22] rfl ?_; refine zY.m rfl rfl (w_callAg c1 rfl rfl rfl (by decide)) ?_)) | (refine zZ.is ?_; first | refine zZ.seq ?_ | (refine zZ.isR (id := 0) ?_; refine zZ.rc [0] [4, 7, 8, 17, 19, 22, 25, 39, 57, 59, 64, 76, 79, 84] (r := (.v zC .e)) (h := ?_)) | (refine zZ.isR (id := 1) ?_; refine zZ.rc [0, 2] [4, 7, 8, 17, 19, 22, 25, 39, 57, 59, 64, 76, 79, 84] (r := .e) (h := ?_)) | (refine zZ.isR (id := 2) ?_; refine zZ.rc [0, 2, 3] [4, 7, 8, 17, 19, 22, 25, 39, 57, 59, 64, 76, 79, 84] (r := (.v zV (.v v57_1 (.v v45_0 .e)))) (h := ?_)) | (refine zZ.isR (id := 4) ?_; refine zZ.rc [0, 2, 3] [4, 7, 8, 17, 19, 22, 25, 39, 57, 59, 64, 76, 79, 84] (r := .e) (h := ?_)) | (refine zZ.isR (id := 5) ?_; refine zZ.sub ((sub_frzE 22 27 1 (wds (newV 8)) rfl)) ?_; refine zZ.rc [0, 2, 3, 4] [4, 7, 8, 17, 19, 22, 25, 39, 57, 59, 64, 76, 79, 84] (r := (.v zC .e)) (h := ?_)) | (refine zZ.isR (id := 6) ?_; refine zZ.rc [0, 2, 3, 4, 5] [4, 7, 8, 17, 19, 22, 25, 39, 57, 59, 64, 76, 79, 84] (r := (.v zC .e)) (h := ?_)) | refine zZ.yM rfl bA ?_ | refine zZ.skip ?_ | refine zZ.block ?_) | refine zF.n ?_)
  refine zZ.loop (fun s : Nat × Wd × Int => orF l s.1 s.2.1 s.2.2) (fun s => OrS l s.1 s.2.1 s.2.2) (fun s => l.length - s.1) (0, wNewV 8, 0) ?h0 ?i0 ?rd
  case i0 => exact ⟨Nat.zero_le _, _, [], lwV_newV (by decide), ⟨Nat.zero_le _, fun r hr => (by cases hr)⟩, rfl⟩
  case h0 =>
    unfold orF
    exact z8 K_m K_4
  case rd =>
    rintro ⟨i, W, many⟩ ⟨hi, M, R, hW, hI, hm⟩
    dsimp only at hi hW hI hm ⊢
    have hmem := hW.mem
    have hwt := hmem.t
    have hwc := hmem.c
    have hwr := hmem.root
    have hlen := hI.len
    have htl : (l.take i).length = i := by rw [List.length_take]; omega
    by_cases hlt : i < l.length
    case pos =>
      have hx : l[i]? = some l[i] := List.getElem?_eq_getElem hlt
      have hu := hl _ (List.getElem_mem hlt)
      generalize l[i] = u at hx hu
      have e2 := u16s_at hx
      obtain ⟨me, hme, hme2⟩ : ∃ me : Nat, me < 2 ∧ (i : Int).tmod 2 = (me : Int) := ⟨i % 2, Nat.mod_lt _ (by decide), by rw [Int.tmod_eq_emod_of_nonneg (by omega)]; omega⟩
      obtain ⟨v1, v2⟩ := vkF_int hu
      obtain ⟨x, W', M', R', c2, hW', hv⟩ := hW.op (by decide) hme (.inl rfl) v1 (most := 400) (by decide) (by decide) (by omega) (by omega)
      obtain ⟨x0, hI', hlen'⟩ := hI.op hu (by omega) hv
      have htk : l.take i ++ [u] = l.take (i + 1) := by rw [List.take_add_one, hx]; rfl
      rw [htk] at hI'
      have hS : OrS l (i + 1) W' (many + (if x.is = true then 1 else 0)) := ⟨hlt, M', R', by
        have e : 400000 * i + 1000 * 400 = 400000 * (i + 1) := by omega
        have e' : 3 * (i : Int) + 3 = 3 * ((i + 1 : Nat) : Int) := by omega
        rw [e, e'] at hW'
        exact hW', hI', by rw [hlen', hm]⟩
      clear hW hW' hI hI' hv hlen'
      obtain ⟨e, is, ok, alt⟩ := x
      dsimp only at x0 hS c2
      subst x0
      obtain ⟨t, c, ws, root, r0, r1⟩ := W
      obtain ⟨t', c', ws', root', r0', r1'⟩ := W'
      have f3 : decide ((i : Int) < ((u16s l).length : Nat)) = true := decide_eq_true (by rw [u16s_len]; omega)
      have y0 : (0 : Int) ≤ (i : Int) ∧ (i : Int) < ((u16s l).length : Nat) := by rw [u16s_len]; omega
      have y1 : (u16s l)[(i : Int).toNat]? = some (.val (.int .u16 u)) := by rw [Int.toNat_natCast]; exact e2
      have y2 : IntKind.i64.wrap u = u := wrap_i64 _ (by omega)
      have g1 : IntKind.i64.wrap ((i : Int) + 1) = ((i + 1 : Nat) : Int) := by rw [wrap_i64 _ (by omega)]; omega
      have g2 : IntKind.i64.wrap (many + 1) = many + 1 := wrap_i64 _ (by omega)
      unfold orF
      cases is with
      | false =>
        rw [if_neg (by decide), Int.add_zero] at hS
        repeat' (first | (refine zY.nil ?_) | (refine zZ.is ?_; first | refine zZ.seq ?_ | (refine zZ.isR (id := 7) ?_; refine zZ.rc [0, 2, 3, 4, 5, 6, 7, 8, 9, 26, 49, 52] [4, 7, 8, 17, 19, 22, 25, 39, 57, 59, 64, 76, 79, 84] (r := (.v zV (.v zV (.v v57_1 (.v xJ .e))))) (h := ?_)) | (refine zZ.isR (id := 10) ?_; refine zZ.rc [0, 2, 3, 4, 5, 6, 7, 8, 9, 26, 49, 52] [4, 7, 8, 17, 19, 22, 25, 39, 57, 59, 64, 76, 79, 84] (r := (.v zV (.v v52_5 (.v zV (.gY zP (.gY zS (.gY v42_5 (.v vG .e)))))))) (h := ?_)) | (refine zZ.isR (id := 12) ?_; refine zZ.rc [0, 2, 3, 4, 5, 6, 7, 8, 9, 26, 49, 52] [4, 7, 8, 17, 19, 22, 25, 39, 57, 59, 64, 76, 79, 84] (r := (.v wQ (.w zR .e))) (h := ?_)) | (refine zZ.isR (id := 13) ?_; refine zZ.rc [0, 2, 3, 4, 5, 6, 7, 8, 9, 26, 49, 52] [4, 7, 8, 17, 19, 22, 25, 39, 57, 59, 64, 76, 79, 84] (r := (.v zP (.v zS .e))) (h := ?_)) | (refine zZ.isR (id := 8) ?_; refine zZ.rc [0, 2, 3, 4, 5, 6, 7, 8, 9, 26, 49, 52] [4, 7, 8, 17, 19, 22, 25, 39, 57, 59, 64, 76, 79, 84] (r := (.v zV (.v vV (.v zC .e)))) (h := ?_)) | (refine zZ.isR (id := 9) ?_; refine zZ.regionD [0, 2, 3, 4, 5, 6, 7, 8, 9, 26, 49, 52] [4, 7, 8, 17, 19, 22, 25, 39, 57, 59, 64, 76, 79, 84] (by repeat' first | exact zI.nil | apply zI.p rfl | apply zI.ptr rfl | apply zI.skip) (by repeat' first | exact zM.nil | apply zM.boxP rfl rfl | apply zM.skip) (zZ.draws ?_); all_goals (refine Draws.v rfl rfl (yP rfl rfl rfl (by rfl) (by rfl) rfl (by decide)) ?_); all_goals (refine Draws.v rfl rfl (xO rfl rfl rfl (by decide)) ?_); all_goals (refine Draws.v rfl rfl (by exact a_rem rfl rfl rfl (by decide) (by exact hme2) rfl (by decide)) ?_); all_goals (refine Draws.v rfl rfl (xO rfl rfl rfl (by decide)) ?_); all_goals (refine Draws.v rfl rfl (xO rfl rfl rfl (by decide)) ?_); all_goals (refine Draws.v rfl rfl (by exact w_indexS rfl rfl rfl (by exact e1) (by exact y1) rfl (by decide)) ?_); all_goals (refine Draws.v rfl rfl (w_load1 rfl rfl rfl rfl (by decide)) ?_); all_goals (refine Draws.v rfl rfl (by exact w_conv rfl rfl (by exact y2) rfl (by decide)) ?_); all_goals (refine Draws.v rfl rfl (w_build rfl (by rfl) (by rfl) (by rfl) (by rfl) rfl (by decide)) ?_); all_goals (refine Draws.v rfl rfl (by exact yT (c2) rfl rfl rfl (by decide)) ?_); all_goals (refine Draws.v rfl rfl (a_moveT rfl rfl rfl (by decide)) ?_); all_goals (refine Draws.v rfl rfl (vY rfl rfl rfl rfl (by decide)) ?_); all_goals (refine Draws.v rfl rfl (vY rfl rfl rfl rfl (by decide)) ?_); all_goals (refine Draws.v rfl rfl (vY rfl rfl rfl rfl (by decide)) ?_); all_goals (refine Draws.m rfl rfl (w_alloc rfl (by decide) rfl (by decide)) ?_); all_goals (refine Draws.m rfl rfl (w_alloc rfl (by decide) rfl (by decide)) ?_); all_goals (((refine Draws.late2 [12, 13] 3 [0, 1, 2, 3, 4, 5, 6, 7, 8, 9, 10, 11, 12, 13, 14, 15] (by kernel_rfl) (by kernel_rfl) (by kernel_rfl) (by kernel_rfl) (by kernel_rfl) ?_ (qE.consD 4 [0, 1, 2, 3, 4, 5, 6, 7, 8, 9, 10, 11, 12, 14, 15] (by kernel_rfl) (by kernel_rfl) ?_ (qE.consD 4 [0, 1, 2, 3, 4, 5, 6, 7, 8, 9, 10, 11, 13, 14, 15] (by kernel_rfl) (by kernel_rfl) ?_ (qE.consD 5 [0, 1, 2, 3, 4, 5, 6, 7, 8, 9, 10, 11, 14, 15] (by kernel_rfl) (by kernel_rfl) ?_ qE.nil)))) <;> (repeat' (first | refine wD.many (by rfl) ?_ | refine zH.cons ?_ ?_ | exact zH.nil | refine DOne.v rfl rfl rfl (by first | exact xB rfl rfl rfl (by decide) | exact vY rfl rfl rfl rfl (by decide)) ?_ | refine DOne.w rfl rfl (by exact yN rfl rfl rfl rfl rfl (by rfl) (by exact Nat.le_of_ble_eq_true rfl) rfl rfl) ?_ | refine wD.fin (by rfl) ?_))))) | refine zZ.yO rfl bA ?_ | refine zZ.yM rfl bA ?_ | refine zZ.skip ?_ | refine zZ.block ?_) | refine zF.n ?_ | refine zO.n ?_)
        all_goals
          refine ⟨(i + 1, ⟨t', c', ws', root', r0', r1'⟩, many), ?_, hS, by dsimp only; omega⟩
          exact z8 K_m K_4
      | true =>
        rw [if_pos rfl] at hS
        repeat' (first | (refine zY.nil ?_) | (refine zZ.is ?_; first | refine zZ.seq ?_ | (refine zZ.isR (id := 7) ?_; refine zZ.rc [0, 2, 3, 4, 5, 6, 7, 8, 9, 26, 49, 52] [4, 7, 8, 17, 19, 22, 25, 39, 57, 59, 64, 76, 79, 84] (r := (.v zV (.v zV (.v v57_1 (.v xJ .e))))) (h := ?_)) | (refine zZ.isR (id := 10) ?_; refine zZ.rc [0, 2, 3, 4, 5, 6, 7, 8, 9, 26, 49, 52] [4, 7, 8, 17, 19, 22, 25, 39, 57, 59, 64, 76, 79, 84] (r := (.v zV (.v v52_5 (.v zV (.gY zP (.gY zS (.gY v42_5 (.v vG .e)))))))) (h := ?_)) | (refine zZ.isR (id := 12) ?_; refine zZ.rc [0, 2, 3, 4, 5, 6, 7, 8, 9, 26, 49, 52] [4, 7, 8, 17, 19, 22, 25, 39, 57, 59, 64, 76, 79, 84] (r := (.v wQ (.w zR .e))) (h := ?_)) | (refine zZ.isR (id := 13) ?_; refine zZ.rc [0, 2, 3, 4, 5, 6, 7, 8, 9, 26, 49, 52] [4, 7, 8, 17, 19, 22, 25, 39, 57, 59, 64, 76, 79, 84] (r := (.v zP (.v zS .e))) (h := ?_)) | (refine zZ.isR (id := 14) ?_; refine zZ.rc [0, 2, 3, 4, 5, 6, 7, 8, 9, 26, 49, 52] [4, 7, 8, 17, 19, 22, 25, 39, 57, 59, 64, 76, 79, 84] (r := (.v zV (.v vV (.v zC .e)))) (h := ?_)) | (refine zZ.isR (id := 8) ?_; refine zZ.rc [0, 2, 3, 4, 5, 6, 7, 8, 9, 26, 49, 52] [4, 7, 8, 17, 19, 22, 25, 39, 57, 59, 64, 76, 79, 84] (r := (.v zV (.v vV (.v zC .e)))) (h := ?_)) | (refine zZ.isR (id := 9) ?_; refine zZ.regionD [0, 2, 3, 4, 5, 6, 7, 8, 9, 26, 49, 52] [4, 7, 8, 17, 19, 22, 25, 39, 57, 59, 64, 76, 79, 84] (by repeat' first | exact zI.nil | apply zI.p rfl | apply zI.ptr rfl | apply zI.skip) (by repeat' first | exact zM.nil | apply zM.boxP rfl rfl | apply zM.skip) (zZ.draws ?_); all_goals (refine Draws.v rfl rfl (yP rfl rfl rfl (by rfl) (by rfl) rfl (by decide)) ?_); all_goals (refine Draws.v rfl rfl (xO rfl rfl rfl (by decide)) ?_); all_goals (refine Draws.v rfl rfl (by exact a_rem rfl rfl rfl (by decide) (by exact hme2) rfl (by decide)) ?_); all_goals (refine Draws.v rfl rfl (xO rfl rfl rfl (by decide)) ?_); all_goals (refine Draws.v rfl rfl (xO rfl rfl rfl (by decide)) ?_); all_goals (refine Draws.v rfl rfl (by exact w_indexS rfl rfl rfl (by exact e1) (by exact y1) rfl (by decide)) ?_); all_goals (refine Draws.v rfl rfl (w_load1 rfl rfl rfl rfl (by decide)) ?_); all_goals (refine Draws.v rfl rfl (by exact w_conv rfl rfl (by exact y2) rfl (by decide)) ?_); all_goals (refine Draws.v rfl rfl (w_build rfl (by rfl) (by rfl) (by rfl) (by rfl) rfl (by decide)) ?_); all_goals (refine Draws.v rfl rfl (by exact yT (c2) rfl rfl rfl (by decide)) ?_); all_goals (refine Draws.v rfl rfl (a_moveT rfl rfl rfl (by decide)) ?_); all_goals (refine Draws.v rfl rfl (vY rfl rfl rfl rfl (by decide)) ?_); all_goals (refine Draws.v rfl rfl (vY rfl rfl rfl rfl (by decide)) ?_); all_goals (refine Draws.v rfl rfl (vY rfl rfl rfl rfl (by decide)) ?_); all_goals (refine Draws.m rfl rfl (w_alloc rfl (by decide) rfl (by decide)) ?_); all_goals (refine Draws.m rfl rfl (w_alloc rfl (by decide) rfl (by decide)) ?_); all_goals (((refine Draws.late2 [12, 13] 3 [0, 1, 2, 3, 4, 5, 6, 7, 8, 9, 10, 11, 12, 13, 14, 15] (by kernel_rfl) (by kernel_rfl) (by kernel_rfl) (by kernel_rfl) (by kernel_rfl) ?_ (qE.consD 4 [0, 1, 2, 3, 4, 5, 6, 7, 8, 9, 10, 11, 12, 14, 15] (by kernel_rfl) (by kernel_rfl) ?_ (qE.consD 4 [0, 1, 2, 3, 4, 5, 6, 7, 8, 9, 10, 11, 13, 14, 15] (by kernel_rfl) (by kernel_rfl) ?_ (qE.consD 5 [0, 1, 2, 3, 4, 5, 6, 7, 8, 9, 10, 11, 14, 15] (by kernel_rfl) (by kernel_rfl) ?_ qE.nil)))) <;> (repeat' (first | refine wD.many (by rfl) ?_ | refine zH.cons ?_ ?_ | exact zH.nil | refine DOne.v rfl rfl rfl (by first | exact xB rfl rfl rfl (by decide) | exact vY rfl rfl rfl rfl (by decide)) ?_ | refine DOne.w rfl rfl (by exact yN rfl rfl rfl rfl rfl (by rfl) (by exact Nat.le_of_ble_eq_true rfl) rfl rfl) ?_ | refine wD.fin (by rfl) ?_))))) | refine zZ.yO rfl bA ?_ | refine zZ.yM rfl bA ?_ | refine zZ.skip ?_ | refine zZ.block ?_) | refine zF.n ?_ | refine zO.n ?_)
        all_goals
          refine ⟨(i + 1, ⟨t', c', ws', root', r0', r1'⟩, many + 1), ?_, hS, by dsimp only; omega⟩
          exact z8 K_m K_4
    case neg =>
      have hil : i = l.length := by omega
      have f3 : decide ((i : Int) < ((u16s l).length : Nat)) = false := decide_eq_false (by rw [u16s_len]; omega)
      have hso := hW.vs.so
      have hrng := hW.vs.rng
      have hRl := hW.vs.len
      have hat := hmem.at_
      obtain ⟨t, c, ws, root, r0, r1⟩ := W
      obtain rfl : t = 2 := hwt
      obtain rfl : c = (8 : Nat) := hwc
      have c3 := linkedV_fn (C := 8) (by decide) hW.vs.lk (by rw [cl_len]; exact hRl) (ws := ws) hat
      rw [cl_nms] at c3
      have hsub := hI.sub
      rw [List.take_of_length_le (by omega)] at hsub
      subst hm
      have h1 : (nmsP R).length = R.length := nmsP_len R
      have g3 : decide (((nmsP R).length : Int) = (R.length : Nat)) = true := decide_eq_true (by rw [h1])
      have g3b : (!decide (((nmsP R).length : Int) = (R.length : Nat))) = false := by rw [g3]; rfl
      clear hW hI hmem
      unfold orF
      repeat' (first | (refine zY.is ?_; first | refine zY.nil ?_ | (refine zY.at_ 10 rfl ?_; refine zY.rc (.v zC .e) ?_) | (refine zY.in_ [57] rfl ?_; refine zY.v rfl rfl (zN (c3) rfl rfl rfl (by decide)) ?_)) | (refine zZ.is ?_; first | refine zZ.seq ?_ | (refine zZ.isR (id := 7) ?_; refine zZ.rc [0, 2, 3, 4, 5, 6, 7, 8, 9, 26, 49, 52] [4, 7, 8, 17, 19, 22, 25, 39, 57, 59, 64, 76, 79, 84] (r := (.v zV (.v zV (.v v57_1 (.v xJ .e))))) (h := ?_)) | (refine zZ.isR (id := 15) ?_; refine zZ.rc [0, 2, 3, 4, 5] [4, 7, 8, 17, 19, 22, 25, 39, 57, 59, 64, 76, 79, 84] (r := (.v zP (.v wQ .e))) (h := ?_)) | (refine zZ.isR (id := 16) ?_; refine zZ.rc [0, 2, 3, 4, 5, 10] [4, 7, 8, 17, 19, 22, 25, 39, 57, 59, 64, 76, 79, 84] (r := (.v zV (.v v57_1 (.v zV (.v v42_0 .e))))) (h := ?_)) | (refine zZ.isR (id := 18) ?_; refine zZ.rc [0, 2, 3, 4, 10] [4, 7, 8, 17, 19, 22, 25, 39, 57, 59, 64, 76, 79, 84] (r := (.v zC .e)) (h := ?_)) | (refine zZ.isR (id := 19) ?_; refine zZ.rc [0, 2, 3, 4, 10, 11] [4, 7, 8, 17, 19, 22, 25, 39, 57, 59, 64, 76, 79, 84] (r := (.v zC .e)) (h := ?_)) | refine zZ.yM rfl bA ?_ | refine zZ.skip ?_ | refine zZ.block ?_ | refine zZ.exit ?_) | refine zF.n ?_ | refine zO.eY ?_ | refine zF.e ?_)
      refine zZ.loop (fun s : Nat × Int => orG l s.1 ⟨2, (8 : Nat), ws, root, r0, r1⟩ R s.2) (fun s => s.1 ≤ R.length ∧ (s.1 = 0 ∧ s.2 = -1 ∨ ∃ j y, s.1 = j + 1 ∧ R[j]? = some y ∧ M.m (zK 2 y 1) = s.2 * 2147483648)) (fun s => R.length - s.1) (0, -1) ?h1 ⟨Nat.zero_le _, .inl ⟨rfl, rfl⟩⟩ ?rd1
      case h1 =>
        unfold orG
        exact z8 K_1f K_4
      case rd1 =>
        rintro ⟨j, last⟩ ⟨hj, hlast⟩
        dsimp only at hj hlast ⊢
        by_cases hjl : j < R.length
        case neg =>
          have f4 : decide ((j : Int) < ((nmsP R).length : Nat)) = false := decide_eq_false (by rw [h1]; omega)
          unfold orG
          repeat' (first | (refine zY.nil ?_) | (refine zZ.is ?_; first | refine zZ.seq ?_ | (refine zZ.isR (id := 20) ?_; refine zZ.rc [0, 2, 3, 4, 10, 11, 12, 13, 14, 15, 16, 65, 85, 108] [4, 7, 8, 17, 19, 22, 25, 39, 57, 59, 64, 76, 79, 84] (r := (.v zV (.v zV (.v v57_1 (.v xJ .e))))) (h := ?_)) | (refine zZ.isR (id := 31) ?_; refine zZ.rc [2, 3] [4, 7, 8, 17, 19, 22, 25, 39, 57, 59, 64, 76, 79, 84] (r := (.v zV (.v zC .e))) (h := ?_)) | refine zZ.yM rfl bA ?_ | refine zZ.exit ?_ | refine zZ.ret ?_) | refine zF.n ?_ | refine zO.eY ?_ | refine zF.e ?_)
          all_goals exact ⟨by first | exact .inl rfl | exact .inr rfl, _, Sub.refl _, .p rfl (.tmp rfl)⟩
        case pos =>
          have hy : R[j]? = some R[j] := List.getElem?_eq_getElem hjl
          have hyR := List.getElem_mem hjl
          generalize R[j] = y at hy hyR
          obtain ⟨u, hu, hyu⟩ := hsub y hyR
          have hub := hl u hu
          have hyb := hrng y hyR
          have hgt : last < u := by
            rcases hlast with ⟨_, h⟩ | ⟨j', y', rfl, h2, h3⟩
            · omega
            · have := OrI.rise (l := l) hso h2 hy
              rw [h3, hyu] at this
              omega
          have hnext : j + 1 ≤ R.length ∧ (j + 1 = 0 ∧ u = -1 ∨ ∃ i y, j + 1 = i + 1 ∧ R[i]? = some y ∧ M.m (zK 2 y 1) = u * 2147483648) := ⟨hjl, .inr ⟨j, y, rfl, hy, hyu⟩⟩
          obtain ⟨pn, hpn⟩ : ∃ pn : Nat, zK 2 y 1 = (pn : Int) := ⟨(zK 2 y 1).toNat, by rw [fv]; omega⟩
          have hpl : pn < 10 + 8 * 8 := by have := hpn; rw [fv] at this; omega
          have c4 := fieldRef_fn 2 y 1 (by unfold Small; omega) (by omega) (by unfold Small; omega)
          have hwp := hat pn hpl
          rw [hpn] at c4 hyu
          rw [hyu] at hwp
          have c5 := splitKRef_fn (u * 2147483648) (by omega) (by omega)
          rw [show u * 2147483648 / 2147483648 = u by omega, show u * 2147483648 % 2147483648 - 1 = -1 by omega] at c5
          have f4 : decide ((j : Int) < ((nmsP R).length : Nat)) = true := decide_eq_true (by rw [h1]; omega)
          have y3 : (0 : Int) ≤ (j : Int) ∧ (j : Int) < ((nmsP R).length : Nat) := by rw [h1]; omega
          have y4 : (nmsP R)[j]? = some (.val (.int .i64 y)) := by unfold nmsP; rw [List.getElem?_map, hy]; rfl
          have y5 : ∀ z ∈ nmsP R, z.cells.length = 1 := fun z hz => by obtain ⟨q, _, rfl⟩ := List.mem_map.1 hz; rfl
          have y6 : (0 : Int) ≤ (pn : Int) ∧ (pn : Int) < ((wds ws).length : Nat) := by
            rw [wds_len]
            have : pn < ws.length := (List.getElem?_eq_some_iff.1 hwp).1
            omega
          have y7 : (wds ws)[pn]? = some (.val (.int .u64 (u * 2147483648))) := wds_at hwp
          have y8 := wds_cells ws
          have g5 : IntKind.i64.wrap ((j : Int) + 1) = ((j + 1 : Nat) : Int) := by rw [wrap_i64 _ (by omega)]; omega
          have d1 : decide (u ≤ last) = false := decide_eq_false (by omega)
          unfold orG
          repeat' (first | (refine zY.nil ?_) | (refine zZ.is ?_; first | refine zZ.seq ?_ | (refine zZ.isR (id := 20) ?_; refine zZ.rc [0, 2, 3, 4, 10, 11, 12, 13, 14, 15, 16, 65, 85, 108] [4, 7, 8, 17, 19, 22, 25, 39, 57, 59, 64, 76, 79, 84] (r := (.v zV (.v zV (.v v57_1 (.v xJ .e))))) (h := ?_)) | (refine zZ.isR (id := 22) ?_; refine zZ.rk [0, 2, 3, 4, 10, 11, 12, 13, 14, 15, 16, 65, 85, 108] [4, 7, 8, 17, 19, 22, 25, 39, 57, 59, 64, 76, 79, 84] ?_; refine zZ.draws ?_) | (refine zZ.isR (id := 23) ?_; refine zZ.rc [0, 2, 3, 4, 10, 11, 12, 13, 14, 15, 16, 65, 85, 108] [4, 7, 8, 17, 19, 22, 25, 39, 57, 59, 64, 76, 79, 84] (r := (.v zC .e)) (h := ?_)) | (refine zZ.isR (id := 24) ?_; refine zZ.rc [0, 2, 3, 4, 10, 11, 12, 13, 14, 15, 16, 65, 85, 108] [4, 7, 8, 17, 19, 22, 25, 39, 57, 59, 64, 76, 79, 84] (r := (.v zC .e)) (h := ?_)) | refine zZ.yO rfl bA ?_ | refine zZ.skip ?_ | refine zZ.block ?_) | refine zF.n ?_ | (refine Draws.is ?_; first | refine Draws.rc (.v wR (.v yK (.v yK (.v zC (.v zC .e))))) ?_ | refine Draws.rc (.v zP (.v zP (.v zS (.v zV (.v zV (.v v7_18 (.v v2_1 .e))))))) ?_ | refine Draws.rc (.v v7_18 (.v v2_1 .e)) ?_ | (refine Draws.in_ [76] rfl ?_; refine Draws.v rfl rfl (zN (c4) rfl rfl rfl (by decide)) ?_) | (refine Draws.in_ [79] rfl ?_; refine Draws.v rfl rfl (yT (c5) rfl rfl rfl (by decide)) ?_) | refine Draws.done (by kernel_rfl) (by kernel_rfl) (by kernel_rfl) ?_) | (refine zD.nil ?_))
          refine zZ.loop (fun k : Nat => orH l j ⟨2, (8 : Nat), ws, root, r0, r1⟩ R last u (anyU u (l.take k)) k) (fun k => k ≤ l.length) (fun k => l.length - k) 0 ?h2 (Nat.zero_le _) ?rd2
          case h2 =>
            unfold orH
            exact z8 K_n K_4
          case rd2 =>
            intro k hk
            by_cases hkl : k < l.length
            case pos =>
              have hx : l[k]? = some l[k] := List.getElem?_eq_getElem hkl
              have hxb := hl _ (List.getElem_mem hkl)
              generalize l[k] = x at hx hxb
              have htk : anyU u (l.take (k + 1)) = (anyU u (l.take k) || decide (x = u)) := by rw [← anyU_snoc, List.take_add_one, hx]; rfl
              have f5 : decide ((k : Int) < ((u16s l).length : Nat)) = true := decide_eq_true (by rw [u16s_len]; omega)
              have z0 : (0 : Int) ≤ (k : Int) ∧ (k : Int) < ((u16s l).length : Nat) := by rw [u16s_len]; omega
              have z1 : (u16s l)[k]? = some (.val (.int .u16 x)) := u16s_at hx
              have z2 : IntKind.i64.wrap x = x := wrap_i64 _ (by omega)
              have z3 : IntKind.i64.wrap ((k : Int) + 1) = ((k + 1 : Nat) : Int) := by rw [wrap_i64 _ (by omega)]; omega
              unfold orH
              cases hb : anyU u (l.take k) with
              | false =>
                rw [hb, Bool.false_or] at htk
                repeat' (first | (refine zY.nil ?_) | (refine zZ.is ?_; first | refine zZ.seq ?_ | (refine zZ.isR (id := 25) ?_; refine zZ.rc [0, 2, 3, 4, 10, 11, 12, 13, 14, 15, 16, 65, 85, 108] [4, 7, 8, 17, 19, 22, 25, 39, 57, 59, 64, 76, 79, 84] (r := (.v zV (.v zV (.v v57_1 (.v xJ .e))))) (h := ?_)) | (refine zZ.isR (id := 27) ?_; refine zZ.rc [0, 2, 3, 4, 10, 11, 12, 13, 14, 15, 16, 65, 85, 108] [4, 7, 8, 17, 19, 22, 25, 39, 57, 59, 64, 76, 79, 84] (r := (.v zV (.v zV (.gY zV (.gY zV (.gY v7_18 (.gY v2_1 (.gY v6_0 (.gY zV (.gY v41_8 (.v vG (.v zC .e)))))))))))) (h := ?_)) | (refine zZ.isR (id := 26) ?_; refine zZ.rc [0, 2, 3, 4, 10, 11, 12, 13, 14, 15, 16, 65, 85, 108] [4, 7, 8, 17, 19, 22, 25, 39, 57, 59, 64, 76, 79, 84] (r := (.v zV (.v vV (.v zC .e)))) (h := ?_)) | refine zZ.yO rfl bA ?_ | refine zZ.skip ?_ | refine zZ.block ?_) | refine zF.n ?_ | refine zO.n ?_)
                all_goals
                  refine ⟨k + 1, ?_, hkl, by omega⟩
                  rw [htk]
                  exact z8 K_n K_4
              | true =>
                rw [hb, Bool.true_or] at htk
                repeat' (first | (refine zY.nil ?_) | (refine zZ.is ?_; first | refine zZ.seq ?_ | (refine zZ.isR (id := 25) ?_; refine zZ.rc [0, 2, 3, 4, 10, 11, 12, 13, 14, 15, 16, 65, 85, 108] [4, 7, 8, 17, 19, 22, 25, 39, 57, 59, 64, 76, 79, 84] (r := (.v zV (.v zV (.v v57_1 (.v xJ .e))))) (h := ?_)) | (refine zZ.isR (id := 27) ?_; refine zZ.rc [0, 2, 3, 4, 10, 11, 12, 13, 14, 15, 16, 65, 85, 108] [4, 7, 8, 17, 19, 22, 25, 39, 57, 59, 64, 76, 79, 84] (r := (.v zV (.v zV (.gF (.gF (.gF (.gF (.gF (.gF (.gF (.v wL (.v zC .e)))))))))))) (h := ?_)) | (refine zZ.isR (id := 26) ?_; refine zZ.rc [0, 2, 3, 4, 10, 11, 12, 13, 14, 15, 16, 65, 85, 108] [4, 7, 8, 17, 19, 22, 25, 39, 57, 59, 64, 76, 79, 84] (r := (.v zV (.v vV (.v zC .e)))) (h := ?_)) | refine zZ.yO rfl bA ?_ | refine zZ.skip ?_ | refine zZ.block ?_) | refine zF.n ?_ | refine zO.n ?_)
                all_goals
                  refine ⟨k + 1, ?_, hkl, by omega⟩
                  rw [htk]
                  exact z8 K_n K_4
            case neg =>
              have f5 : decide ((k : Int) < ((u16s l).length : Nat)) = false := decide_eq_false (by rw [u16s_len]; omega)
              have hb : anyU u (l.take k) = true := by
                rw [List.take_of_length_le (by omega)]
                exact List.any_eq_true.2 ⟨u, hu, decide_eq_true rfl⟩
              rw [hb]
              unfold orH
              repeat' (first | (refine zY.nil ?_) | (refine zZ.is ?_; first | refine zZ.seq ?_ | (refine zZ.isR (id := 25) ?_; refine zZ.rc [0, 2, 3, 4, 10, 11, 12, 13, 14, 15, 16, 65, 85, 108] [4, 7, 8, 17, 19, 22, 25, 39, 57, 59, 64, 76, 79, 84] (r := (.v zV (.v zV (.v v57_1 (.v xJ .e))))) (h := ?_)) | (refine zZ.isR (id := 28) ?_; refine zZ.rc [0, 2, 3, 4, 10, 11, 12, 13, 14, 15, 16, 65, 85, 108] [4, 7, 8, 17, 19, 22, 25, 39, 57, 59, 64, 76, 79, 84] (r := (.v zV (.v v42_5 (.v zV (.gY zV (.gY zV (.gY v44_0 (.v vG (.v zV (.gY zV (.gY v52_5 (.v vG .e)))))))))))) (h := ?_)) | (refine zZ.isR (id := 30) ?_; refine zZ.rc [0, 2, 3, 4, 10, 11, 12, 13, 14, 15, 16, 65, 85, 108] [4, 7, 8, 17, 19, 22, 25, 39, 57, 59, 64, 76, 79, 84] (r := (.v zV (.v zC .e))) (h := ?_)) | (refine zZ.isR (id := 21) ?_; refine zZ.rc [0, 2, 3, 4, 10, 11, 12, 13, 14, 15, 16, 65, 85, 108] [4, 7, 8, 17, 19, 22, 25, 39, 57, 59, 64, 76, 79, 84] (r := (.v zV (.v vV (.v zC .e)))) (h := ?_)) | refine zZ.yM rfl bA ?_ | refine zZ.skip ?_ | refine zZ.exit ?_) | refine zF.n ?_ | refine zO.n ?_ | refine zO.eY ?_ | refine zF.e ?_)
              all_goals
                refine ⟨(j + 1, u), ?_, hnext, by dsimp only; omega⟩
                exact z8 K_1f K_4
theorem vertOrder_fn (l : List Int) (hl : ∀ x ∈ l, 0 ≤ x ∧ x < 65536) (hm : l.length ≤ maxLen) : Fn Tryz.prog 7 [.sl (u16s l)] (.p (.val (.bool true))) := by
  by_cases hn : l.length ≤ 8
  · exact vertOrder_start l hn hl
  · have c0 := shown16_fn
    have f1 : decide ((8 : Int) < ((u16s l).length : Nat)) = true := decide_eq_true (by rw [u16s_len]; omega)
    refine yR Tryz.func7 rfl Tryz.ntmps7 (Nat.le_of_ble_eq_true rfl) ?_
    repeat' (first | (refine zY.is ?_; first | refine zY.nil ?_ | (refine zY.at_ 3 rfl ?_; refine zY.rc (.v zC .e) ?_) | (refine zY.in_ [17] rfl ?_; refine zY.v rfl rfl (zN (c0) rfl rfl rfl (by decide)) ?_)) | (refine zZ.is ?_; first | refine zZ.seq ?_ | (refine zZ.isR (id := 0) ?_; refine zZ.rc [0] [4, 7, 8, 17, 19, 22, 25, 39, 57, 59, 64, 76, 79, 84] (r := (.v zC .e)) (h := ?_)) | (refine zZ.isR (id := 1) ?_; refine zZ.rc [0, 2] [4, 7, 8, 17, 19, 22, 25, 39, 57, 59, 64, 76, 79, 84] (r := .e) (h := ?_)) | (refine zZ.isR (id := 2) ?_; refine zZ.rc [0, 2, 3] [4, 7, 8, 17, 19, 22, 25, 39, 57, 59, 64, 76, 79, 84] (r := (.v zV (.v v57_1 (.v v45_0 .e)))) (h := ?_)) | (refine zZ.isR (id := 3) ?_; refine zZ.rc [0, 2, 3] [4, 7, 8, 17, 19, 22, 25, 39, 57, 59, 64, 76, 79, 84] (r := (.v zV (.v zC .e))) (h := ?_)) | refine zZ.yO rfl bA ?_ | refine zZ.ret ?_) | refine zF.n ?_ | refine zF.r ?_)
    all_goals exact ⟨by first | exact .inl rfl | exact .inr rfl, _, Sub.refl _, .p rfl (.tmp rfl)⟩
end Go.Proofs.YtmfbamiciieooaaGreatDoor
/- A law's call, by its contract; the table that the row lists; a world that fits. -/
namespace Go.Proofs.YtmfbamiciieooaaGreatDoor
set_option maxRecDepth 100000
set_option maxHeartbeats 16000000
open Go Go.RowKit Go.ChangeShapes Go.WideShapes Go.ChangeAt
set_option linter.unusedVariables false
theorem ownT : ownKnob Tryz.prog.godebug = none := by kernel_rfl
theorem laidOutT : laidOutB Tryz.prog = true := by kernel_rfl
section
variable {P : Program} {W : World}
/-- A law's call, by its contract. -/
theorem Fn.law {f : FuncId} {args : List PV} (h : Fn P f args (.p (.val (.bool true)))) (hlay : Lays W) {vs : List Value} (hl : vs.length = args.length) (hr : ∀ (i : Nat) x v, args[i]? = some x → vs[i]? = some v → Rep NoM W x v) :
    Calls P f vs.toArray W fun e W' => e = .returned (.bool true) ∧ Below W.heap.size W W' :=
  (h NoM W vs ⟨hlay, fun _ _ _ h => h⟩ (fun _ _ h => h.elim) hl hr).mono fun e W' ⟨v, he, hv, hb⟩ => by
    cases hv
    exact ⟨he, hb⟩
theorem reps1 {M : Nat → Nat → Prop} {x0 : PV} {v0 : Value} (h0 : Rep M W x0 v0) : ∀ (i : Nat) x v, [x0][i]? = some x → [v0][i]? = some v → Rep M W x v := by
  intro i x v hx hv
  match i with
  | 0 => simp at hx hv; subst hx; subst hv; exact h0
  | i + 1 => simp at hx
end
/-! ### The listed table -/
theorem gTbl : Tryz.prog.globalNamed "weald/crc.halves" = some 0 := by kernel_rfl
theorem tTbl : (Tryz.prog.globals[0]?).map (·.type) = some 202 := by kernel_rfl
def laidL : List (String × DataW Unit) := [("weald/crc.halves", Rows.laid_weald_crc_halves)]
theorem lays_of_laid {W : World} (h : laidMetH Tryz.prog laidL W) : Lays W := by
  rw [MakeChecks.laidMetH_plain _ _ _ (by kernel_rfl)] at h
  obtain ⟨ps, ⟨g0, t0, cs0, f0, p0, q0, hg0, ht0, hv0, hd0, _, _⟩, _⟩ := h
  obtain rfl := Option.some.inj (gTbl.symm.trans hg0)
  obtain rfl := Option.some.inj (tTbl.symm.trans ht0)
  have hcell := World.var?_cell hg0 hv0
  obtain ⟨xs, m1, _, hx1, hlen, hn, hel⟩ := DataW.trod_array Tryz.underlying202 hd0
  have c1 : Tryz.prog.cellsOf 150 = 1 := by kernel_rfl
  have c16 : Tryz.prog.cellsOf 202 = 16 := by kernel_rfl
  rw [c16] at hlen
  have hdat : Rows.laid_weald_crc_halves (H := Unit) = .agg (tbl0.map fun p => .lit (.int p.1 p.2)) := by kernel_rfl
  simp only [Prod.mk.injEq] at hx1
  have hxs : xs.map (·.1) = tbl0.map fun p => .lit (.int p.1 p.2) := by
    have := hx1.1
    rw [hdat] at this
    simpa using this.symm
  have hk : ∀ p ∈ tbl0, p.1 = .u32 := by decide +kernel
  intro g ys hg
  have hgy : g = 0 ∧ ys = tbl0 := by
    unfold seatTbl at hg
    split at hg
    · next h => exact ⟨h, (Option.some.inj hg).symm⟩
    · cases hg
  obtain ⟨rfl, rfl⟩ := hgy
  have at_ : ∀ (j : Nat) p, tbl0[j]? = some p → W.cell? ⟨0, j, none⟩ = some (.int p.1 p.2) := by
    intro j p hp
    have hj : j < 16 := (List.getElem?_eq_some_iff.1 hp).1
    have h1 := hel j hj
    have hxj : xs[j]? = some xs[j] := List.getElem?_eq_getElem (by omega)
    rw [hxj, c1, Nat.mul_one] at h1
    obtain ⟨k, e1, e2, _⟩ := DataW.trod_int Tryz.underlying150 h1
    have h3 : (xs.map (·.1))[j]? = some (.lit (.int .u32 k)) := by rw [List.getElem?_map, hxj, e2]; rfl
    rw [hxs, List.getElem?_map, hp] at h3
    simp only [Option.map_some, Option.some.injEq, DataW.lit.injEq, Lit.int.injEq] at h3
    obtain ⟨h4, h5⟩ := h3
    have h6 : cs0[j]? = some (.int .u32 k) := by
      have : (cs0.toList.drop j).take 1 = [cs0.toList[j]'(by rw [hlen]; exact hj)] := by
        rw [List.drop_eq_getElem_cons (by rw [hlen]; exact hj)]
        rfl
      rw [this] at e1
      simp only [List.cons.injEq, and_true] at e1
      rw [← e1]
      simp [Array.getElem?_eq_getElem (show j < cs0.size by simpa using (by rw [hlen]; exact hj : j < cs0.toList.length))]
    rw [hcell j, h6, h4, h5]
  refine ⟨?_, at_⟩
  have h0 := at_ 0 _ rfl
  unfold World.cell? at h0
  cases hh : W.heap[0]? with
  | none => rw [hh] at h0; cases h0
  | some o => exact (Array.getElem?_eq_some_iff.1 hh).1
/-- The door's own heap fits. -/
theorem door_met (os : Os) (args : Array Value) : laidMetH Tryz.prog laidL ((World.doorLaid Tryz.prog 400 os).forCall (fun _ _ => 0) ⟨#[], args, []⟩).memory :=
  laidMetH_of_parts3 (fuel := 8) (laidMet_of_run' 8 (by kernel_rfl) (by kernel_rfl)) (by kernel_rfl) (by kernel_rfl)
end Go.Proofs.YtmfbamiciieooaaGreatDoor
/- For every input VertOrder returns true, and leaves its arguments as they were; tied: Rows.VertOrderCardSaid. Conditions: none beyond the given statement's own. -/
namespace Go.Proofs.YtmfbamiciieooaaGreatDoor
set_option maxRecDepth 100000
set_option maxHeartbeats 16000000
open Go Go.RowKit Go.ChangeShapes Go.WideShapes Go.ChangeAt
set_option linter.unusedVariables false
theorem vertOrder_lifted (os : Os) (started : os.Started) (H : Type) (enc : TypeId × Value → H) :
    ReturnsInHanded {} Tryz.checked os 7 .any (fun w args => (Rows.vertOrderSpec.pre enc Tryz.prog Tryz.f7 [] false w args ∧ laidMetH Tryz.prog laidL w) ∧ sizedMet enc Tryz.prog Tryz.f7 (OpenSpec.ofChange Rows.vertOrderSpec) false w args)
      (Rows.vertOrderSpec.post enc Tryz.prog Tryz.f7 false true false false) := by
  refine returnsInHanded_of_change_and (C := Tryz.checked) (X := fun w _ => laidMetH Tryz.prog laidL w) (fun _ _ _ hh h => h.of_heap hh) ownT started (by kernel_rfl) Tryz.func7
    (ChangeSpec.witness_shaped (enc := enc) (C := Tryz.checked) (os := os) (X := fun w _ => laidMetH Tryz.prog laidL w) false (World.doorLaid Tryz.prog 400 os) #[.slice none 0 0] 8 rfl (World.shaped_of_RefB (by kernel_rfl) (by kernel_rfl)) (by kernel_rfl) (by kernel_rfl) (by kernel_rfl) (door_met os _)) ?_
  intro W base args ds gs before hval0 hW hcnd hwt hL _
  have hval : ∀ (j : Nat) t v, Tryz.f7.params[j]? = some t → args[j]? = some v → Value.okWide Tryz.prog W .any base t v := hval0
  have hW' := hW
  obtain ⟨p, q, hA0, hV, rfl, hfz, hnd⟩ := hW
  have hA : DataW.TrodAll enc Tryz.prog W 0 (fun _ => true) true Tryz.f7.params.toList args.toList ds p := hA0
  rw [Tryz.params7] at hA hval
  obtain ⟨v0, vs0, d0, ds0, p0, q0, hargs, rfl, rfl, h0, r0⟩ := trodAll_cons hA
  obtain ⟨rfl, rfl, rfl⟩ := trodAll_nil r0
  obtain rfl : args = #[v0] := by cases args; simp_all
  obtain ⟨rfl, rfl⟩ := trodVars_none hV
  have lt0 : ∀ x ∈ p0, x.block < W.heap.size := by obtain ⟨m, hm⟩ := h0; exact DataW.trod_lt m _ _ _ hm
  have o0 := hval 0 76 v0 rfl rfl
  obtain ⟨a0, rp0, g0, l0⟩ := arg_u16s Tryz.underlying76 (by kernel_rfl) (by kernel_rfl) o0 h0
  clear hA0 hval0
  refine ((vertOrder_fn a0 g0 l0).law (lays_of_laid hL) (vs := [v0]) rfl (reps1 rp0)).mono fun e W' ⟨he, bel⟩ => ?_
  subst he
  exact ⟨_, rfl, _, _, _, [], _, [], hW', trodAll_mk1 (shut_bool Tryz.underlying4 _), (trodAll_cons_mk (Below.trod laidOutT (by kernel_rfl) (of_decide_eq_true (by kernel_rfl)) h0 bel lt0) trodAll_mk0), rfl, bel.frame _, fun h => by cases h⟩
theorem vertOrder_holds : Rows.VertOrderSaid :=
  OpenClaim.holds_of_wide 7 Tryz.f7 rfl rfl rfl rfl rfl rfl rfl ⟨rfl, rfl, rfl, rfl, rfl⟩ rfl rfl rfl rfl rfl (by kernel_rfl) Tryz.func7 (by kernel_rfl)
    (of_decide_eq_true (by kernel_rfl)) (by unfold Func.isWrapper; first | (rw [if_pos (by decide +kernel)]; kernel_rfl) | (rw [if_neg (by decide +kernel)]; exact ⟨rfl, rfl⟩))
    (fun os started H enc _ => vertOrder_lifted os started H enc)
theorem vertOrderCard_holds : Rows.VertOrderCardSaid :=
  Claim7.holds_tied_plain_at .later [] [.data] true _ true
    vertOrder_holds (fun _ h => by cases h) (by kernel_rfl) (fun _ h => by cases h) vertOrder_row_tie rfl ⟨rfl, rfl⟩ (by kernel_rfl) rfl
    (fun f fn hf hfn => by
      obtain rfl : f = 7 := Option.some.inj ((show Tryz.prog.funcNamed "weald/wealdlaw16.VertOrder" = some 7 by kernel_rfl).symm.trans hf) |>.symm
      obtain rfl : fn = Tryz.f7 := (Option.some.inj (Tryz.func7.symm.trans hfn)).symm
      exact ⟨by kernel_rfl, fun j t ht => by
        rw [Tryz.params7] at ht
        have hm : t ∈ [76] := by simpa using Array.mem_of_getElem? ht
        have hall : ([76].all fun u => !Tryz.prog.wantsStandIn u) = true := by kernel_rfl
        exact (show Tryz.prog.wantsStandIn t = false by simpa using List.all_eq_true.1 hall t hm)⟩)
    (by kernel_rfl)
#print axioms vertOrderCard_holds
end Go.Proofs.YtmfbamiciieooaaGreatDoor
