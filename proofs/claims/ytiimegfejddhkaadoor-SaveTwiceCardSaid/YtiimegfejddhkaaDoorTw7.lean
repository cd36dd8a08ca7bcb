/- For every input SaveTwice returns true, and leaves its arguments as they were; tied: Rows.SaveTwiceCardSaid. Conditions: none beyond the given statement's own. (Part 7 of 7.) -/
import Derived.Test.YtiimegfejddhkaaDoorTw6
import Derived.ProofKit
import Derived.OpenShut
import Derived.Below
import Derived.LaidMore
import Derived.Deep.Fields
import Derived.Deep.Slices
import Derived.Test.YtiimegfejddhkaaDoorRows
import Derived.LaidLaws
import Derived.ChangeSame
import Derived.ChangeVars
import Derived.JoinedOf
import Derived.Stop.Joined
import Derived.RowKitTokens
import Derived.Test.YtiimegfejddhkaaDoorCards
import Derived.Test.YtiimegfejddhkaaDoorTie
import Derived.SevenTiedAt
/- The law SaveTwice: its function's contract. -/
namespace Go.Proofs.YtiimegfejddhkaaDoor
open Go Go.RowKit
set_option linter.unusedSimpArgs false
set_option linter.unusedVariables false
attribute [local irreducible] AOps ACode Step AStep Sub TChain TStep Fn twR

theorem tw_most (i : Nat) : twMost i ≤ 20 := by
  unfold twMost
  cases decide (1 < i) <;> decide
theorem tw_bit (b : Bool) (i : Nat) : twBit b i = 1 ∨ twBit b i = 2 := by
  cases b <;> match i with
  | 0 | 1 | 2 | _ + 3 => simp [twBit]
theorem tw_world (k : Int) (hk : U k) (b : Bool) : Al 0 0 20 1 0 k 20 [] (newD 1 1) (twR k b 0) ∧ ∀ i, i ≤ 4 → WdOK (20000 + 20000 * i) (twR k b i).W ∧ (twR k b i).W.t = 1 ∧ (twR k b i).W.r0.length = 1 ∧ (i < 4 → Al (20000 + 20000 * i) 0 7 1 (twBit b i) 0 (twMost i) [] (twR k b i).W (twR k b (i + 1))) := by
  obtain ⟨t0, i0, m0⟩ := tw5 k b
  have a0 : Al 0 0 20 1 0 k 20 [] (newD 1 1) (twR k b 0) := al_of (tw0 k b) (opOK_of (by decide) (by decide) (by decide) hk) (newD_ok (by decide) (by decide)) (by decide) m0 (by decide) (by decide)
  refine ⟨a0, fun i => ?_⟩
  have step : ∀ i, i < 4 → WdOK (20000 + 20000 * i) (twR k b i).W → (twR k b i).W.t = 1 → (twR k b i).W.r0.length = 1 → Al (20000 + 20000 * i) 0 7 1 (twBit b i) 0 (twMost i) [] (twR k b i).W (twR k b (i + 1)) := fun i hi h1 h2 h3 =>
    have h := tw_ok k b i hi
    al_of (by rw [h2]; exact h.run) (opOK_of (by rw [h2]; decide) (by decide) (fun _ => tw_bit b i) U.zero) h1 (by rw [h3]; decide) h.m (tw_most i) (by omega)
  induction i with
  | zero => exact fun _ => ⟨a0.ok, t0, a0.r0, fun h => step 0 h a0.ok t0 a0.r0⟩
  | succ i ih =>
    intro hi
    obtain ⟨h1, h2, h3, h4⟩ := ih (by omega)
    have h5 := h4 (by omega)
    have o1 : WdOK (20000 + 20000 * (i + 1)) (twR k b (i + 1)).W := h5.ok.le (by omega)
    exact ⟨o1, h5.t.trans h2, h5.r0.trans h3, fun h => step (i + 1) h o1 (h5.t.trans h2) (h5.r0.trans h3)⟩
def twV (b : Bool) : PV := .sl [.val (.int .i64 (twBit b 0)), .val (.int .i64 (twBit b 1)), .val (.int .i64 (twBit b 2)), .val (.int .i64 (twBit b 3))]
def twS (k : Int) (b : Bool) (W : Wd) (i : Nat) : AS :=
  { t := [(0, .p (.val (.int .u64 k))), (1, .p (.val (.bool b))), (5, .p (.val (.bool true))), (6, .ptr 6 0), (10, .p (twV b)), (11, .p (.val (.int .i64 (i : Nat))))],
    s := [(6, .box 33 (W.pv.cells.map AV.p))] }

theorem twV_at (b : Bool) (i : Nat) (hi : i < 4) : ([.val (.int .i64 (twBit b 0)), .val (.int .i64 (twBit b 1)), .val (.int .i64 (twBit b 2)), .val (.int .i64 (twBit b 3))] : List PV)[i]? = some (.val (.int .i64 (twBit b i))) := by
  match i, hi with
  | 0, _ | 1, _ | 2, _ | 3, _ => rfl
theorem twV_cells (b : Bool) : ∀ e ∈ ([.val (.int .i64 (twBit b 0)), .val (.int .i64 (twBit b 1)), .val (.int .i64 (twBit b 2)), .val (.int .i64 (twBit b 3))] : List PV), e.cells.length = 1 := by
  intro e he
  simp at he
  rcases he with rfl | rfl | rfl | rfl <;> rfl

set_option maxRecDepth 100000 in
set_option maxHeartbeats 16000000 in
theorem twice_false (k : Int) (hk : U k) (hmay : mayB 1 1 k 0 0 0 = true) :
    Fn Tryd.prog 5 [.val (.int .u64 k), .val (.bool false)] (.p (.val (.bool true))) := by
  obtain ⟨a0, hw⟩ := tw_world k hk false
  have c1 := a0.nil rfl
  have c2 : Fn Tryd.prog 10 [entV 1 1 k 0 0 0] (.p (.val (.bool true))) := hmay ▸ mayRef_fn 1 1 k 0 0 0 hk.1 hk.2
  have c0 : Fn Tryd.prog 8 [.val (.int .i64 1), .val (.int .i64 1)] (.p (newD 1 1).pv) := new10_fn 1 1 (by decide) (by decide) (by decide) (by decide)
  obtain ⟨S4, hr0⟩ := tw7 k false hmay
  generalize newD 1 1 = W0 at *
  generalize hq0 : twR k false 0 = q0 at c1
  obtain ⟨⟨e1, s1, w1⟩, ⟨t1, u1, ws1, root1, r01, r11⟩, n1⟩ := q0
  dsimp only at c1
  refine fn_of2 Tryd.func5 rfl Tryd.ntmps5 (Nat.le_of_ble_eq_true rfl) ?_
  repeat' ((refine ACode.is ?_; first | refine ACode.seq ?_ | (refine ACode.isR (id := 0) ?_; refine ACode.regionK [0, 1] [6, 7, 13, 14, 18, 20, 45] (by repeat' first | exact KeepT.nil | apply KeepT.p rfl) (by repeat' first | exact KeepB.nil | apply KeepB.skip) ?_; (refine AOps.is ?_; refine AOps.v rfl rfl (by exact a_assignP rfl rfl rfl (by decide)) ?_); refine AOps.nil ?_) | (refine ACode.isR (id := 1) ?_; refine ACode.regionK [0, 1, 4] [6, 7, 13, 14, 18, 20, 45] (by repeat' first | exact KeepT.nil | apply KeepT.p rfl) (by repeat' first | exact KeepB.nil | apply KeepB.skip) ?_; (refine AOps.is ?_; refine AOps.v rfl rfl (by exact w_call (shown14_fn) rfl rfl rfl (by decide)) ?_); (refine AOps.is ?_; refine AOps.v rfl rfl (by exact a_assignP rfl rfl rfl (by decide)) ?_); refine AOps.nil ?_) | (refine ACode.isR (id := 2) ?_; refine ACode.regionK [0, 1, 4, 5] [6, 7, 13, 14, 18, 20, 45] (by repeat' first | exact KeepT.nil | apply KeepT.p rfl) (by repeat' first | exact KeepB.nil | apply KeepB.skip) ?_; (refine AOps.is ?_; refine AOps.v rfl rfl (by exact a_moveP rfl rfl rfl (by decide)) ?_); (refine AOps.is ?_; refine AOps.v rfl rfl (by exact w_build rfl (by rfl) (by rfl) (by rfl) (by rfl) rfl (by decide)) ?_); (refine AOps.is ?_; refine AOps.v rfl rfl (by exact w_call (c2) rfl rfl rfl (by decide)) ?_); (refine AOps.is ?_; refine AOps.v rfl rfl (by exact r_notB rfl rfl (by exact bF (by decide)) rfl (by decide)) ?_); refine AOps.nil ?_) | (refine ACode.isR (id := 4) ?_; refine ACode.regionK [0, 1, 4, 5] [6, 7, 13, 14, 18, 20, 45] (by repeat' first | exact KeepT.nil | apply KeepT.p rfl) (by repeat' first | exact KeepB.nil | apply KeepB.skip) ?_; (refine AOps.is ?_; refine AOps.v rfl rfl (by exact w_call (c0) rfl rfl rfl (by decide)) ?_); (refine AOps.is ?_; refine AOps.v rfl rfl (by exact a_moveP rfl rfl rfl (by decide)) ?_); (refine AOps.is ?_; refine AOps.v rfl rfl (by exact w_build rfl (by rfl) (by rfl) (by rfl) (by rfl) rfl (by decide)) ?_); (refine AOps.is ?_; refine AOps.v rfl rfl (by exact w_callT (c1) rfl rfl rfl (by decide)) ?_); (refine AOps.is ?_; refine AOps.v rfl rfl (by exact a_moveT rfl rfl rfl (by decide)) ?_); (refine AOps.is ?_; refine AOps.v rfl rfl (by exact a_extract rfl rfl rfl rfl (by decide)) ?_); (refine AOps.is ?_; refine AOps.v rfl rfl (by exact a_extract rfl rfl rfl rfl (by decide)) ?_); (refine AOps.is ?_; refine AOps.v rfl rfl (by exact a_extract rfl rfl rfl rfl (by decide)) ?_); (refine AOps.is ?_; refine AOps.m rfl rfl (by exact w_alloc rfl (by decide) rfl (by decide)) ?_); (refine AOps.is ?_; refine AOps.m rfl rfl (by exact w_alloc rfl (by decide) rfl (by decide)) ?_); (refine AOps.is ?_; refine AOps.w rfl (by exact w_store rfl rfl rfl rfl rfl (by rfl) (by exact Nat.le_of_ble_eq_true rfl) rfl rfl) ?_); (refine AOps.is ?_; refine AOps.w rfl (by exact w_store rfl rfl rfl rfl rfl (by rfl) (by exact Nat.le_of_ble_eq_true rfl) rfl rfl) ?_); (refine AOps.is ?_; refine AOps.v rfl rfl (by exact a_assignP rfl rfl rfl (by decide)) ?_); refine AOps.nil ?_) | (refine ACode.isR (id := 5) ?_; refine ACode.regionK [0, 1, 4, 5, 6, 8] [6, 7, 13, 14, 18, 20, 45] (by repeat' first | exact KeepT.nil | apply KeepT.p rfl | apply KeepT.ptr rfl) (by repeat' first | exact KeepB.nil | apply KeepB.boxP rfl rfl | apply KeepB.skip) ?_; (refine AOps.is ?_; refine AOps.v rfl rfl (by exact a_moveP rfl rfl rfl (by decide)) ?_); (refine AOps.is ?_; refine AOps.v rfl rfl (by exact r_notB rfl rfl (by exact bF (by decide)) rfl (by decide)) ?_); refine AOps.nil ?_) | (refine ACode.isR (id := 7) ?_; refine ACode.regionK [0, 1, 4, 5, 6] [6, 7, 13, 14, 18, 20, 45] (by repeat' first | exact KeepT.nil | apply KeepT.p rfl | apply KeepT.ptr rfl) (by repeat' first | exact KeepB.nil | apply KeepB.boxP rfl rfl | apply KeepB.skip) ?_; (refine AOps.is ?_; refine AOps.v rfl rfl (by exact a_assignP rfl rfl rfl (by decide)) ?_); refine AOps.nil ?_) | (refine ACode.isR (id := 8) ?_; refine ACode.regionK [0, 1, 4, 5, 6, 9] [6, 7, 13, 14, 18, 20, 45] (by repeat' first | exact KeepT.nil | apply KeepT.p rfl | apply KeepT.ptr rfl) (by repeat' first | exact KeepB.nil | apply KeepB.boxP rfl rfl | apply KeepB.skip) ?_; (refine AOps.is ?_; refine AOps.v rfl rfl (by exact a_moveP rfl rfl rfl (by decide)) ?_); refine AOps.nil ?_) | (refine ACode.isR (id := 10) ?_; refine ACode.regionK [0, 1, 4, 5, 6, 9] [6, 7, 13, 14, 18, 20, 45] (by repeat' first | exact KeepT.nil | apply KeepT.p rfl | apply KeepT.ptr rfl) (by repeat' first | exact KeepB.nil | apply KeepB.boxP rfl rfl | apply KeepB.skip) ?_; (refine AOps.is ?_; refine AOps.v rfl rfl (by exact a_moveP rfl rfl rfl (by decide)) ?_); (refine AOps.is ?_; refine AOps.v rfl rfl (by exact a_moveP rfl rfl rfl (by decide)) ?_); (refine AOps.is ?_; refine AOps.v rfl rfl (by exact a_sub rfl rfl rfl (by (simp only [Int.reduceAdd, Int.reduceSub, Int.reduceMul]; exact wrap_i64 _ (by omega))) rfl (by decide)) ?_); (refine AOps.is ?_; refine AOps.v rfl rfl (by exact a_moveP rfl rfl rfl (by decide)) ?_); (refine AOps.is ?_; refine AOps.v rfl rfl (by exact a_moveP rfl rfl rfl (by decide)) ?_); (refine AOps.is ?_; refine AOps.v rfl rfl (by exact a_sub rfl rfl rfl (by (simp only [Int.reduceAdd, Int.reduceSub, Int.reduceMul]; exact wrap_i64 _ (by omega))) rfl (by decide)) ?_); (refine AOps.is ?_; refine AOps.v rfl rfl (by exact w_buildSl rfl (by decide) (by decide) (by decide) (by decide) (by rfl) (by rfl) (by rfl) (by rfl) (by rfl) (by rfl) (by rfl) rfl (by decide)) ?_); (refine AOps.is ?_; refine AOps.v rfl rfl (by exact a_assignP rfl rfl rfl (by decide)) ?_); refine AOps.nil ?_) | (refine ACode.isR (id := 11) ?_; refine ACode.regionK [0, 1, 4, 5, 6, 10] [6, 7, 13, 14, 18, 20, 45] (by repeat' first | exact KeepT.nil | apply KeepT.p rfl | apply KeepT.ptr rfl) (by repeat' first | exact KeepB.nil | apply KeepB.boxP rfl rfl | apply KeepB.skip) ?_; (refine AOps.is ?_; refine AOps.v rfl rfl (by exact a_assignP rfl rfl rfl (by decide)) ?_); refine AOps.nil ?_) | refine ACode.condN rfl (by with_reducible rfl) ?_ | refine ACode.skip ?_ | refine ACode.block ?_))
  refine ACode.loop (fun i => twS k false (twR k false i).W i) (fun i => i ≤ 4) (fun i => 4 - i) 0 ?h0 (by omega) ?rd
  case h0 =>
    show Sub _ (twS k false (twR k false 0).W 0)
    rw [hq0]
    refine sub_keep (is := [0, 1, 5, 6, 10, 11]) (js := [6]) ?_ ?_
    repeat' first | exact KeepT.nil | apply KeepT.p rfl | apply KeepT.ptr rfl | apply KeepT.own rfl | apply KeepT.clo rfl | apply KeepT.pt rfl | apply KeepT.tup rfl | apply KeepT.skip
    repeat' first | exact KeepB.nil | apply KeepB.boxP rfl rfl | apply KeepB.rowB rfl | apply KeepB.some rfl | apply KeepB.skip
  case rd =>
    intro i hi
    obtain ⟨o1, o2, o3, o4⟩ := hw i hi
    rcases Nat.lt_or_ge i 4 with h4 | h4
    case inl =>
      have c3 := (o4 h4).nil rfl
      have b1 := (tw_ok k false i h4).is
      rw [b1] at c3
      change ACode _ _ _ (twS k false (twR k false i).W i) _
      have hnext : ∀ W, (twR k false (i + 1)).W = W → twS k false (twR k false (i + 1)).W (i + 1) = twS k false W (i + 1) := fun W h => by rw [h]
      generalize (twR k false i).W = Wi at c3 ⊢
      obtain ⟨t2, u2, ws2, root2, r02, r12⟩ := Wi
      generalize hq2 : twR k false (i + 1) = q2 at c3 hnext
      obtain ⟨⟨e3, s3, w3⟩, ⟨t3, u3, ws3, root3, r03, r13⟩, n3⟩ := q2
      dsimp only at c3
      have g1 : decide ((i : Int) < 4) = true := decide_eq_true (by omega)
      have g3 := twV_at false i h4
      have g4 : (0 : Int) ≤ (i : Int) ∧ (i : Int) < ([.val (.int .i64 (twBit false 0)), .val (.int .i64 (twBit false 1)), .val (.int .i64 (twBit false 2)), .val (.int .i64 (twBit false 3))] : List PV).length := by simp; omega
      have g5 : IntKind.i64.wrap ((i : Int) + 1) = ((i + 1 : Nat) : Int) := by rw [wrap_i64 _ (by omega)]; omega
      have g6 := twV_cells false
      clear o1 o2 o3 o4 b1 hr0 hw a0 c0 c1 c2
      unfold twS twV
      by_cases h2 : 1 < i
      case pos =>
        have g2 : decide (1 < (i : Int)) = true := decide_eq_true (by omega)
        have e2 : twMost i = 1 := by simp [twMost, h2]
        rw [e2] at c3
        repeat' (first | (refine ACode.is ?_; first | refine ACode.seq ?_ | (refine ACode.isR (id := 12) ?_; refine ACode.regionK [0, 1, 4, 5, 6, 10, 11, 12, 13, 14, 15, 47, 51, 70] [6, 7, 13, 14, 18, 20, 45] (by repeat' first | exact KeepT.nil | apply KeepT.p rfl | apply KeepT.ptr rfl | apply KeepT.skip) (by repeat' first | exact KeepB.nil | apply KeepB.boxP rfl rfl | apply KeepB.skip) ?_; (refine AOps.is ?_; refine AOps.v rfl rfl (by exact a_moveP rfl rfl rfl (by decide)) ?_); (refine AOps.is ?_; refine AOps.v rfl rfl (by exact r_lss rfl rfl rfl (by exact g1) rfl (by decide)) ?_); refine AOps.nil ?_) | (refine ACode.isR (id := 14) ?_; refine ACode.regionK [0, 1, 4, 5, 6, 10, 11, 12, 13, 14, 15, 47, 51, 70] [6, 7, 13, 14, 18, 20, 45] (by repeat' first | exact KeepT.nil | apply KeepT.p rfl | apply KeepT.ptr rfl | apply KeepT.skip) (by repeat' first | exact KeepB.nil | apply KeepB.boxP rfl rfl | apply KeepB.skip) ?_; (refine AOps.is ?_; refine AOps.v rfl rfl (by exact a_assignP rfl rfl rfl (by decide)) ?_); refine AOps.nil ?_) | (refine ACode.isR (id := 15) ?_; refine ACode.regionK [0, 1, 4, 5, 6, 10, 11, 12, 13, 14, 15, 47, 51, 70] [6, 7, 13, 14, 18, 20, 45] (by repeat' first | exact KeepT.nil | apply KeepT.p rfl | apply KeepT.ptr rfl | apply KeepT.skip) (by repeat' first | exact KeepB.nil | apply KeepB.boxP rfl rfl | apply KeepB.skip) ?_; (refine AOps.is ?_; refine AOps.v rfl rfl (by exact a_moveP rfl rfl rfl (by decide)) ?_); (refine AOps.is ?_; refine AOps.v rfl rfl (by exact r_gtr rfl rfl rfl (by exact g2) rfl (by decide)) ?_); refine AOps.nil ?_) | (refine ACode.isR (id := 16) ?_; refine ACode.regionK [0, 1, 4, 5, 6, 10, 11, 12, 13, 14, 15, 47, 51, 70] [6, 7, 13, 14, 18, 20, 45] (by repeat' first | exact KeepT.nil | apply KeepT.p rfl | apply KeepT.ptr rfl | apply KeepT.skip) (by repeat' first | exact KeepB.nil | apply KeepB.boxP rfl rfl | apply KeepB.skip) ?_; (refine AOps.is ?_; refine AOps.v rfl rfl (by exact a_assignP rfl rfl rfl (by decide)) ?_); refine AOps.nil ?_) | (refine ACode.isR (id := 17) ?_; refine ACode.regionD [0, 1, 4, 5, 6, 10, 11, 12, 13, 14, 15, 47, 51, 70] [6, 7, 13, 14, 18, 20, 45] (by repeat' first | exact KeepT.nil | apply KeepT.p rfl | apply KeepT.ptr rfl | apply KeepT.skip) (by repeat' first | exact KeepB.nil | apply KeepB.boxP rfl rfl | apply KeepB.skip) (ACode.draws ?_); all_goals (refine Draws.v rfl rfl (by exact w_loadRN rfl rfl rfl (by rfl) (by rfl) rfl (by decide)) ?_); all_goals (refine Draws.v rfl rfl (by exact a_moveP rfl rfl rfl (by decide)) ?_); all_goals (refine Draws.v rfl rfl (by exact a_moveP rfl rfl rfl (by decide)) ?_); all_goals (refine Draws.v rfl rfl (by exact w_indexS rfl rfl rfl (by exact g6) (by exact g3) rfl (by decide)) ?_); all_goals (refine Draws.v rfl rfl (by exact w_load1 rfl rfl rfl rfl (by decide)) ?_); all_goals (refine Draws.v rfl rfl (by exact w_build rfl (by rfl) (by rfl) (by rfl) (by rfl) rfl (by decide)) ?_); all_goals (refine Draws.v rfl rfl (by exact a_moveP rfl rfl rfl (by decide)) ?_); all_goals (refine Draws.v rfl rfl (by exact w_callT (c3) rfl rfl rfl (by decide)) ?_); all_goals (refine Draws.v rfl rfl (by exact a_moveT rfl rfl rfl (by decide)) ?_); all_goals (refine Draws.v rfl rfl (by exact a_extract rfl rfl rfl rfl (by decide)) ?_); all_goals (refine Draws.v rfl rfl (by exact a_extract rfl rfl rfl rfl (by decide)) ?_); all_goals (refine Draws.v rfl rfl (by exact a_extract rfl rfl rfl rfl (by decide)) ?_); all_goals (refine Draws.m rfl rfl (by exact w_alloc rfl (by decide) rfl (by decide)) ?_); all_goals (refine Draws.m rfl rfl (by exact w_alloc rfl (by decide) rfl (by decide)) ?_); all_goals (((refine Draws.late2 [10, 11] 3 [0, 1, 2, 3, 4, 5, 6, 7, 8, 9, 10, 11, 12, 13] (by kernel_rfl) (by kernel_rfl) (by kernel_rfl) (by kernel_rfl) (by kernel_rfl) ?_ (LEach.consD 4 [0, 1, 2, 3, 4, 5, 6, 7, 8, 9, 10, 12, 13] (by kernel_rfl) (by kernel_rfl) ?_ (LEach.consD 4 [0, 1, 2, 3, 4, 5, 6, 7, 8, 9, 11, 12, 13] (by kernel_rfl) (by kernel_rfl) ?_ (LEach.consD 5 [0, 1, 2, 3, 4, 5, 6, 7, 8, 9, 12, 13] (by kernel_rfl) (by kernel_rfl) ?_ LEach.nil)))) <;> (repeat' (first | refine DAll.many (by rfl) ?_ | refine DEach.cons ?_ ?_ | exact DEach.nil | refine DOne.v rfl rfl rfl (by first | exact a_assignP rfl rfl rfl (by decide) | exact a_extract rfl rfl rfl rfl (by decide)) ?_ | refine DOne.w rfl rfl (by exact w_store rfl rfl rfl rfl rfl (by rfl) (by exact Nat.le_of_ble_eq_true rfl) rfl rfl) ?_ | refine DAll.fin (by rfl) ?_))))) | (refine ACode.isR (id := 18) ?_; refine ACode.regionK [0, 1, 4, 5, 6, 10, 11, 12, 13, 14, 15, 47, 51, 70] [6, 7, 13, 14, 18, 20, 45] (by repeat' first | exact KeepT.nil | apply KeepT.p rfl | apply KeepT.ptr rfl | apply KeepT.skip) (by repeat' first | exact KeepB.nil | apply KeepB.boxP rfl rfl | apply KeepB.skip) ?_; all_goals (refine AOps.v rfl rfl (by exact a_moveP rfl rfl rfl (by decide)) ?_); all_goals (refine AOps.v rfl rfl (by exact r_notB rfl rfl (by exact bF (by decide)) rfl (by decide)) ?_); all_goals (refine AOps.v rfl rfl (by exact a_moveP rfl rfl rfl (by decide)) ?_); all_goals (refine AOps.gY rfl rfl (by decide) rfl (by with_reducible rfl) rfl (by decide) (by exact w_fieldR rfl rfl rfl (by decide)) ?_); all_goals (refine AOps.gY rfl rfl (by decide) rfl (by with_reducible rfl) rfl (by decide) (by exact w_loadR1 rfl rfl rfl (by rfl) rfl (by decide)) ?_); all_goals (refine AOps.gY rfl rfl (by decide) rfl (by with_reducible rfl) rfl (by decide) (by exact r_notB rfl rfl (by exact bF (by decide)) rfl (by decide)) ?_); all_goals (refine AOps.v rfl rfl (by exact w_pickN rfl rfl (by with_reducible rfl) rfl rfl (by decide)) ?_); all_goals (refine AOps.nil ?_)) | (refine ACode.isR (id := 20) ?_; refine ACode.regionK [0, 1, 4, 5, 6, 10, 11, 12, 13, 14, 15, 47, 51, 70] [6, 7, 13, 14, 18, 20, 45] (by repeat' first | exact KeepT.nil | apply KeepT.p rfl | apply KeepT.ptr rfl | apply KeepT.skip) (by repeat' first | exact KeepB.nil | apply KeepB.boxP rfl rfl | apply KeepB.skip) ?_; (refine AOps.is ?_; refine AOps.v rfl rfl (by exact w_loadRN rfl rfl rfl (by rfl) (by rfl) rfl (by decide)) ?_); (refine AOps.is ?_; refine AOps.w rfl (by exact w_store rfl rfl rfl rfl rfl (by rfl) (by exact Nat.le_of_ble_eq_true rfl) rfl rfl) ?_); refine AOps.nil ?_) | (refine ACode.isR (id := 13) ?_; refine ACode.regionK [0, 1, 4, 5, 6, 10, 11, 12, 13, 14, 15, 47, 51, 70] [6, 7, 13, 14, 18, 20, 45] (by repeat' first | exact KeepT.nil | apply KeepT.p rfl | apply KeepT.ptr rfl | apply KeepT.skip) (by repeat' first | exact KeepB.nil | apply KeepB.boxP rfl rfl | apply KeepB.skip) ?_; (refine AOps.is ?_; refine AOps.v rfl rfl (by exact a_moveP rfl rfl rfl (by decide)) ?_); (refine AOps.is ?_; refine AOps.v rfl rfl (by exact a_add rfl rfl rfl (by exact g5) rfl (by decide)) ?_); (refine AOps.is ?_; refine AOps.v rfl rfl (by exact a_assignP rfl rfl rfl (by decide)) ?_); refine AOps.nil ?_) | refine ACode.condY rfl (by first | assumption | with_reducible rfl) ?_ | refine ACode.condN rfl (by with_reducible rfl) ?_ | refine ACode.skip ?_ | refine ACode.block ?_) | refine thenK.n ?_)
        all_goals
          refine ⟨i + 1, ?_, by omega, by omega⟩
          show Sub _ (twS k false (twR k false (i + 1)).W (i + 1))
          rw [hq2]
          refine sub_keep (is := [0, 1, 5, 6, 10, 11]) (js := [6]) ?_ ?_
          repeat' first | exact KeepT.nil | apply KeepT.p rfl | apply KeepT.ptr rfl | apply KeepT.own rfl | apply KeepT.clo rfl | apply KeepT.pt rfl | apply KeepT.tup rfl | apply KeepT.skip
          repeat' first | exact KeepB.nil | apply KeepB.boxP rfl rfl | apply KeepB.rowB rfl | apply KeepB.some rfl | apply KeepB.skip
      case neg =>
        have g2 : decide (1 < (i : Int)) = false := decide_eq_false (by omega)
        have e2 : twMost i = 20 := by simp [twMost, h2]
        rw [e2] at c3
        repeat' (first | (refine ACode.is ?_; first | refine ACode.seq ?_ | (refine ACode.isR (id := 12) ?_; refine ACode.regionK [0, 1, 4, 5, 6, 10, 11, 12, 13, 14, 15, 47, 51, 70] [6, 7, 13, 14, 18, 20, 45] (by repeat' first | exact KeepT.nil | apply KeepT.p rfl | apply KeepT.ptr rfl | apply KeepT.skip) (by repeat' first | exact KeepB.nil | apply KeepB.boxP rfl rfl | apply KeepB.skip) ?_; (refine AOps.is ?_; refine AOps.v rfl rfl (by exact a_moveP rfl rfl rfl (by decide)) ?_); (refine AOps.is ?_; refine AOps.v rfl rfl (by exact r_lss rfl rfl rfl (by exact g1) rfl (by decide)) ?_); refine AOps.nil ?_) | (refine ACode.isR (id := 14) ?_; refine ACode.regionK [0, 1, 4, 5, 6, 10, 11, 12, 13, 14, 15, 47, 51, 70] [6, 7, 13, 14, 18, 20, 45] (by repeat' first | exact KeepT.nil | apply KeepT.p rfl | apply KeepT.ptr rfl | apply KeepT.skip) (by repeat' first | exact KeepB.nil | apply KeepB.boxP rfl rfl | apply KeepB.skip) ?_; (refine AOps.is ?_; refine AOps.v rfl rfl (by exact a_assignP rfl rfl rfl (by decide)) ?_); refine AOps.nil ?_) | (refine ACode.isR (id := 15) ?_; refine ACode.regionK [0, 1, 4, 5, 6, 10, 11, 12, 13, 14, 15, 47, 51, 70] [6, 7, 13, 14, 18, 20, 45] (by repeat' first | exact KeepT.nil | apply KeepT.p rfl | apply KeepT.ptr rfl | apply KeepT.skip) (by repeat' first | exact KeepB.nil | apply KeepB.boxP rfl rfl | apply KeepB.skip) ?_; (refine AOps.is ?_; refine AOps.v rfl rfl (by exact a_moveP rfl rfl rfl (by decide)) ?_); (refine AOps.is ?_; refine AOps.v rfl rfl (by exact r_gtr rfl rfl rfl (by exact g2) rfl (by decide)) ?_); refine AOps.nil ?_) | (refine ACode.isR (id := 17) ?_; refine ACode.regionD [0, 1, 4, 5, 6, 10, 11, 12, 13, 14, 15, 47, 51, 70] [6, 7, 13, 14, 18, 20, 45] (by repeat' first | exact KeepT.nil | apply KeepT.p rfl | apply KeepT.ptr rfl | apply KeepT.skip) (by repeat' first | exact KeepB.nil | apply KeepB.boxP rfl rfl | apply KeepB.skip) (ACode.draws ?_); all_goals (refine Draws.v rfl rfl (by exact w_loadRN rfl rfl rfl (by rfl) (by rfl) rfl (by decide)) ?_); all_goals (refine Draws.v rfl rfl (by exact a_moveP rfl rfl rfl (by decide)) ?_); all_goals (refine Draws.v rfl rfl (by exact a_moveP rfl rfl rfl (by decide)) ?_); all_goals (refine Draws.v rfl rfl (by exact w_indexS rfl rfl rfl (by exact g6) (by exact g3) rfl (by decide)) ?_); all_goals (refine Draws.v rfl rfl (by exact w_load1 rfl rfl rfl rfl (by decide)) ?_); all_goals (refine Draws.v rfl rfl (by exact w_build rfl (by rfl) (by rfl) (by rfl) (by rfl) rfl (by decide)) ?_); all_goals (refine Draws.v rfl rfl (by exact a_moveP rfl rfl rfl (by decide)) ?_); all_goals (refine Draws.v rfl rfl (by exact w_callT (c3) rfl rfl rfl (by decide)) ?_); all_goals (refine Draws.v rfl rfl (by exact a_moveT rfl rfl rfl (by decide)) ?_); all_goals (refine Draws.v rfl rfl (by exact a_extract rfl rfl rfl rfl (by decide)) ?_); all_goals (refine Draws.v rfl rfl (by exact a_extract rfl rfl rfl rfl (by decide)) ?_); all_goals (refine Draws.v rfl rfl (by exact a_extract rfl rfl rfl rfl (by decide)) ?_); all_goals (refine Draws.m rfl rfl (by exact w_alloc rfl (by decide) rfl (by decide)) ?_); all_goals (refine Draws.m rfl rfl (by exact w_alloc rfl (by decide) rfl (by decide)) ?_); all_goals (((refine Draws.late2 [10, 11] 3 [0, 1, 2, 3, 4, 5, 6, 7, 8, 9, 10, 11, 12, 13] (by kernel_rfl) (by kernel_rfl) (by kernel_rfl) (by kernel_rfl) (by kernel_rfl) ?_ (LEach.consD 4 [0, 1, 2, 3, 4, 5, 6, 7, 8, 9, 10, 12, 13] (by kernel_rfl) (by kernel_rfl) ?_ (LEach.consD 4 [0, 1, 2, 3, 4, 5, 6, 7, 8, 9, 11, 12, 13] (by kernel_rfl) (by kernel_rfl) ?_ (LEach.consD 5 [0, 1, 2, 3, 4, 5, 6, 7, 8, 9, 12, 13] (by kernel_rfl) (by kernel_rfl) ?_ LEach.nil)))) <;> (repeat' (first | refine DAll.many (by rfl) ?_ | refine DEach.cons ?_ ?_ | exact DEach.nil | refine DOne.v rfl rfl rfl (by first | exact a_assignP rfl rfl rfl (by decide) | exact a_extract rfl rfl rfl rfl (by decide)) ?_ | refine DOne.w rfl rfl (by exact w_store rfl rfl rfl rfl rfl (by rfl) (by exact Nat.le_of_ble_eq_true rfl) rfl rfl) ?_ | refine DAll.fin (by rfl) ?_))))) | (refine ACode.isR (id := 18) ?_; refine ACode.regionK [0, 1, 4, 5, 6, 10, 11, 12, 13, 14, 15, 47, 51, 70] [6, 7, 13, 14, 18, 20, 45] (by repeat' first | exact KeepT.nil | apply KeepT.p rfl | apply KeepT.ptr rfl | apply KeepT.skip) (by repeat' first | exact KeepB.nil | apply KeepB.boxP rfl rfl | apply KeepB.skip) ?_; all_goals (refine AOps.v rfl rfl (by exact a_moveP rfl rfl rfl (by decide)) ?_); all_goals (refine AOps.v rfl rfl (by exact r_notB rfl rfl (by exact bF (by decide)) rfl (by decide)) ?_); all_goals (refine AOps.v rfl rfl (by exact a_moveP rfl rfl rfl (by decide)) ?_); all_goals (refine AOps.gY rfl rfl (by decide) rfl (by with_reducible rfl) rfl (by decide) (by exact w_fieldR rfl rfl rfl (by decide)) ?_); all_goals (refine AOps.gY rfl rfl (by decide) rfl (by with_reducible rfl) rfl (by decide) (by exact w_loadR1 rfl rfl rfl (by rfl) rfl (by decide)) ?_); all_goals (refine AOps.gY rfl rfl (by decide) rfl (by with_reducible rfl) rfl (by decide) (by exact r_notB rfl rfl (by exact bF (by decide)) rfl (by decide)) ?_); all_goals (refine AOps.v rfl rfl (by exact w_pickN rfl rfl (by with_reducible rfl) rfl rfl (by decide)) ?_); all_goals (refine AOps.nil ?_)) | (refine ACode.isR (id := 20) ?_; refine ACode.regionK [0, 1, 4, 5, 6, 10, 11, 12, 13, 14, 15, 47, 51, 70] [6, 7, 13, 14, 18, 20, 45] (by repeat' first | exact KeepT.nil | apply KeepT.p rfl | apply KeepT.ptr rfl | apply KeepT.skip) (by repeat' first | exact KeepB.nil | apply KeepB.boxP rfl rfl | apply KeepB.skip) ?_; (refine AOps.is ?_; refine AOps.v rfl rfl (by exact w_loadRN rfl rfl rfl (by rfl) (by rfl) rfl (by decide)) ?_); (refine AOps.is ?_; refine AOps.w rfl (by exact w_store rfl rfl rfl rfl rfl (by rfl) (by exact Nat.le_of_ble_eq_true rfl) rfl rfl) ?_); refine AOps.nil ?_) | (refine ACode.isR (id := 13) ?_; refine ACode.regionK [0, 1, 4, 5, 6, 10, 11, 12, 13, 14, 15, 47, 51, 70] [6, 7, 13, 14, 18, 20, 45] (by repeat' first | exact KeepT.nil | apply KeepT.p rfl | apply KeepT.ptr rfl | apply KeepT.skip) (by repeat' first | exact KeepB.nil | apply KeepB.boxP rfl rfl | apply KeepB.skip) ?_; (refine AOps.is ?_; refine AOps.v rfl rfl (by exact a_moveP rfl rfl rfl (by decide)) ?_); (refine AOps.is ?_; refine AOps.v rfl rfl (by exact a_add rfl rfl rfl (by exact g5) rfl (by decide)) ?_); (refine AOps.is ?_; refine AOps.v rfl rfl (by exact a_assignP rfl rfl rfl (by decide)) ?_); refine AOps.nil ?_) | refine ACode.condY rfl (by first | assumption | with_reducible rfl) ?_ | refine ACode.condN rfl (by first | assumption | with_reducible rfl) ?_ | refine ACode.skip ?_ | refine ACode.block ?_) | refine thenK.n ?_)
        all_goals
          refine ⟨i + 1, ?_, by omega, by omega⟩
          show Sub _ (twS k false (twR k false (i + 1)).W (i + 1))
          rw [hq2]
          refine sub_keep (is := [0, 1, 5, 6, 10, 11]) (js := [6]) ?_ ?_
          repeat' first | exact KeepT.nil | apply KeepT.p rfl | apply KeepT.ptr rfl | apply KeepT.own rfl | apply KeepT.clo rfl | apply KeepT.pt rfl | apply KeepT.tup rfl | apply KeepT.skip
          repeat' first | exact KeepB.nil | apply KeepB.boxP rfl rfl | apply KeepB.rowB rfl | apply KeepB.some rfl | apply KeepB.skip
    case inr =>
      obtain rfl : i = 4 := by omega
      clear c0 c1 c2
      change ACode _ _ _ (twS k false (twR k false 4).W 4) _
      generalize (twR k false 4).W = Wi at *
      obtain ⟨t2, u2, ws2, root2, r02, r12⟩ := Wi
      dsimp only at hr0
      subst hr0
      have hD : ((twD k false).map putF).flatten = frms (twD k false) := rfl
      rw [hD]
      have z1 : (0 : Int) ≤ 1 ∧ (1 : Int) < 18446744073709551616 := by decide
      have z0 : (0 : Int) ≤ 0 ∧ (0 : Int) < 18446744073709551616 := by decide
      have d1 := decRef_fn (encL 1 1 k 0 0 0) (Nat.le_trans (encL_le ..) (by decide)) (fun c hc => encL_range _ _ _ _ _ _ c hc)
      have d2 := decRef_fn (encL 2 1 0 0 0 0) (Nat.le_trans (encL_le ..) (by decide)) (fun c hc => encL_range _ _ _ _ _ _ c hc)
      rw [dec_enc z1.1 z1.2 hk.1 hk.2 z0.1 z0.2 z0.1 z0.2 z0.1 z0.2 hmay] at d1
      rw [dec_enc z1.1 z1.2 z0.1 z0.2 z0.1 z0.2 z0.1 z0.2 z0.1 z0.2 (by decide)] at d2
      have l1 := encL_le 1 1 k 0 0 0
      have l2 := encL_le 2 1 0 0 0 0
      have n1 : 9 ≤ (encL 1 1 k 0 0 0).length := by rw [encL_len]; decide
      have n2 : 9 ≤ (encL 2 1 0 0 0 0).length := by rw [encL_len]; decide
      have p1 : putOk (encL 1 1 k 0 0 0) := ⟨by omega, by omega⟩
      have p2 : putOk (encL 2 1 0 0 0 0) := ⟨by omega, by omega⟩
      have c4 := splitN_fn (twD k false) (fun b hb => by
        simp only [twD, cond_true, cond_false, List.mem_cons, List.not_mem_nil, or_false] at hb
        rcases hb with rfl | rfl
        · exact ⟨fun c hc => encL_range _ _ _ _ _ _ c hc, by assumption⟩
        · exact ⟨fun c hc => encL_range _ _ _ _ _ _ c hc, by assumption⟩) (by
        have q1 := putF_len _ p1
        have q2 := putF_len _ p2
        simp only [twD, cond_true, cond_false, frms, List.map_cons, List.map_nil, List.flatten_cons, List.flatten_nil, List.length_append, List.length_nil]
        omega) (by simp [twD])
      have f0 : (0 : Int) ≤ 0 ∧ (0 : Int) < (strs [(frms (twD k false), S4)]).length := by simp [strs]
      have f1 : (strs [(frms (twD k false), S4)])[(0 : Int).toNat]? = some (strV (frms (twD k false)) S4) := rfl
      have f2 : (!decide ((((strs [(frms (twD k false), S4)]).length : Nat) : Int) = 1)) = false := rfl
      have f3 := strs_cells [(frms (twD k false), S4)]
      have f4 : (!decide ((((rowsV (twD k false)).length : Nat) : Int) = 2)) = false := rfl
      have f5 : (rowsV (twD k false))[(0 : Int).toNat]? = some (.sl (byts (encL 2 1 0 0 0 0))) := rfl
      have f6 : (rowsV (twD k false))[(1 : Int).toNat]? = some (.sl (byts (encL 1 1 k 0 0 0))) := rfl
      have f7 : (0 : Int) ≤ 0 ∧ (0 : Int) < (rowsV (twD k false)).length := by simp [rowsV, twD]
      have f8 : (0 : Int) ≤ 1 ∧ (1 : Int) < (rowsV (twD k false)).length := by simp [rowsV, twD]
      have f9 : decide ((4 : Int) < 4) = false := rfl
      have f9b : decide (((4 : Nat) : Int) < 4) = false := rfl
      have f10 : ∀ e ∈ rowsV (twD k false), e.cells.length = 1 := fun e he => by
        obtain ⟨x, _, rfl⟩ := List.mem_map.1 he
        rfl
      have f11 : decide ([(IntKind.i64, (1 : Int)), (IntKind.u64, 1), (IntKind.u64, k), (IntKind.u64, 0), (IntKind.u64, 0), (IntKind.u64, 0)] = [(IntKind.i64, 1), (IntKind.u64, 1), (IntKind.u64, k), (IntKind.u64, 0), (IntKind.u64, 0), (IntKind.u64, 0)]) = true := by simp
      have f12 : decide ((0 : Int) = 0) = true := rfl
      clear o1 o2 o3 o4 hw a0 l1 l2 n1 n2 p1 p2 z1 z0
      unfold twS twV
      repeat' ((refine ACode.is ?_; first | refine ACode.seq ?_ | (refine ACode.isR (id := 12) ?_; refine ACode.regionK [0, 1, 4, 5, 6, 10, 11, 12, 13, 14, 15, 47, 51, 70] [6, 7, 13, 14, 18, 20, 45] (by repeat' first | exact KeepT.nil | apply KeepT.p rfl | apply KeepT.ptr rfl | apply KeepT.skip) (by repeat' first | exact KeepB.nil | apply KeepB.boxP rfl rfl | apply KeepB.skip) ?_; (refine AOps.is ?_; refine AOps.v rfl rfl (by exact a_moveP rfl rfl rfl (by decide)) ?_); (refine AOps.is ?_; refine AOps.v rfl rfl (by exact r_lss rfl rfl rfl (by exact f2) rfl (by decide)) ?_); refine AOps.nil ?_) | (refine ACode.isR (id := 21) ?_; refine ACode.regionK [0, 1, 4, 5, 6] [6, 7, 13, 14, 18, 20, 45] (by repeat' first | exact KeepT.nil | apply KeepT.p rfl | apply KeepT.ptr rfl | apply KeepT.skip) (by repeat' first | exact KeepB.nil | apply KeepB.boxP rfl rfl | apply KeepB.skip) ?_; (refine AOps.is ?_; refine AOps.v rfl rfl (by exact w_fieldR rfl rfl rfl (by decide)) ?_); (refine AOps.is ?_; refine AOps.v rfl rfl (by exact w_fieldR rfl rfl rfl (by decide)) ?_); (refine AOps.is ?_; refine AOps.v rfl rfl (by exact w_idxArr rfl rfl rfl (by exact f7) rfl (by decide)) ?_); (refine AOps.is ?_; refine AOps.v rfl rfl (by exact w_loadR1 rfl rfl rfl (by rfl) rfl (by decide)) ?_); (refine AOps.is ?_; refine AOps.v rfl rfl (by exact w_lenS rfl rfl rfl (by decide)) ?_); (refine AOps.is ?_; refine AOps.v rfl rfl (by exact r_neq rfl rfl rfl (by exact f2) rfl (by decide)) ?_); refine AOps.nil ?_) | (refine ACode.isR (id := 23) ?_; refine ACode.regionK [0, 1, 4, 5, 6] [6, 7, 13, 14, 18, 20, 45] (by repeat' first | exact KeepT.nil | apply KeepT.p rfl | apply KeepT.ptr rfl | apply KeepT.skip) (by repeat' first | exact KeepB.nil | apply KeepB.boxP rfl rfl | apply KeepB.skip) ?_; (refine AOps.is ?_; refine AOps.v rfl rfl (by exact w_fieldR rfl rfl rfl (by decide)) ?_); (refine AOps.is ?_; refine AOps.v rfl rfl (by exact w_fieldR rfl rfl rfl (by decide)) ?_); (refine AOps.is ?_; refine AOps.v rfl rfl (by exact w_idxArr rfl rfl rfl (by exact f7) rfl (by decide)) ?_); (refine AOps.is ?_; refine AOps.v rfl rfl (by exact w_loadR1 rfl rfl rfl (by rfl) rfl (by decide)) ?_); (refine AOps.is ?_; refine AOps.v rfl rfl (by exact w_indexS rfl rfl rfl (by exact f3) (by exact f1) rfl (by decide)) ?_); (refine AOps.is ?_; refine AOps.v rfl rfl (by exact w_fieldPt rfl rfl rfl (by decide)) ?_); (refine AOps.is ?_; refine AOps.v rfl rfl (by exact w_load1 rfl rfl rfl rfl (by decide)) ?_); (refine AOps.is ?_; refine AOps.v rfl rfl (by exact w_callT (c4) rfl rfl rfl (by decide)) ?_); (refine AOps.is ?_; refine AOps.v rfl rfl (by exact a_moveT rfl rfl rfl (by decide)) ?_); (refine AOps.is ?_; refine AOps.v rfl rfl (by exact a_extract rfl rfl rfl rfl (by decide)) ?_); (refine AOps.is ?_; refine AOps.v rfl rfl (by exact a_extract rfl rfl rfl rfl (by decide)) ?_); (refine AOps.is ?_; refine AOps.v rfl rfl (by exact a_assignP rfl rfl rfl (by decide)) ?_); (refine AOps.is ?_; refine AOps.v rfl rfl (by exact a_assignP rfl rfl rfl (by decide)) ?_); refine AOps.nil ?_) | (refine ACode.isR (id := 24) ?_; refine ACode.regionK [0, 1, 4, 5, 16] [6, 7, 13, 14, 18, 20, 45] (by repeat' first | exact KeepT.nil | apply KeepT.p rfl | apply KeepT.skip) (by repeat' first | exact KeepB.nil | apply KeepB.boxP rfl rfl | apply KeepB.skip) ?_; (refine AOps.is ?_; refine AOps.v rfl rfl (by exact a_moveP rfl rfl rfl (by decide)) ?_); (refine AOps.is ?_; refine AOps.v rfl rfl (by exact w_lenS rfl rfl rfl (by decide)) ?_); (refine AOps.is ?_; refine AOps.v rfl rfl (by exact r_neq rfl rfl rfl (by exact f2) rfl (by decide)) ?_); refine AOps.nil ?_) | (refine ACode.isR (id := 26) ?_; refine ACode.regionK [0, 1, 4, 5, 16] [6, 7, 13, 14, 18, 20, 45] (by repeat' first | exact KeepT.nil | apply KeepT.p rfl | apply KeepT.skip) (by repeat' first | exact KeepB.nil | apply KeepB.boxP rfl rfl | apply KeepB.skip) ?_; (refine AOps.is ?_; refine AOps.v rfl rfl (by exact a_moveP rfl rfl rfl (by decide)) ?_); (refine AOps.is ?_; refine AOps.v rfl rfl (by exact w_indexS rfl rfl rfl (by exact f10) (by exact f5) rfl (by decide)) ?_); (refine AOps.is ?_; refine AOps.v rfl rfl (by exact w_load1 rfl rfl rfl rfl (by decide)) ?_); (refine AOps.is ?_; refine AOps.v rfl rfl (by exact w_callT (d2) rfl rfl rfl (by decide)) ?_); (refine AOps.is ?_; refine AOps.v rfl rfl (by exact a_moveT rfl rfl rfl (by decide)) ?_); (refine AOps.is ?_; refine AOps.v rfl rfl (by exact a_extract rfl rfl rfl rfl (by decide)) ?_); (refine AOps.is ?_; refine AOps.v rfl rfl (by exact a_extract rfl rfl rfl rfl (by decide)) ?_); (refine AOps.is ?_; refine AOps.m rfl rfl (by exact w_alloc rfl (by decide) rfl (by decide)) ?_); (refine AOps.is ?_; refine AOps.w rfl (by exact w_store rfl rfl rfl rfl rfl (by rfl) (by exact Nat.le_of_ble_eq_true rfl) rfl rfl) ?_); (refine AOps.is ?_; refine AOps.v rfl rfl (by exact a_assignP rfl rfl rfl (by decide)) ?_); refine AOps.nil ?_) | (refine ACode.isR (id := 27) ?_; refine ACode.regionK [0, 1, 4, 5, 16, 18, 19] [6, 7, 13, 14, 18, 20, 45] (by repeat' first | exact KeepT.nil | apply KeepT.p rfl | apply KeepT.ptr rfl | apply KeepT.skip) (by repeat' first | exact KeepB.nil | apply KeepB.boxP rfl rfl | apply KeepB.skip) ?_; (refine AOps.is ?_; refine AOps.v rfl rfl (by exact a_moveP rfl rfl rfl (by decide)) ?_); (refine AOps.is ?_; refine AOps.v rfl rfl (by exact w_indexS rfl rfl rfl (by exact f10) (by exact f6) rfl (by decide)) ?_); (refine AOps.is ?_; refine AOps.v rfl rfl (by exact w_load1 rfl rfl rfl rfl (by decide)) ?_); (refine AOps.is ?_; refine AOps.v rfl rfl (by exact w_callT (d1) rfl rfl rfl (by decide)) ?_); (refine AOps.is ?_; refine AOps.v rfl rfl (by exact a_moveT rfl rfl rfl (by decide)) ?_); (refine AOps.is ?_; refine AOps.v rfl rfl (by exact a_extract rfl rfl rfl rfl (by decide)) ?_); (refine AOps.is ?_; refine AOps.v rfl rfl (by exact a_extract rfl rfl rfl rfl (by decide)) ?_); (refine AOps.is ?_; refine AOps.m rfl rfl (by exact w_alloc rfl (by decide) rfl (by decide)) ?_); (refine AOps.is ?_; refine AOps.w rfl (by exact w_store rfl rfl rfl rfl rfl (by rfl) (by exact Nat.le_of_ble_eq_true rfl) rfl rfl) ?_); (refine AOps.is ?_; refine AOps.v rfl rfl (by exact a_assignP rfl rfl rfl (by decide)) ?_); refine AOps.nil ?_) | (refine ACode.isR (id := 28) ?_; refine ACode.regionK [0, 1, 4, 5, 18, 19, 20, 21] [6, 7, 13, 14, 18, 20, 45] (by repeat' first | exact KeepT.nil | apply KeepT.p rfl | apply KeepT.ptr rfl | apply KeepT.skip) (by repeat' first | exact KeepB.nil | apply KeepB.boxP rfl rfl | apply KeepB.skip) ?_; (refine AOps.is ?_; refine AOps.v rfl rfl (by exact a_moveP rfl rfl rfl (by decide)) ?_); (refine AOps.is ?_; refine AOps.v rfl rfl (by exact r_notB rfl rfl (by exact f12) rfl (by decide)) ?_); refine AOps.nil ?_) | (refine ACode.isR (id := 29) ?_; refine ACode.regionK [0, 4, 5, 18, 19, 20, 21] [6, 7, 13, 14, 18, 20, 45] (by repeat' first | exact KeepT.nil | apply KeepT.p rfl | apply KeepT.ptr rfl | apply KeepT.skip) (by repeat' first | exact KeepB.nil | apply KeepB.boxP rfl rfl | apply KeepB.skip) ?_; (refine AOps.is ?_; refine AOps.v rfl rfl (by exact w_loadRN rfl rfl rfl (by rfl) (by rfl) rfl (by decide)) ?_); (refine AOps.is ?_; refine AOps.v rfl rfl (by exact w_loadRN rfl rfl rfl (by rfl) (by rfl) rfl (by decide)) ?_); (refine AOps.is ?_; refine AOps.w rfl (by exact w_store rfl rfl rfl rfl rfl (by rfl) (by exact Nat.le_of_ble_eq_true rfl) rfl rfl) ?_); (refine AOps.is ?_; refine AOps.w rfl (by exact w_store rfl rfl rfl rfl rfl (by rfl) (by exact Nat.le_of_ble_eq_true rfl) rfl rfl) ?_); refine AOps.nil ?_) | (refine ACode.isR (id := 30) ?_; refine ACode.regionK [0, 4, 5, 18, 19, 20, 21] [6, 7, 13, 14, 18, 20, 45] (by repeat' first | exact KeepT.nil | apply KeepT.p rfl | apply KeepT.ptr rfl | apply KeepT.skip) (by repeat' first | exact KeepB.nil | apply KeepB.boxP rfl rfl | apply KeepB.skip) ?_; all_goals (refine AOps.v rfl rfl (by exact a_moveP rfl rfl rfl (by decide)) ?_); all_goals (refine AOps.v rfl rfl (by exact a_moveP rfl rfl rfl (by decide)) ?_); all_goals (refine AOps.gY rfl rfl (by decide) rfl (by assumption) rfl (by decide) (by exact a_moveP rfl rfl rfl (by decide)) ?_); all_goals (refine AOps.gY rfl rfl (by decide) rfl (by assumption) rfl (by decide) (by exact r_eql rfl rfl rfl (by exact f12) rfl (by decide)) ?_); all_goals (refine AOps.v rfl rfl (by exact w_pickY rfl rfl (by assumption) rfl rfl (by decide)) ?_); all_goals (refine AOps.v rfl rfl (by exact a_moveP rfl rfl rfl (by decide)) ?_); all_goals (refine AOps.gY rfl rfl (by decide) rfl (by assumption) rfl (by decide) (by exact a_moveP rfl rfl rfl (by decide)) ?_); all_goals (refine AOps.gY rfl rfl (by decide) rfl (by assumption) rfl (by decide) (by exact r_eql rfl rfl rfl (by exact f12) rfl (by decide)) ?_); all_goals (refine AOps.v rfl rfl (by exact w_pickY rfl rfl (by assumption) rfl rfl (by decide)) ?_); all_goals (refine AOps.v rfl rfl (by exact a_moveP rfl rfl rfl (by decide)) ?_); all_goals (refine AOps.gY rfl rfl (by decide) rfl (by assumption) rfl (by decide) (by exact w_loadRN rfl rfl rfl (by rfl) (by rfl) rfl (by decide)) ?_); all_goals (refine AOps.gY rfl rfl (by decide) rfl (by assumption) rfl (by decide) (by exact a_moveP rfl rfl rfl (by decide)) ?_); all_goals (refine AOps.gY rfl rfl (by decide) rfl (by assumption) rfl (by decide) (by exact w_build rfl (by rfl) (by rfl) (by rfl) (by rfl) rfl (by decide)) ?_); all_goals (refine AOps.gY rfl rfl (by decide) rfl (by assumption) rfl (by decide) (by exact r_eqlT rfl rfl rfl rfl rfl rfl (by rfl) (by exact f11) rfl (by decide)) ?_); all_goals (refine AOps.v rfl rfl (by exact w_pickY rfl rfl (by assumption) rfl rfl (by decide)) ?_); all_goals (refine AOps.v rfl rfl (by exact a_moveP rfl rfl rfl (by decide)) ?_); all_goals (refine AOps.gY rfl rfl (by decide) rfl (by assumption) rfl (by decide) (by exact w_loadRN rfl rfl rfl (by rfl) (by rfl) rfl (by decide)) ?_); all_goals (refine AOps.gY rfl rfl (by decide) rfl (by assumption) rfl (by decide) (by exact w_build rfl (by rfl) (by rfl) (by rfl) (by rfl) rfl (by decide)) ?_); all_goals (refine AOps.gY rfl rfl (by decide) rfl (by assumption) rfl (by decide) (by exact r_eqlT rfl rfl rfl rfl rfl rfl (by rfl) (by exact f12) rfl (by decide)) ?_); all_goals (refine AOps.v rfl rfl (by exact w_pickY rfl rfl (by assumption) rfl rfl (by decide)) ?_); all_goals (refine AOps.v rfl rfl (by exact a_assignP rfl rfl rfl (by decide)) ?_); all_goals (refine AOps.nil ?_)) | refine ACode.condY rfl (by assumption) ?_ | refine ACode.condN rfl (by assumption) ?_ | refine ACode.skip ?_ | refine ACode.exit ?_ | refine ACode.ret ?_))
      all_goals exact ⟨by first | exact .inl rfl | exact .inr rfl, _, Sub.refl _, .p rfl (.tmp rfl)⟩

end Go.Proofs.YtiimegfejddhkaaDoor

/- The law SaveTwice: its function's contract. -/
namespace Go.Proofs.YtiimegfejddhkaaDoor
open Go Go.RowKit
set_option linter.unusedSimpArgs false
set_option linter.unusedVariables false
attribute [local irreducible] AOps ACode Step AStep Sub TChain TStep Fn twR

set_option maxRecDepth 100000 in
set_option maxHeartbeats 16000000 in
theorem twice_true (k : Int) (hk : U k) (hmay : mayB 1 1 k 0 0 0 = true) :
    Fn Tryd.prog 5 [.val (.int .u64 k), .val (.bool true)] (.p (.val (.bool true))) := by
  obtain ⟨a0, hw⟩ := tw_world k hk true
  have c1 := a0.nil rfl
  have c2 : Fn Tryd.prog 10 [entV 1 1 k 0 0 0] (.p (.val (.bool true))) := hmay ▸ mayRef_fn 1 1 k 0 0 0 hk.1 hk.2
  have c0 : Fn Tryd.prog 8 [.val (.int .i64 1), .val (.int .i64 1)] (.p (newD 1 1).pv) := new10_fn 1 1 (by decide) (by decide) (by decide) (by decide)
  obtain ⟨S4, hr0⟩ := tw7 k true hmay
  generalize newD 1 1 = W0 at *
  generalize hq0 : twR k true 0 = q0 at c1
  obtain ⟨⟨e1, s1, w1⟩, ⟨t1, u1, ws1, root1, r01, r11⟩, n1⟩ := q0
  dsimp only at c1
  refine fn_of2 Tryd.func5 rfl Tryd.ntmps5 (Nat.le_of_ble_eq_true rfl) ?_
  repeat' ((refine ACode.is ?_; first | refine ACode.seq ?_ | (refine ACode.isR (id := 0) ?_; refine ACode.regionK [0, 1] [6, 7, 13, 14, 18, 20, 45] (by repeat' first | exact KeepT.nil | apply KeepT.p rfl) (by repeat' first | exact KeepB.nil | apply KeepB.skip) ?_; (refine AOps.is ?_; refine AOps.v rfl rfl (by exact a_assignP rfl rfl rfl (by decide)) ?_); refine AOps.nil ?_) | (refine ACode.isR (id := 1) ?_; refine ACode.regionK [0, 1, 4] [6, 7, 13, 14, 18, 20, 45] (by repeat' first | exact KeepT.nil | apply KeepT.p rfl) (by repeat' first | exact KeepB.nil | apply KeepB.skip) ?_; (refine AOps.is ?_; refine AOps.v rfl rfl (by exact w_call (shown14_fn) rfl rfl rfl (by decide)) ?_); (refine AOps.is ?_; refine AOps.v rfl rfl (by exact a_assignP rfl rfl rfl (by decide)) ?_); refine AOps.nil ?_) | (refine ACode.isR (id := 2) ?_; refine ACode.regionK [0, 1, 4, 5] [6, 7, 13, 14, 18, 20, 45] (by repeat' first | exact KeepT.nil | apply KeepT.p rfl) (by repeat' first | exact KeepB.nil | apply KeepB.skip) ?_; (refine AOps.is ?_; refine AOps.v rfl rfl (by exact a_moveP rfl rfl rfl (by decide)) ?_); (refine AOps.is ?_; refine AOps.v rfl rfl (by exact w_build rfl (by rfl) (by rfl) (by rfl) (by rfl) rfl (by decide)) ?_); (refine AOps.is ?_; refine AOps.v rfl rfl (by exact w_call (c2) rfl rfl rfl (by decide)) ?_); (refine AOps.is ?_; refine AOps.v rfl rfl (by exact r_notB rfl rfl (by exact bF (by decide)) rfl (by decide)) ?_); refine AOps.nil ?_) | (refine ACode.isR (id := 4) ?_; refine ACode.regionK [0, 1, 4, 5] [6, 7, 13, 14, 18, 20, 45] (by repeat' first | exact KeepT.nil | apply KeepT.p rfl) (by repeat' first | exact KeepB.nil | apply KeepB.skip) ?_; (refine AOps.is ?_; refine AOps.v rfl rfl (by exact w_call (c0) rfl rfl rfl (by decide)) ?_); (refine AOps.is ?_; refine AOps.v rfl rfl (by exact a_moveP rfl rfl rfl (by decide)) ?_); (refine AOps.is ?_; refine AOps.v rfl rfl (by exact w_build rfl (by rfl) (by rfl) (by rfl) (by rfl) rfl (by decide)) ?_); (refine AOps.is ?_; refine AOps.v rfl rfl (by exact w_callT (c1) rfl rfl rfl (by decide)) ?_); (refine AOps.is ?_; refine AOps.v rfl rfl (by exact a_moveT rfl rfl rfl (by decide)) ?_); (refine AOps.is ?_; refine AOps.v rfl rfl (by exact a_extract rfl rfl rfl rfl (by decide)) ?_); (refine AOps.is ?_; refine AOps.v rfl rfl (by exact a_extract rfl rfl rfl rfl (by decide)) ?_); (refine AOps.is ?_; refine AOps.v rfl rfl (by exact a_extract rfl rfl rfl rfl (by decide)) ?_); (refine AOps.is ?_; refine AOps.m rfl rfl (by exact w_alloc rfl (by decide) rfl (by decide)) ?_); (refine AOps.is ?_; refine AOps.m rfl rfl (by exact w_alloc rfl (by decide) rfl (by decide)) ?_); (refine AOps.is ?_; refine AOps.w rfl (by exact w_store rfl rfl rfl rfl rfl (by rfl) (by exact Nat.le_of_ble_eq_true rfl) rfl rfl) ?_); (refine AOps.is ?_; refine AOps.w rfl (by exact w_store rfl rfl rfl rfl rfl (by rfl) (by exact Nat.le_of_ble_eq_true rfl) rfl rfl) ?_); (refine AOps.is ?_; refine AOps.v rfl rfl (by exact a_assignP rfl rfl rfl (by decide)) ?_); refine AOps.nil ?_) | (refine ACode.isR (id := 5) ?_; refine ACode.regionK [0, 1, 4, 5, 6, 8] [6, 7, 13, 14, 18, 20, 45] (by repeat' first | exact KeepT.nil | apply KeepT.p rfl | apply KeepT.ptr rfl) (by repeat' first | exact KeepB.nil | apply KeepB.boxP rfl rfl | apply KeepB.skip) ?_; (refine AOps.is ?_; refine AOps.v rfl rfl (by exact a_moveP rfl rfl rfl (by decide)) ?_); (refine AOps.is ?_; refine AOps.v rfl rfl (by exact r_notB rfl rfl (by exact bF (by decide)) rfl (by decide)) ?_); refine AOps.nil ?_) | (refine ACode.isR (id := 7) ?_; refine ACode.regionK [0, 1, 4, 5, 6] [6, 7, 13, 14, 18, 20, 45] (by repeat' first | exact KeepT.nil | apply KeepT.p rfl | apply KeepT.ptr rfl) (by repeat' first | exact KeepB.nil | apply KeepB.boxP rfl rfl | apply KeepB.skip) ?_; (refine AOps.is ?_; refine AOps.v rfl rfl (by exact a_assignP rfl rfl rfl (by decide)) ?_); refine AOps.nil ?_) | (refine ACode.isR (id := 8) ?_; refine ACode.regionK [0, 1, 4, 5, 6, 9] [6, 7, 13, 14, 18, 20, 45] (by repeat' first | exact KeepT.nil | apply KeepT.p rfl | apply KeepT.ptr rfl) (by repeat' first | exact KeepB.nil | apply KeepB.boxP rfl rfl | apply KeepB.skip) ?_; (refine AOps.is ?_; refine AOps.v rfl rfl (by exact a_moveP rfl rfl rfl (by decide)) ?_); refine AOps.nil ?_) | (refine ACode.isR (id := 9) ?_; refine ACode.regionK [0, 1, 4, 5, 6, 9] [6, 7, 13, 14, 18, 20, 45] (by repeat' first | exact KeepT.nil | apply KeepT.p rfl | apply KeepT.ptr rfl) (by repeat' first | exact KeepB.nil | apply KeepB.boxP rfl rfl | apply KeepB.skip) ?_; (refine AOps.is ?_; refine AOps.v rfl rfl (by exact a_assignP rfl rfl rfl (by decide)) ?_); refine AOps.nil ?_) | (refine ACode.isR (id := 10) ?_; refine ACode.regionK [0, 1, 4, 5, 6, 9] [6, 7, 13, 14, 18, 20, 45] (by repeat' first | exact KeepT.nil | apply KeepT.p rfl | apply KeepT.ptr rfl) (by repeat' first | exact KeepB.nil | apply KeepB.boxP rfl rfl | apply KeepB.skip) ?_; (refine AOps.is ?_; refine AOps.v rfl rfl (by exact a_moveP rfl rfl rfl (by decide)) ?_); (refine AOps.is ?_; refine AOps.v rfl rfl (by exact a_moveP rfl rfl rfl (by decide)) ?_); (refine AOps.is ?_; refine AOps.v rfl rfl (by exact a_sub rfl rfl rfl (by (simp only [Int.reduceAdd, Int.reduceSub, Int.reduceMul]; exact wrap_i64 _ (by omega))) rfl (by decide)) ?_); (refine AOps.is ?_; refine AOps.v rfl rfl (by exact a_moveP rfl rfl rfl (by decide)) ?_); (refine AOps.is ?_; refine AOps.v rfl rfl (by exact a_moveP rfl rfl rfl (by decide)) ?_); (refine AOps.is ?_; refine AOps.v rfl rfl (by exact a_sub rfl rfl rfl (by (simp only [Int.reduceAdd, Int.reduceSub, Int.reduceMul]; exact wrap_i64 _ (by omega))) rfl (by decide)) ?_); (refine AOps.is ?_; refine AOps.v rfl rfl (by exact w_buildSl rfl (by decide) (by decide) (by decide) (by decide) (by rfl) (by rfl) (by rfl) (by rfl) (by rfl) (by rfl) (by rfl) rfl (by decide)) ?_); (refine AOps.is ?_; refine AOps.v rfl rfl (by exact a_assignP rfl rfl rfl (by decide)) ?_); refine AOps.nil ?_) | (refine ACode.isR (id := 11) ?_; refine ACode.regionK [0, 1, 4, 5, 6, 10] [6, 7, 13, 14, 18, 20, 45] (by repeat' first | exact KeepT.nil | apply KeepT.p rfl | apply KeepT.ptr rfl) (by repeat' first | exact KeepB.nil | apply KeepB.boxP rfl rfl | apply KeepB.skip) ?_; (refine AOps.is ?_; refine AOps.v rfl rfl (by exact a_assignP rfl rfl rfl (by decide)) ?_); refine AOps.nil ?_) | refine ACode.condY rfl (by first | assumption | with_reducible rfl) ?_ | refine ACode.condN rfl (by with_reducible rfl) ?_ | refine ACode.skip ?_ | refine ACode.block ?_))
  refine ACode.loop (fun i => twS k true (twR k true i).W i) (fun i => i ≤ 4) (fun i => 4 - i) 0 ?h0 (by omega) ?rd
  case h0 =>
    show Sub _ (twS k true (twR k true 0).W 0)
    rw [hq0]
    refine sub_keep (is := [0, 1, 5, 6, 10, 11]) (js := [6]) ?_ ?_
    repeat' first | exact KeepT.nil | apply KeepT.p rfl | apply KeepT.ptr rfl | apply KeepT.own rfl | apply KeepT.clo rfl | apply KeepT.pt rfl | apply KeepT.tup rfl | apply KeepT.skip
    repeat' first | exact KeepB.nil | apply KeepB.boxP rfl rfl | apply KeepB.rowB rfl | apply KeepB.some rfl | apply KeepB.skip
  case rd =>
    intro i hi
    obtain ⟨o1, o2, o3, o4⟩ := hw i hi
    rcases Nat.lt_or_ge i 4 with h4 | h4
    case inl =>
      have c3 := (o4 h4).nil rfl
      have b1 := (tw_ok k true i h4).is
      rw [b1] at c3
      change ACode _ _ _ (twS k true (twR k true i).W i) _
      have hnext : ∀ W, (twR k true (i + 1)).W = W → twS k true (twR k true (i + 1)).W (i + 1) = twS k true W (i + 1) := fun W h => by rw [h]
      generalize (twR k true i).W = Wi at c3 ⊢
      obtain ⟨t2, u2, ws2, root2, r02, r12⟩ := Wi
      generalize hq2 : twR k true (i + 1) = q2 at c3 hnext
      obtain ⟨⟨e3, s3, w3⟩, ⟨t3, u3, ws3, root3, r03, r13⟩, n3⟩ := q2
      dsimp only at c3
      have g1 : decide ((i : Int) < 4) = true := decide_eq_true (by omega)
      have g3 := twV_at true i h4
      have g4 : (0 : Int) ≤ (i : Int) ∧ (i : Int) < ([.val (.int .i64 (twBit true 0)), .val (.int .i64 (twBit true 1)), .val (.int .i64 (twBit true 2)), .val (.int .i64 (twBit true 3))] : List PV).length := by simp; omega
      have g5 : IntKind.i64.wrap ((i : Int) + 1) = ((i + 1 : Nat) : Int) := by rw [wrap_i64 _ (by omega)]; omega
      have g6 := twV_cells true
      clear o1 o2 o3 o4 b1 hr0 hw a0 c0 c1 c2
      unfold twS twV
      by_cases h2 : 1 < i
      case pos =>
        have g2 : decide (1 < (i : Int)) = true := decide_eq_true (by omega)
        have e2 : twMost i = 1 := by simp [twMost, h2]
        rw [e2] at c3
        repeat' (first | (refine ACode.is ?_; first | refine ACode.seq ?_ | (refine ACode.isR (id := 12) ?_; refine ACode.regionK [0, 1, 4, 5, 6, 10, 11, 12, 13, 14, 15, 47, 51, 70] [6, 7, 13, 14, 18, 20, 45] (by repeat' first | exact KeepT.nil | apply KeepT.p rfl | apply KeepT.ptr rfl | apply KeepT.skip) (by repeat' first | exact KeepB.nil | apply KeepB.boxP rfl rfl | apply KeepB.skip) ?_; (refine AOps.is ?_; refine AOps.v rfl rfl (by exact a_moveP rfl rfl rfl (by decide)) ?_); (refine AOps.is ?_; refine AOps.v rfl rfl (by exact r_lss rfl rfl rfl (by exact g1) rfl (by decide)) ?_); refine AOps.nil ?_) | (refine ACode.isR (id := 14) ?_; refine ACode.regionK [0, 1, 4, 5, 6, 10, 11, 12, 13, 14, 15, 47, 51, 70] [6, 7, 13, 14, 18, 20, 45] (by repeat' first | exact KeepT.nil | apply KeepT.p rfl | apply KeepT.ptr rfl | apply KeepT.skip) (by repeat' first | exact KeepB.nil | apply KeepB.boxP rfl rfl | apply KeepB.skip) ?_; (refine AOps.is ?_; refine AOps.v rfl rfl (by exact a_assignP rfl rfl rfl (by decide)) ?_); refine AOps.nil ?_) | (refine ACode.isR (id := 15) ?_; refine ACode.regionK [0, 1, 4, 5, 6, 10, 11, 12, 13, 14, 15, 47, 51, 70] [6, 7, 13, 14, 18, 20, 45] (by repeat' first | exact KeepT.nil | apply KeepT.p rfl | apply KeepT.ptr rfl | apply KeepT.skip) (by repeat' first | exact KeepB.nil | apply KeepB.boxP rfl rfl | apply KeepB.skip) ?_; (refine AOps.is ?_; refine AOps.v rfl rfl (by exact a_moveP rfl rfl rfl (by decide)) ?_); (refine AOps.is ?_; refine AOps.v rfl rfl (by exact r_gtr rfl rfl rfl (by exact g2) rfl (by decide)) ?_); refine AOps.nil ?_) | (refine ACode.isR (id := 16) ?_; refine ACode.regionK [0, 1, 4, 5, 6, 10, 11, 12, 13, 14, 15, 47, 51, 70] [6, 7, 13, 14, 18, 20, 45] (by repeat' first | exact KeepT.nil | apply KeepT.p rfl | apply KeepT.ptr rfl | apply KeepT.skip) (by repeat' first | exact KeepB.nil | apply KeepB.boxP rfl rfl | apply KeepB.skip) ?_; (refine AOps.is ?_; refine AOps.v rfl rfl (by exact a_assignP rfl rfl rfl (by decide)) ?_); refine AOps.nil ?_) | (refine ACode.isR (id := 17) ?_; refine ACode.regionD [0, 1, 4, 5, 6, 10, 11, 12, 13, 14, 15, 47, 51, 70] [6, 7, 13, 14, 18, 20, 45] (by repeat' first | exact KeepT.nil | apply KeepT.p rfl | apply KeepT.ptr rfl | apply KeepT.skip) (by repeat' first | exact KeepB.nil | apply KeepB.boxP rfl rfl | apply KeepB.skip) (ACode.draws ?_); all_goals (refine Draws.v rfl rfl (by exact w_loadRN rfl rfl rfl (by rfl) (by rfl) rfl (by decide)) ?_); all_goals (refine Draws.v rfl rfl (by exact a_moveP rfl rfl rfl (by decide)) ?_); all_goals (refine Draws.v rfl rfl (by exact a_moveP rfl rfl rfl (by decide)) ?_); all_goals (refine Draws.v rfl rfl (by exact w_indexS rfl rfl rfl (by exact g6) (by exact g3) rfl (by decide)) ?_); all_goals (refine Draws.v rfl rfl (by exact w_load1 rfl rfl rfl rfl (by decide)) ?_); all_goals (refine Draws.v rfl rfl (by exact w_build rfl (by rfl) (by rfl) (by rfl) (by rfl) rfl (by decide)) ?_); all_goals (refine Draws.v rfl rfl (by exact a_moveP rfl rfl rfl (by decide)) ?_); all_goals (refine Draws.v rfl rfl (by exact w_callT (c3) rfl rfl rfl (by decide)) ?_); all_goals (refine Draws.v rfl rfl (by exact a_moveT rfl rfl rfl (by decide)) ?_); all_goals (refine Draws.v rfl rfl (by exact a_extract rfl rfl rfl rfl (by decide)) ?_); all_goals (refine Draws.v rfl rfl (by exact a_extract rfl rfl rfl rfl (by decide)) ?_); all_goals (refine Draws.v rfl rfl (by exact a_extract rfl rfl rfl rfl (by decide)) ?_); all_goals (refine Draws.m rfl rfl (by exact w_alloc rfl (by decide) rfl (by decide)) ?_); all_goals (refine Draws.m rfl rfl (by exact w_alloc rfl (by decide) rfl (by decide)) ?_); all_goals (((refine Draws.late2 [10, 11] 3 [0, 1, 2, 3, 4, 5, 6, 7, 8, 9, 10, 11, 12, 13] (by kernel_rfl) (by kernel_rfl) (by kernel_rfl) (by kernel_rfl) (by kernel_rfl) ?_ (LEach.consD 4 [0, 1, 2, 3, 4, 5, 6, 7, 8, 9, 10, 12, 13] (by kernel_rfl) (by kernel_rfl) ?_ (LEach.consD 4 [0, 1, 2, 3, 4, 5, 6, 7, 8, 9, 11, 12, 13] (by kernel_rfl) (by kernel_rfl) ?_ (LEach.consD 5 [0, 1, 2, 3, 4, 5, 6, 7, 8, 9, 12, 13] (by kernel_rfl) (by kernel_rfl) ?_ LEach.nil)))) <;> (repeat' (first | refine DAll.many (by rfl) ?_ | refine DEach.cons ?_ ?_ | exact DEach.nil | refine DOne.v rfl rfl rfl (by first | exact a_assignP rfl rfl rfl (by decide) | exact a_extract rfl rfl rfl rfl (by decide)) ?_ | refine DOne.w rfl rfl (by exact w_store rfl rfl rfl rfl rfl (by rfl) (by exact Nat.le_of_ble_eq_true rfl) rfl rfl) ?_ | refine DAll.fin (by rfl) ?_))))) | (refine ACode.isR (id := 18) ?_; refine ACode.regionK [0, 1, 4, 5, 6, 10, 11, 12, 13, 14, 15, 47, 51, 70] [6, 7, 13, 14, 18, 20, 45] (by repeat' first | exact KeepT.nil | apply KeepT.p rfl | apply KeepT.ptr rfl | apply KeepT.skip) (by repeat' first | exact KeepB.nil | apply KeepB.boxP rfl rfl | apply KeepB.skip) ?_; all_goals (refine AOps.v rfl rfl (by exact a_moveP rfl rfl rfl (by decide)) ?_); all_goals (refine AOps.v rfl rfl (by exact r_notB rfl rfl (by exact bF (by decide)) rfl (by decide)) ?_); all_goals (refine AOps.v rfl rfl (by exact a_moveP rfl rfl rfl (by decide)) ?_); all_goals (refine AOps.gY rfl rfl (by decide) rfl (by with_reducible rfl) rfl (by decide) (by exact w_fieldR rfl rfl rfl (by decide)) ?_); all_goals (refine AOps.gY rfl rfl (by decide) rfl (by with_reducible rfl) rfl (by decide) (by exact w_loadR1 rfl rfl rfl (by rfl) rfl (by decide)) ?_); all_goals (refine AOps.gY rfl rfl (by decide) rfl (by with_reducible rfl) rfl (by decide) (by exact r_notB rfl rfl (by exact bF (by decide)) rfl (by decide)) ?_); all_goals (refine AOps.v rfl rfl (by exact w_pickN rfl rfl (by with_reducible rfl) rfl rfl (by decide)) ?_); all_goals (refine AOps.nil ?_)) | (refine ACode.isR (id := 20) ?_; refine ACode.regionK [0, 1, 4, 5, 6, 10, 11, 12, 13, 14, 15, 47, 51, 70] [6, 7, 13, 14, 18, 20, 45] (by repeat' first | exact KeepT.nil | apply KeepT.p rfl | apply KeepT.ptr rfl | apply KeepT.skip) (by repeat' first | exact KeepB.nil | apply KeepB.boxP rfl rfl | apply KeepB.skip) ?_; (refine AOps.is ?_; refine AOps.v rfl rfl (by exact w_loadRN rfl rfl rfl (by rfl) (by rfl) rfl (by decide)) ?_); (refine AOps.is ?_; refine AOps.w rfl (by exact w_store rfl rfl rfl rfl rfl (by rfl) (by exact Nat.le_of_ble_eq_true rfl) rfl rfl) ?_); refine AOps.nil ?_) | (refine ACode.isR (id := 13) ?_; refine ACode.regionK [0, 1, 4, 5, 6, 10, 11, 12, 13, 14, 15, 47, 51, 70] [6, 7, 13, 14, 18, 20, 45] (by repeat' first | exact KeepT.nil | apply KeepT.p rfl | apply KeepT.ptr rfl | apply KeepT.skip) (by repeat' first | exact KeepB.nil | apply KeepB.boxP rfl rfl | apply KeepB.skip) ?_; (refine AOps.is ?_; refine AOps.v rfl rfl (by exact a_moveP rfl rfl rfl (by decide)) ?_); (refine AOps.is ?_; refine AOps.v rfl rfl (by exact a_add rfl rfl rfl (by exact g5) rfl (by decide)) ?_); (refine AOps.is ?_; refine AOps.v rfl rfl (by exact a_assignP rfl rfl rfl (by decide)) ?_); refine AOps.nil ?_) | refine ACode.condY rfl (by first | assumption | with_reducible rfl) ?_ | refine ACode.condN rfl (by with_reducible rfl) ?_ | refine ACode.skip ?_ | refine ACode.block ?_) | refine thenK.n ?_)
        all_goals
          refine ⟨i + 1, ?_, by omega, by omega⟩
          show Sub _ (twS k true (twR k true (i + 1)).W (i + 1))
          rw [hq2]
          refine sub_keep (is := [0, 1, 5, 6, 10, 11]) (js := [6]) ?_ ?_
          repeat' first | exact KeepT.nil | apply KeepT.p rfl | apply KeepT.ptr rfl | apply KeepT.own rfl | apply KeepT.clo rfl | apply KeepT.pt rfl | apply KeepT.tup rfl | apply KeepT.skip
          repeat' first | exact KeepB.nil | apply KeepB.boxP rfl rfl | apply KeepB.rowB rfl | apply KeepB.some rfl | apply KeepB.skip
      case neg =>
        have g2 : decide (1 < (i : Int)) = false := decide_eq_false (by omega)
        have e2 : twMost i = 20 := by simp [twMost, h2]
        rw [e2] at c3
        repeat' (first | (refine ACode.is ?_; first | refine ACode.seq ?_ | (refine ACode.isR (id := 12) ?_; refine ACode.regionK [0, 1, 4, 5, 6, 10, 11, 12, 13, 14, 15, 47, 51, 70] [6, 7, 13, 14, 18, 20, 45] (by repeat' first | exact KeepT.nil | apply KeepT.p rfl | apply KeepT.ptr rfl | apply KeepT.skip) (by repeat' first | exact KeepB.nil | apply KeepB.boxP rfl rfl | apply KeepB.skip) ?_; (refine AOps.is ?_; refine AOps.v rfl rfl (by exact a_moveP rfl rfl rfl (by decide)) ?_); (refine AOps.is ?_; refine AOps.v rfl rfl (by exact r_lss rfl rfl rfl (by exact g1) rfl (by decide)) ?_); refine AOps.nil ?_) | (refine ACode.isR (id := 14) ?_; refine ACode.regionK [0, 1, 4, 5, 6, 10, 11, 12, 13, 14, 15, 47, 51, 70] [6, 7, 13, 14, 18, 20, 45] (by repeat' first | exact KeepT.nil | apply KeepT.p rfl | apply KeepT.ptr rfl | apply KeepT.skip) (by repeat' first | exact KeepB.nil | apply KeepB.boxP rfl rfl | apply KeepB.skip) ?_; (refine AOps.is ?_; refine AOps.v rfl rfl (by exact a_assignP rfl rfl rfl (by decide)) ?_); refine AOps.nil ?_) | (refine ACode.isR (id := 15) ?_; refine ACode.regionK [0, 1, 4, 5, 6, 10, 11, 12, 13, 14, 15, 47, 51, 70] [6, 7, 13, 14, 18, 20, 45] (by repeat' first | exact KeepT.nil | apply KeepT.p rfl | apply KeepT.ptr rfl | apply KeepT.skip) (by repeat' first | exact KeepB.nil | apply KeepB.boxP rfl rfl | apply KeepB.skip) ?_; (refine AOps.is ?_; refine AOps.v rfl rfl (by exact a_moveP rfl rfl rfl (by decide)) ?_); (refine AOps.is ?_; refine AOps.v rfl rfl (by exact r_gtr rfl rfl rfl (by exact g2) rfl (by decide)) ?_); refine AOps.nil ?_) | (refine ACode.isR (id := 17) ?_; refine ACode.regionD [0, 1, 4, 5, 6, 10, 11, 12, 13, 14, 15, 47, 51, 70] [6, 7, 13, 14, 18, 20, 45] (by repeat' first | exact KeepT.nil | apply KeepT.p rfl | apply KeepT.ptr rfl | apply KeepT.skip) (by repeat' first | exact KeepB.nil | apply KeepB.boxP rfl rfl | apply KeepB.skip) (ACode.draws ?_); all_goals (refine Draws.v rfl rfl (by exact w_loadRN rfl rfl rfl (by rfl) (by rfl) rfl (by decide)) ?_); all_goals (refine Draws.v rfl rfl (by exact a_moveP rfl rfl rfl (by decide)) ?_); all_goals (refine Draws.v rfl rfl (by exact a_moveP rfl rfl rfl (by decide)) ?_); all_goals (refine Draws.v rfl rfl (by exact w_indexS rfl rfl rfl (by exact g6) (by exact g3) rfl (by decide)) ?_); all_goals (refine Draws.v rfl rfl (by exact w_load1 rfl rfl rfl rfl (by decide)) ?_); all_goals (refine Draws.v rfl rfl (by exact w_build rfl (by rfl) (by rfl) (by rfl) (by rfl) rfl (by decide)) ?_); all_goals (refine Draws.v rfl rfl (by exact a_moveP rfl rfl rfl (by decide)) ?_); all_goals (refine Draws.v rfl rfl (by exact w_callT (c3) rfl rfl rfl (by decide)) ?_); all_goals (refine Draws.v rfl rfl (by exact a_moveT rfl rfl rfl (by decide)) ?_); all_goals (refine Draws.v rfl rfl (by exact a_extract rfl rfl rfl rfl (by decide)) ?_); all_goals (refine Draws.v rfl rfl (by exact a_extract rfl rfl rfl rfl (by decide)) ?_); all_goals (refine Draws.v rfl rfl (by exact a_extract rfl rfl rfl rfl (by decide)) ?_); all_goals (refine Draws.m rfl rfl (by exact w_alloc rfl (by decide) rfl (by decide)) ?_); all_goals (refine Draws.m rfl rfl (by exact w_alloc rfl (by decide) rfl (by decide)) ?_); all_goals (((refine Draws.late2 [10, 11] 3 [0, 1, 2, 3, 4, 5, 6, 7, 8, 9, 10, 11, 12, 13] (by kernel_rfl) (by kernel_rfl) (by kernel_rfl) (by kernel_rfl) (by kernel_rfl) ?_ (LEach.consD 4 [0, 1, 2, 3, 4, 5, 6, 7, 8, 9, 10, 12, 13] (by kernel_rfl) (by kernel_rfl) ?_ (LEach.consD 4 [0, 1, 2, 3, 4, 5, 6, 7, 8, 9, 11, 12, 13] (by kernel_rfl) (by kernel_rfl) ?_ (LEach.consD 5 [0, 1, 2, 3, 4, 5, 6, 7, 8, 9, 12, 13] (by kernel_rfl) (by kernel_rfl) ?_ LEach.nil)))) <;> (repeat' (first | refine DAll.many (by rfl) ?_ | refine DEach.cons ?_ ?_ | exact DEach.nil | refine DOne.v rfl rfl rfl (by first | exact a_assignP rfl rfl rfl (by decide) | exact a_extract rfl rfl rfl rfl (by decide)) ?_ | refine DOne.w rfl rfl (by exact w_store rfl rfl rfl rfl rfl (by rfl) (by exact Nat.le_of_ble_eq_true rfl) rfl rfl) ?_ | refine DAll.fin (by rfl) ?_))))) | (refine ACode.isR (id := 18) ?_; refine ACode.regionK [0, 1, 4, 5, 6, 10, 11, 12, 13, 14, 15, 47, 51, 70] [6, 7, 13, 14, 18, 20, 45] (by repeat' first | exact KeepT.nil | apply KeepT.p rfl | apply KeepT.ptr rfl | apply KeepT.skip) (by repeat' first | exact KeepB.nil | apply KeepB.boxP rfl rfl | apply KeepB.skip) ?_; all_goals (refine AOps.v rfl rfl (by exact a_moveP rfl rfl rfl (by decide)) ?_); all_goals (refine AOps.v rfl rfl (by exact r_notB rfl rfl (by exact bF (by decide)) rfl (by decide)) ?_); all_goals (refine AOps.v rfl rfl (by exact a_moveP rfl rfl rfl (by decide)) ?_); all_goals (refine AOps.gY rfl rfl (by decide) rfl (by with_reducible rfl) rfl (by decide) (by exact w_fieldR rfl rfl rfl (by decide)) ?_); all_goals (refine AOps.gY rfl rfl (by decide) rfl (by with_reducible rfl) rfl (by decide) (by exact w_loadR1 rfl rfl rfl (by rfl) rfl (by decide)) ?_); all_goals (refine AOps.gY rfl rfl (by decide) rfl (by with_reducible rfl) rfl (by decide) (by exact r_notB rfl rfl (by exact bF (by decide)) rfl (by decide)) ?_); all_goals (refine AOps.v rfl rfl (by exact w_pickN rfl rfl (by with_reducible rfl) rfl rfl (by decide)) ?_); all_goals (refine AOps.nil ?_)) | (refine ACode.isR (id := 20) ?_; refine ACode.regionK [0, 1, 4, 5, 6, 10, 11, 12, 13, 14, 15, 47, 51, 70] [6, 7, 13, 14, 18, 20, 45] (by repeat' first | exact KeepT.nil | apply KeepT.p rfl | apply KeepT.ptr rfl | apply KeepT.skip) (by repeat' first | exact KeepB.nil | apply KeepB.boxP rfl rfl | apply KeepB.skip) ?_; (refine AOps.is ?_; refine AOps.v rfl rfl (by exact w_loadRN rfl rfl rfl (by rfl) (by rfl) rfl (by decide)) ?_); (refine AOps.is ?_; refine AOps.w rfl (by exact w_store rfl rfl rfl rfl rfl (by rfl) (by exact Nat.le_of_ble_eq_true rfl) rfl rfl) ?_); refine AOps.nil ?_) | (refine ACode.isR (id := 13) ?_; refine ACode.regionK [0, 1, 4, 5, 6, 10, 11, 12, 13, 14, 15, 47, 51, 70] [6, 7, 13, 14, 18, 20, 45] (by repeat' first | exact KeepT.nil | apply KeepT.p rfl | apply KeepT.ptr rfl | apply KeepT.skip) (by repeat' first | exact KeepB.nil | apply KeepB.boxP rfl rfl | apply KeepB.skip) ?_; (refine AOps.is ?_; refine AOps.v rfl rfl (by exact a_moveP rfl rfl rfl (by decide)) ?_); (refine AOps.is ?_; refine AOps.v rfl rfl (by exact a_add rfl rfl rfl (by exact g5) rfl (by decide)) ?_); (refine AOps.is ?_; refine AOps.v rfl rfl (by exact a_assignP rfl rfl rfl (by decide)) ?_); refine AOps.nil ?_) | refine ACode.condY rfl (by first | assumption | with_reducible rfl) ?_ | refine ACode.condN rfl (by first | assumption | with_reducible rfl) ?_ | refine ACode.skip ?_ | refine ACode.block ?_) | refine thenK.n ?_)
        all_goals
          refine ⟨i + 1, ?_, by omega, by omega⟩
          show Sub _ (twS k true (twR k true (i + 1)).W (i + 1))
          rw [hq2]
          refine sub_keep (is := [0, 1, 5, 6, 10, 11]) (js := [6]) ?_ ?_
          repeat' first | exact KeepT.nil | apply KeepT.p rfl | apply KeepT.ptr rfl | apply KeepT.own rfl | apply KeepT.clo rfl | apply KeepT.pt rfl | apply KeepT.tup rfl | apply KeepT.skip
          repeat' first | exact KeepB.nil | apply KeepB.boxP rfl rfl | apply KeepB.rowB rfl | apply KeepB.some rfl | apply KeepB.skip
    case inr =>
      obtain rfl : i = 4 := by omega
      clear c0 c1 c2
      change ACode _ _ _ (twS k true (twR k true 4).W 4) _
      generalize (twR k true 4).W = Wi at *
      obtain ⟨t2, u2, ws2, root2, r02, r12⟩ := Wi
      dsimp only at hr0
      subst hr0
      have hD : ((twD k true).map putF).flatten = frms (twD k true) := rfl
      rw [hD]
      have z1 : (0 : Int) ≤ 1 ∧ (1 : Int) < 18446744073709551616 := by decide
      have z0 : (0 : Int) ≤ 0 ∧ (0 : Int) < 18446744073709551616 := by decide
      have d1 := decRef_fn (encL 1 1 k 0 0 0) (Nat.le_trans (encL_le ..) (by decide)) (fun c hc => encL_range _ _ _ _ _ _ c hc)
      have d2 := decRef_fn (encL 2 1 0 0 0 0) (Nat.le_trans (encL_le ..) (by decide)) (fun c hc => encL_range _ _ _ _ _ _ c hc)
      rw [dec_enc z1.1 z1.2 hk.1 hk.2 z0.1 z0.2 z0.1 z0.2 z0.1 z0.2 hmay] at d1
      rw [dec_enc z1.1 z1.2 z0.1 z0.2 z0.1 z0.2 z0.1 z0.2 z0.1 z0.2 (by decide)] at d2
      have l1 := encL_le 1 1 k 0 0 0
      have l2 := encL_le 2 1 0 0 0 0
      have n1 : 9 ≤ (encL 1 1 k 0 0 0).length := by rw [encL_len]; decide
      have n2 : 9 ≤ (encL 2 1 0 0 0 0).length := by rw [encL_len]; decide
      have p1 : putOk (encL 1 1 k 0 0 0) := ⟨by omega, by omega⟩
      have p2 : putOk (encL 2 1 0 0 0 0) := ⟨by omega, by omega⟩
      have c4 := splitN_fn (twD k true) (fun b hb => by
        simp only [twD, cond_true, cond_false, List.mem_cons, List.not_mem_nil, or_false] at hb
        rcases hb with rfl | rfl
        · exact ⟨fun c hc => encL_range _ _ _ _ _ _ c hc, by assumption⟩
        · exact ⟨fun c hc => encL_range _ _ _ _ _ _ c hc, by assumption⟩) (by
        have q1 := putF_len _ p1
        have q2 := putF_len _ p2
        simp only [twD, cond_true, cond_false, frms, List.map_cons, List.map_nil, List.flatten_cons, List.flatten_nil, List.length_append, List.length_nil]
        omega) (by simp [twD])
      have f0 : (0 : Int) ≤ 0 ∧ (0 : Int) < (strs [(frms (twD k true), S4)]).length := by simp [strs]
      have f1 : (strs [(frms (twD k true), S4)])[(0 : Int).toNat]? = some (strV (frms (twD k true)) S4) := rfl
      have f2 : (!decide ((((strs [(frms (twD k true), S4)]).length : Nat) : Int) = 1)) = false := rfl
      have f3 := strs_cells [(frms (twD k true), S4)]
      have f4 : (!decide ((((rowsV (twD k true)).length : Nat) : Int) = 2)) = false := rfl
      have f5 : (rowsV (twD k true))[(0 : Int).toNat]? = some (.sl (byts (encL 1 1 k 0 0 0))) := rfl
      have f6 : (rowsV (twD k true))[(1 : Int).toNat]? = some (.sl (byts (encL 2 1 0 0 0 0))) := rfl
      have f7 : (0 : Int) ≤ 0 ∧ (0 : Int) < (rowsV (twD k true)).length := by simp [rowsV, twD]
      have f8 : (0 : Int) ≤ 1 ∧ (1 : Int) < (rowsV (twD k true)).length := by simp [rowsV, twD]
      have f9 : decide ((4 : Int) < 4) = false := rfl
      have f9b : decide (((4 : Nat) : Int) < 4) = false := rfl
      have f10 : ∀ e ∈ rowsV (twD k true), e.cells.length = 1 := fun e he => by
        obtain ⟨x, _, rfl⟩ := List.mem_map.1 he
        rfl
      have f11 : decide ([(IntKind.i64, (1 : Int)), (IntKind.u64, 1), (IntKind.u64, k), (IntKind.u64, 0), (IntKind.u64, 0), (IntKind.u64, 0)] = [(IntKind.i64, 1), (IntKind.u64, 1), (IntKind.u64, k), (IntKind.u64, 0), (IntKind.u64, 0), (IntKind.u64, 0)]) = true := by simp
      have f12 : decide ((0 : Int) = 0) = true := rfl
      clear o1 o2 o3 o4 hw a0 l1 l2 n1 n2 p1 p2 z1 z0
      unfold twS twV
      repeat' ((refine ACode.is ?_; first | refine ACode.seq ?_ | (refine ACode.isR (id := 12) ?_; refine ACode.regionK [0, 1, 4, 5, 6, 10, 11, 12, 13, 14, 15, 47, 51, 70] [6, 7, 13, 14, 18, 20, 45] (by repeat' first | exact KeepT.nil | apply KeepT.p rfl | apply KeepT.ptr rfl | apply KeepT.skip) (by repeat' first | exact KeepB.nil | apply KeepB.boxP rfl rfl | apply KeepB.skip) ?_; (refine AOps.is ?_; refine AOps.v rfl rfl (by exact a_moveP rfl rfl rfl (by decide)) ?_); (refine AOps.is ?_; refine AOps.v rfl rfl (by exact r_lss rfl rfl rfl (by exact f2) rfl (by decide)) ?_); refine AOps.nil ?_) | (refine ACode.isR (id := 21) ?_; refine ACode.regionK [0, 1, 4, 5, 6] [6, 7, 13, 14, 18, 20, 45] (by repeat' first | exact KeepT.nil | apply KeepT.p rfl | apply KeepT.ptr rfl | apply KeepT.skip) (by repeat' first | exact KeepB.nil | apply KeepB.boxP rfl rfl | apply KeepB.skip) ?_; (refine AOps.is ?_; refine AOps.v rfl rfl (by exact w_fieldR rfl rfl rfl (by decide)) ?_); (refine AOps.is ?_; refine AOps.v rfl rfl (by exact w_fieldR rfl rfl rfl (by decide)) ?_); (refine AOps.is ?_; refine AOps.v rfl rfl (by exact w_idxArr rfl rfl rfl (by exact f7) rfl (by decide)) ?_); (refine AOps.is ?_; refine AOps.v rfl rfl (by exact w_loadR1 rfl rfl rfl (by rfl) rfl (by decide)) ?_); (refine AOps.is ?_; refine AOps.v rfl rfl (by exact w_lenS rfl rfl rfl (by decide)) ?_); (refine AOps.is ?_; refine AOps.v rfl rfl (by exact r_neq rfl rfl rfl (by exact f2) rfl (by decide)) ?_); refine AOps.nil ?_) | (refine ACode.isR (id := 23) ?_; refine ACode.regionK [0, 1, 4, 5, 6] [6, 7, 13, 14, 18, 20, 45] (by repeat' first | exact KeepT.nil | apply KeepT.p rfl | apply KeepT.ptr rfl | apply KeepT.skip) (by repeat' first | exact KeepB.nil | apply KeepB.boxP rfl rfl | apply KeepB.skip) ?_; (refine AOps.is ?_; refine AOps.v rfl rfl (by exact w_fieldR rfl rfl rfl (by decide)) ?_); (refine AOps.is ?_; refine AOps.v rfl rfl (by exact w_fieldR rfl rfl rfl (by decide)) ?_); (refine AOps.is ?_; refine AOps.v rfl rfl (by exact w_idxArr rfl rfl rfl (by exact f7) rfl (by decide)) ?_); (refine AOps.is ?_; refine AOps.v rfl rfl (by exact w_loadR1 rfl rfl rfl (by rfl) rfl (by decide)) ?_); (refine AOps.is ?_; refine AOps.v rfl rfl (by exact w_indexS rfl rfl rfl (by exact f3) (by exact f1) rfl (by decide)) ?_); (refine AOps.is ?_; refine AOps.v rfl rfl (by exact w_fieldPt rfl rfl rfl (by decide)) ?_); (refine AOps.is ?_; refine AOps.v rfl rfl (by exact w_load1 rfl rfl rfl rfl (by decide)) ?_); (refine AOps.is ?_; refine AOps.v rfl rfl (by exact w_callT (c4) rfl rfl rfl (by decide)) ?_); (refine AOps.is ?_; refine AOps.v rfl rfl (by exact a_moveT rfl rfl rfl (by decide)) ?_); (refine AOps.is ?_; refine AOps.v rfl rfl (by exact a_extract rfl rfl rfl rfl (by decide)) ?_); (refine AOps.is ?_; refine AOps.v rfl rfl (by exact a_extract rfl rfl rfl rfl (by decide)) ?_); (refine AOps.is ?_; refine AOps.v rfl rfl (by exact a_assignP rfl rfl rfl (by decide)) ?_); (refine AOps.is ?_; refine AOps.v rfl rfl (by exact a_assignP rfl rfl rfl (by decide)) ?_); refine AOps.nil ?_) | (refine ACode.isR (id := 24) ?_; refine ACode.regionK [0, 1, 4, 5, 16] [6, 7, 13, 14, 18, 20, 45] (by repeat' first | exact KeepT.nil | apply KeepT.p rfl | apply KeepT.skip) (by repeat' first | exact KeepB.nil | apply KeepB.boxP rfl rfl | apply KeepB.skip) ?_; (refine AOps.is ?_; refine AOps.v rfl rfl (by exact a_moveP rfl rfl rfl (by decide)) ?_); (refine AOps.is ?_; refine AOps.v rfl rfl (by exact w_lenS rfl rfl rfl (by decide)) ?_); (refine AOps.is ?_; refine AOps.v rfl rfl (by exact r_neq rfl rfl rfl (by exact f2) rfl (by decide)) ?_); refine AOps.nil ?_) | (refine ACode.isR (id := 26) ?_; refine ACode.regionK [0, 1, 4, 5, 16] [6, 7, 13, 14, 18, 20, 45] (by repeat' first | exact KeepT.nil | apply KeepT.p rfl | apply KeepT.skip) (by repeat' first | exact KeepB.nil | apply KeepB.boxP rfl rfl | apply KeepB.skip) ?_; (refine AOps.is ?_; refine AOps.v rfl rfl (by exact a_moveP rfl rfl rfl (by decide)) ?_); (refine AOps.is ?_; refine AOps.v rfl rfl (by exact w_indexS rfl rfl rfl (by exact f10) (by exact f5) rfl (by decide)) ?_); (refine AOps.is ?_; refine AOps.v rfl rfl (by exact w_load1 rfl rfl rfl rfl (by decide)) ?_); (refine AOps.is ?_; refine AOps.v rfl rfl (by exact w_callT (d1) rfl rfl rfl (by decide)) ?_); (refine AOps.is ?_; refine AOps.v rfl rfl (by exact a_moveT rfl rfl rfl (by decide)) ?_); (refine AOps.is ?_; refine AOps.v rfl rfl (by exact a_extract rfl rfl rfl rfl (by decide)) ?_); (refine AOps.is ?_; refine AOps.v rfl rfl (by exact a_extract rfl rfl rfl rfl (by decide)) ?_); (refine AOps.is ?_; refine AOps.m rfl rfl (by exact w_alloc rfl (by decide) rfl (by decide)) ?_); (refine AOps.is ?_; refine AOps.w rfl (by exact w_store rfl rfl rfl rfl rfl (by rfl) (by exact Nat.le_of_ble_eq_true rfl) rfl rfl) ?_); (refine AOps.is ?_; refine AOps.v rfl rfl (by exact a_assignP rfl rfl rfl (by decide)) ?_); refine AOps.nil ?_) | (refine ACode.isR (id := 27) ?_; refine ACode.regionK [0, 1, 4, 5, 16, 18, 19] [6, 7, 13, 14, 18, 20, 45] (by repeat' first | exact KeepT.nil | apply KeepT.p rfl | apply KeepT.ptr rfl | apply KeepT.skip) (by repeat' first | exact KeepB.nil | apply KeepB.boxP rfl rfl | apply KeepB.skip) ?_; (refine AOps.is ?_; refine AOps.v rfl rfl (by exact a_moveP rfl rfl rfl (by decide)) ?_); (refine AOps.is ?_; refine AOps.v rfl rfl (by exact w_indexS rfl rfl rfl (by exact f10) (by exact f6) rfl (by decide)) ?_); (refine AOps.is ?_; refine AOps.v rfl rfl (by exact w_load1 rfl rfl rfl rfl (by decide)) ?_); (refine AOps.is ?_; refine AOps.v rfl rfl (by exact w_callT (d2) rfl rfl rfl (by decide)) ?_); (refine AOps.is ?_; refine AOps.v rfl rfl (by exact a_moveT rfl rfl rfl (by decide)) ?_); (refine AOps.is ?_; refine AOps.v rfl rfl (by exact a_extract rfl rfl rfl rfl (by decide)) ?_); (refine AOps.is ?_; refine AOps.v rfl rfl (by exact a_extract rfl rfl rfl rfl (by decide)) ?_); (refine AOps.is ?_; refine AOps.m rfl rfl (by exact w_alloc rfl (by decide) rfl (by decide)) ?_); (refine AOps.is ?_; refine AOps.w rfl (by exact w_store rfl rfl rfl rfl rfl (by rfl) (by exact Nat.le_of_ble_eq_true rfl) rfl rfl) ?_); (refine AOps.is ?_; refine AOps.v rfl rfl (by exact a_assignP rfl rfl rfl (by decide)) ?_); refine AOps.nil ?_) | (refine ACode.isR (id := 28) ?_; refine ACode.regionK [0, 1, 4, 5, 18, 19, 20, 21] [6, 7, 13, 14, 18, 20, 45] (by repeat' first | exact KeepT.nil | apply KeepT.p rfl | apply KeepT.ptr rfl | apply KeepT.skip) (by repeat' first | exact KeepB.nil | apply KeepB.boxP rfl rfl | apply KeepB.skip) ?_; (refine AOps.is ?_; refine AOps.v rfl rfl (by exact a_moveP rfl rfl rfl (by decide)) ?_); (refine AOps.is ?_; refine AOps.v rfl rfl (by exact r_notB rfl rfl (by exact f2) rfl (by decide)) ?_); refine AOps.nil ?_) | (refine ACode.isR (id := 30) ?_; refine ACode.regionK [0, 4, 5, 18, 19, 20, 21] [6, 7, 13, 14, 18, 20, 45] (by repeat' first | exact KeepT.nil | apply KeepT.p rfl | apply KeepT.ptr rfl | apply KeepT.skip) (by repeat' first | exact KeepB.nil | apply KeepB.boxP rfl rfl | apply KeepB.skip) ?_; all_goals (refine AOps.v rfl rfl (by exact a_moveP rfl rfl rfl (by decide)) ?_); all_goals (refine AOps.v rfl rfl (by exact a_moveP rfl rfl rfl (by decide)) ?_); all_goals (refine AOps.gY rfl rfl (by decide) rfl (by assumption) rfl (by decide) (by exact a_moveP rfl rfl rfl (by decide)) ?_); all_goals (refine AOps.gY rfl rfl (by decide) rfl (by assumption) rfl (by decide) (by exact r_eql rfl rfl rfl (by exact f12) rfl (by decide)) ?_); all_goals (refine AOps.v rfl rfl (by exact w_pickY rfl rfl (by assumption) rfl rfl (by decide)) ?_); all_goals (refine AOps.v rfl rfl (by exact a_moveP rfl rfl rfl (by decide)) ?_); all_goals (refine AOps.gY rfl rfl (by decide) rfl (by assumption) rfl (by decide) (by exact a_moveP rfl rfl rfl (by decide)) ?_); all_goals (refine AOps.gY rfl rfl (by decide) rfl (by assumption) rfl (by decide) (by exact r_eql rfl rfl rfl (by exact f12) rfl (by decide)) ?_); all_goals (refine AOps.v rfl rfl (by exact w_pickY rfl rfl (by assumption) rfl rfl (by decide)) ?_); all_goals (refine AOps.v rfl rfl (by exact a_moveP rfl rfl rfl (by decide)) ?_); all_goals (refine AOps.gY rfl rfl (by decide) rfl (by assumption) rfl (by decide) (by exact w_loadRN rfl rfl rfl (by rfl) (by rfl) rfl (by decide)) ?_); all_goals (refine AOps.gY rfl rfl (by decide) rfl (by assumption) rfl (by decide) (by exact a_moveP rfl rfl rfl (by decide)) ?_); all_goals (refine AOps.gY rfl rfl (by decide) rfl (by assumption) rfl (by decide) (by exact w_build rfl (by rfl) (by rfl) (by rfl) (by rfl) rfl (by decide)) ?_); all_goals (refine AOps.gY rfl rfl (by decide) rfl (by assumption) rfl (by decide) (by exact r_eqlT rfl rfl rfl rfl rfl rfl (by rfl) (by exact f11) rfl (by decide)) ?_); all_goals (refine AOps.v rfl rfl (by exact w_pickY rfl rfl (by assumption) rfl rfl (by decide)) ?_); all_goals (refine AOps.v rfl rfl (by exact a_moveP rfl rfl rfl (by decide)) ?_); all_goals (refine AOps.gY rfl rfl (by decide) rfl (by assumption) rfl (by decide) (by exact w_loadRN rfl rfl rfl (by rfl) (by rfl) rfl (by decide)) ?_); all_goals (refine AOps.gY rfl rfl (by decide) rfl (by assumption) rfl (by decide) (by exact w_build rfl (by rfl) (by rfl) (by rfl) (by rfl) rfl (by decide)) ?_); all_goals (refine AOps.gY rfl rfl (by decide) rfl (by assumption) rfl (by decide) (by exact r_eqlT rfl rfl rfl rfl rfl rfl (by rfl) (by exact f12) rfl (by decide)) ?_); all_goals (refine AOps.v rfl rfl (by exact w_pickY rfl rfl (by assumption) rfl rfl (by decide)) ?_); all_goals (refine AOps.v rfl rfl (by exact a_assignP rfl rfl rfl (by decide)) ?_); all_goals (refine AOps.nil ?_)) | refine ACode.condN rfl (by assumption) ?_ | refine ACode.skip ?_ | refine ACode.exit ?_ | refine ACode.ret ?_))
      all_goals exact ⟨by first | exact .inl rfl | exact .inr rfl, _, Sub.refl _, .p rfl (.tmp rfl)⟩


end Go.Proofs.YtiimegfejddhkaaDoor

/- The law SaveTwice: its function's contract, for all arguments. -/
namespace Go.Proofs.YtiimegfejddhkaaDoor
open Go Go.RowKit
set_option linter.unusedSimpArgs false
set_option linter.unusedVariables false
attribute [local irreducible] AOps ACode Step AStep Sub TChain TStep Fn twR

set_option maxRecDepth 100000 in
set_option maxHeartbeats 16000000 in
theorem twice_no (k : Int) (hk : U k) (b : Bool) (hmay : mayB 1 1 k 0 0 0 = false) :
    Fn Tryd.prog 5 [.val (.int .u64 k), .val (.bool b)] (.p (.val (.bool true))) := by
  have c2 : Fn Tryd.prog 10 [entV 1 1 k 0 0 0] (.p (.val (.bool false))) := hmay ▸ mayRef_fn 1 1 k 0 0 0 hk.1 hk.2
  refine fn_of2 Tryd.func5 rfl Tryd.ntmps5 (Nat.le_of_ble_eq_true rfl) ?_
  repeat' (first | (refine ACode.is ?_; first | refine ACode.seq ?_ | (refine ACode.isR (id := 0) ?_; refine ACode.regionK [0, 1] [6, 7, 13, 14, 18, 20, 45] (by repeat' first | exact KeepT.nil | apply KeepT.p rfl) (by repeat' first | exact KeepB.nil | apply KeepB.skip) ?_; (refine AOps.is ?_; refine AOps.v rfl rfl (by exact a_assignP rfl rfl rfl (by decide)) ?_); refine AOps.nil ?_) | (refine ACode.isR (id := 1) ?_; refine ACode.regionK [0, 1, 4] [6, 7, 13, 14, 18, 20, 45] (by repeat' first | exact KeepT.nil | apply KeepT.p rfl) (by repeat' first | exact KeepB.nil | apply KeepB.skip) ?_; (refine AOps.is ?_; refine AOps.v rfl rfl (by exact w_call (shown14_fn) rfl rfl rfl (by decide)) ?_); (refine AOps.is ?_; refine AOps.v rfl rfl (by exact a_assignP rfl rfl rfl (by decide)) ?_); refine AOps.nil ?_) | (refine ACode.isR (id := 2) ?_; refine ACode.regionK [0, 1, 4, 5] [6, 7, 13, 14, 18, 20, 45] (by repeat' first | exact KeepT.nil | apply KeepT.p rfl) (by repeat' first | exact KeepB.nil | apply KeepB.skip) ?_; (refine AOps.is ?_; refine AOps.v rfl rfl (by exact a_moveP rfl rfl rfl (by decide)) ?_); (refine AOps.is ?_; refine AOps.v rfl rfl (by exact w_build rfl (by rfl) (by rfl) (by rfl) (by rfl) rfl (by decide)) ?_); (refine AOps.is ?_; refine AOps.v rfl rfl (by exact w_call (c2) rfl rfl rfl (by decide)) ?_); (refine AOps.is ?_; refine AOps.v rfl rfl (by exact r_notB rfl rfl (by exact bT (by decide)) rfl (by decide)) ?_); refine AOps.nil ?_) | (refine ACode.isR (id := 3) ?_; refine ACode.regionK [0, 1, 4, 5] [6, 7, 13, 14, 18, 20, 45] (by repeat' first | exact KeepT.nil | apply KeepT.p rfl) (by repeat' first | exact KeepB.nil | apply KeepB.skip) ?_; (refine AOps.is ?_; refine AOps.v rfl rfl (by exact a_moveP rfl rfl rfl (by decide)) ?_); (refine AOps.is ?_; refine AOps.v rfl rfl (by exact a_assignP rfl rfl rfl (by decide)) ?_); refine AOps.nil ?_) | refine ACode.condY rfl (by with_reducible rfl) ?_ | refine ACode.ret ?_) | refine thenK.r ?_)
  all_goals exact ⟨by first | exact .inl rfl | exact .inr rfl, _, Sub.refl _, .p rfl (.tmp rfl)⟩
theorem saveTwiceLaw' (k : Int) (b : Bool) (hk : U k) : Fn Tryd.prog 5 [.val (.int .u64 k), .val (.bool b)] (.p (.val (.bool true))) := by
  cases hm : mayB 1 1 k 0 0 0
  · exact twice_no k hk b hm
  · cases b
    · exact twice_false k hk hm
    · exact twice_true k hk hm

end Go.Proofs.YtiimegfejddhkaaDoor

/- A law's arguments, as they come in, by their shapes. Generic over the program. -/
namespace Go.Proofs.YtiimegfejddhkaaDoor
open Go Go.RowKit Go.ChangeShapes Go.WideShapes Go.ChangeAt

def NoM : Nat → Nat → Prop := fun _ _ => False

/-- what a cell may hold -/
inductive Leaf where
  | int (k : IntKind)
  | bool
  | any
deriving DecidableEq
def leafOK : Leaf → Value → Prop
  | .int k, v => ∃ n, v = .int k n ∧ (Lit.int k n).wf = true
  | .bool, v => ∃ b, v = .bool b
  | .any, v => v.oneCell' = true
/-- type t's cells, one behind the other, are of these kinds (any: a slice) -/
def flatB (P : Program) : Nat → TypeId → List Leaf → Bool
  | 0, _, _ => false
  | d + 1, t, ls => match P.underlying t with
    | some (.int k) => decide (ls = [.int k])
    | some .bool => decide (ls = [.bool])
    | some (.slice _) => decide (ls = [.any])
    | some (.struct fs) => (ls.length == P.cellsOf t) && (fs.toList.all fun f => flatB P d f.type ((ls.drop f.offset).take (P.cellsOf f.type)) && (((ls.drop f.offset).take (P.cellsOf f.type)).length == P.cellsOf f.type)) &&
      (List.range ls.length).all fun c => fs.toList.any fun f => decide (f.offset ≤ c) && decide (c < f.offset + P.cellsOf f.type)
    | _ => false

section
variable {H : Type} {enc : TypeId × Value → H} {P : Program} {W : World} {base : Nat} {spare : Nat → Bool} {held : Bool}
theorem flat_trod : ∀ (d : Nat) {t : TypeId} {ls : List Leaf}, flatB P d t ls = true → ∀ {fuel : Nat} {cs : List Value} {x : DataW H × List MemPlace}, DataW.trod enc P W base spare held fuel t cs = some x →
    cs.length = ls.length ∧ ∀ (i : Nat) l v, ls[i]? = some l → cs[i]? = some v → leafOK l v
  | 0, _, _, h, _, _, _, _ => by cases h
  | d + 1, t, ls, h, fuel, cs, x, hx => by
    unfold flatB at h
    cases hu : P.underlying t with
    | none => rw [hu] at h; cases h
    | some ds =>
      rw [hu] at h
      cases ds with
      | int k =>
        obtain rfl : ls = [.int k] := of_decide_eq_true h
        obtain ⟨n, rfl, _, hw⟩ := DataW.trod_int hu hx
        refine ⟨rfl, fun i l v hl hv => ?_⟩
        match i with
        | 0 => simp at hl hv; subst hl hv; exact ⟨n, rfl, hw⟩
        | i + 1 => simp at hl
      | bool =>
        obtain rfl : ls = [.bool] := of_decide_eq_true h
        obtain ⟨b, rfl, _⟩ := DataW.trod_bool hu hx
        refine ⟨rfl, fun i l v hl hv => ?_⟩
        match i with
        | 0 => simp at hl hv; subst hl hv; exact ⟨b, rfl⟩
        | i + 1 => simp at hl
      | slice e =>
        obtain rfl : ls = [.any] := of_decide_eq_true h
        have key : ∀ w : Value, w.oneCell' = true → cs = [w] → cs.length = [Leaf.any].length ∧ ∀ (i : Nat) l v, [Leaf.any][i]? = some l → cs[i]? = some v → leafOK l v := fun w hw e => by
          subst e
          refine ⟨rfl, fun i l v hl hv => ?_⟩
          match i with
          | 0 => simp at hl hv; subst hl hv; exact hw
          | i + 1 => simp at hl
        rcases DataW.trod_slice hu hx with ⟨e, _⟩ | ⟨a, len, cap, _, _, _, _, e, _⟩
        · exact key _ rfl e
        · exact key _ rfl e
      | struct fs =>
        simp only [Bool.and_eq_true, beq_iff_eq, List.all_eq_true, List.mem_range, List.any_eq_true, decide_eq_true_eq] at h
        obtain ⟨⟨hlen, hfs⟩, hcov⟩ := h
        obtain ⟨xs, n, _, _, hcl, hxl, hg⟩ := DataW.trod_struct hu hx
        refine ⟨by omega, fun i l v hl hv => ?_⟩
        have hil : i < ls.length := (List.getElem?_eq_some_iff.1 hl).1
        obtain ⟨f, hf, hf1, hf2⟩ := hcov i hil
        obtain ⟨hfl, hfn⟩ := hfs f hf
        obtain ⟨j, hj, hfj⟩ := List.getElem_of_mem hf
        have hfj2 : fs[j]? = some f := by
          rw [← hfj, Array.getElem_toList]
          exact Array.getElem?_eq_getElem _
        have h2 := hg j f hfj2
        have hjx : j < xs.length := by rw [hxl]; simpa using hj
        rw [List.getElem?_eq_getElem hjx] at h2
        obtain ⟨_, h3⟩ := flat_trod d hfl h2
        refine h3 (i - f.offset) l v ?_ ?_
        · rw [List.getElem?_take_of_lt (by omega), List.getElem?_drop, show f.offset + (i - f.offset) = i by omega]
          exact hl
        · rw [List.getElem?_take_of_lt (by omega), List.getElem?_drop, show f.offset + (i - f.offset) = i by omega]
          exact hv
      | _ => cases h

theorem has_block {r : Reach} {a : Addr} {e : TypeId} {n : Nat} (h : W.has P r base a e n) : a.spot = none ∧ a.block < W.heap.size := by
  obtain ⟨_, h1, row, cells, h2, _⟩ := h
  refine ⟨h1, ?_⟩
  unfold World.shape? at h2
  cases hb : W.heap[a.block]? with
  | none => rw [hb] at h2; cases h2
  | some o => exact (Array.getElem?_eq_some_iff.1 hb).1
theorem cell_slice {t e : TypeId} {a : Addr} {len cap : Nat} (ht : P.underlying t = some (.slice e)) (h : Cell.okWide P W .any base t (.slice (some a) len cap)) : a.spot = none ∧ a.block < W.heap.size ∧ len ≤ cap := by
  simp only [Cell.okWide, ht, Cell.ok] at h
  exact ⟨(has_block h.2.2).1, (has_block h.2.2).2, h.1⟩
theorem wide_slice {t e : TypeId} {a : Addr} {len cap : Nat} (ht : P.underlying t = some (.slice e)) (h : Value.okWide P W .any base t (.slice (some a) len cap)) : a.spot = none ∧ a.block < W.heap.size ∧ len ≤ cap :=
  cell_slice ht (by simpa only [Value.okWide, ht] using h)
/-- a struct's cell, as the form lays it -/
theorem wide_cell {t u : TypeId} {fs : Array Field} {cs : Array Value} {ts : List TypeId} {i : Nat} {v : Value} (ht : P.underlying t = some (.struct fs)) (h : Value.okWide P W .any base t (.agg cs)) (hts : P.cellTypes P.depth t = some ts) (hi : ts[i]? = some u) (hv : cs[i]? = some v) : Cell.okWide P W .any base u v := by
  simp only [Value.okWide, ht] at h
  obtain ⟨cs', e, _, ts', h1, _, h2⟩ := h
  injection e with e
  subst e
  obtain rfl : ts = ts' := Option.some.inj (hts.symm.trans h1)
  obtain ⟨u', hu', hc⟩ := h2 i v hv
  have hlt : i < ts.length := (List.getElem?_eq_some_iff.1 hi).1
  rw [Nat.mod_eq_of_lt hlt, hi] at hu'
  obtain rfl := Option.some.inj hu'
  exact hc

theorem leaf_one {l : Leaf} {v : Value} (h : leafOK l v) : v.oneCell' = true := by
  cases l with
  | int k => obtain ⟨n, rfl, _⟩ := h; rfl
  | bool => obtain ⟨b, rfl⟩ := h; rfl
  | any => exact h
theorem flatten_len {n : Nat} : ∀ {rs : List (List Value)}, (∀ r ∈ rs, r.length = n) → rs.flatten.length = rs.length * n
  | [], _ => by simp
  | r :: rs, h => by
    rw [List.flatten_cons, List.length_append, h r (by simp), flatten_len fun x hx => h x (by simp [hx]), List.length_cons, Nat.add_mul]
    omega
theorem flatten_get {n : Nat} : ∀ {rs : List (List Value)}, (∀ r ∈ rs, r.length = n) → ∀ (i c : Nat), c < n → rs.flatten[i * n + c]? = (rs[i]?).bind (·[c]?)
  | [], _, i, c, _ => by simp
  | r :: rs, h, 0, c, hc => by
    rw [List.flatten_cons, Nat.zero_mul, Nat.zero_add, List.getElem?_append_left (by rw [h r (by simp)]; exact hc)]
    rfl
  | r :: rs, h, i + 1, c, hc => by
    have hr := h r (by simp)
    rw [List.flatten_cons, List.getElem?_append_right (by rw [hr, Nat.add_mul]; omega), hr]
    have e : (i + 1) * n + c - n = i * n + c := by rw [Nat.add_mul]; omega
    rw [e, flatten_get (fun x hx => h x (by simp [hx])) i c hc]
    rfl
/-- a slice of plain structs (of slices, as they are) that came in -/
theorem arg_rows {t e : TypeId} {ls : List Leaf} {dep : Nat} {v : Value} {fuel : Nat} {x : DataW H × List MemPlace} (ht : P.underlying t = some (.slice e)) (hfl : flatB P dep e ls = true) (hn : P.cellsOf e = ls.length)
    (hok : ∀ a len cap, v = .slice (some a) len cap → a.spot = none ∧ a.block < W.heap.size) (h : DataW.trod enc P W base (fun _ => true) held fuel t [v] = some x) :
    ∃ rows : List (List Value), (∀ r ∈ rows, r.length = ls.length ∧ ∀ (i : Nat) l u, ls[i]? = some l → r[i]? = some u → leafOK l u) ∧ rows.length ≤ maxLen ∧
      ∀ es : List PV, es.map PV.cells = rows.map (fun r => r.map PV.val) → Rep NoM W (.sl es) v := by
  rcases DataW.trod_slice ht h with ⟨hv, _⟩ | ⟨a, len, cap, elems, rest, n, _, hv, _, hb, hlc, hm, hlen, hel, _⟩
  · simp only [List.cons.injEq, and_true] at hv
    subst hv
    refine ⟨[], fun r hr => by simp at hr, Nat.zero_le _, fun es he => ?_⟩
    have : es = [] := by simpa using he
    subst this
    exact .nil
  · simp only [List.cons.injEq, and_true] at hv
    subst hv
    obtain ⟨hs, hbk⟩ := hok a len cap rfl
    obtain ⟨g, off, spot⟩ := a
    simp only at hs hbk
    subst hs
    have row : ∀ i, i < len → ∃ r : List Value, W.cells? base (Addr.add ⟨g, off, none⟩ (i * P.cellsOf e)) (P.cellsOf e) = some r ∧ r.length = ls.length ∧ ∀ (j : Nat) l u, ls[j]? = some l → r[j]? = some u → leafOK l u := by
      intro i hi
      have h1 := hel i hi
      rw [List.getElem?_eq_getElem (by omega : i < elems.length)] at h1
      obtain ⟨r, hr, h2⟩ := Option.bind_eq_some_iff.1 h1
      obtain ⟨h3, h4⟩ := flat_trod dep hfl h2
      exact ⟨r, hr, h3, h4⟩
    have rows : ∀ m, m ≤ len → ∃ rs : List (List Value), rs.length = m ∧ ∀ (i : Nat) r, rs[i]? = some r → W.cells? base (Addr.add ⟨g, off, none⟩ (i * P.cellsOf e)) (P.cellsOf e) = some r ∧ r.length = ls.length ∧ ∀ (j : Nat) l u, ls[j]? = some l → r[j]? = some u → leafOK l u := by
      intro m
      induction m with
      | zero => exact fun _ => ⟨[], rfl, fun i r h => by simp at h⟩
      | succ m ih =>
        intro hm2
        obtain ⟨rs, h1, h2⟩ := ih (by omega)
        obtain ⟨r, hr⟩ := row m (by omega)
        refine ⟨rs ++ [r], by simp [h1], fun i r' hi => ?_⟩
        rcases Nat.lt_or_ge i rs.length with h3 | h3
        · rw [List.getElem?_append_left h3] at hi
          exact h2 i r' hi
        · rw [List.getElem?_append_right h3] at hi
          have e0 : i - rs.length = 0 := by
            rcases Nat.eq_zero_or_pos (i - rs.length) with h | h
            · exact h
            · rw [List.getElem?_eq_none (by simp; omega)] at hi; cases hi
          rw [e0] at hi
          simp at hi
          subst hi
          rw [show i = m by omega]
          exact hr
    obtain ⟨rs, hrl, hrs⟩ := rows len (Nat.le_refl _)
    refine ⟨rs, fun r hr => ?_, by omega, fun es he => ?_⟩
    · obtain ⟨i, hi, rfl⟩ := List.getElem_of_mem hr
      exact (hrs i _ (List.getElem?_eq_getElem hi)).2
    · have hn0 : P.cellsOf e = ls.length := hn
      have hesl : es.length = rs.length := by simpa using congrArg List.length he
      have hflat : flat es = rs.flatten.map PV.val := by
        show es.flatMap PV.cells = _
        rw [List.flatMap_def, he, List.map_flatten]
      have hrn : ∀ r ∈ rs, r.length = ls.length := fun r hr => by
        obtain ⟨i, hi, rfl⟩ := List.getElem_of_mem hr
        exact (hrs i _ (List.getElem?_eq_getElem hi)).2.1
      have hyl : rs.flatten.length = rs.length * ls.length := flatten_len hrn
      have at_ : ∀ (j : Nat) y, rs.flatten[j]? = some y → ∃ i c r, j = i * ls.length + c ∧ rs[i]? = some r ∧ r[c]? = some y := fun j y hy => by
        have hj : j < rs.length * ls.length := by rw [← hyl]; exact (List.getElem?_eq_some_iff.1 hy).1
        have hpos : 0 < ls.length := by
          rcases Nat.eq_zero_or_pos ls.length with h | h
          · rw [h] at hj; omega
          · exact h
        have e1 : j = (j / ls.length) * ls.length + j % ls.length := by
          have := Nat.div_add_mod j ls.length
          rw [Nat.mul_comm] at this
          omega
        have hi : j / ls.length < rs.length := (Nat.div_lt_iff_lt_mul hpos).2 hj
        have hc : j % ls.length < ls.length := Nat.mod_lt _ hpos
        have h1 := flatten_get hrn (j / ls.length) (j % ls.length) hc
        rw [← e1, hy, List.getElem?_eq_getElem hi] at h1
        exact ⟨_, _, _, e1, List.getElem?_eq_getElem hi, h1.symm⟩
      refine .sl es g off len cap rs.flatten (by omega) (by rw [hflat, List.length_map]) (fun j y hy => ?_) (fun j c y hc hy => ?_) (fun y hy => ?_) (fun _ _ h => h) hbk hlc hm
      · obtain ⟨i, c, r, rfl, hr, hc⟩ := at_ j y hy
        have h1 := World.cells?_some (hrs i r hr).1
        have hcl : c < P.cellsOf e := by
          rw [hn0, ← (hrs i r hr).2.1]
          exact (List.getElem?_eq_some_iff.1 hc).1
        have h2 := h1.2.2 c hcl
        rw [hc, add_lit, add_lit, hn0, Nat.add_assoc] at h2
        exact h2
      · rw [hflat, List.getElem?_map, hy] at hc
        simp only [Option.map_some, Option.some.injEq] at hc
        subst hc
        exact .val _
      · obtain ⟨j, hj, rfl⟩ := List.getElem_of_mem hy
        obtain ⟨i, c, r, _, hr, hc⟩ := at_ j _ (List.getElem?_eq_getElem hj)
        have hcl : c < ls.length := by
          rw [← (hrs i r hr).2.1]
          exact (List.getElem?_eq_some_iff.1 hc).1
        exact leaf_one ((hrs i r hr).2.2 c _ _ (List.getElem?_eq_getElem hcl) hc)
end

end Go.Proofs.YtiimegfejddhkaaDoor

/- A law's call, by its contract; the table that the row lists; a world that fits. -/
namespace Go.Proofs.YtiimegfejddhkaaDoor
open Go Go.RowKit Go.ChangeShapes Go.WideShapes Go.ChangeAt
set_option linter.unusedVariables false

theorem ownT : ownKnob Tryd.prog.godebug = none := by kernel_rfl
theorem laidOutT : laidOutB Tryd.prog = true := by kernel_rfl

section
variable {P : Program} {W : World}
theorem wf_i64 {n : Int} (h : (Lit.int .i64 n).wf = true) : -9223372036854775808 ≤ n ∧ n ≤ 9223372036854775807 := bounds_i64 h
theorem wf_u64 {n : Int} (h : (Lit.int .u64 n).wf = true) : 0 ≤ n ∧ n < 18446744073709551616 := by
  have := bounds_u64 h
  omega
/-- A law's call, by its contract. -/
theorem Fn.law {f : FuncId} {args : List PV} (h : Fn P f args (.p (.val (.bool true)))) (hlay : Lays W) {vs : List Value} (hl : vs.length = args.length) (hr : ∀ (i : Nat) x v, args[i]? = some x → vs[i]? = some v → Rep NoM W x v) :
    Calls P f vs.toArray W fun e W' => e = .returned (.bool true) ∧ Below W.heap.size W W' :=
  (h NoM W vs ⟨hlay, fun _ _ _ h => h⟩ (fun _ _ h => h.elim) hl hr).mono fun e W' ⟨v, he, hv, hb⟩ => by
    cases hv
    exact ⟨he, hb⟩
theorem reps1 {M : Nat → Nat → Prop} {x0 : PV} {v0 : Value} (h0 : Rep M W x0 v0) : ∀ (i : Nat) x v, [x0][i]? = some x → [v0][i]? = some v → Rep M W x v := by
  intro i x v hx hv
  match i with
  | 0 => simp at hx hv; subst hx; subst hv; exact h0
  | i + 1 => simp at hx
theorem repsC {M : Nat → Nat → Prop} {x0 : PV} {v0 : Value} {xs : List PV} {vs : List Value} (h0 : Rep M W x0 v0) (h : ∀ (i : Nat) x v, xs[i]? = some x → vs[i]? = some v → Rep M W x v) : ∀ (i : Nat) x v, (x0 :: xs)[i]? = some x → (v0 :: vs)[i]? = some v → Rep M W x v := by
  intro i x v hx hv
  match i with
  | 0 => simp at hx hv; subst hx; subst hv; exact h0
  | i + 1 => exact h i x v (by simpa using hx) (by simpa using hv)
end

/-! ### The listed table -/
theorem gTbl : Tryd.prog.globalNamed "weald/crc.halves" = some 0 := by kernel_rfl
theorem tTbl : (Tryd.prog.globals[0]?).map (·.type) = some 162 := by kernel_rfl
def laidL : List (String × DataW Unit) := [("weald/crc.halves", Rows.laid_weald_crc_halves)]
theorem lays_of_laid {W : World} (h : laidMetH Tryd.prog laidL W) : Lays W := by
  rw [MakeChecks.laidMetH_plain _ _ _ (by kernel_rfl)] at h
  obtain ⟨ps, ⟨g0, t0, cs0, f0, p0, q0, hg0, ht0, hv0, hd0, _, _⟩, _⟩ := h
  obtain rfl := Option.some.inj (gTbl.symm.trans hg0)
  obtain rfl := Option.some.inj (tTbl.symm.trans ht0)
  have hcell := World.var?_cell hg0 hv0
  obtain ⟨xs, m1, _, hx1, hlen, hn, hel⟩ := DataW.trod_array Tryd.underlying162 hd0
  have c1 : Tryd.prog.cellsOf 116 = 1 := by kernel_rfl
  have c16 : Tryd.prog.cellsOf 162 = 16 := by kernel_rfl
  rw [c16] at hlen
  have hdat : Rows.laid_weald_crc_halves (H := Unit) = .agg (tbl0.map fun p => .lit (.int p.1 p.2)) := by kernel_rfl
  simp only [Prod.mk.injEq] at hx1
  have hxs : xs.map (·.1) = tbl0.map fun p => .lit (.int p.1 p.2) := by
    have := hx1.1
    rw [hdat] at this
    simpa using this.symm
  have hk : ∀ p ∈ tbl0, p.1 = .u32 := by decide +kernel
  intro g ys hg
  have hgy : g = 0 ∧ ys = tbl0 := by
    unfold seatTbl at hg
    split at hg
    · next h => exact ⟨h, (Option.some.inj hg).symm⟩
    · cases hg
  obtain ⟨rfl, rfl⟩ := hgy
  have at_ : ∀ (j : Nat) p, tbl0[j]? = some p → W.cell? ⟨0, j, none⟩ = some (.int p.1 p.2) := by
    intro j p hp
    have hj : j < 16 := (List.getElem?_eq_some_iff.1 hp).1
    have h1 := hel j hj
    have hxj : xs[j]? = some xs[j] := List.getElem?_eq_getElem (by omega)
    rw [hxj, c1, Nat.mul_one] at h1
    obtain ⟨k, e1, e2, _⟩ := DataW.trod_int Tryd.underlying116 h1
    have h3 : (xs.map (·.1))[j]? = some (.lit (.int .u32 k)) := by rw [List.getElem?_map, hxj, e2]; rfl
    rw [hxs, List.getElem?_map, hp] at h3
    simp only [Option.map_some, Option.some.injEq, DataW.lit.injEq, Lit.int.injEq] at h3
    obtain ⟨h4, h5⟩ := h3
    have h6 : cs0[j]? = some (.int .u32 k) := by
      have : (cs0.toList.drop j).take 1 = [cs0.toList[j]'(by rw [hlen]; exact hj)] := by
        rw [List.drop_eq_getElem_cons (by rw [hlen]; exact hj)]
        rfl
      rw [this] at e1
      simp only [List.cons.injEq, and_true] at e1
      rw [← e1]
      simp [Array.getElem?_eq_getElem (show j < cs0.size by simpa using (by rw [hlen]; exact hj : j < cs0.toList.length))]
    rw [hcell j, h6, h4, h5]
  refine ⟨?_, at_⟩
  have h0 := at_ 0 _ rfl
  unfold World.cell? at h0
  cases hh : W.heap[0]? with
  | none => rw [hh] at h0; cases h0
  | some o => exact (Array.getElem?_eq_some_iff.1 hh).1

/-- The door's own heap fits. -/
theorem door_met (os : Os) (args : Array Value) : laidMetH Tryd.prog laidL ((World.doorLaid Tryd.prog 400 os).forCall (fun _ _ => 0) ⟨#[], args, []⟩).memory :=
  laidMetH_of_parts3 (fuel := 8) (laidMet_of_run' 8 (by kernel_rfl) (by kernel_rfl)) (by kernel_rfl) (by kernel_rfl)

end Go.Proofs.YtiimegfejddhkaaDoor

/- Arguments: rows of truth values, and of bytes. Generic over the program. -/
namespace Go.Proofs.YtiimegfejddhkaaDoor
open Go Go.RowKit Go.ChangeShapes Go.WideShapes Go.ChangeAt
set_option linter.unusedVariables false

section
variable {P : Program} {W : World} {H : Type} {enc : TypeId × Value → H}
theorem arg_one {t e : TypeId} {l : Leaf} {v : Value} {d : DataW H} {p : List MemPlace} {base : Nat} (ht : P.underlying t = some (.slice e)) (hfl : flatB P 3 e [l] = true) (hn : P.cellsOf e = 1) (hv : Value.okWide P W .any base t v)
    (h : DataW.Trod enc P W 0 (fun _ => true) true t v d p) : ∃ xs : List Value, (∀ x ∈ xs, leafOK l x) ∧ xs.length ≤ maxLen ∧ Rep NoM W (.sl (xs.map PV.val)) v := by
  obtain ⟨a, len, cap, rfl⟩ := okWide_slice ht hv
  obtain ⟨fuel, hf⟩ := h
  have hf' : DataW.trod enc P W 0 (fun _ => true) true fuel t [Value.slice a len cap] = some (d, p) := hf
  obtain ⟨rows, h1, h2, h3⟩ := arg_rows (ls := [l]) ht hfl hn (fun a' len' cap' e' => by
    injection e' with e1 e2 e3
    subst e1 e2 e3
    have := wide_slice ht hv
    exact ⟨this.1, this.2.1⟩) hf'
  have hr : ∀ r ∈ rows, ∃ x, r = [x] ∧ leafOK l x := fun r hr => by
    obtain ⟨hl, hx⟩ := h1 r hr
    match r, hl with
    | [x], _ => exact ⟨x, rfl, hx 0 l x rfl rfl⟩
  refine ⟨rows.flatten, fun x hx => ?_, ?_, h3 _ ?_⟩
  · obtain ⟨r, h4, h5⟩ := List.mem_flatten.1 hx
    obtain ⟨y, rfl, h6⟩ := hr r h4
    simp at h5; subst h5; exact h6
  · have : rows.flatten.length = rows.length * 1 := flatten_len fun r h => (h1 r h).1
    omega
  · clear h3 h2 h1 hf hf'
    induction rows with
    | nil => rfl
    | cons r rs ih =>
      obtain ⟨y, rfl, _⟩ := hr r (by simp)
      have := ih fun r h => hr r (by simp [h])
      show (PV.val y).cells :: (rs.flatten.map PV.val).map PV.cells = [PV.val y] :: rs.map fun r => r.map PV.val
      rw [this]
      rfl
theorem arg_bools {t e : TypeId} {v : Value} {d : DataW H} {p : List MemPlace} {base : Nat} (ht : P.underlying t = some (.slice e)) (hfl : flatB P 3 e [.bool] = true) (hn : P.cellsOf e = 1) (hv : Value.okWide P W .any base t v)
    (h : DataW.Trod enc P W 0 (fun _ => true) true t v d p) : ∃ l : List Bool, Rep NoM W (.sl (l.map fun b => .val (.bool b))) v := by
  obtain ⟨xs, h1, h2, h3⟩ := arg_one ht hfl hn hv h
  suffices ∃ l : List Bool, xs = l.map Value.bool by
    obtain ⟨l, rfl⟩ := this
    exact ⟨l, by rw [List.map_map] at h3; exact h3⟩
  clear h3 h2
  induction xs with
  | nil => exact ⟨[], rfl⟩
  | cons x r ih =>
    obtain ⟨b, rfl⟩ := h1 x (by simp)
    obtain ⟨l, rfl⟩ := ih fun y hy => h1 y (by simp [hy])
    exact ⟨b :: l, rfl⟩
theorem arg_u8s {t e : TypeId} {v : Value} {d : DataW H} {p : List MemPlace} {base : Nat} (ht : P.underlying t = some (.slice e)) (hfl : flatB P 3 e [.int .u8] = true) (hn : P.cellsOf e = 1) (hv : Value.okWide P W .any base t v)
    (h : DataW.Trod enc P W 0 (fun _ => true) true t v d p) : ∃ l : List Int, Rep NoM W (.sl (byts l)) v ∧ (∀ x ∈ l, 0 ≤ x ∧ x < 256) ∧ l.length ≤ maxLen := by
  obtain ⟨xs, h1, h2, h3⟩ := arg_one ht hfl hn hv h
  suffices ∃ l : List Int, xs = l.map (Value.int .u8) ∧ ∀ x ∈ l, 0 ≤ x ∧ x < 256 by
    obtain ⟨l, rfl, h4⟩ := this
    exact ⟨l, by rw [List.map_map] at h3; exact h3, h4, by simpa using h2⟩
  clear h3 h2
  induction xs with
  | nil => exact ⟨[], rfl, fun x hx => by simp at hx⟩
  | cons x r ih =>
    obtain ⟨b, rfl, hb⟩ := h1 x (by simp)
    obtain ⟨l, rfl, hl⟩ := ih fun y hy => h1 y (by simp [hy])
    refine ⟨b :: l, rfl, fun y hy => ?_⟩
    rcases List.mem_cons.1 hy with rfl | hy
    · have := bounds_u8 hb
      omega
    · exact hl y hy
end

end Go.Proofs.YtiimegfejddhkaaDoor

/- For every input SaveTwice returns true, and leaves its arguments as they were; tied: Rows.SaveTwiceCardSaid. Conditions: none beyond the given statement's own. -/
namespace Go.Proofs.YtiimegfejddhkaaDoor
open Go Go.RowKit Go.ChangeShapes Go.WideShapes Go.ChangeAt
set_option linter.unusedVariables false

set_option maxRecDepth 100000 in
theorem saveTwice_lifted (os : Os) (started : os.Started) (H : Type) (enc : TypeId × Value → H) :
    ReturnsInHanded {} Tryd.checked os 5 .any (fun w args => (Rows.saveTwiceSpec.pre enc Tryd.prog Tryd.f5 [] false w args ∧ laidMetH Tryd.prog laidL w) ∧ sizedMet enc Tryd.prog Tryd.f5 (OpenSpec.ofChange Rows.saveTwiceSpec) false w args)
      (Rows.saveTwiceSpec.post enc Tryd.prog Tryd.f5 false true false false) := by
  refine returnsInHanded_of_change_and (C := Tryd.checked) (X := fun w _ => laidMetH Tryd.prog laidL w) (fun _ _ _ hh h => h.of_heap hh) ownT started (by kernel_rfl) Tryd.func5
    (ChangeSpec.witness_shaped (enc := enc) (C := Tryd.checked) (os := os) (X := fun w _ => laidMetH Tryd.prog laidL w) false (World.doorLaid Tryd.prog 400 os) #[.int .u64 0, .bool false] 8 rfl (World.shaped_of_RefB (by kernel_rfl) (by kernel_rfl)) (by kernel_rfl) (by kernel_rfl) (by kernel_rfl) (door_met os _)) ?_
  intro W base args ds gs before hval0 hW hcnd _ hL _
  have hval : ∀ (j : Nat) t v, Tryd.f5.params[j]? = some t → args[j]? = some v → Value.okWide Tryd.prog W .any base t v := hval0
  have hW' := hW
  obtain ⟨p, q, hA0, hV, rfl, hfz, hnd⟩ := hW
  have hA : DataW.TrodAll enc Tryd.prog W 0 (fun _ => true) true Tryd.f5.params.toList args.toList ds p := hA0
  rw [Tryd.params5] at hA hval
  obtain ⟨v0, vs0, d0, ds0, p0, q0, hargs, rfl, rfl, h0, r0⟩ := trodAll_cons hA
  obtain ⟨v1, vs1, d1, ds1, p1, q1, rfl, rfl, rfl, h1, r1⟩ := trodAll_cons r0
  obtain ⟨rfl, rfl, rfl⟩ := trodAll_nil r1
  obtain rfl : args = #[v0, v1] := by cases args; simp_all
  obtain ⟨rfl, rfl⟩ := trodVars_none hV
  have lt0 : ∀ x ∈ p0, x.block < W.heap.size := by obtain ⟨m, hm⟩ := h0; exact DataW.trod_lt m _ _ _ hm
  have lt1 : ∀ x ∈ p1, x.block < W.heap.size := by obtain ⟨m, hm⟩ := h1; exact DataW.trod_lt m _ _ _ hm
  have o0 := hval 0 22 v0 rfl rfl
  obtain ⟨a0, e0, _, _, wf0⟩ := open_int Tryd.underlying22 o0 h0
  have rp0 : Rep NoM W (.val (.int .u64 a0)) v0 := e0 ▸ .val _
  have g0 := wf_u64 wf0
  have o1 := hval 1 4 v1 rfl rfl
  obtain ⟨a1, e1, _, _⟩ := open_bool Tryd.underlying4 o1 h1
  have rp1 : Rep NoM W (.val (.bool a1)) v1 := e1 ▸ .val _
  clear hA0 hval0
  refine ((saveTwiceLaw' a0 a1 g0).law (lays_of_laid hL) (vs := [v0, v1]) rfl (repsC rp0 (reps1 rp1))).mono fun e W' ⟨he, bel⟩ => ?_
  subst he
  exact ⟨_, rfl, _, _, _, [], _, [], hW', trodAll_mk1 (shut_bool Tryd.underlying4 _), (trodAll_cons_mk (Below.trod laidOutT (by kernel_rfl) (of_decide_eq_true (by kernel_rfl)) h0 bel lt0) (trodAll_cons_mk (Below.trod laidOutT (by kernel_rfl) (of_decide_eq_true (by kernel_rfl)) h1 bel lt1) trodAll_mk0)), rfl, bel.frame _, fun h => by cases h⟩

theorem saveTwice_holds : Rows.SaveTwiceSaid :=
  OpenClaim.holds_of_wide 5 Tryd.f5 rfl rfl rfl rfl rfl rfl rfl ⟨rfl, rfl, rfl, rfl, rfl⟩ rfl rfl rfl rfl rfl (by kernel_rfl) Tryd.func5 (by kernel_rfl)
    (of_decide_eq_true (by kernel_rfl)) (by unfold Func.isWrapper; first | (rw [if_pos (by decide +kernel)]; kernel_rfl) | (rw [if_neg (by decide +kernel)]; exact ⟨rfl, rfl⟩))
    (fun os started H enc _ => saveTwice_lifted os started H enc)

theorem saveTwiceCard_holds : Rows.SaveTwiceCardSaid :=
  Claim7.holds_tied_plain_at .later [] [.data] true _ true
    saveTwice_holds (fun _ h => by cases h) (by kernel_rfl) (fun _ h => by cases h) saveTwice_row_tie rfl ⟨rfl, rfl⟩ (by kernel_rfl) rfl
    (fun f fn hf hfn => by
      obtain rfl : f = 5 := Option.some.inj ((show Tryd.prog.funcNamed "weald/wealdlaw14.SaveTwice" = some 5 by kernel_rfl).symm.trans hf) |>.symm
      obtain rfl : fn = Tryd.f5 := (Option.some.inj (Tryd.func5.symm.trans hfn)).symm
      exact ⟨by kernel_rfl, fun j t ht => by
        rw [Tryd.params5] at ht
        have hm : t ∈ [22, 4] := by simpa using Array.mem_of_getElem? ht
        have hall : ([22, 4].all fun u => !Tryd.prog.wantsStandIn u) = true := by kernel_rfl
        exact (show Tryd.prog.wantsStandIn t = false by simpa using List.all_eq_true.1 hall t hm)⟩)
    (by kernel_rfl)
#print axioms saveTwiceCard_holds

end Go.Proofs.YtiimegfejddhkaaDoor
