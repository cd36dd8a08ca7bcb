/- For every input ListNext returns true, and leaves its argument as it was. Conditions: none beyond the given statement. (Part 7 of 8.) -/
import Derived.Test.YtohlllohmoojiaaGreatDoorLn6
import Derived.Deep.Upon
/- An access of a word: contracts. -/
namespace Go.Proofs.YtohlllohmoojiaaGreatDoor
set_option maxRecDepth 100000
set_option maxHeartbeats 16000000
open Go Go.RowKit
set_option linter.unusedSimpArgs false
attribute [local irreducible] zY zZ Step zK Sub zS zH Fn
def memV (t c : Int) (ws : List Int) : PV := .agg [.val (.int .i64 t), .val (.int .i64 c), .sl (wds ws)]
def resN (n : Int) : PV := .agg [.val (.int .u64 n), .val (.slice none 0 0), .val (.bool false)]
theorem turns_cells : ∀ e ∈ turnsL, e.cells.length = 2 := fun e he => by
  simp only [turnsL, List.mem_cons, List.not_mem_nil, or_false] at he
  rcases he with rfl | rfl | rfl | rfl | rfl <;> rfl
theorem wds_set (ws : List Int) (i : Nat) (x : Int) : (wds ws).set i (.val (.int .u64 x)) = wds (ws.set i x) := by simp [wds, List.map_set]
theorem wds_at {ws : List Int} {i : Nat} {x : Int} (h : ws[i]? = some x) : (wds ws)[i]? = some (.val (.int .u64 x)) := by simp [wds, h]
theorem qH {ws : List Int} {i : Nat} {x : Int} (h : ws[i]? = some x) : ws.set i x = ws := by
  apply List.ext_getElem?
  intro j
  rw [List.getElem?_set]
  by_cases hj : i = j
  · subst hj
    have := (List.getElem?_eq_some_iff.1 h).1
    rw [if_pos rfl, if_pos this, h]
  · rw [if_neg hj]
theorem eq_of_nd {x y : Int} (h : (!decide (x = y)) = false) : x = y := by simpa using h
theorem wX {t c n n' : Int} {ws' : List Int} {W : List PV} (h1 : W = wds ws') (h2 : n = n') : [memV t c ws', resN n'] = [.agg [.val (.int .i64 t), .val (.int .i64 c), .sl W], .agg [.val (.int .u64 n), .val (.slice none 0 0), .val (.bool false)]] := by
  subst h1 h2
  rfl
def wordsS (t c kind a b old : Int) (i : Nat) (ws : List Int) (d : PV) (k : Nat) : AS :=
  { t := [(2, .ptr 2 0), (3, .ptr 3 0), (4, .ptr 4 0), (5, .ptr 5 0), (6, .p (.val (.int .u64 old))), (30, .p (.sl turnsL)), (31, .p (.val (.int .i64 5))), (32, .p (.val (.int .i64 (k : Nat))))],
    s := [(2, .box 53 [.p (.val (.int .i64 t)), .p (.val (.int .i64 c)), .p (.sl (wds ws))]), (3, .box 34 [.p (.val (.int .i64 kind)), .p (.val (.int .i64 i)), .p (.val (.int .u64 a)), .p (.val (.int .u64 b)), .p d, .p xW]),
      (4, .box 53 [.p (.val (.int .i64 0)), .p (.val (.int .i64 0)), .p (.val (.slice none 0 0))]), (5, .box 125 [.p (.val (.int .u64 0)), .p (.val (.slice none 0 0)), .p (.val (.bool false))])] }
theorem words_fn (t c kd a b old : Int) (hkd : 0 ≤ kd ∧ kd ≤ 4) (i : Nat) (ws : List Int) (d : PV) (hi : ws[i]? = some old) (h1 : ws.length ≤ 1000000) :
    Fn Tryz.prog 143 [memV t c ws, accV kd i a b d] (.tup [memV t c (ws.set i (turnR kd old a b).2), resN (turnR kd old a b).1]) := by
  have hlt : i < ws.length := (List.getElem?_eq_some_iff.1 hi).1
  have g1 := wds_cells ws
  have g2 := turns_cells
  have g3 := wds_at hi
  have g4 : decide ((i : Int) < 0) = false := decide_eq_false (by omega)
  have g5 : decide (((wds ws).length : Int) ≤ (i : Int)) = false := decide_eq_false (by rw [wds_len]; omega)
  have g6 : (0 : Int) ≤ (i : Int) ∧ (i : Int) < (wds ws).length := by rw [wds_len]; omega
  have g7 : (i : Int).toNat < (wds ws).length := by rw [wds_len]; omega
  have c1 := cloneW_fn ws (by omega) h1
  refine yS Tryz.func143 rfl Tryz.ntmps143 (Nat.le_of_ble_eq_true rfl) ?_
  repeat' ((refine zZ.is ?_; first | refine zZ.seq ?_ | (refine zZ.iq 0 ?_; refine zZ.rqb _ K_9 K_0 ?_; (refine zY.m rfl rfl (yN rfl rfl rfl (by decide)) ?_); (refine zY.m rfl rfl (yN rfl rfl rfl (by decide)) ?_); (refine zY.m rfl rfl (yB rfl (by decide) rfl (by decide)) ?_); (refine zY.m rfl rfl (yB rfl (by decide) rfl (by decide)) ?_); refine zY.nil ?_) | (refine zZ.iq 1 ?_; refine zZ.rqk _ K_8 K_0 ?_; all_goals (refine zY.v rfl rfl (zA rfl rfl rfl (by decide)) ?_); all_goals (refine zY.v rfl rfl (zD rfl rfl rfl (by rfl) rfl (by decide)) ?_); all_goals (refine zY.v rfl rfl (by exact xI rfl rfl rfl (by exact g4) rfl (by decide)) ?_); all_goals (refine zY.v rfl rfl (zQ rfl rfl rfl (by decide)) ?_); all_goals (refine zY.gY rfl rfl (by decide) rfl (by assumption) rfl (by decide) (zA rfl rfl rfl (by decide)) ?_); all_goals (refine zY.gY rfl rfl (by decide) rfl (by assumption) rfl (by decide) (zD rfl rfl rfl (by rfl) rfl (by decide)) ?_); all_goals (refine zY.gY rfl rfl (by decide) rfl (by assumption) rfl (by decide) (zA rfl rfl rfl (by decide)) ?_); all_goals (refine zY.gY rfl rfl (by decide) rfl (by assumption) rfl (by decide) (zD rfl rfl rfl (by rfl) rfl (by decide)) ?_); all_goals (refine zY.gY rfl rfl (by decide) rfl (by assumption) rfl (by decide) (w_lenS rfl rfl rfl (by decide)) ?_); all_goals (refine zY.gY rfl rfl (by decide) rfl (by assumption) rfl (by decide) (by exact r_geq rfl rfl rfl (by exact g5) rfl (by decide)) ?_); all_goals (refine zY.v rfl rfl (by exact yP rfl rfl (by assumption) rfl rfl (by decide)) ?_); all_goals (refine zY.nil ?_)) | (refine zZ.iq 3 ?_; refine zZ.rqk _ K_8 K_0 ?_; (refine zY.v rfl rfl (zA rfl rfl rfl (by decide)) ?_); (refine zY.v rfl rfl (zD rfl rfl rfl (by rfl) rfl (by decide)) ?_); (refine zY.v rfl rfl (zA rfl rfl rfl (by decide)) ?_); (refine zY.v rfl rfl (zD rfl rfl rfl (by rfl) rfl (by decide)) ?_); (refine zY.v rfl rfl (by exact vJ rfl rfl rfl (by exact g1) (by exact g3) rfl (by decide)) ?_); (refine zY.v rfl rfl (w_load1 rfl rfl rfl rfl (by decide)) ?_); (refine zY.v rfl rfl (zV rfl rfl rfl (by decide)) ?_); refine zY.nil ?_) | (refine zZ.iq 4 ?_; refine zZ.rqc _ K_1z K_0 ?_; (refine zY.v rfl rfl (by exact zO (turns_fn) rfl rfl rfl (by decide)) ?_); (refine zY.v rfl rfl (w_lenS rfl rfl rfl (by decide)) ?_); (refine zY.v rfl rfl (zQ rfl rfl rfl (by decide)) ?_); refine zY.nil ?_) | refine zZ.yI rfl (by assumption) ?_ | refine zZ.skip ?_ | refine zZ.block ?_))
  refine zZ.loop (wordsS t c kd a b old i ws d) (fun k => (k : Int) ≤ kd) (fun k => 5 - k) 0 ?h0 hkd.1 ?rd
  case h0 =>
    exact yR K_x K_8
  case rd =>
    rintro k hk
    have hk6 : k = 0 ∨ k = 1 ∨ k = 2 ∨ k = 3 ∨ k = 4 := by omega
    rcases hk6 with rfl | rfl | rfl | rfl | rfl
    · have gl : decide (((0 : Nat) : Int) < 5) = true := rfl
      by_cases hke : kd = 0
      case neg =>
        have gw : IntKind.i64.wrap (((0 : Nat) : Int) + 1) = ((1 : Nat) : Int) := rfl
        have gd : (!decide ((0 : Int) = kd)) = true := by simp; omega
        repeat' (first | (refine zZ.is ?_; first | refine zZ.seq ?_ | (refine zZ.iq 5 ?_; refine zZ.rqd _ K_1 K_0 ?_; (refine zY.v rfl rfl (by exact xI rfl rfl rfl (by exact gl) rfl (by decide)) ?_); refine zY.nil ?_) | (refine zZ.iq 6 ?_; refine zZ.rqd _ K_1 K_0 ?_; (refine zY.v rfl rfl (by exact vJ rfl rfl rfl (by exact g2) (by rfl) rfl (by decide)) ?_); (refine zY.v rfl rfl (by exact w_loadN rfl rfl (by exact Nat.le_of_ble_eq_true rfl) rfl (by decide)) ?_); (refine zY.m rfl rfl (yB rfl (by decide) rfl (by decide)) ?_); (refine zY.w rfl (by exact zT rfl rfl rfl rfl rfl (by rfl) (by exact Nat.le_of_ble_eq_true rfl) rfl rfl) ?_); refine zY.nil ?_) | (refine zZ.iq 7 ?_; refine zZ.rqd _ K_1 K_0 ?_; (refine zY.v rfl rfl (zA rfl rfl rfl (by decide)) ?_); (refine zY.v rfl rfl (zD rfl rfl rfl (by rfl) rfl (by decide)) ?_); (refine zY.v rfl rfl (zA rfl rfl rfl (by decide)) ?_); (refine zY.v rfl rfl (zD rfl rfl rfl (by rfl) rfl (by decide)) ?_); (refine zY.v rfl rfl (by exact wS rfl rfl rfl (by exact gd) rfl (by decide)) ?_); refine zY.nil ?_) | (refine zZ.iq 13 ?_; refine zZ.rqd _ K_1 K_0 ?_; (refine zY.v rfl rfl (by exact qQ rfl rfl rfl (by exact gw) rfl (by decide)) ?_); (refine zY.v rfl rfl (zQ rfl rfl rfl (by decide)) ?_); refine zY.nil ?_) | refine zZ.yM rfl (by assumption) ?_ | refine zZ.skip ?_ | refine zZ.block ?_ | refine zZ.exit ?_) | refine zG.n ?_)
        refine ⟨1, ?_, (by omega), by decide⟩
        exact yR K_x K_8
      case pos =>
        subst hke
        have gx : ∀ x : Int, (!decide (x = x)) = false := fun x => by simp
        repeat' (first | (refine zZ.is ?_; first | refine zZ.seq ?_ | (refine zZ.iq 5 ?_; refine zZ.rqd _ K_1 K_0 ?_; (refine zY.v rfl rfl (by exact xI rfl rfl rfl (by exact gl) rfl (by decide)) ?_); refine zY.nil ?_) | (refine zZ.iq 6 ?_; refine zZ.rqd _ K_1 K_0 ?_; (refine zY.v rfl rfl (by exact vJ rfl rfl rfl (by exact g2) (by rfl) rfl (by decide)) ?_); (refine zY.v rfl rfl (by exact w_loadN rfl rfl (by exact Nat.le_of_ble_eq_true rfl) rfl (by decide)) ?_); (refine zY.m rfl rfl (yB rfl (by decide) rfl (by decide)) ?_); (refine zY.w rfl (by exact zT rfl rfl rfl rfl rfl (by rfl) (by exact Nat.le_of_ble_eq_true rfl) rfl rfl) ?_); refine zY.nil ?_) | (refine zZ.iq 7 ?_; refine zZ.rqd _ K_1 K_0 ?_; (refine zY.v rfl rfl (zA rfl rfl rfl (by decide)) ?_); (refine zY.v rfl rfl (zD rfl rfl rfl (by rfl) rfl (by decide)) ?_); (refine zY.v rfl rfl (zA rfl rfl rfl (by decide)) ?_); (refine zY.v rfl rfl (zD rfl rfl rfl (by rfl) rfl (by decide)) ?_); (refine zY.v rfl rfl (by exact wS rfl rfl rfl (by exact gx _) rfl (by decide)) ?_); refine zY.nil ?_) | (refine zZ.iq 8 ?_; refine zZ.rqd _ K_1 K_0 ?_; (refine zY.v rfl rfl (zA rfl rfl rfl (by decide)) ?_); (refine zY.v rfl rfl (zD rfl rfl rfl (by rfl) rfl (by decide)) ?_); (refine zY.v rfl rfl (zQ rfl rfl rfl (by decide)) ?_); (refine zY.v rfl rfl (yX rfl rfl rfl (by rfl) (by rfl) rfl (by decide)) ?_); (refine zY.ofT rfl (zH.eRet [] (FnE.ofFnT (turn1_fn old 0 i a b d xW)) rfl (by decide) (qN rfl rfl) (by rfl) (wO (by decide) rfl (by repeat' exact trivial)) rfl rfl rfl rfl ?_)); (refine zY.v rfl rfl (xP rfl rfl rfl (by decide)) ?_); (refine zY.v rfl rfl (yK rfl rfl rfl rfl (by decide)) ?_); (refine zY.v rfl rfl (yK rfl rfl rfl rfl (by decide)) ?_); (refine zY.v rfl rfl (zV rfl rfl rfl (by decide)) ?_); (refine zY.v rfl rfl (zV rfl rfl rfl (by decide)) ?_); refine zY.nil ?_) | (refine zZ.iq 9 ?_; refine zZ.rqd _ K_1 K_0 ?_; (refine zY.v rfl rfl (zQ rfl rfl rfl (by decide)) ?_); (refine zY.v rfl rfl (zQ rfl rfl rfl (by decide)) ?_); (refine zY.v rfl rfl (by exact wS rfl rfl rfl (by exact gx _) rfl (by decide)) ?_); refine zY.nil ?_) | (refine zZ.iq 12 ?_; refine zZ.rqc _ K_1 K_0 ?_; (refine zY.v rfl rfl (yX rfl rfl rfl (by rfl) (by rfl) rfl (by decide)) ?_); (refine zY.v rfl rfl (zQ rfl rfl rfl (by decide)) ?_); (refine zY.v rfl rfl (xR rfl (by rfl) (by rfl) (by rfl) (by rfl) rfl (by decide)) ?_); (refine zY.w rfl (by exact zT rfl rfl rfl rfl rfl (by rfl) (by exact Nat.le_of_ble_eq_true rfl) rfl rfl) ?_); (refine zY.w rfl (by exact zT rfl rfl rfl rfl rfl (by rfl) (by exact Nat.le_of_ble_eq_true rfl) rfl rfl) ?_); refine zY.nil ?_) | refine zZ.yM rfl (by assumption) ?_ | refine zZ.yI rfl (by assumption) ?_ | refine zZ.skip ?_ | refine zZ.block ?_ | refine zZ.ret ?_) | refine zG.r ?_ | refine yZ.r ?_)
        all_goals refine ⟨by first | exact .inl rfl | exact .inr rfl, _, Sub.refl _, .tupE (rs := [.cell 4 53, .cell 5 125]) rfl (by decide) (.cons (.cellN rfl rfl (by rfl) (by rfl)) (.cons (.cellN rfl rfl (by rfl) (by rfl)) .nil)) ?_⟩
        all_goals first
          | exact wX (wds_set ws i _) rfl
          | exact wX (congrArg wds (qH (hi.trans (congrArg some (eq_of_nd h).symm))).symm) rfl
          | exact wX (congrArg wds (qH hi).symm) rfl
    · have gl : decide (((1 : Nat) : Int) < 5) = true := rfl
      by_cases hke : kd = 1
      case neg =>
        have gw : IntKind.i64.wrap (((1 : Nat) : Int) + 1) = ((2 : Nat) : Int) := rfl
        have gd : (!decide ((1 : Int) = kd)) = true := by simp; omega
        repeat' (first | (refine zZ.is ?_; first | refine zZ.seq ?_ | (refine zZ.iq 5 ?_; refine zZ.rqd _ K_1 K_0 ?_; (refine zY.v rfl rfl (by exact xI rfl rfl rfl (by exact gl) rfl (by decide)) ?_); refine zY.nil ?_) | (refine zZ.iq 6 ?_; refine zZ.rqd _ K_1 K_0 ?_; (refine zY.v rfl rfl (by exact vJ rfl rfl rfl (by exact g2) (by rfl) rfl (by decide)) ?_); (refine zY.v rfl rfl (by exact w_loadN rfl rfl (by exact Nat.le_of_ble_eq_true rfl) rfl (by decide)) ?_); (refine zY.m rfl rfl (yB rfl (by decide) rfl (by decide)) ?_); (refine zY.w rfl (by exact zT rfl rfl rfl rfl rfl (by rfl) (by exact Nat.le_of_ble_eq_true rfl) rfl rfl) ?_); refine zY.nil ?_) | (refine zZ.iq 7 ?_; refine zZ.rqd _ K_1 K_0 ?_; (refine zY.v rfl rfl (zA rfl rfl rfl (by decide)) ?_); (refine zY.v rfl rfl (zD rfl rfl rfl (by rfl) rfl (by decide)) ?_); (refine zY.v rfl rfl (zA rfl rfl rfl (by decide)) ?_); (refine zY.v rfl rfl (zD rfl rfl rfl (by rfl) rfl (by decide)) ?_); (refine zY.v rfl rfl (by exact wS rfl rfl rfl (by exact gd) rfl (by decide)) ?_); refine zY.nil ?_) | (refine zZ.iq 13 ?_; refine zZ.rqd _ K_1 K_0 ?_; (refine zY.v rfl rfl (by exact qQ rfl rfl rfl (by exact gw) rfl (by decide)) ?_); (refine zY.v rfl rfl (zQ rfl rfl rfl (by decide)) ?_); refine zY.nil ?_) | refine zZ.yM rfl (by assumption) ?_ | refine zZ.skip ?_ | refine zZ.block ?_ | refine zZ.exit ?_) | refine zG.n ?_)
        refine ⟨2, ?_, (by omega), by decide⟩
        exact yR K_x K_8
      case pos =>
        subst hke
        have gx : ∀ x : Int, (!decide (x = x)) = false := fun x => by simp
        repeat' (first | (refine zZ.is ?_; first | refine zZ.seq ?_ | (refine zZ.iq 5 ?_; refine zZ.rqd _ K_1 K_0 ?_; (refine zY.v rfl rfl (by exact xI rfl rfl rfl (by exact gl) rfl (by decide)) ?_); refine zY.nil ?_) | (refine zZ.iq 6 ?_; refine zZ.rqd _ K_1 K_0 ?_; (refine zY.v rfl rfl (by exact vJ rfl rfl rfl (by exact g2) (by rfl) rfl (by decide)) ?_); (refine zY.v rfl rfl (by exact w_loadN rfl rfl (by exact Nat.le_of_ble_eq_true rfl) rfl (by decide)) ?_); (refine zY.m rfl rfl (yB rfl (by decide) rfl (by decide)) ?_); (refine zY.w rfl (by exact zT rfl rfl rfl rfl rfl (by rfl) (by exact Nat.le_of_ble_eq_true rfl) rfl rfl) ?_); refine zY.nil ?_) | (refine zZ.iq 7 ?_; refine zZ.rqd _ K_1 K_0 ?_; (refine zY.v rfl rfl (zA rfl rfl rfl (by decide)) ?_); (refine zY.v rfl rfl (zD rfl rfl rfl (by rfl) rfl (by decide)) ?_); (refine zY.v rfl rfl (zA rfl rfl rfl (by decide)) ?_); (refine zY.v rfl rfl (zD rfl rfl rfl (by rfl) rfl (by decide)) ?_); (refine zY.v rfl rfl (by exact wS rfl rfl rfl (by exact gx _) rfl (by decide)) ?_); refine zY.nil ?_) | (refine zZ.iq 8 ?_; refine zZ.rqd _ K_1 K_0 ?_; (refine zY.v rfl rfl (zA rfl rfl rfl (by decide)) ?_); (refine zY.v rfl rfl (zD rfl rfl rfl (by rfl) rfl (by decide)) ?_); (refine zY.v rfl rfl (zQ rfl rfl rfl (by decide)) ?_); (refine zY.v rfl rfl (yX rfl rfl rfl (by rfl) (by rfl) rfl (by decide)) ?_); (refine zY.ofT rfl (zH.eRet [] (FnE.ofFnT (turn2_fn old 1 i a b d xW)) rfl (by decide) (qN rfl rfl) (by rfl) (wO (by decide) rfl (by repeat' exact trivial)) rfl rfl rfl rfl ?_)); (refine zY.v rfl rfl (xP rfl rfl rfl (by decide)) ?_); (refine zY.v rfl rfl (yK rfl rfl rfl rfl (by decide)) ?_); (refine zY.v rfl rfl (yK rfl rfl rfl rfl (by decide)) ?_); (refine zY.v rfl rfl (zV rfl rfl rfl (by decide)) ?_); (refine zY.v rfl rfl (zV rfl rfl rfl (by decide)) ?_); refine zY.nil ?_) | (refine zZ.iq 9 ?_; refine zZ.rqd _ K_1 K_0 ?_; (refine zY.v rfl rfl (zQ rfl rfl rfl (by decide)) ?_); (refine zY.v rfl rfl (zQ rfl rfl rfl (by decide)) ?_); (refine zY.v rfl rfl (wS rfl rfl rfl (by rfl) rfl (by decide)) ?_); refine zY.nil ?_) | (refine zZ.iq 10 ?_; refine zZ.rqc _ K_1 K_0 ?_; (refine zY.v rfl rfl (zA rfl rfl rfl (by decide)) ?_); (refine zY.v rfl rfl (zD rfl rfl rfl (by rfl) rfl (by decide)) ?_); (refine zY.m rfl rfl (by exact w_callRowV c1 rfl rfl rfl (by decide)) ?_); (refine zY.v rfl rfl (zA rfl rfl rfl (by decide)) ?_); (refine zY.w rfl (by exact w_storeO rfl rfl rfl rfl rfl rfl (by exact Nat.le_of_ble_eq_true rfl) rfl rfl) ?_); refine zY.nil ?_) | (refine zZ.isR (id := 11) ?_; refine zZ.zR [2, 3, 4, 5, 6, 8, 9, 10, 30, 31, 32, 33, 40, 51] [2, 3, 4, 5, 8, 19, 30, 31, 46, 54] (by repeat' first | exact zX.nil | apply zX.p rfl | apply zX.ptr rfl) (by repeat' first | exact zW.nil | apply zW.boxP rfl rfl | apply zW.some rfl | apply zW.skip) ?_; (refine zY.v rfl rfl (zA rfl rfl rfl (by decide)) ?_); (refine zY.v rfl rfl (w_loadO rfl rfl rfl rfl rfl (by decide)) ?_); (refine zY.v rfl rfl (zA rfl rfl rfl (by decide)) ?_); (refine zY.v rfl rfl (zD rfl rfl rfl (by rfl) rfl (by decide)) ?_); (refine zY.v rfl rfl (zQ rfl rfl rfl (by decide)) ?_); (refine zY.v rfl rfl (by exact qU rfl rfl rfl rfl (by exact g6) rfl (by decide)) ?_); (refine zY.w rfl (by exact w_storeV rfl rfl rfl rfl rfl (by exact g1) (by rfl) rfl (by exact g7) rfl) ?_); refine zY.nil ?_) | (refine zZ.isR (id := 12) ?_; refine zZ.sub (sub_frz (id := 54) rfl) ?_; refine zZ.rqc _ K_1 K_0 ?_; (refine zY.v rfl rfl (yX rfl rfl rfl (by rfl) (by rfl) rfl (by decide)) ?_); (refine zY.v rfl rfl (zQ rfl rfl rfl (by decide)) ?_); (refine zY.v rfl rfl (xR rfl (by rfl) (by rfl) (by rfl) (by rfl) rfl (by decide)) ?_); (refine zY.w rfl (by exact zT rfl rfl rfl rfl rfl (by rfl) (by exact Nat.le_of_ble_eq_true rfl) rfl rfl) ?_); (refine zY.w rfl (by exact zT rfl rfl rfl rfl rfl (by rfl) (by exact Nat.le_of_ble_eq_true rfl) rfl rfl) ?_); refine zY.nil ?_) | (refine zZ.iq 12 ?_; refine zZ.rqc _ K_1 K_0 ?_; (refine zY.v rfl rfl (yX rfl rfl rfl (by rfl) (by rfl) rfl (by decide)) ?_); (refine zY.v rfl rfl (zQ rfl rfl rfl (by decide)) ?_); (refine zY.v rfl rfl (xR rfl (by rfl) (by rfl) (by rfl) (by rfl) rfl (by decide)) ?_); (refine zY.w rfl (by exact zT rfl rfl rfl rfl rfl (by rfl) (by exact Nat.le_of_ble_eq_true rfl) rfl rfl) ?_); (refine zY.w rfl (by exact zT rfl rfl rfl rfl rfl (by rfl) (by exact Nat.le_of_ble_eq_true rfl) rfl rfl) ?_); refine zY.nil ?_) | refine zZ.yM rfl (by assumption) ?_ | refine zZ.yI rfl (by assumption) ?_ | refine zZ.cond rfl (fun h => ?_) (fun h => ?_) | refine zZ.skip ?_ | refine zZ.block ?_ | refine zZ.ret ?_) | refine zG.r ?_ | refine yZ.r ?_)
        all_goals refine ⟨by first | exact .inl rfl | exact .inr rfl, _, Sub.refl _, .tupE (rs := [.cell 4 53, .cell 5 125]) rfl (by decide) (.cons (.cellN rfl rfl (by rfl) (by rfl)) (.cons (.cellN rfl rfl (by rfl) (by rfl)) .nil)) ?_⟩
        all_goals first
          | exact wX (wds_set ws i _) rfl
          | exact wX (congrArg wds (qH (hi.trans (congrArg some (eq_of_nd h).symm))).symm) rfl
          | exact wX (congrArg wds (qH hi).symm) rfl
    · have gl : decide (((2 : Nat) : Int) < 5) = true := rfl
      by_cases hke : kd = 2
      case neg =>
        have gw : IntKind.i64.wrap (((2 : Nat) : Int) + 1) = ((3 : Nat) : Int) := rfl
        have gd : (!decide ((2 : Int) = kd)) = true := by simp; omega
        repeat' (first | (refine zZ.is ?_; first | refine zZ.seq ?_ | (refine zZ.iq 5 ?_; refine zZ.rqd _ K_1 K_0 ?_; (refine zY.v rfl rfl (by exact xI rfl rfl rfl (by exact gl) rfl (by decide)) ?_); refine zY.nil ?_) | (refine zZ.iq 6 ?_; refine zZ.rqd _ K_1 K_0 ?_; (refine zY.v rfl rfl (by exact vJ rfl rfl rfl (by exact g2) (by rfl) rfl (by decide)) ?_); (refine zY.v rfl rfl (by exact w_loadN rfl rfl (by exact Nat.le_of_ble_eq_true rfl) rfl (by decide)) ?_); (refine zY.m rfl rfl (yB rfl (by decide) rfl (by decide)) ?_); (refine zY.w rfl (by exact zT rfl rfl rfl rfl rfl (by rfl) (by exact Nat.le_of_ble_eq_true rfl) rfl rfl) ?_); refine zY.nil ?_) | (refine zZ.iq 7 ?_; refine zZ.rqd _ K_1 K_0 ?_; (refine zY.v rfl rfl (zA rfl rfl rfl (by decide)) ?_); (refine zY.v rfl rfl (zD rfl rfl rfl (by rfl) rfl (by decide)) ?_); (refine zY.v rfl rfl (zA rfl rfl rfl (by decide)) ?_); (refine zY.v rfl rfl (zD rfl rfl rfl (by rfl) rfl (by decide)) ?_); (refine zY.v rfl rfl (by exact wS rfl rfl rfl (by exact gd) rfl (by decide)) ?_); refine zY.nil ?_) | (refine zZ.iq 13 ?_; refine zZ.rqd _ K_1 K_0 ?_; (refine zY.v rfl rfl (by exact qQ rfl rfl rfl (by exact gw) rfl (by decide)) ?_); (refine zY.v rfl rfl (zQ rfl rfl rfl (by decide)) ?_); refine zY.nil ?_) | refine zZ.yM rfl (by assumption) ?_ | refine zZ.skip ?_ | refine zZ.block ?_ | refine zZ.exit ?_) | refine zG.n ?_)
        refine ⟨3, ?_, (by omega), by decide⟩
        exact yR K_x K_8
      case pos =>
        subst hke
        have gx : ∀ x : Int, (!decide (x = x)) = false := fun x => by simp
        repeat' (first | (refine zZ.is ?_; first | refine zZ.seq ?_ | (refine zZ.iq 5 ?_; refine zZ.rqd _ K_1 K_0 ?_; (refine zY.v rfl rfl (by exact xI rfl rfl rfl (by exact gl) rfl (by decide)) ?_); refine zY.nil ?_) | (refine zZ.iq 6 ?_; refine zZ.rqd _ K_1 K_0 ?_; (refine zY.v rfl rfl (by exact vJ rfl rfl rfl (by exact g2) (by rfl) rfl (by decide)) ?_); (refine zY.v rfl rfl (by exact w_loadN rfl rfl (by exact Nat.le_of_ble_eq_true rfl) rfl (by decide)) ?_); (refine zY.m rfl rfl (yB rfl (by decide) rfl (by decide)) ?_); (refine zY.w rfl (by exact zT rfl rfl rfl rfl rfl (by rfl) (by exact Nat.le_of_ble_eq_true rfl) rfl rfl) ?_); refine zY.nil ?_) | (refine zZ.iq 7 ?_; refine zZ.rqd _ K_1 K_0 ?_; (refine zY.v rfl rfl (zA rfl rfl rfl (by decide)) ?_); (refine zY.v rfl rfl (zD rfl rfl rfl (by rfl) rfl (by decide)) ?_); (refine zY.v rfl rfl (zA rfl rfl rfl (by decide)) ?_); (refine zY.v rfl rfl (zD rfl rfl rfl (by rfl) rfl (by decide)) ?_); (refine zY.v rfl rfl (by exact wS rfl rfl rfl (by exact gx _) rfl (by decide)) ?_); refine zY.nil ?_) | (refine zZ.iq 8 ?_; refine zZ.rqd _ K_1 K_0 ?_; (refine zY.v rfl rfl (zA rfl rfl rfl (by decide)) ?_); (refine zY.v rfl rfl (zD rfl rfl rfl (by rfl) rfl (by decide)) ?_); (refine zY.v rfl rfl (zQ rfl rfl rfl (by decide)) ?_); (refine zY.v rfl rfl (yX rfl rfl rfl (by rfl) (by rfl) rfl (by decide)) ?_); (refine zY.ofT rfl (zH.eRet [] (FnE.ofFnT (turn3_fn old 2 i a b d xW)) rfl (by decide) (qN rfl rfl) (by rfl) (wO (by decide) rfl (by repeat' exact trivial)) rfl rfl rfl rfl ?_)); (refine zY.v rfl rfl (xP rfl rfl rfl (by decide)) ?_); (refine zY.v rfl rfl (yK rfl rfl rfl rfl (by decide)) ?_); (refine zY.v rfl rfl (yK rfl rfl rfl rfl (by decide)) ?_); (refine zY.v rfl rfl (zV rfl rfl rfl (by decide)) ?_); (refine zY.v rfl rfl (zV rfl rfl rfl (by decide)) ?_); refine zY.nil ?_) | (refine zZ.iq 9 ?_; refine zZ.rqd _ K_1 K_0 ?_; (refine zY.v rfl rfl (zQ rfl rfl rfl (by decide)) ?_); (refine zY.v rfl rfl (zQ rfl rfl rfl (by decide)) ?_); (refine zY.v rfl rfl (wS rfl rfl rfl (by rfl) rfl (by decide)) ?_); refine zY.nil ?_) | (refine zZ.iq 10 ?_; refine zZ.rqc _ K_1 K_0 ?_; (refine zY.v rfl rfl (zA rfl rfl rfl (by decide)) ?_); (refine zY.v rfl rfl (zD rfl rfl rfl (by rfl) rfl (by decide)) ?_); (refine zY.m rfl rfl (by exact w_callRowV c1 rfl rfl rfl (by decide)) ?_); (refine zY.v rfl rfl (zA rfl rfl rfl (by decide)) ?_); (refine zY.w rfl (by exact w_storeO rfl rfl rfl rfl rfl rfl (by exact Nat.le_of_ble_eq_true rfl) rfl rfl) ?_); refine zY.nil ?_) | (refine zZ.isR (id := 11) ?_; refine zZ.zR [2, 3, 4, 5, 6, 8, 9, 10, 30, 31, 32, 33, 40, 51] [2, 3, 4, 5, 8, 19, 30, 31, 46, 54] (by repeat' first | exact zX.nil | apply zX.p rfl | apply zX.ptr rfl) (by repeat' first | exact zW.nil | apply zW.boxP rfl rfl | apply zW.some rfl | apply zW.skip) ?_; (refine zY.v rfl rfl (zA rfl rfl rfl (by decide)) ?_); (refine zY.v rfl rfl (w_loadO rfl rfl rfl rfl rfl (by decide)) ?_); (refine zY.v rfl rfl (zA rfl rfl rfl (by decide)) ?_); (refine zY.v rfl rfl (zD rfl rfl rfl (by rfl) rfl (by decide)) ?_); (refine zY.v rfl rfl (zQ rfl rfl rfl (by decide)) ?_); (refine zY.v rfl rfl (by exact qU rfl rfl rfl rfl (by exact g6) rfl (by decide)) ?_); (refine zY.w rfl (by exact w_storeV rfl rfl rfl rfl rfl (by exact g1) (by rfl) rfl (by exact g7) rfl) ?_); refine zY.nil ?_) | (refine zZ.isR (id := 12) ?_; refine zZ.sub (sub_frz (id := 54) rfl) ?_; refine zZ.rqc _ K_1 K_0 ?_; (refine zY.v rfl rfl (yX rfl rfl rfl (by rfl) (by rfl) rfl (by decide)) ?_); (refine zY.v rfl rfl (zQ rfl rfl rfl (by decide)) ?_); (refine zY.v rfl rfl (xR rfl (by rfl) (by rfl) (by rfl) (by rfl) rfl (by decide)) ?_); (refine zY.w rfl (by exact zT rfl rfl rfl rfl rfl (by rfl) (by exact Nat.le_of_ble_eq_true rfl) rfl rfl) ?_); (refine zY.w rfl (by exact zT rfl rfl rfl rfl rfl (by rfl) (by exact Nat.le_of_ble_eq_true rfl) rfl rfl) ?_); refine zY.nil ?_) | (refine zZ.iq 12 ?_; refine zZ.rqc _ K_1 K_0 ?_; (refine zY.v rfl rfl (yX rfl rfl rfl (by rfl) (by rfl) rfl (by decide)) ?_); (refine zY.v rfl rfl (zQ rfl rfl rfl (by decide)) ?_); (refine zY.v rfl rfl (xR rfl (by rfl) (by rfl) (by rfl) (by rfl) rfl (by decide)) ?_); (refine zY.w rfl (by exact zT rfl rfl rfl rfl rfl (by rfl) (by exact Nat.le_of_ble_eq_true rfl) rfl rfl) ?_); (refine zY.w rfl (by exact zT rfl rfl rfl rfl rfl (by rfl) (by exact Nat.le_of_ble_eq_true rfl) rfl rfl) ?_); refine zY.nil ?_) | refine zZ.yM rfl (by assumption) ?_ | refine zZ.yI rfl (by assumption) ?_ | refine zZ.cond rfl (fun h => ?_) (fun h => ?_) | refine zZ.skip ?_ | refine zZ.block ?_ | refine zZ.ret ?_) | refine zG.r ?_ | refine yZ.r ?_)
        all_goals refine ⟨by first | exact .inl rfl | exact .inr rfl, _, Sub.refl _, .tupE (rs := [.cell 4 53, .cell 5 125]) rfl (by decide) (.cons (.cellN rfl rfl (by rfl) (by rfl)) (.cons (.cellN rfl rfl (by rfl) (by rfl)) .nil)) ?_⟩
        all_goals first
          | exact wX (wds_set ws i _) rfl
          | exact wX (congrArg wds (qH (hi.trans (congrArg some (eq_of_nd h).symm))).symm) rfl
          | exact wX (congrArg wds (qH hi).symm) rfl
    · have gl : decide (((3 : Nat) : Int) < 5) = true := rfl
      by_cases hke : kd = 3
      case neg =>
        have gw : IntKind.i64.wrap (((3 : Nat) : Int) + 1) = ((4 : Nat) : Int) := rfl
        have gd : (!decide ((3 : Int) = kd)) = true := by simp; omega
        repeat' (first | (refine zZ.is ?_; first | refine zZ.seq ?_ | (refine zZ.iq 5 ?_; refine zZ.rqd _ K_1 K_0 ?_; (refine zY.v rfl rfl (by exact xI rfl rfl rfl (by exact gl) rfl (by decide)) ?_); refine zY.nil ?_) | (refine zZ.iq 6 ?_; refine zZ.rqd _ K_1 K_0 ?_; (refine zY.v rfl rfl (by exact vJ rfl rfl rfl (by exact g2) (by rfl) rfl (by decide)) ?_); (refine zY.v rfl rfl (by exact w_loadN rfl rfl (by exact Nat.le_of_ble_eq_true rfl) rfl (by decide)) ?_); (refine zY.m rfl rfl (yB rfl (by decide) rfl (by decide)) ?_); (refine zY.w rfl (by exact zT rfl rfl rfl rfl rfl (by rfl) (by exact Nat.le_of_ble_eq_true rfl) rfl rfl) ?_); refine zY.nil ?_) | (refine zZ.iq 7 ?_; refine zZ.rqd _ K_1 K_0 ?_; (refine zY.v rfl rfl (zA rfl rfl rfl (by decide)) ?_); (refine zY.v rfl rfl (zD rfl rfl rfl (by rfl) rfl (by decide)) ?_); (refine zY.v rfl rfl (zA rfl rfl rfl (by decide)) ?_); (refine zY.v rfl rfl (zD rfl rfl rfl (by rfl) rfl (by decide)) ?_); (refine zY.v rfl rfl (by exact wS rfl rfl rfl (by exact gd) rfl (by decide)) ?_); refine zY.nil ?_) | (refine zZ.iq 13 ?_; refine zZ.rqd _ K_1 K_0 ?_; (refine zY.v rfl rfl (by exact qQ rfl rfl rfl (by exact gw) rfl (by decide)) ?_); (refine zY.v rfl rfl (zQ rfl rfl rfl (by decide)) ?_); refine zY.nil ?_) | refine zZ.yM rfl (by assumption) ?_ | refine zZ.skip ?_ | refine zZ.block ?_ | refine zZ.exit ?_) | refine zG.n ?_)
        refine ⟨4, ?_, (by omega), by decide⟩
        exact yR K_x K_8
      case pos =>
        subst hke
        have gx : ∀ x : Int, (!decide (x = x)) = false := fun x => by simp
        repeat' (first | (refine zZ.is ?_; first | refine zZ.seq ?_ | (refine zZ.iq 5 ?_; refine zZ.rqd _ K_1 K_0 ?_; (refine zY.v rfl rfl (by exact xI rfl rfl rfl (by exact gl) rfl (by decide)) ?_); refine zY.nil ?_) | (refine zZ.iq 6 ?_; refine zZ.rqd _ K_1 K_0 ?_; (refine zY.v rfl rfl (by exact vJ rfl rfl rfl (by exact g2) (by rfl) rfl (by decide)) ?_); (refine zY.v rfl rfl (by exact w_loadN rfl rfl (by exact Nat.le_of_ble_eq_true rfl) rfl (by decide)) ?_); (refine zY.m rfl rfl (yB rfl (by decide) rfl (by decide)) ?_); (refine zY.w rfl (by exact zT rfl rfl rfl rfl rfl (by rfl) (by exact Nat.le_of_ble_eq_true rfl) rfl rfl) ?_); refine zY.nil ?_) | (refine zZ.iq 7 ?_; refine zZ.rqd _ K_1 K_0 ?_; (refine zY.v rfl rfl (zA rfl rfl rfl (by decide)) ?_); (refine zY.v rfl rfl (zD rfl rfl rfl (by rfl) rfl (by decide)) ?_); (refine zY.v rfl rfl (zA rfl rfl rfl (by decide)) ?_); (refine zY.v rfl rfl (zD rfl rfl rfl (by rfl) rfl (by decide)) ?_); (refine zY.v rfl rfl (by exact wS rfl rfl rfl (by exact gx _) rfl (by decide)) ?_); refine zY.nil ?_) | (refine zZ.iq 8 ?_; refine zZ.rqd _ K_1 K_0 ?_; (refine zY.v rfl rfl (zA rfl rfl rfl (by decide)) ?_); (refine zY.v rfl rfl (zD rfl rfl rfl (by rfl) rfl (by decide)) ?_); (refine zY.v rfl rfl (zQ rfl rfl rfl (by decide)) ?_); (refine zY.v rfl rfl (yX rfl rfl rfl (by rfl) (by rfl) rfl (by decide)) ?_); (refine zY.ofT rfl (zH.eRet [] (FnE.ofFnT (turn4_fn old 3 i a b d xW)) rfl (by decide) (qN rfl rfl) (by rfl) (wO (by decide) rfl (by repeat' exact trivial)) rfl rfl rfl rfl ?_)); (refine zY.v rfl rfl (xP rfl rfl rfl (by decide)) ?_); (refine zY.v rfl rfl (yK rfl rfl rfl rfl (by decide)) ?_); (refine zY.v rfl rfl (yK rfl rfl rfl rfl (by decide)) ?_); (refine zY.v rfl rfl (zV rfl rfl rfl (by decide)) ?_); (refine zY.v rfl rfl (zV rfl rfl rfl (by decide)) ?_); refine zY.nil ?_) | (refine zZ.iq 9 ?_; refine zZ.rqd _ K_1 K_0 ?_; (refine zY.v rfl rfl (zQ rfl rfl rfl (by decide)) ?_); (refine zY.v rfl rfl (zQ rfl rfl rfl (by decide)) ?_); (refine zY.v rfl rfl (wS rfl rfl rfl (by rfl) rfl (by decide)) ?_); refine zY.nil ?_) | (refine zZ.iq 10 ?_; refine zZ.rqc _ K_1 K_0 ?_; (refine zY.v rfl rfl (zA rfl rfl rfl (by decide)) ?_); (refine zY.v rfl rfl (zD rfl rfl rfl (by rfl) rfl (by decide)) ?_); (refine zY.m rfl rfl (by exact w_callRowV c1 rfl rfl rfl (by decide)) ?_); (refine zY.v rfl rfl (zA rfl rfl rfl (by decide)) ?_); (refine zY.w rfl (by exact w_storeO rfl rfl rfl rfl rfl rfl (by exact Nat.le_of_ble_eq_true rfl) rfl rfl) ?_); refine zY.nil ?_) | (refine zZ.isR (id := 11) ?_; refine zZ.zR [2, 3, 4, 5, 6, 8, 9, 10, 30, 31, 32, 33, 40, 51] [2, 3, 4, 5, 8, 19, 30, 31, 46, 54] (by repeat' first | exact zX.nil | apply zX.p rfl | apply zX.ptr rfl) (by repeat' first | exact zW.nil | apply zW.boxP rfl rfl | apply zW.some rfl | apply zW.skip) ?_; (refine zY.v rfl rfl (zA rfl rfl rfl (by decide)) ?_); (refine zY.v rfl rfl (w_loadO rfl rfl rfl rfl rfl (by decide)) ?_); (refine zY.v rfl rfl (zA rfl rfl rfl (by decide)) ?_); (refine zY.v rfl rfl (zD rfl rfl rfl (by rfl) rfl (by decide)) ?_); (refine zY.v rfl rfl (zQ rfl rfl rfl (by decide)) ?_); (refine zY.v rfl rfl (by exact qU rfl rfl rfl rfl (by exact g6) rfl (by decide)) ?_); (refine zY.w rfl (by exact w_storeV rfl rfl rfl rfl rfl (by exact g1) (by rfl) rfl (by exact g7) rfl) ?_); refine zY.nil ?_) | (refine zZ.isR (id := 12) ?_; refine zZ.sub (sub_frz (id := 54) rfl) ?_; refine zZ.rqc _ K_1 K_0 ?_; (refine zY.v rfl rfl (yX rfl rfl rfl (by rfl) (by rfl) rfl (by decide)) ?_); (refine zY.v rfl rfl (zQ rfl rfl rfl (by decide)) ?_); (refine zY.v rfl rfl (xR rfl (by rfl) (by rfl) (by rfl) (by rfl) rfl (by decide)) ?_); (refine zY.w rfl (by exact zT rfl rfl rfl rfl rfl (by rfl) (by exact Nat.le_of_ble_eq_true rfl) rfl rfl) ?_); (refine zY.w rfl (by exact zT rfl rfl rfl rfl rfl (by rfl) (by exact Nat.le_of_ble_eq_true rfl) rfl rfl) ?_); refine zY.nil ?_) | (refine zZ.iq 12 ?_; refine zZ.rqc _ K_1 K_0 ?_; (refine zY.v rfl rfl (yX rfl rfl rfl (by rfl) (by rfl) rfl (by decide)) ?_); (refine zY.v rfl rfl (zQ rfl rfl rfl (by decide)) ?_); (refine zY.v rfl rfl (xR rfl (by rfl) (by rfl) (by rfl) (by rfl) rfl (by decide)) ?_); (refine zY.w rfl (by exact zT rfl rfl rfl rfl rfl (by rfl) (by exact Nat.le_of_ble_eq_true rfl) rfl rfl) ?_); (refine zY.w rfl (by exact zT rfl rfl rfl rfl rfl (by rfl) (by exact Nat.le_of_ble_eq_true rfl) rfl rfl) ?_); refine zY.nil ?_) | refine zZ.yM rfl (by assumption) ?_ | refine zZ.yI rfl (by assumption) ?_ | refine zZ.cond rfl (fun h => ?_) (fun h => ?_) | refine zZ.skip ?_ | refine zZ.block ?_ | refine zZ.ret ?_) | refine zG.r ?_ | refine yZ.r ?_)
        all_goals refine ⟨by first | exact .inl rfl | exact .inr rfl, _, Sub.refl _, .tupE (rs := [.cell 4 53, .cell 5 125]) rfl (by decide) (.cons (.cellN rfl rfl (by rfl) (by rfl)) (.cons (.cellN rfl rfl (by rfl) (by rfl)) .nil)) ?_⟩
        all_goals first
          | exact wX (wds_set ws i _) rfl
          | exact wX (congrArg wds (qH (hi.trans (congrArg some (eq_of_nd h).symm))).symm) rfl
          | exact wX (congrArg wds (qH hi).symm) rfl
    · have gl : decide (((4 : Nat) : Int) < 5) = true := rfl
      obtain rfl : kd = 4 := by omega
      have gx : ∀ x : Int, (!decide (x = x)) = false := fun x => by simp
      repeat' (first | (refine zZ.is ?_; first | refine zZ.seq ?_ | (refine zZ.iq 5 ?_; refine zZ.rqd _ K_1 K_0 ?_; (refine zY.v rfl rfl (by exact xI rfl rfl rfl (by exact gl) rfl (by decide)) ?_); refine zY.nil ?_) | (refine zZ.iq 6 ?_; refine zZ.rqd _ K_1 K_0 ?_; (refine zY.v rfl rfl (by exact vJ rfl rfl rfl (by exact g2) (by rfl) rfl (by decide)) ?_); (refine zY.v rfl rfl (by exact w_loadN rfl rfl (by exact Nat.le_of_ble_eq_true rfl) rfl (by decide)) ?_); (refine zY.m rfl rfl (yB rfl (by decide) rfl (by decide)) ?_); (refine zY.w rfl (by exact zT rfl rfl rfl rfl rfl (by rfl) (by exact Nat.le_of_ble_eq_true rfl) rfl rfl) ?_); refine zY.nil ?_) | (refine zZ.iq 7 ?_; refine zZ.rqd _ K_1 K_0 ?_; (refine zY.v rfl rfl (zA rfl rfl rfl (by decide)) ?_); (refine zY.v rfl rfl (zD rfl rfl rfl (by rfl) rfl (by decide)) ?_); (refine zY.v rfl rfl (zA rfl rfl rfl (by decide)) ?_); (refine zY.v rfl rfl (zD rfl rfl rfl (by rfl) rfl (by decide)) ?_); (refine zY.v rfl rfl (by exact wS rfl rfl rfl (by exact gx _) rfl (by decide)) ?_); refine zY.nil ?_) | (refine zZ.iq 8 ?_; refine zZ.rqd _ K_1 K_0 ?_; (refine zY.v rfl rfl (zA rfl rfl rfl (by decide)) ?_); (refine zY.v rfl rfl (zD rfl rfl rfl (by rfl) rfl (by decide)) ?_); (refine zY.v rfl rfl (zQ rfl rfl rfl (by decide)) ?_); (refine zY.v rfl rfl (yX rfl rfl rfl (by rfl) (by rfl) rfl (by decide)) ?_); (refine zY.ofT rfl (zH.eRet [] (FnE.ofFnT (turn5_fn old 4 i a b d xW)) rfl (by decide) (qN rfl rfl) (by rfl) (wO (by decide) rfl (by repeat' exact trivial)) rfl rfl rfl rfl ?_)); (refine zY.v rfl rfl (xP rfl rfl rfl (by decide)) ?_); (refine zY.v rfl rfl (yK rfl rfl rfl rfl (by decide)) ?_); (refine zY.v rfl rfl (yK rfl rfl rfl rfl (by decide)) ?_); (refine zY.v rfl rfl (zV rfl rfl rfl (by decide)) ?_); (refine zY.v rfl rfl (zV rfl rfl rfl (by decide)) ?_); refine zY.nil ?_) | (refine zZ.iq 9 ?_; refine zZ.rqd _ K_1 K_0 ?_; (refine zY.v rfl rfl (zQ rfl rfl rfl (by decide)) ?_); (refine zY.v rfl rfl (zQ rfl rfl rfl (by decide)) ?_); (refine zY.v rfl rfl (wS rfl rfl rfl (by rfl) rfl (by decide)) ?_); refine zY.nil ?_) | (refine zZ.iq 10 ?_; refine zZ.rqc _ K_1 K_0 ?_; (refine zY.v rfl rfl (zA rfl rfl rfl (by decide)) ?_); (refine zY.v rfl rfl (zD rfl rfl rfl (by rfl) rfl (by decide)) ?_); (refine zY.m rfl rfl (by exact w_callRowV c1 rfl rfl rfl (by decide)) ?_); (refine zY.v rfl rfl (zA rfl rfl rfl (by decide)) ?_); (refine zY.w rfl (by exact w_storeO rfl rfl rfl rfl rfl rfl (by exact Nat.le_of_ble_eq_true rfl) rfl rfl) ?_); refine zY.nil ?_) | (refine zZ.isR (id := 11) ?_; refine zZ.zR [2, 3, 4, 5, 6, 8, 9, 10, 30, 31, 32, 33, 40, 51] [2, 3, 4, 5, 8, 19, 30, 31, 46, 54] (by repeat' first | exact zX.nil | apply zX.p rfl | apply zX.ptr rfl) (by repeat' first | exact zW.nil | apply zW.boxP rfl rfl | apply zW.some rfl | apply zW.skip) ?_; (refine zY.v rfl rfl (zA rfl rfl rfl (by decide)) ?_); (refine zY.v rfl rfl (w_loadO rfl rfl rfl rfl rfl (by decide)) ?_); (refine zY.v rfl rfl (zA rfl rfl rfl (by decide)) ?_); (refine zY.v rfl rfl (zD rfl rfl rfl (by rfl) rfl (by decide)) ?_); (refine zY.v rfl rfl (zQ rfl rfl rfl (by decide)) ?_); (refine zY.v rfl rfl (by exact qU rfl rfl rfl rfl (by exact g6) rfl (by decide)) ?_); (refine zY.w rfl (by exact w_storeV rfl rfl rfl rfl rfl (by exact g1) (by rfl) rfl (by exact g7) rfl) ?_); refine zY.nil ?_) | (refine zZ.isR (id := 12) ?_; refine zZ.sub (sub_frz (id := 54) rfl) ?_; refine zZ.rqc _ K_1 K_0 ?_; (refine zY.v rfl rfl (yX rfl rfl rfl (by rfl) (by rfl) rfl (by decide)) ?_); (refine zY.v rfl rfl (zQ rfl rfl rfl (by decide)) ?_); (refine zY.v rfl rfl (xR rfl (by rfl) (by rfl) (by rfl) (by rfl) rfl (by decide)) ?_); (refine zY.w rfl (by exact zT rfl rfl rfl rfl rfl (by rfl) (by exact Nat.le_of_ble_eq_true rfl) rfl rfl) ?_); (refine zY.w rfl (by exact zT rfl rfl rfl rfl rfl (by rfl) (by exact Nat.le_of_ble_eq_true rfl) rfl rfl) ?_); refine zY.nil ?_) | (refine zZ.iq 12 ?_; refine zZ.rqc _ K_1 K_0 ?_; (refine zY.v rfl rfl (yX rfl rfl rfl (by rfl) (by rfl) rfl (by decide)) ?_); (refine zY.v rfl rfl (zQ rfl rfl rfl (by decide)) ?_); (refine zY.v rfl rfl (xR rfl (by rfl) (by rfl) (by rfl) (by rfl) rfl (by decide)) ?_); (refine zY.w rfl (by exact zT rfl rfl rfl rfl rfl (by rfl) (by exact Nat.le_of_ble_eq_true rfl) rfl rfl) ?_); (refine zY.w rfl (by exact zT rfl rfl rfl rfl rfl (by rfl) (by exact Nat.le_of_ble_eq_true rfl) rfl rfl) ?_); refine zY.nil ?_) | refine zZ.yM rfl (by assumption) ?_ | refine zZ.yI rfl (by assumption) ?_ | refine zZ.cond rfl (fun h => ?_) (fun h => ?_) | refine zZ.skip ?_ | refine zZ.block ?_ | refine zZ.ret ?_) | refine zG.r ?_ | refine yZ.r ?_)
      all_goals refine ⟨by first | exact .inl rfl | exact .inr rfl, _, Sub.refl _, .tupE (rs := [.cell 4 53, .cell 5 125]) rfl (by decide) (.cons (.cellN rfl rfl (by rfl) (by rfl)) (.cons (.cellN rfl rfl (by rfl) (by rfl)) .nil)) ?_⟩
      all_goals first
        | exact wX (wds_set ws i _) rfl
        | exact wX (congrArg wds (qH (hi.trans (congrArg some (eq_of_nd h).symm))).symm) rfl
        | exact wX (congrArg wds (qH hi).symm) rfl
theorem wordsOut_fn (t c kd cell a b : Int) (ws : List Int) (d : PV) (hi : cell < 0 ∨ (ws.length : Int) ≤ cell) :
    Fn Tryz.prog 143 [memV t c ws, accV kd cell a b d] (.tup [memV t c ws, resN 0]) := by
  by_cases hn : cell < 0
  case pos =>
    have g4 : decide (cell < 0) = true := decide_eq_true hn
    refine yS Tryz.func143 rfl Tryz.ntmps143 (Nat.le_of_ble_eq_true rfl) ?_
    repeat' (first | (refine zZ.is ?_; first | refine zZ.seq ?_ | (refine zZ.iq 0 ?_; refine zZ.rqb _ K_9 K_0 ?_; (refine zY.m rfl rfl (yN rfl rfl rfl (by decide)) ?_); (refine zY.m rfl rfl (yN rfl rfl rfl (by decide)) ?_); (refine zY.m rfl rfl (yB rfl (by decide) rfl (by decide)) ?_); (refine zY.m rfl rfl (yB rfl (by decide) rfl (by decide)) ?_); refine zY.nil ?_) | (refine zZ.iq 1 ?_; refine zZ.rqk _ K_8 K_0 ?_; all_goals (refine zY.v rfl rfl (zA rfl rfl rfl (by decide)) ?_); all_goals (refine zY.v rfl rfl (zD rfl rfl rfl (by rfl) rfl (by decide)) ?_); all_goals (refine zY.v rfl rfl (by exact xI rfl rfl rfl (by exact g4) rfl (by decide)) ?_); all_goals (refine zY.v rfl rfl (zQ rfl rfl rfl (by decide)) ?_); all_goals (refine zY.gnF rfl rfl (by decide) rfl (by with_reducible rfl) rfl (by decide) ?_); all_goals (refine zY.gnF rfl rfl (by decide) rfl (by with_reducible rfl) rfl (by decide) ?_); all_goals (refine zY.gnF rfl rfl (by decide) rfl (by with_reducible rfl) rfl (by decide) ?_); all_goals (refine zY.gnF rfl rfl (by decide) rfl (by with_reducible rfl) rfl (by decide) ?_); all_goals (refine zY.gnF rfl rfl (by decide) rfl (by with_reducible rfl) rfl (by decide) ?_); all_goals (refine zY.gnF rfl rfl (by decide) rfl (by with_reducible rfl) rfl (by decide) ?_); all_goals (refine zY.v rfl rfl (by exact yU rfl rfl (by with_reducible rfl) rfl rfl (by decide)) ?_); all_goals (refine zY.nil ?_)) | (refine zZ.iq 2 ?_; refine zZ.rqk _ K_8 K_0 ?_; (refine zY.v rfl rfl (yX rfl rfl rfl (by rfl) (by rfl) rfl (by decide)) ?_); (refine zY.v rfl rfl (xR rfl (by rfl) (by rfl) (by rfl) (by rfl) rfl (by decide)) ?_); (refine zY.w rfl (by exact zT rfl rfl rfl rfl rfl (by rfl) (by exact Nat.le_of_ble_eq_true rfl) rfl rfl) ?_); (refine zY.w rfl (by exact zT rfl rfl rfl rfl rfl (by rfl) (by exact Nat.le_of_ble_eq_true rfl) rfl rfl) ?_); refine zY.nil ?_) | refine zZ.yM rfl (by first | assumption | with_reducible rfl) ?_ | refine zZ.ret ?_) | refine zG.r ?_)
    all_goals exact ⟨by first | exact .inl rfl | exact .inr rfl, _, Sub.refl _, .tupE (rs := [.cell 4 53, .cell 5 125]) rfl (by decide) (.cons (.cellN rfl rfl (by rfl) (by rfl)) (.cons (.cellN rfl rfl (by rfl) (by rfl)) .nil)) rfl⟩
  case neg =>
    have g4 : decide (cell < 0) = false := decide_eq_false hn
    have g5 : decide (((wds ws).length : Int) ≤ cell) = true := decide_eq_true (by rw [wds_len]; omega)
    refine yS Tryz.func143 rfl Tryz.ntmps143 (Nat.le_of_ble_eq_true rfl) ?_
    repeat' (first | (refine zZ.is ?_; first | refine zZ.seq ?_ | (refine zZ.iq 0 ?_; refine zZ.rqb _ K_9 K_0 ?_; (refine zY.m rfl rfl (yN rfl rfl rfl (by decide)) ?_); (refine zY.m rfl rfl (yN rfl rfl rfl (by decide)) ?_); (refine zY.m rfl rfl (yB rfl (by decide) rfl (by decide)) ?_); (refine zY.m rfl rfl (yB rfl (by decide) rfl (by decide)) ?_); refine zY.nil ?_) | (refine zZ.iq 1 ?_; refine zZ.rqk _ K_8 K_0 ?_; all_goals (refine zY.v rfl rfl (zA rfl rfl rfl (by decide)) ?_); all_goals (refine zY.v rfl rfl (zD rfl rfl rfl (by rfl) rfl (by decide)) ?_); all_goals (refine zY.v rfl rfl (by exact xI rfl rfl rfl (by exact g4) rfl (by decide)) ?_); all_goals (refine zY.v rfl rfl (zQ rfl rfl rfl (by decide)) ?_); all_goals (refine zY.gY rfl rfl (by decide) rfl (by with_reducible rfl) rfl (by decide) (zA rfl rfl rfl (by decide)) ?_); all_goals (refine zY.gY rfl rfl (by decide) rfl (by with_reducible rfl) rfl (by decide) (zD rfl rfl rfl (by rfl) rfl (by decide)) ?_); all_goals (refine zY.gY rfl rfl (by decide) rfl (by with_reducible rfl) rfl (by decide) (zA rfl rfl rfl (by decide)) ?_); all_goals (refine zY.gY rfl rfl (by decide) rfl (by with_reducible rfl) rfl (by decide) (zD rfl rfl rfl (by rfl) rfl (by decide)) ?_); all_goals (refine zY.gY rfl rfl (by decide) rfl (by with_reducible rfl) rfl (by decide) (w_lenS rfl rfl rfl (by decide)) ?_); all_goals (refine zY.gY rfl rfl (by decide) rfl (by with_reducible rfl) rfl (by decide) (by exact r_geq rfl rfl rfl (by exact g5) rfl (by decide)) ?_); all_goals (refine zY.v rfl rfl (by exact yP rfl rfl (by with_reducible rfl) rfl rfl (by decide)) ?_); all_goals (refine zY.nil ?_)) | (refine zZ.iq 2 ?_; refine zZ.rqk _ K_8 K_0 ?_; (refine zY.v rfl rfl (yX rfl rfl rfl (by rfl) (by rfl) rfl (by decide)) ?_); (refine zY.v rfl rfl (xR rfl (by rfl) (by rfl) (by rfl) (by rfl) rfl (by decide)) ?_); (refine zY.w rfl (by exact zT rfl rfl rfl rfl rfl (by rfl) (by exact Nat.le_of_ble_eq_true rfl) rfl rfl) ?_); (refine zY.w rfl (by exact zT rfl rfl rfl rfl rfl (by rfl) (by exact Nat.le_of_ble_eq_true rfl) rfl rfl) ?_); refine zY.nil ?_) | refine zZ.yM rfl (by first | assumption | with_reducible rfl) ?_ | refine zZ.ret ?_) | refine zG.r ?_)
    all_goals exact ⟨by first | exact .inl rfl | exact .inr rfl, _, Sub.refl _, .tupE (rs := [.cell 4 53, .cell 5 125]) rfl (by decide) (.cons (.cellN rfl rfl (by rfl) (by rfl)) (.cons (.cellN rfl rfl (by rfl) (by rfl)) .nil)) rfl⟩
end Go.Proofs.YtohlllohmoojiaaGreatDoor
/- Appending to a slice cut to its length: s[:n:n]. Generic over the program. -/
namespace Go.Proofs.YtohlllohmoojiaaGreatDoor
set_option maxRecDepth 100000
set_option maxHeartbeats 16000000
open Go Go.RowKit
set_option linter.unusedSimpArgs false
theorem RepL.append {M : Nat → Nat → Prop} {w : World} {xs xs' : List PV} {ys ys' : List Value} (h : RepL M w xs ys) (h' : RepL M w xs' ys') : RepL M w (xs ++ xs') (ys ++ ys') :=
  ⟨by rw [List.length_append, List.length_append, h.len, h'.len], fun i c v h1 h2 => by
    by_cases hi : i < xs.length
    · rw [List.getElem?_append_left hi] at h1
      rw [List.getElem?_append_left (by rw [h.len]; exact hi)] at h2
      exact h.each i c v h1 h2
    · rw [List.getElem?_append_right (by omega)] at h1
      rw [List.getElem?_append_right (by rw [h.len]; omega), h.len] at h2
      exact h'.each _ c v h1 h2, fun v hv => by
    rcases List.mem_append.1 hv with hv | hv
    · exact h.one v hv
    · exact h'.one v hv⟩
theorem cellsA_pure {M : Nat → Nat → Prop} {ρ : Nat → Value} {w : World} {xs : List PV} {ys : List Value} (h : yH M ρ w (xs.map AV.p) ys) : RepL M w xs ys :=
  ⟨by simpa using h.len, fun i c v h1 h2 => rep_p (h.each i (.p c) v (by rw [List.getElem?_map, h1]; rfl) h2), h.one⟩
theorem rep_ownsRow {M : Nat → Nat → Prop} {w w' : World} {e sz : Nat} {v : Value} {k : Nat} {es : List PV} {us : List Value} (hM : ∀ k c, M k c → k < w.heap.size) (h : w'.ownsRow w.heap.size e sz v k us) (hk : k = es.length) (hu : RepL M w' (flat es) us) : Rep M w' (.sl es) v := by
  rcases h.2 with ⟨rfl, h0⟩ | ⟨g, cap, cur, rfl, hg, hh, hkc, hcm, hcs, htk⟩
  · have : es = [] := List.eq_nil_of_length_eq_zero (by omega)
    subst this
    exact .nil
  · refine .sl es g 0 k cap us hk hu.len (fun j y hy => ?_) hu.each hu.one (fun j hj hm => ?_) (Array.getElem?_eq_some_iff.1 hh).1 hkc hcm
    · rw [Nat.zero_add, cell_of_row w' g j cur e (0, 0) hh]
      rw [← htk, List.getElem?_take] at hy
      split at hy
      · simpa using hy
      · cases hy
    · have := hM _ _ hm
      omega
section
variable {P : Program} {n : Nat} {ops : Array Oper} {S : AS} {K : Exit → AS → Prop}
theorem zY.appTight {o1 o2 o3 : Oper} {rest : List Oper} {d1 d2 d3 t e sz by_ : Nat} {x y xh xm : Operand} {z : Value} {es bs : List PV} {k2 k3 : IntKind} {h m : Int} {agg : Bool} [ht : Und P t (.slice e)] [hi : InfoA P e z sz by_] [he : TyA P e agg sz]
    (h1 : o1.op = .slice t x none (some xh) (some xm)) (g1 : o1.guard = none) (e1 : o1.dst = some d1)
    (h2 : o2.op = .move y) (g2 : o2.guard = none) (e2 : o2.dst = some d2)
    (h3 : o3.op = .call { callee := .builtin .append, args := #[.tmp d1, .tmp d2], argTypes := #[t, t] }) (g3 : o3.guard = none) (e3 : o3.dst = some d3)
    (hx : S.get x = .p (.sl es)) (hh : S.get xh = .p (.val (.int k2 h))) (hm : S.get xm = .p (.val (.int k3 m))) (hhe : h = es.length) (hme : m = es.length) (hy : S.get y = .p (.sl bs)) (hne : d2 ≠ d1) (hyd : (S.put d1 .any).get y = .p (.sl bs))
    (hn1 : d1 < n) (hn2 : d2 < n) (hn3 : d3 < n) (hes : ∀ e ∈ es, e.cells.length = sz) (hbs : ∀ e ∈ bs, e.cells.length = sz)
    (hlim : (es.length + bs.length) * by_ ≤ 140737488355328 ∧ es.length + bs.length ≤ maxLen) (hzs : z.cells.size = sz) (hsz : 0 < sz)
    (hr : zY P n ops rest (((S.put d1 .any).put d2 (.p (.sl bs))).put d3 (.p (.sl (es ++ bs)))) K) : zY P n ops (o1 :: o2 :: o3 :: rest) S K := by
  subst hhe hme
  intro M w0 ρ a w Q hs hK
  obtain ⟨i, hi1, hi2⟩ := Option.map_eq_some_iff.1 hi.h
  simp only [Prod.mk.injEq] at hi2
  obtain ⟨hz, hisz, hiby⟩ := hi2
  have hel : P.elem t = e := by simp [Program.elem, ht.h]
  have ht2 : P.underlying t = some (.slice (P.elem t)) := by rw [hel]; exact ht.h
  have r1 := xY hs hx
  have r2 := hs.val hh
  have r3 := hs.val hm
  -- the slice cut to its length
  have key : ∃ v1, (execOp a.eval o1).run P w = .ok (.value v1) w ∧ (((∃ b, v1 = .slice b 0 0) ∧ es = []) ∨ ∃ g off ys, v1 = .slice (some ⟨g, off, none⟩) es.length es.length ∧ RepL (Mut M S ρ) w (flat es) ys ∧ (∀ v ∈ ys, v.oneCell' = true) ∧ (∀ (j : Nat) y, ys[j]? = some y → w.cell? ⟨g, off + j, none⟩ = some y) ∧ (∀ j, j < ys.length → ¬ Mut M S ρ g (off + j)) ∧ g < w.heap.size ∧ es.length ≤ maxLen) := by
    rcases rep_sl r1 with ⟨⟨b, hv⟩, h0⟩ | ⟨g, off, cap, ys, hv, hly, hcell, hM, hgl, hcap, hmx⟩
    · subst h0
      refine ⟨.slice b 0 0, ?_, .inl ⟨⟨b, rfl⟩, rfl⟩⟩
      unfold execOp
      rw [h1]
      simp only [Option.map_some, Option.map_none, hv, r2, r3, Sem.run_bind, run_sliceAt_slice w t _ _ _ _ ht2, run_slice_hm w t b 0 0 ht2 _ _ (([] : List PV).length : Int) (([] : List PV).length : Int) (by simp) (by simp) (by simp)]
      rw [hel, he.sz w]
      rfl
    · refine ⟨.slice (some ⟨g, off, none⟩) es.length es.length, ?_, .inr ⟨g, off, ys, rfl, hly, hly.one, hcell, hM, hgl, by omega⟩⟩
      unfold execOp
      rw [h1]
      simp only [Option.map_some, Option.map_none, hv, r2, r3, Sem.run_bind, run_sliceAt_slice w t _ _ _ _ ht2, run_slice_hm w t (some ⟨g, off, none⟩) es.length cap ht2 _ _ (es.length : Int) (es.length : Int) (by omega) (by omega) (by omega)]
      rw [hel, he.sz w]
      simp [sliced, Result.andThen, Addr.add]
  obtain ⟨v1, hr1, hv1⟩ := key
  unfold wpList
  rw [if_pos (by simp [Region.wanted, g1])]
  refine .inl ?_
  unfold Oper.wp
  rw [hr1]
  show wpList P ops Q (o2 :: o3 :: rest) (a.put o1.dst v1) w
  rw [e1]
  have hs1 : Sat M n w0 (S.put d1 .any) ρ (a.put (some d1) v1) w := hs.put hn1 (.any v1)
  have ry := xY hs1 hyd
  unfold wpList
  rw [if_pos (by simp [Region.wanted, g2])]
  refine .inl ?_
  unfold Oper.wp
  have hr2 : (execOp (a.put (some d1) v1).eval o2).run P w = .ok (.value ((a.put (some d1) v1).eval y)) w := by
    unfold execOp
    rw [h2]
    rfl
  rw [hr2]
  show wpList P ops Q (o3 :: rest) ((a.put (some d1) v1).put o2.dst _) w
  rw [e2]
  generalize hvy : (a.put (some d1) v1).eval y = vy at ry ⊢
  have hs2 := hs1.put (d := d2) hn2 (.p ry)
  have t1 : ((a.put (some d1) v1).put (some d2) vy).eval (.tmp d1) = v1 := by
    have : d1 < a.tmps.size := by rw [hs.size]; exact hn1
    simp [Act.eval, Act.put, Array.getD_eq_getD_getElem?, Array.getElem?_setIfInBounds, hne, this]
  have t2 : ((a.put (some d1) v1).put (some d2) vy).eval (.tmp d2) = vy := by
    have : d2 < a.tmps.size := by rw [hs.size]; exact hn2
    simp [Act.eval, Act.put, Array.getD_eq_getD_getElem?, Array.getElem?_setIfInBounds, this]
  obtain ⟨us, hus, hnews⟩ := news_p (ρ := ρ) ry hbs
  have hMut : Mut M ((S.put d1 .any).put d2 (.p (.sl bs))) ρ = Mut M S ρ := rfl
  have main : ∀ v' w', (Builtin.append_ #[t, t] o3.type #[v1, vy]).run P w = .ok v' w' → Below w.heap.size w w' → Rep (Mut M S ρ) w' (.sl (es ++ bs)) v' → wpList P ops Q (o3 :: rest) ((a.put (some d1) v1).put (some d2) vy) w := by
    intro v' w' hr3 hb hrep
    unfold wpList
    rw [if_pos (by simp [Region.wanted, g3])]
    refine .inl ?_
    unfold Oper.wp execOp
    simp only [h3, resolve, invoke, builtin, Sem.run_bind, Sem.run_pure, Result.andThen_ok, List.map_toArray, List.map_cons, List.map_nil, t1, t2, hr3]
    show wpList P ops Q rest (((a.put (some d1) v1).put (some d2) vy).put o3.dst v') w'
    rw [e3]
    exact hr M w0 ρ _ w' Q ((hs2.ext hb).put hn3 (.p hrep)) hK
  have hflat : flat (es ++ bs) = flat es ++ flat bs := by simp [flat]
  have hlt : ∀ k c, Mut M S ρ k c → k < w.heap.size := fun k c hk => Mut.lt hs hk
  have grown : ∀ v' w' ys, w.grownBy w' none → w'.ownsRow w.heap.size e sz v' (es.length + bs.length) (ys ++ us) → RepL (Mut M S ρ) w (flat es) ys → Rep (Mut M S ρ) w' (.sl (es ++ bs)) v' := by
    intro v' w' ys hg hown hys
    have hk : Keeps (Mut M S ρ) w w' := ⟨hg.size, fun k c hk _ => World.cell?_of_block (w := w) (hg.block k hk (by simp))⟩
    have hus2 : RepL (Mut M S ρ) w (flat bs) us := cellsA_pure (hMut ▸ hus)
    refine rep_ownsRow hlt hown (by rw [List.length_append]) ?_
    rw [hflat]
    exact (hys.keep hk).append (hus2.keep hk)
  rcases hv1 with ⟨⟨b, hv1⟩, h0⟩ | ⟨g, off, ys, hv1, hys, hone, hcell, hM, hgl, hmx⟩
  · subst h0
    cases b with
    | some b =>
      rcases Nat.eq_zero_or_pos bs.length with hb | hb
      · have hb0 : bs = [] := List.eq_nil_of_length_eq_zero hb
        subst hb0
        refine main v1 w ?_ (Below.refl _ _) ?_
        · have hv : vy = .slice none 0 0 ∨ ∃ ad c, vy = .slice (some ad) 0 c := by
            rcases hnews with ⟨hyv, _, _⟩ | ⟨ad, c, hyv, _⟩
            · exact .inl hyv
            · exact .inr ⟨ad, c, hyv⟩
          rw [hv1]
          refine run_append_nothing w t t o3.type e i ht.h hi1 _ _ _ (Nat.le_refl _) _ ?_
          rcases hv with hv | ⟨ad, c, hv⟩ <;> rw [hv]
          · exact .ofNil w ht.h 0
          · exact .ofSlice w ht.h ad 0 c [] (by simp) (fun j u h => by simp at h) (fun u h => by simp at h)
        · rw [hv1]
          exact .nil
      · rcases hnews with ⟨hyv, hk0, hu0⟩ | ⟨ad, c, hyv, hul, hcell2⟩
        · omega
        · obtain ⟨v', w', hr, hown', hg⟩ := run_append_arg_grows (P := P) w t o3.type e i z sz by_ ht.h hi1 hz hisz hiby hzs hsz b 0 0 [] (by simp) (fun j u hu => by simp at hu) ad bs.length c us hul hcell2 (by omega) (by simpa using hlim.2) (by simpa using hlim.1)
          rw [← hv1, ← hyv] at hr
          exact main v' w' hr ⟨hg.os, hg.tape, hg.output, hg.size, fun k hk => hg.block k hk (by simp)⟩ (grown v' w' [] hg (by simpa using hown') ⟨rfl, fun i c v h => by simp [flat] at h, fun v h => by simp at h⟩)
    | none =>
    have hown : ∀ B, w.ownsRow B e sz (.slice none 0 0) 0 [] := fun B => ⟨by simp, .inl ⟨rfl, rfl⟩⟩
    rcases hnews with ⟨hyv, hk0, hu0⟩ | ⟨ad, c, hyv, hul, hcell2⟩
    · have hb0 : bs = [] := List.eq_nil_of_length_eq_zero hk0
      subst hb0
      refine main (.slice none 0 0) w ?_ (Below.refl _ _) .nil
      rw [hyv, hv1]
      exact run_append_owned_none (P := P) w 0 t o3.type e i sz ht.h hi1 (.slice none 0 0) 0 [] (hown 0)
    · obtain ⟨v', w', hr, hown', hg, _, _⟩ := run_append_own_at (P := P) w w.heap.size t o3.type e i z sz by_ ht.h hi1 hz hisz hiby hzs hsz (.slice none 0 0) 0 [] (hown _) ad bs.length c us hul hcell2 hus.one (by simpa using hlim.2) (by simpa using hlim.1) (Nat.le_refl _)
      rw [← hv1, ← hyv] at hr
      exact main v' w' hr ⟨hg.os, hg.tape, hg.output, hg.size, fun k hk => hg.block k hk (fun h => by cases h)⟩ (grown v' w' [] hg (by simpa using hown') ⟨rfl, fun i c v h => by simp [flat] at h, fun v h => by simp at h⟩)
  · have hyl : ys.length = es.length * sz := by rw [hys.len, flat_len hes]
    rcases Nat.eq_zero_or_pos bs.length with hb | hb
    · have hb0 : bs = [] := List.eq_nil_of_length_eq_zero hb
      subst hb0
      refine main v1 w ?_ (Below.refl _ _) ?_
      · have hv : vy = .slice none 0 0 ∨ ∃ ad c, vy = .slice (some ad) 0 c := by
          rcases hnews with ⟨hyv, _, _⟩ | ⟨ad, c, hyv, _⟩
          · exact .inl hyv
          · exact .inr ⟨ad, c, hyv⟩
        rw [hv1]
        refine run_append_nothing w t t o3.type e i ht.h hi1 _ _ _ (Nat.le_refl _) _ ?_
        rcases hv with hv | ⟨ad, c, hv⟩ <;> rw [hv]
        · exact .ofNil w ht.h 0
        · exact .ofSlice w ht.h ad 0 c [] (by simp) (fun j u h => by simp at h) (fun u h => by simp at h)
      · rw [hv1, List.append_nil]
        exact .sl es g off es.length es.length ys rfl hys.len hcell hys.each hone hM hgl (Nat.le_refl _) hmx
    · rcases hnews with ⟨hyv, hk0, hu0⟩ | ⟨ad, c, hyv, hul, hcell2⟩
      · omega
      · obtain ⟨v', w', hr, hown', hg⟩ := run_append_arg_grows (P := P) w t o3.type e i z sz by_ ht.h hi1 hz hisz hiby hzs hsz ⟨g, off, none⟩ es.length es.length ys hyl (fun j u hu => by rw [add_lit]; exact hcell j u hu) ad bs.length c us hul hcell2 (by omega) hlim.2 hlim.1
        rw [← hv1, ← hyv] at hr
        exact main v' w' hr ⟨hg.os, hg.tape, hg.output, hg.size, fun k hk => hg.block k hk (by simp)⟩ (grown v' w' ys hg hown' hys)
/-- A call of a closure that turns nothing, by its contract: a value. -/
theorem w_callClo {o : Oper} {d k : Nat} {x : Operand} {f : FuncId} {args : Array Operand} {ts : Array TypeId} {ys : List PV} {b : Blk} {r : PV} [hc : HasFn P f] (hf : FnE P f (ys.map AV.p ++ [.ptr 1000 0]) [b] (.ret (.p r)) [b])
    (ho : o.op = .call { callee := .value x, args := args, argTypes := ts }) (hx : S.get x = .clo f [k]) (hargs : args.toList.map S.get = ys.map AV.p) (hb : S.blk k = some b) (hren : b.ren (sig [k]) = b) (hok : b.okE 1 = true) (hd : o.dst = some d) (hn : d < n) :
    zK P n o S [k] (.p r) none := by
  intro S2 hg hbk M w0 ρ a w KK Q hs hK
  have hbk2 : S2.blk k = some b := by rw [hbk k (by simp), hb]
  have hx2 : S2.get x = .clo f [k] := by rw [hg x (by rw [ho]; simp [Op.operands, Call.operands]), hx]
  have ha2 : args.toList.map S2.get = ys.map AV.p := by
    rw [← hargs]
    exact List.map_congr_left fun y hy => hg y (by rw [ho]; simp [Op.operands, Call.operands]; exact .inr (by simpa using hy))
  have hh : Hands S2 [k] [b] := wO (by simp) (by simpa using hok) ⟨by rw [hbk2, hren], trivial⟩
  have st := zH.eRet (P := P) (n := n) (o := o) (S := S2) (K := fun _ _ => False) (N := fun S1 => S1 = (S2.after [k] [b]).put d (.p r)) [k] hf hd hn (enters_clo ho hx2) (by
    rw [ha2, List.map_append, List.map_map]
    rfl) hh rfl (by simpa using hok) (by
    rw [List.all_append]
    simp only [List.all_map, Bool.and_eq_true, List.all_cons, List.all_nil]
    exact ⟨List.all_eq_true.2 fun _ _ => rfl, rfl, trivial⟩) rfl rfl
  refine st M w0 ρ a w KK Q hs ?_ ?_
  · intro S1 ρ' a' w' hN hs'
    subst hN
    rw [hd] at hK
    refine hK ρ' a' w' ?_
    refine wB.sat (S := (S2.after [k] [b]).put d (.p r)) (S' := S2.put d (.p r)) ⟨fun _ => rfl, fun j => ?_⟩ hs'
    show (look (qZ [k] [b.ren (sig [k])] S2.s) j = none ∧ S2.blk j = none) ∨ ∃ b1 b2, look (qZ [k] [b.ren (sig [k])] S2.s) j = some b1 ∧ S2.blk j = some b2 ∧ Alike b1 b2
    rw [hren]
    by_cases hj : k = j
    · subst hj
      exact .inr ⟨b, b, by simp [qZ, look_putL], hbk2, .refl b⟩
    · have e : look (qZ [k] [b] S2.s) j = S2.blk j := by simp [qZ, look_putL, hj, AS.blk]
      rw [e]
      cases h : S2.blk j with
      | none => exact .inl ⟨rfl, rfl⟩
      | some c => exact .inr ⟨c, c, rfl, rfl, .refl c⟩
  · intro e S' _ _ _ h
    exact h.elim
/-- A call of a function value, by its contract: a value. -/
theorem w_callFV {o : Oper} {d : Nat} {x : Operand} {f : FuncId} {args : Array Operand} {ts : Array TypeId} {ys : List PV} {r : PV} [hc : HasFn P f] (hf : Fn P f ys (.p r))
    (ho : o.op = .call { callee := .value x, args := args, argTypes := ts }) (hx : S.get x = .p (.val (.func (.func f) #[] #[]))) (hargs : args.toList.map S.get = ys.map AV.p) (hd : o.dst = some d) (hn : d < n) :
    zK P n o S [] (.p r) none := by
  intro S2 hg _ M w0 ρ a w KK Q hs hK
  have hx2 : S2.get x = .p (.val (.func (.func f) #[] #[])) := by rw [hg x (by rw [ho]; simp [Op.operands, Call.operands]), hx]
  have ha2 : args.toList.map S2.get = ys.map AV.p := by
    rw [← hargs]
    exact List.map_congr_left fun y hy => hg y (by rw [ho]; simp [Op.operands, Call.operands]; exact .inr (by simpa using hy))
  have st := zH.eRet (P := P) (n := n) (o := o) (S := S2) (K := fun _ _ => False) (N := fun S1 => S1 = (S2.after [] []).put d (.p r)) [] (FnE.ofFn hf) hd hn (qN ho hx2) (by
    rw [ha2, List.map_map]
    rfl) (wO (by simp) (by simp) trivial) rfl (by simp) (by
    simp only [List.all_map]
    exact List.all_eq_true.2 fun _ _ => rfl) rfl rfl
  refine st M w0 ρ a w KK Q hs ?_ ?_
  · intro S1 ρ' a' w' hN hs'
    subst hN
    rw [hd] at hK
    exact hK ρ' a' w' hs'
  · intro e S' _ _ _ h
    exact h.elim
end
end Go.Proofs.YtohlllohmoojiaaGreatDoor
/- Worlds: streams and disks: contracts. -/
namespace Go.Proofs.YtohlllohmoojiaaGreatDoor
set_option maxRecDepth 100000
set_option maxHeartbeats 16000000
open Go Go.RowKit
set_option linter.unusedSimpArgs false
attribute [local irreducible] zY zZ Step zK Sub zS zH Fn
/-- a stream -/
def strV (d : List Int) (s : Int) : PV := .agg [.sl (byts d), .val (.int .i64 s)]
/-- streams, as a slice's elements; a disk -/
def strs (l : List (List Int × Int)) : List PV := l.map fun p => strV p.1 p.2
def vC (root : Int) (r0 r1 : List (List Int × Int)) : PV := .agg [.val (.int .u64 root), .sl (strs r0), .sl (strs r1)]
theorem strs_len (l : List (List Int × Int)) : (strs l).length = l.length := by simp [strs]
theorem strs_cells (l : List (List Int × Int)) : ∀ e ∈ strs l, e.cells.length = 2 := fun e he => by
  obtain ⟨x, _, rfl⟩ := List.mem_map.1 he
  rfl
theorem strs_at {l : List (List Int × Int)} {i : Nat} {d : List Int} {s : Int} (h : l[i]? = some (d, s)) : (strs l)[i]? = some (strV d s) := by simp [strs, h]
theorem strs_set (l : List (List Int × Int)) (i : Nat) (d : List Int) (s : Int) : (strs l).set i (strV d s) = strs (l.set i (d, s)) := by simp [strs, List.map_set]
theorem isDisk_fn (k : Int) : Fn Tryz.prog 140 [.val (.int .i64 k)] (.p (.val (.bool (decide (5 ≤ k) && decide (k ≤ 12))))) := by
  refine yS Tryz.func140 rfl Tryz.ntmps140 (Nat.le_of_ble_eq_true rfl) ?_
  repeat' ((refine zZ.is ?_; first | refine zZ.seq ?_ | (refine zZ.isR (id := 0) ?_; refine zZ.zR [0] [] (by repeat' first | exact zX.nil | apply zX.p rfl) (by repeat' exact zW.nil) ?_; (refine zY.v rfl rfl (zV rfl rfl rfl (by decide)) ?_); refine zY.nil ?_) | (refine zZ.isR (id := 1) ?_; refine zZ.zR [0, 2] [] (by repeat' first | exact zX.nil | apply zX.p rfl) (by repeat' exact zW.nil) ?_; all_goals (refine zY.v rfl rfl (zQ rfl rfl rfl (by decide)) ?_); all_goals (refine zY.v rfl rfl (r_geq rfl rfl rfl (by rfl) rfl (by decide)) ?_); all_goals (refine zY.v rfl rfl (zQ rfl rfl rfl (by decide)) ?_); all_goals (((fail_if_success refine zY.known rfl rfl rfl (by fail) ?_); refine zY.split rfl rfl rfl (fun h => ?_) (fun h => ?_) <;> first | refine zY.gY rfl rfl (by decide) rfl (by assumption) rfl (by decide) (zQ rfl rfl rfl (by decide)) ?_ | refine zY.gnT rfl rfl (by decide) rfl (by assumption) rfl (by decide) ?_)); all_goals (first | refine zY.gY rfl rfl (by decide) rfl (by assumption) rfl (by decide) (r_leq rfl rfl rfl (by rfl) rfl (by decide)) ?_ | refine zY.gnT rfl rfl (by decide) rfl (by assumption) rfl (by decide) ?_); all_goals (refine zY.v rfl rfl (by first | exact yU rfl rfl (by assumption) rfl rfl (by decide) | exact yP rfl rfl (by assumption) rfl rfl (by decide)) ?_); all_goals (refine zY.v rfl rfl (zV rfl rfl rfl (by decide)) ?_); all_goals (refine zY.nil ?_)) | refine zZ.ret ?_))
  · rw [h, Bool.true_and]
    exact ⟨by first | exact .inl rfl | exact .inr rfl, _, Sub.refl _, .p rfl (.tmp rfl)⟩
  · rw [h, Bool.false_and]
    exact ⟨by first | exact .inl rfl | exact .inr rfl, _, Sub.refl _, .p rfl (.tmp rfl)⟩
theorem row_fn (root : Int) (r0 r1 : PV) (h0 : 0 ≤ root) : Fn Tryz.prog 182 [.agg [.val (.int .u64 root), r0, r1]] (.p (.val (.int .i64 (root % 2)))) := by
  refine yS Tryz.func182 rfl Tryz.ntmps182 (Nat.le_of_ble_eq_true rfl) ?_
  repeat' ((refine zZ.is ?_; first | refine zZ.seq ?_ | (refine zZ.iq 0 ?_; refine zZ.rqb _ K_5 K_4 ?_; (refine zY.m rfl rfl (yN rfl rfl rfl (by decide)) ?_); (refine zY.v rfl rfl (zV rfl rfl rfl (by decide)) ?_); refine zY.nil ?_) | (refine zZ.iq 1 ?_; refine zZ.rqa _ K_3 K_4 ?_; (refine zY.v rfl rfl (zA rfl rfl rfl (by decide)) ?_); (refine zY.v rfl rfl (zD rfl rfl rfl rfl rfl (by decide)) ?_); (refine zY.v rfl rfl (a_rem rfl rfl rfl (by decide) rfl rfl (by decide)) ?_); (refine zY.v rfl rfl (wG rfl rfl (by rfl) rfl (by decide)) ?_); (refine zY.v rfl rfl (zV rfl rfl rfl (by decide)) ?_); refine zY.nil ?_) | refine zZ.ret ?_))
  have e : IntKind.i64.wrap (root.tmod 2) = root % 2 := by
    have h1 : root.tmod 2 = root % 2 := Int.tmod_eq_emod_of_nonneg h0
    have h2 := Int.emod_nonneg root (show (2 : Int) ≠ 0 by decide)
    have h3 := Int.emod_lt_of_pos root (show (0 : Int) < 2 by decide)
    rw [h1]
    rcases (show root % 2 = 0 ∨ root % 2 = 1 by omega) with h | h <;> rw [h] <;> rfl
  all_goals exact ⟨by first | exact .inl rfl | exact .inr rfl, _, Sub.refl _, .p rfl (.tmp (by rw [← e]; rfl))⟩
theorem strApp_fn (d b : List Int) (s : Int) (h : d.length + b.length ≤ 1000000) : Fn Tryz.prog 201 [strV d s, .sl (byts b)] (.p (strV (d ++ b) s)) := by
  refine yS Tryz.func201 rfl Tryz.ntmps201 (Nat.le_of_ble_eq_true rfl) ?_
  repeat' (first | (refine zY.v rfl rfl (by first | exact zA rfl rfl rfl (by decide) | exact zD rfl rfl rfl rfl rfl (by decide) | exact zQ rfl rfl rfl (by decide)) ?_) | (refine zZ.is ?_; first | refine zZ.seq ?_ | (refine zZ.iq 0 ?_; refine zZ.rqb _ K_9 K_y ?_; (refine zY.m rfl rfl (yN rfl rfl rfl (by decide)) ?_); (refine zY.m rfl rfl (yB rfl (by decide) rfl (by decide)) ?_); refine zY.nil ?_) | (refine zZ.iq 1 ?_; refine zZ.rqa _ K_13 K_y ?_; (refine zY.v rfl rfl (zA rfl rfl rfl (by decide)) ?_); (refine zY.v rfl rfl (zD rfl rfl rfl rfl rfl (by decide)) ?_); (refine zY.v rfl rfl (w_lenP rfl rfl rfl (by decide)) ?_); (refine zY.v rfl rfl (zV rfl rfl rfl (by decide)) ?_); refine zY.nil ?_) | (refine zZ.iq 2 ?_; refine zZ.rqa _ K_20 K_y ?_)))
  refine zY.appTight (es := byts d) (bs := byts b) rfl rfl rfl rfl rfl rfl rfl rfl rfl rfl rfl rfl ?_ ?_ rfl (by decide) rfl (by decide) (by decide) (by decide) (byts_one d) (byts_one b) ?_ rfl (by decide) ?_
  · rw [qK]
  · rw [qK]
  · rw [qK, qK]
    simp only [maxLen]
    omega
  rw [show byts d ++ byts b = byts (d ++ b) by simp [byts]]
  repeat' (first | (refine zY.is ?_; first | refine zY.nil ?_ | refine zY.v rfl rfl (zA rfl rfl rfl (by decide)) ?_ | refine zY.w rfl (by exact zT rfl rfl rfl rfl rfl (by rfl) (by exact Nat.le_of_ble_eq_true rfl) rfl rfl) ?_) | (refine zZ.is ?_; first | refine zZ.seq ?_ | (refine zZ.iq 3 ?_; refine zZ.rqe _ K_y K_y ?_; (refine zY.v rfl rfl (yX rfl rfl rfl (by rfl) (by rfl) rfl (by decide)) ?_); (refine zY.w rfl (by exact zT rfl rfl rfl rfl rfl (by rfl) (by exact Nat.le_of_ble_eq_true rfl) rfl rfl) ?_); refine zY.nil ?_) | refine zZ.ret ?_))
  all_goals exact ⟨by first | exact .inl rfl | exact .inr rfl, _, Sub.refl _, .p (r := .cell 4 236) rfl (.cellN rfl rfl (by rfl) (by rfl))⟩
theorem strSync_fn (d : List Int) (s : Int) : Fn Tryz.prog 202 [strV d s] (.p (strV d d.length)) := by
  refine yS Tryz.func202 rfl Tryz.ntmps202 (Nat.le_of_ble_eq_true rfl) ?_
  repeat' ((refine zZ.is ?_; first | refine zZ.seq ?_ | (refine zZ.iq 0 ?_; refine zZ.rqb _ K_5 K_3 ?_; (refine zY.m rfl rfl (yN rfl rfl rfl (by decide)) ?_); (refine zY.m rfl rfl (yB rfl (by decide) rfl (by decide)) ?_); refine zY.nil ?_) | (refine zZ.iq 1 ?_; refine zZ.rqe _ K_3 K_3 ?_; (refine zY.v rfl rfl (zA rfl rfl rfl (by decide)) ?_); (refine zY.v rfl rfl (zD rfl rfl rfl rfl rfl (by decide)) ?_); (refine zY.v rfl rfl (w_lenP rfl rfl rfl (by decide)) ?_); (refine zY.v rfl rfl (zA rfl rfl rfl (by decide)) ?_); (refine zY.w rfl (by exact zT rfl rfl rfl rfl rfl (by rfl) (by exact Nat.le_of_ble_eq_true rfl) rfl rfl) ?_); refine zY.nil ?_) | (refine zZ.iq 2 ?_; refine zZ.rqe _ K_3 K_3 ?_; (refine zY.v rfl rfl (yX rfl rfl rfl (by rfl) (by rfl) rfl (by decide)) ?_); (refine zY.w rfl (by exact zT rfl rfl rfl rfl rfl (by rfl) (by exact Nat.le_of_ble_eq_true rfl) rfl rfl) ?_); refine zY.nil ?_) | refine zZ.ret ?_))
  all_goals exact ⟨by first | exact .inl rfl | exact .inr rfl, _, Sub.refl _, .p (r := .cell 2 236) rfl (.cellN rfl rfl (by rfl) (by rfl))⟩
theorem cloneS_fn (l : List (List Int × Int)) (h0 : 1 ≤ l.length) (h1 : l.length ≤ 1000000) : Fn Tryz.prog 217 [.sl (strs l)] (.row 236 2 (strs l).length (flat (strs l))) := by
  have g1 := strs_cells l
  have g2 : strs l ≠ [] := fun e => by have := congrArg List.length e; rw [strs_len, List.length_nil] at this; omega
  have g3 := grow_lim (strs l).length 32 (by rw [strs_len]; exact h1) (by decide)
  refine yS Tryz.func217 rfl Tryz.ntmps217 (Nat.le_of_ble_eq_true rfl) ?_
  repeat' ((refine zZ.is ?_; first | refine zZ.seq ?_ | (refine zZ.iq 0 ?_; refine zZ.rqb _ K_5 K_c ?_; (refine zY.v rfl rfl (zV rfl rfl rfl (by decide)) ?_); refine zY.nil ?_) | (refine zZ.iq 1 ?_; refine zZ.rqb _ K_11 K_c ?_; (refine zY.v rfl rfl (zQ rfl rfl rfl (by decide)) ?_); (refine zY.v rfl rfl (by exact r_eqlNil rfl rfl rfl (by exact g2) (by exact bF (by decide)) rfl (by decide)) ?_); refine zY.nil ?_) | (refine zZ.iq 3 ?_; refine zZ.rqb _ K_11 K_c ?_; (refine zY.m rfl rfl (w_build0V rfl rfl (by decide)) ?_); (refine zY.v rfl rfl (zQ rfl rfl rfl (by decide)) ?_); (refine zY.w rfl (by exact w_appV rfl rfl rfl rfl (by exact g1) (by exact g3) rfl (by decide) rfl (by decide)) ?_); (refine zY.v rfl rfl (xK rfl rfl rfl (by decide)) ?_); refine zY.nil ?_) | refine zZ.yI rfl (by with_reducible rfl) ?_ | refine zZ.skip ?_ | refine zZ.ret ?_))
  all_goals exact ⟨by first | exact .inl rfl | exact .inr rfl, givesRowV rfl rfl rfl⟩
end Go.Proofs.YtohlllohmoojiaaGreatDoor
/- Disks: a stream turned: contracts. -/
namespace Go.Proofs.YtohlllohmoojiaaGreatDoor
set_option maxRecDepth 100000
set_option maxHeartbeats 16000000
open Go Go.RowKit
set_option linter.unusedSimpArgs false
attribute [local irreducible] zY zZ Step zK Sub zS zH Fn
theorem appendC_fn (d bs : List Int) (s : Int) (h : d.length + bs.length ≤ 1000000) : FnE Tryz.prog 200 ([strV d s].map AV.p ++ [.ptr 1000 0]) [.box 31 [.p (.sl (byts bs))]] (.ret (.p (strV (d ++ bs) s))) [.box 31 [.p (.sl (byts bs))]] := by
  have c := strApp_fn d bs s h
  refine fn_ofE Tryz.func200 rfl Tryz.ntmps200 (Nat.le_of_ble_eq_true rfl) (by decide) ?_
  repeat' ((refine zZ.is ?_; first | refine zZ.seq ?_ | (refine zZ.iq 0 ?_; refine zZ.rqc _ K_9 K_1h ?_; (refine zY.m rfl rfl (yN rfl rfl rfl (by decide)) ?_); (refine zY.m rfl rfl (yB rfl (by decide) rfl (by decide)) ?_); refine zY.nil ?_) | (refine zZ.iq 1 ?_; refine zZ.rqe _ K_j K_1h ?_; (refine zY.v rfl rfl (yX rfl rfl rfl (by rfl) (by rfl) rfl (by decide)) ?_); (refine zY.v rfl rfl (zD rfl rfl rfl rfl rfl (by decide)) ?_); (refine zY.v rfl rfl (by exact zO (c) rfl rfl rfl (by decide)) ?_); (refine zY.w rfl (by exact zT rfl rfl rfl rfl rfl (by rfl) (by exact Nat.le_of_ble_eq_true rfl) rfl rfl) ?_); refine zY.nil ?_) | refine zZ.ret ?_))
  all_goals exact ⟨(by exact .inl rfl), _, Sub.refl _, .p (r := .cell 3 236) rfl (.cellN rfl rfl (by rfl) (by rfl)), wD (by repeat' first | exact trivial | rfl | constructor)⟩
theorem is0_fn (root : Int) (r0 r1 : List (List Int × Int)) (i : Nat) (hi : i < r0.length) : Fn Tryz.prog 203 [vC root r0 r1, .val (.int .i64 0), .val (.int .i64 i)] (.p (.val (.bool true))) := by
  have g1 : decide ((0 : Int) ≤ i) = true := decide_eq_true (by omega)
  have g2 : decide ((i : Int) < (strs r0).length) = true := decide_eq_true (by rw [strs_len]; omega)
  refine yS Tryz.func203 rfl Tryz.ntmps203 (Nat.le_of_ble_eq_true rfl) ?_
  repeat' ((refine zZ.is ?_; first | refine zZ.seq ?_ | (refine zZ.iq 0 ?_; refine zZ.rqb _ K_h K_f ?_; (refine zY.m rfl rfl (yN rfl rfl rfl (by decide)) ?_); (refine zY.v rfl rfl (zV rfl rfl rfl (by decide)) ?_); refine zY.nil ?_) | (refine zZ.iq 1 ?_; refine zZ.rqa _ K_21 K_f ?_; all_goals (refine zY.v rfl rfl (zQ rfl rfl rfl (by decide)) ?_); all_goals (refine zY.v rfl rfl (by exact r_geq rfl rfl rfl (by exact g1) rfl (by decide)) ?_); all_goals (refine zY.v rfl rfl (zQ rfl rfl rfl (by decide)) ?_); all_goals (refine zY.gY rfl rfl (by decide) rfl (by assumption) rfl (by decide) (zQ rfl rfl rfl (by decide)) ?_); all_goals (refine zY.gY rfl rfl (by decide) rfl (by assumption) rfl (by decide) (by exact xI rfl rfl rfl (by exact g1) rfl (by decide)) ?_); all_goals (refine zY.v rfl rfl (by exact yU rfl rfl (by assumption) rfl rfl (by decide)) ?_); all_goals (refine zY.v rfl rfl (zQ rfl rfl rfl (by decide)) ?_); all_goals (refine zY.gY rfl rfl (by decide) rfl (by assumption) rfl (by decide) (zQ rfl rfl rfl (by decide)) ?_); all_goals (refine zY.gY rfl rfl (by decide) rfl (by assumption) rfl (by decide) (by exact r_geq rfl rfl rfl (by exact g1) rfl (by decide)) ?_); all_goals (refine zY.v rfl rfl (by exact yU rfl rfl (by assumption) rfl rfl (by decide)) ?_); all_goals (refine zY.v rfl rfl (zQ rfl rfl rfl (by decide)) ?_); all_goals (refine zY.gY rfl rfl (by decide) rfl (by assumption) rfl (by decide) (zQ rfl rfl rfl (by decide)) ?_); all_goals (refine zY.gY rfl rfl (by decide) rfl (by assumption) rfl (by decide) (zQ rfl rfl rfl (by decide)) ?_); all_goals (refine zY.gY rfl rfl (by decide) rfl (by assumption) rfl (by decide) (zA rfl rfl rfl (by decide)) ?_); all_goals (refine zY.gY rfl rfl (by decide) rfl (by assumption) rfl (by decide) (by exact vS rfl rfl rfl (by omega) rfl (by decide)) ?_); all_goals (refine zY.gY rfl rfl (by decide) rfl (by assumption) rfl (by decide) (zD rfl rfl rfl (by rfl) rfl (by decide)) ?_); all_goals (refine zY.gY rfl rfl (by decide) rfl (by assumption) rfl (by decide) (w_lenS rfl rfl rfl (by decide)) ?_); all_goals (refine zY.gY rfl rfl (by decide) rfl (by assumption) rfl (by decide) (by exact xI rfl rfl rfl (by exact g2) rfl (by decide)) ?_); all_goals (refine zY.v rfl rfl (by exact yU rfl rfl (by assumption) rfl rfl (by decide)) ?_); all_goals (refine zY.v rfl rfl (zV rfl rfl rfl (by decide)) ?_); all_goals (refine zY.nil ?_)) | refine zZ.ret ?_))
  all_goals exact ⟨by first | exact .inl rfl | exact .inr rfl, _, Sub.refl _, .p rfl (.tmp rfl)⟩
theorem turnA0_fn (root : Int) (r0 r1 : List (List Int × Int)) (i : Nat) (d : List Int) (s : Int) (bs : List Int) (hi : r0[i]? = some (d, s)) (h1 : r0.length ≤ 1000000) (h2 : d.length + bs.length ≤ 1000000) :
    FnE Tryz.prog 199 [.p (vC root r0 r1), .p (.val (.int .i64 0)), .p (.val (.int .i64 i)), .clo 200 [1000]] [.box 31 [.p (.sl (byts bs))]] (.ret (.tup [.p (vC root (r0.set i (d ++ bs, s)) r1), .p (.val (.int .i64 0))])) [.box 31 [.p (.sl (byts bs))]] := by
  have hlt : i < r0.length := (List.getElem?_eq_some_iff.1 hi).1
  have g1 := strs_cells r0
  have g3 := strs_at hi
  have g6 : (0 : Int) ≤ (i : Int) ∧ (i : Int) < (strs r0).length := by rw [strs_len]; omega
  have g7 : (i : Int).toNat < (strs r0).length := by rw [strs_len]; omega
  have c0 := is0_fn root r0 r1 i hlt
  have c1 := cloneS_fn r0 (by omega) h1
  have e : vC root (r0.set i (d ++ bs, s)) r1 = .agg [.val (.int .u64 root), .sl ((strs r0).set (i : Int).toNat (strV (d ++ bs) s)), .sl (strs r1)] := by simp [vC, strs_set]
  have c2 := appendC_fn d bs s h2
  refine fn_ofE Tryz.func199 rfl Tryz.ntmps199 (Nat.le_of_ble_eq_true rfl) (by decide) ?_
  repeat' ((refine zZ.is ?_; first | refine zZ.seq ?_ | (refine zZ.isR (id := 0) ?_; refine zZ.zR [0, 1, 2, 3] [4, 8, 13, 21, 37, 1000] (by repeat' first | exact zX.nil | apply zX.p rfl | apply zX.clo rfl) (by repeat' first | exact zW.nil | apply zW.boxP rfl rfl | apply zW.skip) ?_; (refine zY.m rfl rfl (yN rfl rfl rfl (by decide)) ?_); (refine zY.m rfl rfl (yB rfl (by decide) rfl (by decide)) ?_); (refine zY.v rfl rfl (zV rfl rfl rfl (by decide)) ?_); refine zY.nil ?_) | (refine zZ.isR (id := 1) ?_; refine zZ.zR [1, 2, 3, 4, 8, 9] [4, 8, 13, 21, 37, 1000] (by repeat' first | exact zX.nil | apply zX.p rfl | apply zX.ptr rfl | apply zX.clo rfl) (by repeat' first | exact zW.nil | apply zW.boxP rfl rfl | apply zW.skip) ?_; (refine zY.v rfl rfl (yX rfl rfl rfl (by rfl) (by rfl) rfl (by decide)) ?_); (refine zY.v rfl rfl (zQ rfl rfl rfl (by decide)) ?_); (refine zY.v rfl rfl (zQ rfl rfl rfl (by decide)) ?_); (refine zY.v rfl rfl (by exact zO (c0) rfl rfl rfl (by decide)) ?_); (refine zY.v rfl rfl (by exact r_notB rfl rfl (by exact bF (by decide)) rfl (by decide)) ?_); refine zY.nil ?_) | (refine zZ.isR (id := 3) ?_; refine zZ.zR [1, 2, 3, 4, 8, 9] [4, 8, 13, 21, 37, 1000] (by repeat' first | exact zX.nil | apply zX.p rfl | apply zX.ptr rfl | apply zX.clo rfl) (by repeat' first | exact zW.nil | apply zW.boxP rfl rfl | apply zW.skip) ?_; (refine zY.v rfl rfl (zQ rfl rfl rfl (by decide)) ?_); (refine zY.v rfl rfl (zQ rfl rfl rfl (by decide)) ?_); (refine zY.v rfl rfl (zA rfl rfl rfl (by decide)) ?_); (refine zY.v rfl rfl (by exact vS rfl rfl rfl (by omega) rfl (by decide)) ?_); (refine zY.v rfl rfl (zD rfl rfl rfl (by rfl) rfl (by decide)) ?_); (refine zY.m rfl rfl (by exact w_callRowV c1 rfl rfl rfl (by decide)) ?_); (refine zY.v rfl rfl (zA rfl rfl rfl (by decide)) ?_); (refine zY.v rfl rfl (by exact vS rfl rfl rfl (by omega) rfl (by decide)) ?_); (refine zY.w rfl (by exact w_storeO rfl rfl rfl rfl rfl rfl (by exact Nat.le_of_ble_eq_true rfl) rfl rfl) ?_); refine zY.nil ?_) | (refine zZ.isR (id := 4) ?_; refine zZ.regionD [1, 2, 3, 4, 8, 9] [4, 8, 13, 21, 37, 1000] (by repeat' first | exact zX.nil | apply zX.p rfl | apply zX.ptr rfl | apply zX.clo rfl) (by repeat' first | exact zW.nil | apply zW.boxP rfl rfl | apply zW.some rfl | apply zW.skip) (zZ.draws ?_); all_goals (refine Draws.v rfl rfl (zQ rfl rfl rfl (by decide)) ?_); all_goals (refine Draws.v rfl rfl (zA rfl rfl rfl (by decide)) ?_); all_goals (refine Draws.v rfl rfl (by exact vS rfl rfl rfl (by omega) rfl (by decide)) ?_); all_goals (refine Draws.v rfl rfl (w_loadO rfl rfl rfl rfl rfl (by decide)) ?_); all_goals (refine Draws.v rfl rfl (zQ rfl rfl rfl (by decide)) ?_); all_goals (refine Draws.v rfl rfl (a_moveC rfl rfl rfl (by decide)) ?_); all_goals (refine Draws.v rfl rfl (zQ rfl rfl rfl (by decide)) ?_); all_goals (refine Draws.v rfl rfl (zA rfl rfl rfl (by decide)) ?_); all_goals (refine Draws.v rfl rfl (by exact vS rfl rfl rfl (by omega) rfl (by decide)) ?_); all_goals (refine Draws.v rfl rfl (w_loadO rfl rfl rfl rfl rfl (by decide)) ?_); all_goals (refine Draws.v rfl rfl (zQ rfl rfl rfl (by decide)) ?_); all_goals (refine Draws.v rfl rfl (by exact qU rfl rfl rfl rfl (by exact g6) rfl (by decide)) ?_); all_goals (refine Draws.v rfl rfl (by exact w_loadVN rfl rfl rfl (by exact g1) rfl (by exact g3) rfl (by decide)) ?_); all_goals (refine Draws.v rfl rfl (by exact w_callClo (c2) rfl rfl rfl rfl rfl rfl rfl (by decide)) ?_); all_goals (refine Draws.v rfl rfl (by exact qU rfl rfl rfl rfl (by exact g6) rfl (by decide)) ?_); all_goals ((refine Draws.done (by kernel_rfl) (by kernel_rfl) (by kernel_rfl) ?_; refine zS.w rfl (by exact w_storeV rfl rfl rfl rfl rfl (by exact g1) (by rfl) rfl (by exact g7) rfl) ?_)); all_goals (refine zS.nil ?_)) | (refine zZ.isR (id := 5) ?_; refine zZ.sub (sub_frz (id := 21) rfl) ?_; refine zZ.rqc _ K_1i K_22 ?_; (refine zY.v rfl rfl (yX rfl rfl rfl (by rfl) (by rfl) rfl (by decide)) ?_); (refine zY.w rfl (by exact zT rfl rfl rfl rfl rfl (by rfl) (by exact Nat.le_of_ble_eq_true rfl) rfl rfl) ?_); (refine zY.v rfl rfl (zV rfl rfl rfl (by decide)) ?_); refine zY.nil ?_) | refine zZ.yI rfl (by with_reducible rfl) ?_ | refine zZ.skip ?_ | refine zZ.ret ?_))
  rw [e]
  all_goals exact ⟨(by exact .inl rfl), _, Sub.refl _, .tup (rs := [.cell 8 57, .tmp 9]) (l := [.agg [.val (.int .u64 root), .sl ((strs r0).set (i : Int).toNat (strV (d ++ bs) s)), .sl (strs r1)], .val (.int .i64 0)]) rfl (by decide) (.cons (.cellN rfl rfl (by rfl) (by rfl)) (.cons (.tmp rfl) .nil)), wD (by repeat' first | exact trivial | rfl | constructor)⟩
theorem turnS0_fn (root : Int) (r0 r1 : List (List Int × Int)) (i : Nat) (d : List Int) (s : Int) (hi : r0[i]? = some (d, s)) (h1 : r0.length ≤ 1000000) :
    Fn Tryz.prog 199 [vC root r0 r1, .val (.int .i64 0), .val (.int .i64 i), .val (funV 202)] (.tup [vC root (r0.set i (d, d.length)) r1, .val (.int .i64 0)]) := by
  have hlt : i < r0.length := (List.getElem?_eq_some_iff.1 hi).1
  have g1 := strs_cells r0
  have g3 := strs_at hi
  have g6 : (0 : Int) ≤ (i : Int) ∧ (i : Int) < (strs r0).length := by rw [strs_len]; omega
  have g7 : (i : Int).toNat < (strs r0).length := by rw [strs_len]; omega
  have c0 := is0_fn root r0 r1 i hlt
  have c1 := cloneS_fn r0 (by omega) h1
  have e : vC root (r0.set i (d, d.length)) r1 = .agg [.val (.int .u64 root), .sl ((strs r0).set (i : Int).toNat (strV d d.length)), .sl (strs r1)] := by simp [vC, strs_set]
  have c2 := strSync_fn d s
  refine yS Tryz.func199 rfl Tryz.ntmps199 (Nat.le_of_ble_eq_true rfl) ?_
  repeat' ((refine zZ.is ?_; first | refine zZ.seq ?_ | (refine zZ.iq 0 ?_; refine zZ.rqb _ K_d K_12 ?_; (refine zY.m rfl rfl (yN rfl rfl rfl (by decide)) ?_); (refine zY.m rfl rfl (yB rfl (by decide) rfl (by decide)) ?_); (refine zY.v rfl rfl (zV rfl rfl rfl (by decide)) ?_); refine zY.nil ?_) | (refine zZ.iq 1 ?_; refine zZ.rqc _ K_1j K_12 ?_; (refine zY.v rfl rfl (yX rfl rfl rfl (by rfl) (by rfl) rfl (by decide)) ?_); (refine zY.v rfl rfl (zQ rfl rfl rfl (by decide)) ?_); (refine zY.v rfl rfl (zQ rfl rfl rfl (by decide)) ?_); (refine zY.v rfl rfl (by exact zO (c0) rfl rfl rfl (by decide)) ?_); (refine zY.v rfl rfl (by exact r_notB rfl rfl (by exact bF (by decide)) rfl (by decide)) ?_); refine zY.nil ?_) | (refine zZ.iq 3 ?_; refine zZ.rqc _ K_1j K_12 ?_; (refine zY.v rfl rfl (zQ rfl rfl rfl (by decide)) ?_); (refine zY.v rfl rfl (zQ rfl rfl rfl (by decide)) ?_); (refine zY.v rfl rfl (zA rfl rfl rfl (by decide)) ?_); (refine zY.v rfl rfl (by exact vS rfl rfl rfl (by omega) rfl (by decide)) ?_); (refine zY.v rfl rfl (zD rfl rfl rfl (by rfl) rfl (by decide)) ?_); (refine zY.m rfl rfl (by exact w_callRowV c1 rfl rfl rfl (by decide)) ?_); (refine zY.v rfl rfl (zA rfl rfl rfl (by decide)) ?_); (refine zY.v rfl rfl (by exact vS rfl rfl rfl (by omega) rfl (by decide)) ?_); (refine zY.w rfl (by exact w_storeO rfl rfl rfl rfl rfl rfl (by exact Nat.le_of_ble_eq_true rfl) rfl rfl) ?_); refine zY.nil ?_) | (refine zZ.isR (id := 4) ?_; refine zZ.regionD [1, 2, 3, 4, 8, 9] [4, 8, 13, 21, 37] (by repeat' first | exact zX.nil | apply zX.p rfl | apply zX.ptr rfl) (by repeat' first | exact zW.nil | apply zW.boxP rfl rfl | apply zW.some rfl | apply zW.skip) (zZ.draws ?_); all_goals (refine Draws.v rfl rfl (zQ rfl rfl rfl (by decide)) ?_); all_goals (refine Draws.v rfl rfl (zA rfl rfl rfl (by decide)) ?_); all_goals (refine Draws.v rfl rfl (by exact vS rfl rfl rfl (by omega) rfl (by decide)) ?_); all_goals (refine Draws.v rfl rfl (w_loadO rfl rfl rfl rfl rfl (by decide)) ?_); all_goals (refine Draws.v rfl rfl (zQ rfl rfl rfl (by decide)) ?_); all_goals (refine Draws.v rfl rfl (zQ rfl rfl rfl (by decide)) ?_); all_goals (refine Draws.v rfl rfl (zQ rfl rfl rfl (by decide)) ?_); all_goals (refine Draws.v rfl rfl (zA rfl rfl rfl (by decide)) ?_); all_goals (refine Draws.v rfl rfl (by exact vS rfl rfl rfl (by omega) rfl (by decide)) ?_); all_goals (refine Draws.v rfl rfl (w_loadO rfl rfl rfl rfl rfl (by decide)) ?_); all_goals (refine Draws.v rfl rfl (zQ rfl rfl rfl (by decide)) ?_); all_goals (refine Draws.v rfl rfl (by exact qU rfl rfl rfl rfl (by exact g6) rfl (by decide)) ?_); all_goals (refine Draws.v rfl rfl (by exact w_loadVN rfl rfl rfl (by exact g1) rfl (by exact g3) rfl (by decide)) ?_); all_goals (refine Draws.v rfl rfl (by exact w_callFV (c2) rfl rfl rfl rfl (by decide)) ?_); all_goals (refine Draws.v rfl rfl (by exact qU rfl rfl rfl rfl (by exact g6) rfl (by decide)) ?_); all_goals ((refine Draws.done (by kernel_rfl) (by kernel_rfl) (by kernel_rfl) ?_; refine zS.w rfl (by exact w_storeV rfl rfl rfl rfl rfl (by exact g1) (by rfl) rfl (by exact g7) rfl) ?_)); all_goals (refine zS.nil ?_)) | (refine zZ.isR (id := 5) ?_; refine zZ.sub (sub_frz (id := 21) rfl) ?_; refine zZ.rqc _ K_1i K_12 ?_; (refine zY.v rfl rfl (yX rfl rfl rfl (by rfl) (by rfl) rfl (by decide)) ?_); (refine zY.w rfl (by exact zT rfl rfl rfl rfl rfl (by rfl) (by exact Nat.le_of_ble_eq_true rfl) rfl rfl) ?_); (refine zY.v rfl rfl (zV rfl rfl rfl (by decide)) ?_); refine zY.nil ?_) | refine zZ.yI rfl (by with_reducible rfl) ?_ | refine zZ.skip ?_ | refine zZ.ret ?_))
  rw [e]
  all_goals exact ⟨(by exact .inl rfl), _, Sub.refl _, .tup (rs := [.cell 8 57, .tmp 9]) (l := [.agg [.val (.int .u64 root), .sl ((strs r0).set (i : Int).toNat (strV d d.length)), .sl (strs r1)], .val (.int .i64 0)]) rfl (by decide) (.cons (.cellN rfl rfl (by rfl) (by rfl)) (.cons (.tmp rfl) .nil))⟩
theorem diskApp0_fn (root : Int) (r0 r1 : List (List Int × Int)) (i : Nat) (d : List Int) (s : Int) (bs : List Int) (hi : r0[i]? = some (d, s)) (h1 : r0.length ≤ 1000000) (h2 : d.length + bs.length ≤ 1000000) :
    Fn Tryz.prog 183 [vC root r0 r1, .val (.int .i64 0), .val (.int .i64 i), .sl (byts bs)] (.tup [vC root (r0.set i (d ++ bs, s)) r1, .val (.int .i64 0)]) := by
  refine yS Tryz.func183 rfl Tryz.ntmps183 (Nat.le_of_ble_eq_true rfl) ?_
  repeat' ((refine zZ.is ?_; first | refine zZ.seq ?_ | (refine zZ.iq 0 ?_; refine zZ.rqb _ K_d K_1k ?_; (refine zY.m rfl rfl (yN rfl rfl rfl (by decide)) ?_); (refine zY.m rfl rfl (w_boxS rfl rfl rfl (by decide)) ?_); (refine zY.m rfl rfl (yB rfl (by decide) rfl (by decide)) ?_); (refine zY.v rfl rfl (zV rfl rfl rfl (by decide)) ?_); refine zY.nil ?_) | (refine zZ.iq 1 ?_; refine zZ.rqa _ K_23 K_1k ?_; (refine zY.v rfl rfl (yX rfl rfl rfl (by rfl) (by rfl) rfl (by decide)) ?_); (refine zY.v rfl rfl (zQ rfl rfl rfl (by decide)) ?_); (refine zY.v rfl rfl (zQ rfl rfl rfl (by decide)) ?_); (refine zY.v rfl rfl (w_mkFunc rfl (by rfl) rfl (by decide)) ?_); (refine zY.ofT rfl (zH.eRet [7] (turnA0_fn root r0 r1 i d s bs hi h1 h2) rfl (by decide) (enters_fn rfl) (by rfl) (wO (by decide) rfl (by repeat' first | exact trivial | rfl | constructor)) rfl rfl rfl rfl ?_)); (refine zY.v rfl rfl (yK rfl rfl rfl rfl (by decide)) ?_); (refine zY.v rfl rfl (yK rfl rfl rfl rfl (by decide)) ?_); (refine zY.w rfl (by exact zT rfl rfl rfl rfl rfl (by rfl) (by exact Nat.le_of_ble_eq_true rfl) rfl rfl) ?_); (refine zY.v rfl rfl (zV rfl rfl rfl (by decide)) ?_); refine zY.nil ?_) | refine zZ.ret ?_))
  all_goals exact ⟨(by exact .inl rfl), _, Sub.refl _, .tup (rs := [.cell 8 57, .tmp 9]) (l := [vC root (r0.set i (d ++ bs, s)) r1, .val (.int .i64 0)]) rfl (by decide) (.cons (.cellN rfl rfl (by rfl) (by rfl)) (.cons (.tmp rfl) .nil))⟩
theorem diskSync0_fn (root : Int) (r0 r1 : List (List Int × Int)) (i : Nat) (d : List Int) (s : Int) (hi : r0[i]? = some (d, s)) (h1 : r0.length ≤ 1000000) :
    Fn Tryz.prog 184 [vC root r0 r1, .val (.int .i64 0), .val (.int .i64 i)] (.tup [vC root (r0.set i (d, d.length)) r1, .val (.int .i64 0)]) := by
  refine yS Tryz.func184 rfl Tryz.ntmps184 (Nat.le_of_ble_eq_true rfl) ?_
  repeat' ((refine zZ.is ?_; first | refine zZ.seq ?_ | (refine zZ.iq 0 ?_; refine zZ.rqb _ K_h K_1l ?_; (refine zY.m rfl rfl (yN rfl rfl rfl (by decide)) ?_); (refine zY.m rfl rfl (yB rfl (by decide) rfl (by decide)) ?_); (refine zY.v rfl rfl (zV rfl rfl rfl (by decide)) ?_); refine zY.nil ?_) | (refine zZ.iq 1 ?_; refine zZ.rqa _ K_24 K_1l ?_; (refine zY.v rfl rfl (yX rfl rfl rfl (by rfl) (by rfl) rfl (by decide)) ?_); (refine zY.v rfl rfl (zQ rfl rfl rfl (by decide)) ?_); (refine zY.v rfl rfl (zQ rfl rfl rfl (by decide)) ?_); (refine zY.v rfl rfl (by exact xJ (turnS0_fn root r0 r1 i d s hi h1) rfl rfl rfl (by decide)) ?_); (refine zY.v rfl rfl (yK rfl rfl rfl rfl (by decide)) ?_); (refine zY.v rfl rfl (yK rfl rfl rfl rfl (by decide)) ?_); (refine zY.w rfl (by exact zT rfl rfl rfl rfl rfl (by rfl) (by exact Nat.le_of_ble_eq_true rfl) rfl rfl) ?_); (refine zY.v rfl rfl (zV rfl rfl rfl (by decide)) ?_); refine zY.nil ?_) | refine zZ.ret ?_))
  all_goals exact ⟨(by exact .inl rfl), _, Sub.refl _, .tup (rs := [.cell 6 57, .tmp 7]) (l := [vC root (r0.set i (d, d.length)) r1, .val (.int .i64 0)]) rfl (by decide) (.cons (.cellN rfl rfl (by rfl) (by rfl)) (.cons (.tmp rfl) .nil))⟩
end Go.Proofs.YtohlllohmoojiaaGreatDoor
/- Worlds: an access made: contracts. -/
namespace Go.Proofs.YtohlllohmoojiaaGreatDoor
set_option maxRecDepth 100000
set_option maxHeartbeats 16000000
open Go Go.RowKit
set_option linter.unusedSimpArgs false
attribute [local irreducible] zY zZ Step zK Sub zS zH Fn
/-- a world; a result that tells that the disk failed -/
def wR (t c : Int) (ws : List Int) (root : Int) (r0 r1 : List (List Int × Int)) : PV := .agg [.val (.int .i64 t), .val (.int .i64 c), .sl (wds ws), .val (.int .u64 root), .sl (strs r0), .sl (strs r1)]
def resF : PV := .agg [.val (.int .u64 0), .val (.slice none 0 0), .val (.bool true)]
theorem streams50_fn (root : Int) (r0 r1 : List (List Int × Int)) (i : Nat) (d : List Int) (s p q r : Int) (bs : List Int) (h0 : 0 ≤ root) (hr : root % 2 = 0) (hi : r0[i]? = some (d, s)) (h1 : r0.length ≤ 1000000) (h2 : d.length + bs.length ≤ 1000000) :
    Fn Tryz.prog 141 [vC root r0 r1, .val (.int .i64 i), accV 5 p q r (.sl (byts bs))] (.tup [vC root (r0.set i (d ++ bs, s)) r1, resN 0]) := by
  have c0 : Fn Tryz.prog 182 [vC root r0 r1] (.p (.val (.int .i64 0))) := hr ▸ row_fn root (.sl (strs r0)) (.sl (strs r1)) h0
  have c1 := diskApp0_fn root r0 r1 i d s bs hi h1 h2
  refine yS Tryz.func141 rfl Tryz.ntmps141 (Nat.le_of_ble_eq_true rfl) ?_
  repeat' ((refine zZ.is ?_; first | refine zZ.seq ?_ | (refine zZ.iq 0 ?_; refine zZ.rqb _ K_h K_6 ?_; (refine zY.m rfl rfl (yN rfl rfl rfl (by decide)) ?_); (refine zY.m rfl rfl (yN rfl rfl rfl (by decide)) ?_); (refine zY.m rfl rfl (yB rfl (by decide) rfl (by decide)) ?_); (refine zY.m rfl rfl (yB rfl (by decide) rfl (by decide)) ?_); refine zY.nil ?_) | (refine zZ.iq 1 ?_; refine zZ.rqc _ K_1m K_6 ?_; (refine zY.v rfl rfl (yX rfl rfl rfl (by rfl) (by rfl) rfl (by decide)) ?_); (refine zY.v rfl rfl (by exact zO (c0) rfl rfl rfl (by decide)) ?_); (refine zY.v rfl rfl (zV rfl rfl rfl (by decide)) ?_); refine zY.nil ?_) | (refine zZ.iq 2 ?_; refine zZ.rqc _ K_1n K_6 ?_; (refine zY.m rfl rfl (yB rfl (by decide) rfl (by decide)) ?_); refine zY.nil ?_) | (refine zZ.iq 3 ?_; refine zZ.rqa _ K_1o K_6 ?_; (refine zY.v rfl rfl (zA rfl rfl rfl (by decide)) ?_); (refine zY.v rfl rfl (zD rfl rfl rfl rfl rfl (by decide)) ?_); refine zY.nil ?_) | (refine zZ.iq 4 ?_; refine zZ.rqa _ K_z K_6 ?_; (refine zY.v rfl rfl (by exact wM rfl rfl rfl (by exact bT (by decide)) rfl (by decide)) ?_); (refine zY.v rfl rfl (zV rfl rfl rfl (by decide)) ?_); refine zY.nil ?_) | (refine zZ.iq 5 ?_; refine zZ.rqa _ K_z K_6 ?_; (refine zY.v rfl rfl (yX rfl rfl rfl (by rfl) (by rfl) rfl (by decide)) ?_); (refine zY.v rfl rfl (zQ rfl rfl rfl (by decide)) ?_); (refine zY.v rfl rfl (zQ rfl rfl rfl (by decide)) ?_); (refine zY.v rfl rfl (zA rfl rfl rfl (by decide)) ?_); (refine zY.v rfl rfl (zD rfl rfl rfl rfl rfl (by decide)) ?_); (refine zY.v rfl rfl (by exact xJ (c1) rfl rfl rfl (by decide)) ?_); (refine zY.v rfl rfl (xP rfl rfl rfl (by decide)) ?_); (refine zY.v rfl rfl (yK rfl rfl rfl rfl (by decide)) ?_); (refine zY.v rfl rfl (yK rfl rfl rfl rfl (by decide)) ?_); (refine zY.w rfl (by exact zT rfl rfl rfl rfl rfl (by rfl) (by exact Nat.le_of_ble_eq_true rfl) rfl rfl) ?_); refine zY.nil ?_) | (refine zZ.iq 20 ?_; refine zZ.rqh _ K_1p K_6 (zZ.drawAll (by kernel_rfl) ?_); repeat' (first | refine qG.many (by rfl) ?_ | refine x9.cons ?_ ?_ | exact x9.nil | refine kZ.v rfl rfl rfl (yX rfl rfl rfl (by rfl) (by rfl) rfl (by decide)) ?_ | refine kZ.w rfl rfl (by exact zT rfl rfl rfl rfl rfl (by rfl) (by exact Nat.le_of_ble_eq_true rfl) rfl rfl) ?_ | refine qG.fin (by rfl) ?_)) | refine zZ.yM rfl (by with_reducible rfl) ?_ | refine zZ.block ?_ | refine zZ.ret ?_))
  all_goals exact ⟨by first | exact .inl rfl | exact .inr rfl, _, Sub.refl _, .tup (rs := [.cell 6 57, .cell 7 125]) (l := [vC root (r0.set i (d ++ bs, s)) r1, resN 0]) rfl (by decide) (.cons (.cellN rfl rfl (by rfl) (by rfl)) (.cons (.cellN rfl rfl (by rfl) (by rfl)) .nil))⟩
theorem doFail5_fn (t c p q r me root : Int) (ws : List Int) (d : PV) (r0 r1 : List (List Int × Int)) :
    Fn Tryz.prog 72 [wR t c ws root r0 r1, .val (.int .i64 me), accV 5 p q r d, .val (.bool true)] (.tup [wR t c ws root r0 r1, resF]) := by
  have c0 : Fn Tryz.prog 140 [.val (.int .i64 5)] (.p (.val (.bool true))) := isDisk_fn 5
  refine yS Tryz.func72 rfl Tryz.ntmps72 (Nat.le_of_ble_eq_true rfl) ?_
  repeat' ((refine zZ.is ?_; first | refine zZ.seq ?_ | (refine zZ.iq 0 ?_; refine zZ.rqb _ K_d K_2 ?_; (refine zY.m rfl rfl (yN rfl rfl rfl (by decide)) ?_); (refine zY.m rfl rfl (yN rfl rfl rfl (by decide)) ?_); (refine zY.m rfl rfl (yB rfl (by decide) rfl (by decide)) ?_); (refine zY.m rfl rfl (yB rfl (by decide) rfl (by decide)) ?_); refine zY.nil ?_) | (refine zZ.iq 1 ?_; refine zZ.rqc _ K_p K_2 ?_; (refine zY.m rfl rfl (yB rfl (by decide) rfl (by decide)) ?_); refine zY.nil ?_) | (refine zZ.iq 3 ?_; refine zZ.rqa _ K_q K_2 ?_; all_goals (refine zY.v rfl rfl (zA rfl rfl rfl (by decide)) ?_); all_goals (refine zY.v rfl rfl (zD rfl rfl rfl rfl rfl (by decide)) ?_); all_goals (refine zY.v rfl rfl (by exact zO (c0) rfl rfl rfl (by decide)) ?_); all_goals (refine zY.v rfl rfl (zQ rfl rfl rfl (by decide)) ?_); all_goals (refine zY.gY rfl rfl (by decide) rfl (by with_reducible rfl) rfl (by decide) (zQ rfl rfl rfl (by decide)) ?_); all_goals (refine zY.v rfl rfl (by exact yU rfl rfl (by with_reducible rfl) rfl rfl (by decide)) ?_); all_goals (refine zY.v rfl rfl (zV rfl rfl rfl (by decide)) ?_); all_goals (refine zY.nil ?_)) | (refine zZ.iq 4 ?_; refine zZ.rqa _ K_g K_2 ?_; (refine zY.v rfl rfl (zA rfl rfl rfl (by decide)) ?_); (refine zY.w rfl (by exact zT rfl rfl rfl rfl rfl (by rfl) (by exact Nat.le_of_ble_eq_true rfl) rfl rfl) ?_); refine zY.nil ?_) | (refine zZ.iq 10 ?_; refine zZ.rqh _ K_r K_2 (zZ.drawAll (by kernel_rfl) ?_); repeat' (first | refine qG.many (by rfl) ?_ | refine x9.cons ?_ ?_ | exact x9.nil | refine kZ.v rfl rfl rfl (yX rfl rfl rfl (by rfl) (by rfl) rfl (by decide)) ?_ | refine kZ.w rfl rfl (by exact zT rfl rfl rfl rfl rfl (by rfl) (by exact Nat.le_of_ble_eq_true rfl) rfl rfl) ?_ | refine qG.fin (by rfl) ?_)) | refine zZ.yM rfl (by with_reducible rfl) ?_ | refine zZ.block ?_ | refine zZ.ret ?_))
  all_goals exact ⟨by first | exact .inl rfl | exact .inr rfl, _, Sub.refl _, .tup (rs := [.cell 8 59, .cell 9 125]) (l := [wR t c ws root r0 r1, resF]) rfl (by decide) (.cons (.cellN rfl rfl (by rfl) (by rfl)) (.cons (.cellN rfl rfl (by rfl) (by rfl)) .nil))⟩
theorem doDisk50_fn (t c p q r root : Int) (ws : List Int) (r0 r1 : List (List Int × Int)) (i : Nat) (d : List Int) (s : Int) (bs : List Int) (h0 : 0 ≤ root) (hr : root % 2 = 0) (hi : r0[i]? = some (d, s)) (h1 : r0.length ≤ 1000000) (h2 : d.length + bs.length ≤ 1000000) :
    Fn Tryz.prog 72 [wR t c ws root r0 r1, .val (.int .i64 i), accV 5 p q r (.sl (byts bs)), .val (.bool false)] (.tup [wR t c ws root (r0.set i (d ++ bs, s)) r1, resN 0]) := by
  have c0 : Fn Tryz.prog 140 [.val (.int .i64 5)] (.p (.val (.bool true))) := isDisk_fn 5
  have c1 := streams50_fn root r0 r1 i d s p q r bs h0 hr hi h1 h2
  refine yS Tryz.func72 rfl Tryz.ntmps72 (Nat.le_of_ble_eq_true rfl) ?_
  repeat' ((refine zZ.is ?_; first | refine zZ.seq ?_ | (refine zZ.iq 0 ?_; refine zZ.rqb _ K_d K_2 ?_; (refine zY.m rfl rfl (yN rfl rfl rfl (by decide)) ?_); (refine zY.m rfl rfl (yN rfl rfl rfl (by decide)) ?_); (refine zY.m rfl rfl (yB rfl (by decide) rfl (by decide)) ?_); (refine zY.m rfl rfl (yB rfl (by decide) rfl (by decide)) ?_); refine zY.nil ?_) | (refine zZ.iq 1 ?_; refine zZ.rqc _ K_p K_2 ?_; (refine zY.m rfl rfl (yB rfl (by decide) rfl (by decide)) ?_); refine zY.nil ?_) | (refine zZ.iq 3 ?_; refine zZ.rqa _ K_q K_2 ?_; all_goals (refine zY.v rfl rfl (zA rfl rfl rfl (by decide)) ?_); all_goals (refine zY.v rfl rfl (zD rfl rfl rfl rfl rfl (by decide)) ?_); all_goals (refine zY.v rfl rfl (by exact zO (c0) rfl rfl rfl (by decide)) ?_); all_goals (refine zY.v rfl rfl (zQ rfl rfl rfl (by decide)) ?_); all_goals (refine zY.gY rfl rfl (by decide) rfl (by with_reducible rfl) rfl (by decide) (zQ rfl rfl rfl (by decide)) ?_); all_goals (refine zY.v rfl rfl (by exact yU rfl rfl (by with_reducible rfl) rfl rfl (by decide)) ?_); all_goals (refine zY.v rfl rfl (zV rfl rfl rfl (by decide)) ?_); all_goals (refine zY.nil ?_)) | (refine zZ.iq 5 ?_; refine zZ.rqa _ K_g K_2 ?_; (refine zY.v rfl rfl (zA rfl rfl rfl (by decide)) ?_); (refine zY.v rfl rfl (zD rfl rfl rfl rfl rfl (by decide)) ?_); (refine zY.v rfl rfl (by exact zO (c0) rfl rfl rfl (by decide)) ?_); (refine zY.v rfl rfl (zV rfl rfl rfl (by decide)) ?_); refine zY.nil ?_) | (refine zZ.iq 6 ?_; refine zZ.rqa _ K_g K_2 ?_; (refine zY.v rfl rfl (zA rfl rfl rfl (by decide)) ?_); (refine zY.v rfl rfl (yX rfl rfl rfl (by rfl) (by rfl) rfl (by decide)) ?_); (refine zY.v rfl rfl (zQ rfl rfl rfl (by decide)) ?_); (refine zY.v rfl rfl (yX rfl rfl rfl (by rfl) (by rfl) rfl (by decide)) ?_); (refine zY.v rfl rfl (by exact xJ (c1) rfl rfl rfl (by decide)) ?_); (refine zY.v rfl rfl (xP rfl rfl rfl (by decide)) ?_); (refine zY.v rfl rfl (yK rfl rfl rfl rfl (by decide)) ?_); (refine zY.v rfl rfl (yK rfl rfl rfl rfl (by decide)) ?_); (refine zY.v rfl rfl (zA rfl rfl rfl (by decide)) ?_); (refine zY.w rfl (by exact zT rfl rfl rfl rfl rfl (by rfl) (by exact Nat.le_of_ble_eq_true rfl) rfl rfl) ?_); (refine zY.w rfl (by exact zT rfl rfl rfl rfl rfl (by rfl) (by exact Nat.le_of_ble_eq_true rfl) rfl rfl) ?_); refine zY.nil ?_) | (refine zZ.iq 10 ?_; refine zZ.rqh _ K_r K_2 (zZ.drawAll (by kernel_rfl) ?_); repeat' (first | refine qG.many (by rfl) ?_ | refine x9.cons ?_ ?_ | exact x9.nil | refine kZ.v rfl rfl rfl (yX rfl rfl rfl (by rfl) (by rfl) rfl (by decide)) ?_ | refine kZ.w rfl rfl (by exact zT rfl rfl rfl rfl rfl (by rfl) (by exact Nat.le_of_ble_eq_true rfl) rfl rfl) ?_ | refine qG.fin (by rfl) ?_)) | refine zZ.yM rfl (by with_reducible rfl) ?_ | refine zZ.yI rfl (by with_reducible rfl) ?_ | refine zZ.block ?_ | refine zZ.ret ?_))
  all_goals exact ⟨by first | exact .inl rfl | exact .inr rfl, _, Sub.refl _, .tup (rs := [.cell 8 59, .cell 9 125]) (l := [wR t c ws root (r0.set i (d ++ bs, s)) r1, resN 0]) rfl (by decide) (.cons (.cellN rfl rfl (by rfl) (by rfl)) (.cons (.cellN rfl rfl (by rfl) (by rfl)) .nil))⟩
theorem streams60_fn (root : Int) (r0 r1 : List (List Int × Int)) (i : Nat) (d : List Int) (s p q r : Int) (x : PV) (h0 : 0 ≤ root) (hr : root % 2 = 0) (hi : r0[i]? = some (d, s)) (h1 : r0.length ≤ 1000000) :
    Fn Tryz.prog 141 [vC root r0 r1, .val (.int .i64 i), accV 6 p q r (x)] (.tup [vC root (r0.set i (d, d.length)) r1, resN 0]) := by
  have c0 : Fn Tryz.prog 182 [vC root r0 r1] (.p (.val (.int .i64 0))) := hr ▸ row_fn root (.sl (strs r0)) (.sl (strs r1)) h0
  have c1 := diskSync0_fn root r0 r1 i d s hi h1
  refine yS Tryz.func141 rfl Tryz.ntmps141 (Nat.le_of_ble_eq_true rfl) ?_
  repeat' ((refine zZ.is ?_; first | refine zZ.seq ?_ | (refine zZ.iq 0 ?_; refine zZ.rqb _ K_h K_6 ?_; (refine zY.m rfl rfl (yN rfl rfl rfl (by decide)) ?_); (refine zY.m rfl rfl (yN rfl rfl rfl (by decide)) ?_); (refine zY.m rfl rfl (yB rfl (by decide) rfl (by decide)) ?_); (refine zY.m rfl rfl (yB rfl (by decide) rfl (by decide)) ?_); refine zY.nil ?_) | (refine zZ.iq 1 ?_; refine zZ.rqc _ K_1m K_6 ?_; (refine zY.v rfl rfl (yX rfl rfl rfl (by rfl) (by rfl) rfl (by decide)) ?_); (refine zY.v rfl rfl (by exact zO (c0) rfl rfl rfl (by decide)) ?_); (refine zY.v rfl rfl (zV rfl rfl rfl (by decide)) ?_); refine zY.nil ?_) | (refine zZ.iq 2 ?_; refine zZ.rqc _ K_1n K_6 ?_; (refine zY.m rfl rfl (yB rfl (by decide) rfl (by decide)) ?_); refine zY.nil ?_) | (refine zZ.iq 3 ?_; refine zZ.rqa _ K_1o K_6 ?_; (refine zY.v rfl rfl (zA rfl rfl rfl (by decide)) ?_); (refine zY.v rfl rfl (zD rfl rfl rfl rfl rfl (by decide)) ?_); refine zY.nil ?_) | (refine zZ.iq 4 ?_; refine zZ.rqa _ K_z K_6 ?_; (refine zY.v rfl rfl (by exact wM rfl rfl rfl (by exact bF (by decide)) rfl (by decide)) ?_); (refine zY.v rfl rfl (zV rfl rfl rfl (by decide)) ?_); refine zY.nil ?_) | (refine zZ.iq 6 ?_; refine zZ.rqa _ K_z K_6 ?_; (refine zY.v rfl rfl (by exact wM rfl rfl rfl (by exact bT (by decide)) rfl (by decide)) ?_); (refine zY.v rfl rfl (zV rfl rfl rfl (by decide)) ?_); refine zY.nil ?_) | (refine zZ.iq 7 ?_; refine zZ.rqa _ K_z K_6 ?_; (refine zY.v rfl rfl (yX rfl rfl rfl (by rfl) (by rfl) rfl (by decide)) ?_); (refine zY.v rfl rfl (zQ rfl rfl rfl (by decide)) ?_); (refine zY.v rfl rfl (zQ rfl rfl rfl (by decide)) ?_); (refine zY.v rfl rfl (by exact xJ (c1) rfl rfl rfl (by decide)) ?_); (refine zY.v rfl rfl (xP rfl rfl rfl (by decide)) ?_); (refine zY.v rfl rfl (yK rfl rfl rfl rfl (by decide)) ?_); (refine zY.v rfl rfl (yK rfl rfl rfl rfl (by decide)) ?_); (refine zY.w rfl (by exact zT rfl rfl rfl rfl rfl (by rfl) (by exact Nat.le_of_ble_eq_true rfl) rfl rfl) ?_); refine zY.nil ?_) | (refine zZ.iq 20 ?_; refine zZ.rqh _ K_1p K_6 (zZ.drawAll (by kernel_rfl) ?_); repeat' (first | refine qG.many (by rfl) ?_ | refine x9.cons ?_ ?_ | exact x9.nil | refine kZ.v rfl rfl rfl (yX rfl rfl rfl (by rfl) (by rfl) rfl (by decide)) ?_ | refine kZ.w rfl rfl (by exact zT rfl rfl rfl rfl rfl (by rfl) (by exact Nat.le_of_ble_eq_true rfl) rfl rfl) ?_ | refine qG.fin (by rfl) ?_)) | refine zZ.yM rfl (by with_reducible rfl) ?_ | refine zZ.yI rfl (by with_reducible rfl) ?_ | refine zZ.block ?_ | refine zZ.ret ?_))
  all_goals exact ⟨by first | exact .inl rfl | exact .inr rfl, _, Sub.refl _, .tup (rs := [.cell 6 57, .cell 7 125]) (l := [vC root (r0.set i (d, d.length)) r1, resN 0]) rfl (by decide) (.cons (.cellN rfl rfl (by rfl) (by rfl)) (.cons (.cellN rfl rfl (by rfl) (by rfl)) .nil))⟩
theorem doFail6_fn (t c p q r me root : Int) (ws : List Int) (d : PV) (r0 r1 : List (List Int × Int)) :
    Fn Tryz.prog 72 [wR t c ws root r0 r1, .val (.int .i64 me), accV 6 p q r d, .val (.bool true)] (.tup [wR t c ws root r0 r1, resF]) := by
  have c0 : Fn Tryz.prog 140 [.val (.int .i64 6)] (.p (.val (.bool true))) := isDisk_fn 6
  refine yS Tryz.func72 rfl Tryz.ntmps72 (Nat.le_of_ble_eq_true rfl) ?_
  repeat' ((refine zZ.is ?_; first | refine zZ.seq ?_ | (refine zZ.iq 0 ?_; refine zZ.rqb _ K_d K_2 ?_; (refine zY.m rfl rfl (yN rfl rfl rfl (by decide)) ?_); (refine zY.m rfl rfl (yN rfl rfl rfl (by decide)) ?_); (refine zY.m rfl rfl (yB rfl (by decide) rfl (by decide)) ?_); (refine zY.m rfl rfl (yB rfl (by decide) rfl (by decide)) ?_); refine zY.nil ?_) | (refine zZ.iq 1 ?_; refine zZ.rqc _ K_p K_2 ?_; (refine zY.m rfl rfl (yB rfl (by decide) rfl (by decide)) ?_); refine zY.nil ?_) | (refine zZ.iq 3 ?_; refine zZ.rqa _ K_q K_2 ?_; all_goals (refine zY.v rfl rfl (zA rfl rfl rfl (by decide)) ?_); all_goals (refine zY.v rfl rfl (zD rfl rfl rfl rfl rfl (by decide)) ?_); all_goals (refine zY.v rfl rfl (by exact zO (c0) rfl rfl rfl (by decide)) ?_); all_goals (refine zY.v rfl rfl (zQ rfl rfl rfl (by decide)) ?_); all_goals (refine zY.gY rfl rfl (by decide) rfl (by with_reducible rfl) rfl (by decide) (zQ rfl rfl rfl (by decide)) ?_); all_goals (refine zY.v rfl rfl (by exact yU rfl rfl (by with_reducible rfl) rfl rfl (by decide)) ?_); all_goals (refine zY.v rfl rfl (zV rfl rfl rfl (by decide)) ?_); all_goals (refine zY.nil ?_)) | (refine zZ.iq 4 ?_; refine zZ.rqa _ K_g K_2 ?_; (refine zY.v rfl rfl (zA rfl rfl rfl (by decide)) ?_); (refine zY.w rfl (by exact zT rfl rfl rfl rfl rfl (by rfl) (by exact Nat.le_of_ble_eq_true rfl) rfl rfl) ?_); refine zY.nil ?_) | (refine zZ.iq 10 ?_; refine zZ.rqh _ K_r K_2 (zZ.drawAll (by kernel_rfl) ?_); repeat' (first | refine qG.many (by rfl) ?_ | refine x9.cons ?_ ?_ | exact x9.nil | refine kZ.v rfl rfl rfl (yX rfl rfl rfl (by rfl) (by rfl) rfl (by decide)) ?_ | refine kZ.w rfl rfl (by exact zT rfl rfl rfl rfl rfl (by rfl) (by exact Nat.le_of_ble_eq_true rfl) rfl rfl) ?_ | refine qG.fin (by rfl) ?_)) | refine zZ.yM rfl (by with_reducible rfl) ?_ | refine zZ.block ?_ | refine zZ.ret ?_))
  all_goals exact ⟨by first | exact .inl rfl | exact .inr rfl, _, Sub.refl _, .tup (rs := [.cell 8 59, .cell 9 125]) (l := [wR t c ws root r0 r1, resF]) rfl (by decide) (.cons (.cellN rfl rfl (by rfl) (by rfl)) (.cons (.cellN rfl rfl (by rfl) (by rfl)) .nil))⟩
theorem doDisk60_fn (t c p q r root : Int) (ws : List Int) (r0 r1 : List (List Int × Int)) (i : Nat) (d : List Int) (s : Int) (x : PV) (h0 : 0 ≤ root) (hr : root % 2 = 0) (hi : r0[i]? = some (d, s)) (h1 : r0.length ≤ 1000000) :
    Fn Tryz.prog 72 [wR t c ws root r0 r1, .val (.int .i64 i), accV 6 p q r (x), .val (.bool false)] (.tup [wR t c ws root (r0.set i (d, d.length)) r1, resN 0]) := by
  have c0 : Fn Tryz.prog 140 [.val (.int .i64 6)] (.p (.val (.bool true))) := isDisk_fn 6
  have c1 := streams60_fn root r0 r1 i d s p q r x h0 hr hi h1
  refine yS Tryz.func72 rfl Tryz.ntmps72 (Nat.le_of_ble_eq_true rfl) ?_
  repeat' ((refine zZ.is ?_; first | refine zZ.seq ?_ | (refine zZ.iq 0 ?_; refine zZ.rqb _ K_d K_2 ?_; (refine zY.m rfl rfl (yN rfl rfl rfl (by decide)) ?_); (refine zY.m rfl rfl (yN rfl rfl rfl (by decide)) ?_); (refine zY.m rfl rfl (yB rfl (by decide) rfl (by decide)) ?_); (refine zY.m rfl rfl (yB rfl (by decide) rfl (by decide)) ?_); refine zY.nil ?_) | (refine zZ.iq 1 ?_; refine zZ.rqc _ K_p K_2 ?_; (refine zY.m rfl rfl (yB rfl (by decide) rfl (by decide)) ?_); refine zY.nil ?_) | (refine zZ.iq 3 ?_; refine zZ.rqa _ K_q K_2 ?_; all_goals (refine zY.v rfl rfl (zA rfl rfl rfl (by decide)) ?_); all_goals (refine zY.v rfl rfl (zD rfl rfl rfl rfl rfl (by decide)) ?_); all_goals (refine zY.v rfl rfl (by exact zO (c0) rfl rfl rfl (by decide)) ?_); all_goals (refine zY.v rfl rfl (zQ rfl rfl rfl (by decide)) ?_); all_goals (refine zY.gY rfl rfl (by decide) rfl (by with_reducible rfl) rfl (by decide) (zQ rfl rfl rfl (by decide)) ?_); all_goals (refine zY.v rfl rfl (by exact yU rfl rfl (by with_reducible rfl) rfl rfl (by decide)) ?_); all_goals (refine zY.v rfl rfl (zV rfl rfl rfl (by decide)) ?_); all_goals (refine zY.nil ?_)) | (refine zZ.iq 5 ?_; refine zZ.rqa _ K_g K_2 ?_; (refine zY.v rfl rfl (zA rfl rfl rfl (by decide)) ?_); (refine zY.v rfl rfl (zD rfl rfl rfl rfl rfl (by decide)) ?_); (refine zY.v rfl rfl (by exact zO (c0) rfl rfl rfl (by decide)) ?_); (refine zY.v rfl rfl (zV rfl rfl rfl (by decide)) ?_); refine zY.nil ?_) | (refine zZ.iq 6 ?_; refine zZ.rqa _ K_g K_2 ?_; (refine zY.v rfl rfl (zA rfl rfl rfl (by decide)) ?_); (refine zY.v rfl rfl (yX rfl rfl rfl (by rfl) (by rfl) rfl (by decide)) ?_); (refine zY.v rfl rfl (zQ rfl rfl rfl (by decide)) ?_); (refine zY.v rfl rfl (yX rfl rfl rfl (by rfl) (by rfl) rfl (by decide)) ?_); (refine zY.v rfl rfl (by exact xJ (c1) rfl rfl rfl (by decide)) ?_); (refine zY.v rfl rfl (xP rfl rfl rfl (by decide)) ?_); (refine zY.v rfl rfl (yK rfl rfl rfl rfl (by decide)) ?_); (refine zY.v rfl rfl (yK rfl rfl rfl rfl (by decide)) ?_); (refine zY.v rfl rfl (zA rfl rfl rfl (by decide)) ?_); (refine zY.w rfl (by exact zT rfl rfl rfl rfl rfl (by rfl) (by exact Nat.le_of_ble_eq_true rfl) rfl rfl) ?_); (refine zY.w rfl (by exact zT rfl rfl rfl rfl rfl (by rfl) (by exact Nat.le_of_ble_eq_true rfl) rfl rfl) ?_); refine zY.nil ?_) | (refine zZ.iq 10 ?_; refine zZ.rqh _ K_r K_2 (zZ.drawAll (by kernel_rfl) ?_); repeat' (first | refine qG.many (by rfl) ?_ | refine x9.cons ?_ ?_ | exact x9.nil | refine kZ.v rfl rfl rfl (yX rfl rfl rfl (by rfl) (by rfl) rfl (by decide)) ?_ | refine kZ.w rfl rfl (by exact zT rfl rfl rfl rfl rfl (by rfl) (by exact Nat.le_of_ble_eq_true rfl) rfl rfl) ?_ | refine qG.fin (by rfl) ?_)) | refine zZ.yM rfl (by with_reducible rfl) ?_ | refine zZ.yI rfl (by with_reducible rfl) ?_ | refine zZ.block ?_ | refine zZ.ret ?_))
  all_goals exact ⟨by first | exact .inl rfl | exact .inr rfl, _, Sub.refl _, .tup (rs := [.cell 8 59, .cell 9 125]) (l := [wR t c ws root (r0.set i (d, d.length)) r1, resN 0]) rfl (by decide) (.cons (.cellN rfl rfl (by rfl) (by rfl)) (.cons (.cellN rfl rfl (by rfl) (by rfl)) .nil))⟩
theorem doWord_fn (t c kd a b old me root : Int) (hkd : 0 ≤ kd ∧ kd ≤ 4) (i : Nat) (ws : List Int) (d : PV) (r0 r1 : List (List Int × Int)) (fails : Bool) (hi : ws[i]? = some old) (h1 : ws.length ≤ 1000000) :
    Fn Tryz.prog 72 [wR t c ws root r0 r1, .val (.int .i64 me), accV kd i a b d, .val (.bool fails)] (.tup [wR t c (ws.set i (turnR kd old a b).2) root r0 r1, resN (turnR kd old a b).1]) := by
  have c0 : Fn Tryz.prog 140 [.val (.int .i64 kd)] (.p (.val (.bool false))) := by
    have e : (decide (5 ≤ kd) && decide (kd ≤ 12)) = false := by rw [decide_eq_false (show ¬5 ≤ kd by omega)]; rfl
    exact e ▸ isDisk_fn kd
  have c1 := words_fn t c kd a b old hkd i ws d hi h1
  have g1 : decide (kd = 13) = false := decide_eq_false (by omega)
  refine yS Tryz.func72 rfl Tryz.ntmps72 (Nat.le_of_ble_eq_true rfl) ?_
  repeat' ((refine zZ.is ?_; first | refine zZ.seq ?_ | (refine zZ.iq 0 ?_; refine zZ.rqb _ K_d K_2 ?_; (refine zY.m rfl rfl (yN rfl rfl rfl (by decide)) ?_); (refine zY.m rfl rfl (yN rfl rfl rfl (by decide)) ?_); (refine zY.m rfl rfl (yB rfl (by decide) rfl (by decide)) ?_); (refine zY.m rfl rfl (yB rfl (by decide) rfl (by decide)) ?_); refine zY.nil ?_) | (refine zZ.iq 1 ?_; refine zZ.rqc _ K_p K_2 ?_; (refine zY.m rfl rfl (yB rfl (by decide) rfl (by decide)) ?_); refine zY.nil ?_) | (refine zZ.iq 3 ?_; refine zZ.rqa _ K_q K_2 ?_; all_goals (refine zY.v rfl rfl (zA rfl rfl rfl (by decide)) ?_); all_goals (refine zY.v rfl rfl (zD rfl rfl rfl (by rfl) rfl (by decide)) ?_); all_goals (refine zY.v rfl rfl (by exact zO (c0) rfl rfl rfl (by decide)) ?_); all_goals (refine zY.v rfl rfl (zQ rfl rfl rfl (by decide)) ?_); all_goals (refine zY.gnT rfl rfl (by decide) rfl (by with_reducible rfl) rfl (by decide) ?_); all_goals (refine zY.v rfl rfl (by exact yP rfl rfl (by with_reducible rfl) rfl rfl (by decide)) ?_); all_goals (refine zY.v rfl rfl (zV rfl rfl rfl (by decide)) ?_); all_goals (refine zY.nil ?_)) | (refine zZ.iq 5 ?_; refine zZ.rqa _ K_g K_2 ?_; (refine zY.v rfl rfl (zA rfl rfl rfl (by decide)) ?_); (refine zY.v rfl rfl (zD rfl rfl rfl (by rfl) rfl (by decide)) ?_); (refine zY.v rfl rfl (by exact zO (c0) rfl rfl rfl (by decide)) ?_); (refine zY.v rfl rfl (zV rfl rfl rfl (by decide)) ?_); refine zY.nil ?_) | (refine zZ.iq 7 ?_; refine zZ.rqe _ K_2 K_2 ?_; (refine zY.v rfl rfl (zA rfl rfl rfl (by decide)) ?_); (refine zY.v rfl rfl (zD rfl rfl rfl (by rfl) rfl (by decide)) ?_); (refine zY.v rfl rfl (by exact wM rfl rfl rfl (by exact g1) rfl (by decide)) ?_); (refine zY.v rfl rfl (zV rfl rfl rfl (by decide)) ?_); refine zY.nil ?_) | (refine zZ.iq 2 ?_; refine zZ.rqe _ K_2 K_2 ?_; (refine zY.v rfl rfl (zA rfl rfl rfl (by decide)) ?_); (refine zY.v rfl rfl (yX rfl rfl rfl (by rfl) (by rfl) rfl (by decide)) ?_); (refine zY.v rfl rfl (yX rfl rfl rfl (by rfl) (by rfl) rfl (by decide)) ?_); (refine zY.v rfl rfl (by exact xJ (c1) rfl rfl rfl (by decide)) ?_); (refine zY.v rfl rfl (xP rfl rfl rfl (by decide)) ?_); (refine zY.v rfl rfl (yK rfl rfl rfl rfl (by decide)) ?_); (refine zY.v rfl rfl (yK rfl rfl rfl rfl (by decide)) ?_); (refine zY.v rfl rfl (zA rfl rfl rfl (by decide)) ?_); (refine zY.w rfl (by exact zT rfl rfl rfl rfl rfl (by rfl) (by exact Nat.le_of_ble_eq_true rfl) rfl rfl) ?_); (refine zY.w rfl (by exact zT rfl rfl rfl rfl rfl (by rfl) (by exact Nat.le_of_ble_eq_true rfl) rfl rfl) ?_); refine zY.nil ?_) | (refine zZ.iq 10 ?_; refine zZ.rqh _ K_r K_2 (zZ.drawAll (by kernel_rfl) ?_); repeat' (first | refine qG.many (by rfl) ?_ | refine x9.cons ?_ ?_ | exact x9.nil | refine kZ.v rfl rfl rfl (yX rfl rfl rfl (by rfl) (by rfl) rfl (by decide)) ?_ | refine kZ.w rfl rfl (by exact zT rfl rfl rfl rfl rfl (by rfl) (by exact Nat.le_of_ble_eq_true rfl) rfl rfl) ?_ | refine qG.fin (by rfl) ?_)) | refine zZ.yI rfl (by first | assumption | with_reducible rfl) ?_ | refine zZ.block ?_ | refine zZ.ret ?_))
  all_goals exact ⟨by first | exact .inl rfl | exact .inr rfl, _, Sub.refl _, .tup (rs := [.cell 8 59, .cell 9 125]) (l := [wR t c (ws.set i (turnR kd old a b).2) root r0 r1, resN (turnR kd old a b).1]) rfl (by decide) (.cons (.cellN rfl rfl (by rfl) (by rfl)) (.cons (.cellN rfl rfl (by rfl) (by rfl)) .nil))⟩
theorem doOut_fn (t c kd cell a b me root : Int) (hkd : 0 ≤ kd ∧ kd ≤ 4) (ws : List Int) (d : PV) (r0 r1 : List (List Int × Int)) (fails : Bool) (hi : cell < 0 ∨ (ws.length : Int) ≤ cell) :
    Fn Tryz.prog 72 [wR t c ws root r0 r1, .val (.int .i64 me), accV kd cell a b d, .val (.bool fails)] (.tup [wR t c ws root r0 r1, resN 0]) := by
  have c0 : Fn Tryz.prog 140 [.val (.int .i64 kd)] (.p (.val (.bool false))) := by
    have e : (decide (5 ≤ kd) && decide (kd ≤ 12)) = false := by rw [decide_eq_false (show ¬5 ≤ kd by omega)]; rfl
    exact e ▸ isDisk_fn kd
  have c1 := wordsOut_fn t c kd cell a b ws d hi
  have g1 : decide (kd = 13) = false := decide_eq_false (by omega)
  refine yS Tryz.func72 rfl Tryz.ntmps72 (Nat.le_of_ble_eq_true rfl) ?_
  repeat' ((refine zZ.is ?_; first | refine zZ.seq ?_ | (refine zZ.iq 0 ?_; refine zZ.rqb _ K_d K_2 ?_; (refine zY.m rfl rfl (yN rfl rfl rfl (by decide)) ?_); (refine zY.m rfl rfl (yN rfl rfl rfl (by decide)) ?_); (refine zY.m rfl rfl (yB rfl (by decide) rfl (by decide)) ?_); (refine zY.m rfl rfl (yB rfl (by decide) rfl (by decide)) ?_); refine zY.nil ?_) | (refine zZ.iq 1 ?_; refine zZ.rqc _ K_p K_2 ?_; (refine zY.m rfl rfl (yB rfl (by decide) rfl (by decide)) ?_); refine zY.nil ?_) | (refine zZ.iq 3 ?_; refine zZ.rqa _ K_q K_2 ?_; all_goals (refine zY.v rfl rfl (zA rfl rfl rfl (by decide)) ?_); all_goals (refine zY.v rfl rfl (zD rfl rfl rfl (by rfl) rfl (by decide)) ?_); all_goals (refine zY.v rfl rfl (by exact zO (c0) rfl rfl rfl (by decide)) ?_); all_goals (refine zY.v rfl rfl (zQ rfl rfl rfl (by decide)) ?_); all_goals (refine zY.gnT rfl rfl (by decide) rfl (by with_reducible rfl) rfl (by decide) ?_); all_goals (refine zY.v rfl rfl (by exact yP rfl rfl (by with_reducible rfl) rfl rfl (by decide)) ?_); all_goals (refine zY.v rfl rfl (zV rfl rfl rfl (by decide)) ?_); all_goals (refine zY.nil ?_)) | (refine zZ.iq 5 ?_; refine zZ.rqa _ K_g K_2 ?_; (refine zY.v rfl rfl (zA rfl rfl rfl (by decide)) ?_); (refine zY.v rfl rfl (zD rfl rfl rfl (by rfl) rfl (by decide)) ?_); (refine zY.v rfl rfl (by exact zO (c0) rfl rfl rfl (by decide)) ?_); (refine zY.v rfl rfl (zV rfl rfl rfl (by decide)) ?_); refine zY.nil ?_) | (refine zZ.iq 7 ?_; refine zZ.rqe _ K_2 K_2 ?_; (refine zY.v rfl rfl (zA rfl rfl rfl (by decide)) ?_); (refine zY.v rfl rfl (zD rfl rfl rfl (by rfl) rfl (by decide)) ?_); (refine zY.v rfl rfl (by exact wM rfl rfl rfl (by exact g1) rfl (by decide)) ?_); (refine zY.v rfl rfl (zV rfl rfl rfl (by decide)) ?_); refine zY.nil ?_) | (refine zZ.iq 2 ?_; refine zZ.rqe _ K_2 K_2 ?_; (refine zY.v rfl rfl (zA rfl rfl rfl (by decide)) ?_); (refine zY.v rfl rfl (yX rfl rfl rfl (by rfl) (by rfl) rfl (by decide)) ?_); (refine zY.v rfl rfl (yX rfl rfl rfl (by rfl) (by rfl) rfl (by decide)) ?_); (refine zY.v rfl rfl (by exact xJ (c1) rfl rfl rfl (by decide)) ?_); (refine zY.v rfl rfl (xP rfl rfl rfl (by decide)) ?_); (refine zY.v rfl rfl (yK rfl rfl rfl rfl (by decide)) ?_); (refine zY.v rfl rfl (yK rfl rfl rfl rfl (by decide)) ?_); (refine zY.v rfl rfl (zA rfl rfl rfl (by decide)) ?_); (refine zY.w rfl (by exact zT rfl rfl rfl rfl rfl (by rfl) (by exact Nat.le_of_ble_eq_true rfl) rfl rfl) ?_); (refine zY.w rfl (by exact zT rfl rfl rfl rfl rfl (by rfl) (by exact Nat.le_of_ble_eq_true rfl) rfl rfl) ?_); refine zY.nil ?_) | (refine zZ.iq 10 ?_; refine zZ.rqh _ K_r K_2 (zZ.drawAll (by kernel_rfl) ?_); repeat' (first | refine qG.many (by rfl) ?_ | refine x9.cons ?_ ?_ | exact x9.nil | refine kZ.v rfl rfl rfl (yX rfl rfl rfl (by rfl) (by rfl) rfl (by decide)) ?_ | refine kZ.w rfl rfl (by exact zT rfl rfl rfl rfl rfl (by rfl) (by exact Nat.le_of_ble_eq_true rfl) rfl rfl) ?_ | refine qG.fin (by rfl) ?_)) | refine zZ.yI rfl (by first | assumption | with_reducible rfl) ?_ | refine zZ.block ?_ | refine zZ.ret ?_))
  all_goals exact ⟨by first | exact .inl rfl | exact .inr rfl, _, Sub.refl _, .tup (rs := [.cell 8 59, .cell 9 125]) (l := [wR t c ws root r0 r1, resN 0]) rfl (by decide) (.cons (.cellN rfl rfl (by rfl) (by rfl)) (.cons (.cellN rfl rfl (by rfl) (by rfl)) .nil))⟩
end Go.Proofs.YtohlllohmoojiaaGreatDoor
/- Contracts made weaker: nil is an empty slice. Generic over the program. -/
namespace Go.Proofs.YtohlllohmoojiaaGreatDoor
set_option maxRecDepth 100000
set_option maxHeartbeats 16000000
open Go Go.RowKit
/-- y says no more than x -/
inductive PLe0 : PV → PV → Prop
  | refl (x : PV) : PLe0 x x
  | nil : PLe0 (.val (.slice none 0 0)) (.sl [])
inductive PL0s : List PV → List PV → Prop
  | nil : PL0s [] []
  | cons {x y : PV} {xs ys : List PV} (h : PLe0 x y) (hs : PL0s xs ys) : PL0s (x :: xs) (y :: ys)
inductive PLe1 : PV → PV → Prop
  | refl (x : PV) : PLe1 x x
  | nil : PLe1 (.val (.slice none 0 0)) (.sl [])
  | sl {xs ys : List PV} (hl : xs.length = ys.length) (h : PL0s (flat xs) (flat ys)) : PLe1 (.sl xs) (.sl ys)
inductive PLes : List PV → List PV → Prop
  | nil : PLes [] []
  | cons {x y : PV} {xs ys : List PV} (h : PLe1 x y) (hs : PLes xs ys) : PLes (x :: xs) (y :: ys)
inductive PLe : PV → PV → Prop
  | one {x y : PV} (h : PLe1 x y) : PLe x y
  | agg {xs ys : List PV} (h : PLes xs ys) : PLe (.agg xs) (.agg ys)
inductive PLet : List PV → List PV → Prop
  | nil : PLet [] []
  | cons {x y : PV} {xs ys : List PV} (h : PLe x y) (hs : PLet xs ys) : PLet (x :: xs) (y :: ys)
theorem PLe0.rep {x y : PV} (h : PLe0 x y) {M : Nat → Nat → Prop} {w : World} {v : Value} (hr : Rep M w x v) : Rep M w y v := by
  cases h with
  | refl => exact hr
  | nil => cases hr; exact .nil
theorem PL0s.at_ {xs ys : List PV} (h : PL0s xs ys) : xs.length = ys.length ∧ ∀ (i : Nat) y, ys[i]? = some y → ∃ x, xs[i]? = some x ∧ PLe0 x y := by
  induction h with
  | nil => exact ⟨rfl, fun i y h => by simp at h⟩
  | cons h hs ih =>
    refine ⟨by simp [ih.1], fun i y hy => ?_⟩
    cases i with
    | zero => simp at hy; subst hy; exact ⟨_, rfl, h⟩
    | succ i => exact ih.2 i y hy
theorem PL0s.append {xs ys xs' ys' : List PV} (h : PL0s xs ys) (h' : PL0s xs' ys') : PL0s (xs ++ xs') (ys ++ ys') := by
  induction h with
  | nil => exact h'
  | cons h _ ih => exact .cons h ih
theorem PLe1.rep {x y : PV} (h : PLe1 x y) {M : Nat → Nat → Prop} {w : World} {v : Value} (hr : Rep M w x v) : Rep M w y v := by
  cases h with
  | refl => exact hr
  | nil => cases hr; exact .nil
  | sl hl h =>
    obtain ⟨hfl, hat⟩ := h.at_
    rcases rep_sl hr with ⟨⟨b, rfl⟩, h0⟩ | ⟨g, off, cap, us, rfl, hl2, hcell, hM, hg, hcap, hm⟩
    · subst h0
      have : _ = [] := List.eq_nil_of_length_eq_zero hl.symm
      subst this
      exact .nil
    · rw [hl] at hcap ⊢
      exact .sl _ g off _ cap us rfl (hl2.len.trans hfl) hcell (fun j c y hc hy => by
        obtain ⟨x, hx, hle⟩ := hat j c hc
        exact hle.rep (hl2.each j x y hx hy)) hl2.one hM hg hcap hm
theorem PLes.refl : ∀ xs : List PV, PLes xs xs
  | [] => .nil
  | x :: xs => .cons (.refl x) (PLes.refl xs)
theorem PLes.at_ {xs ys : List PV} (h : PLes xs ys) : xs.length = ys.length ∧ ∀ (i : Nat) y, ys[i]? = some y → ∃ x, xs[i]? = some x ∧ PLe1 x y := by
  induction h with
  | nil => exact ⟨rfl, fun i y h => by simp at h⟩
  | cons h hs ih =>
    refine ⟨by simp [ih.1], fun i y hy => ?_⟩
    cases i with
    | zero => simp at hy; subst hy; exact ⟨_, rfl, h⟩
    | succ i => exact ih.2 i y hy
theorem PLe.rep {x y : PV} (h : PLe x y) {M : Nat → Nat → Prop} {w : World} {v : Value} (hr : Rep M w x v) : Rep M w y v := by
  cases h with
  | one h => exact h.rep hr
  | agg h =>
    obtain ⟨hl, hat⟩ := h.at_
    cases hr with
    | agg cs vs hl2 h2 h1 => exact .agg _ vs (hl2.trans hl) (fun i c u hc hu => by
        obtain ⟨x, hx, hxy⟩ := hat i c hc
        exact hxy.rep (h2 i x u hx hu)) h1
theorem PLet.at_ {xs ys : List PV} (h : PLet xs ys) : xs.length = ys.length ∧ ∀ (i : Nat) y, ys[i]? = some y → ∃ x, xs[i]? = some x ∧ PLe x y := by
  induction h with
  | nil => exact ⟨rfl, fun i y h => by simp at h⟩
  | cons h hs ih =>
    refine ⟨by simp [ih.1], fun i y hy => ?_⟩
    cases i with
    | zero => simp at hy; subst hy; exact ⟨_, rfl, h⟩
    | succ i => exact ih.2 i y hy
theorem PLe.refl (x : PV) : PLe x x := .one (.refl x)
section
variable {P : Program} {f : FuncId}
theorem Fn.weakT {args l l' : List PV} (h : Fn P f args (.tup l)) (hl : PLet l l') : Fn P f args (.tup l') :=
  fun M w vs a b c d => (h M w vs a b c d).mono fun e w' ⟨v, e1, ⟨us, e2, e3, e4⟩, e5⟩ => ⟨v, e1, ⟨us, e2, e3.trans hl.at_.1, fun i x u hx hu => by
    obtain ⟨y, hy, hle⟩ := hl.at_.2 i x hx
    exact hle.rep (e4 i y u hy hu)⟩, e5⟩
end
end Go.Proofs.YtohlllohmoojiaaGreatDoor
/- Worlds: an access made, as a function of all accesses that programs ask; its contract. -/
namespace Go.Proofs.YtohlllohmoojiaaGreatDoor
set_option maxRecDepth 100000
set_option maxHeartbeats 16000000
open Go Go.RowKit
set_option linter.unusedSimpArgs false
set_option linter.unusedVariables false
attribute [local irreducible] zY zZ Step zK Sub zS zH Fn
structure Wd where
  t : Int
  c : Int
  ws : List Int
  root : Int
  r0 : List (List Int × Int)
  r1 : List (List Int × Int)
def Wd.pv (w : Wd) : PV := wR w.t w.c w.ws w.root w.r0 w.r1
def bytOf : PV → List Int
  | .val (.int _ n) => [n]
  | _ => []
def qV : PV → List Int
  | .sl es => es.flatMap bytOf
  | _ => []
theorem bytsOf_byts (bs : List Int) : qV (.sl (byts bs)) = bs := by
  show (byts bs).flatMap bytOf = bs
  induction bs with
  | nil => rfl
  | cons b r ih => show bytOf _ ++ (byts r).flatMap bytOf = _; rw [ih]; rfl
/-- a stream, behind an access of it -/
def strX (kind : Int) (bs : List Int) (p : List Int × Int) : List Int × Int := bif decide (kind = 5) then (p.1 ++ bs, p.2) else (p.1, (p.1.length : Int))
/-- an access made -/
def doX (W : Wd) (me : Nat) (q : Ned) (fails : Bool) : Wd × yE :=
  bif decide (q.kind = 5) || decide (q.kind = 6) then
    bif fails then (W, ⟨0, xW, true⟩) else ({ W with r0 := match W.r0[me]? with
      | some p => W.r0.set me (strX q.kind (qV q.d) p)
      | none => W.r0 }, ⟨0, xW, false⟩)
  else match (bif decide (q.cell < 0) then none else W.ws[q.cell.toNat]?) with
    | some old => ({ W with ws := W.ws.set q.cell.toNat (turnR q.kind old q.a q.b).2 }, ⟨(turnR q.kind old q.a q.b).1, xW, false⟩)
    | none => (W, ⟨0, xW, false⟩)
/-- a world that is right, its streams no longer than so -/
structure WdOK (b : Nat) (W : Wd) : Prop where
  ws : ∀ x ∈ W.ws, U x
  len : W.ws.length ≤ 1000000
  root : W.root = 0
  rows : W.r0.length ≤ 1000000
  str : ∀ p ∈ W.r0, p.1.length ≤ b
theorem WdOK.le {b c : Nat} {W : Wd} (h : WdOK b W) (hc : b ≤ c) : WdOK c W := ⟨h.ws, h.len, h.root, h.rows, fun p hp => Nat.le_trans (h.str p hp) hc⟩
theorem turnR_U {kind old a b : Int} (h : U old) (ha : U a) (hb : U b) : U (turnR kind old a b).1 ∧ U (turnR kind old a b).2 := by
  have z : U 0 := U.zero
  have z1 : U 1 := by unfold U; decide
  unfold turnR
  split
  · exact ⟨h, h⟩
  · split
    · exact ⟨z, ha⟩
    · split
      · split
        · exact ⟨z1, hb⟩
        · exact ⟨z, h⟩
      · split
        · exact ⟨h, by rw [wrapU]; unfold U; omega⟩
        · exact ⟨h, ha⟩
theorem qA.len {q : Ned} (h : qA q) : (qV q.d).length ≤ 1000 := by
  rcases h.d with h | ⟨_, bs, _, h1, e⟩
  · rw [h.2]; exact Nat.zero_le _
  · rw [e, bytsOf_byts]; exact h1
theorem doX_ok {b : Nat} {W : Wd} {q : Ned} (h : WdOK b W) (hq : qA q) (me : Nat) (f : Bool) : WdOK (b + 1000) (doX W me q f).1 ∧ U (doX W me q f).2.n := by
  have h0 := h.le (Nat.le_add_right b 1000)
  have z : U 0 := U.zero
  have hl := hq.len
  unfold doX
  cases decide (q.kind = 5) || decide (q.kind = 6)
  · rw [cond_false]
    cases e : (bif decide (q.cell < 0) then none else W.ws[q.cell.toNat]?) with
    | none => exact ⟨h0, z⟩
    | some old =>
      have ho : U old := by
        cases hd : decide (q.cell < 0) <;> rw [hd] at e
        · exact h.ws _ (List.mem_of_getElem? e)
        · cases e
      obtain ⟨h1, h2⟩ := turnR_U (kind := q.kind) ho hq.a hq.b
      refine ⟨⟨fun x hx => ?_, by simpa using h.len, h.root, h.rows, h0.str⟩, h1⟩
      rcases List.mem_or_eq_of_mem_set hx with hx | rfl
      · exact h.ws x hx
      · exact h2
  · rw [cond_true]
    cases f
    · rw [cond_false]
      cases e : W.r0[me]? with
      | none => exact ⟨h0, z⟩
      | some p =>
        refine ⟨⟨h.ws, h.len, h.root, by simpa using h.rows, fun x hx => ?_⟩, z⟩
        rcases List.mem_or_eq_of_mem_set hx with hx | rfl
        · exact h0.str x hx
        · have hp := h.str p (List.mem_of_getElem? e)
          unfold strX
          cases decide (q.kind = 5)
          · exact Nat.le_trans hp (Nat.le_add_right _ _)
          · show (p.1 ++ qV q.d).length ≤ _
            rw [List.length_append]
            omega
    · exact ⟨h0, z⟩
theorem doX_keeps (W : Wd) (me : Nat) (q : Ned) (f : Bool) : (doX W me q f).1.t = W.t ∧ (doX W me q f).1.c = W.c ∧ (doX W me q f).1.r0.length = W.r0.length ∧ (doX W me q f).1.ws.length = W.ws.length ∧ (doX W me q f).1.r1 = W.r1 := by
  unfold doX
  cases decide (q.kind = 5) || decide (q.kind = 6)
  · rw [cond_false]
    cases (bif decide (q.cell < 0) then none else W.ws[q.cell.toNat]?) with
    | none => exact ⟨rfl, rfl, rfl, rfl, rfl⟩
    | some old => exact ⟨rfl, rfl, rfl, by simp, rfl⟩
  · rw [cond_true]
    cases f
    · rw [cond_false]
      cases W.r0[me]? with
      | none => exact ⟨rfl, rfl, rfl, rfl, rfl⟩
      | some p => exact ⟨rfl, rfl, by simp, rfl, rfl⟩
    · exact ⟨rfl, rfl, rfl, rfl, rfl⟩
theorem resN_le (n : Int) (fl : Bool) : PLe (.agg [.val (.int .u64 n), .val (.slice none 0 0), .val (.bool fl)]) (qR ⟨n, xW, fl⟩) := .refl _
theorem doX_fn {b : Nat} {W : Wd} {q : Ned} (h : WdOK b W) (hb : b ≤ 900000) (hq : qA q) {me : Nat} (hme : me < W.r0.length) (f : Bool) :
    Fn Tryz.prog 72 [W.pv, .val (.int .i64 me), accV q.kind q.cell q.a q.b (.sl (byts (qV q.d))), .val (.bool f)] (.tup [(doX W me q f).1.pv, qR (doX W me q f).2]) := by
  obtain ⟨t, c, ws, root, r0, r1⟩ := W
  obtain ⟨kind, cell, a, b', d, w⟩ := q
  obtain rfl : root = 0 := h.root
  have hd : (0 ≤ kind ∧ kind ≤ 4) ∨ kind = 5 ∨ kind = 6 := by
    rcases hq.d with ⟨h, _⟩ | ⟨h, _⟩
    · rcases h with h | h
      · exact .inl h
      · exact .inr (.inr h)
    · exact .inr (.inl h)
  have hl : (qV d).length ≤ 1000 := hq.len
  rcases hd with hk | hk
  · have e : (decide (kind = 5) || decide (kind = 6)) = false := by rw [decide_eq_false (show ¬kind = 5 by omega), decide_eq_false (show ¬kind = 6 by omega)]; rfl
    unfold doX
    dsimp only
    rw [e, cond_false]
    by_cases hc : cell < 0
    · rw [decide_eq_true hc, cond_true]
      exact (doOut_fn t c kind cell a b' me 0 hk ws (.sl (byts (qV d))) r0 r1 f (.inl hc)).weakT (.cons (.refl _) (.cons (resN_le _ false) .nil))
    · rw [decide_eq_false hc, cond_false]
      cases ho : ws[cell.toNat]? with
      | none =>
        refine (doOut_fn t c kind cell a b' me 0 hk ws (.sl (byts (qV d))) r0 r1 f (.inr ?_)).weakT (.cons (.refl _) (.cons (resN_le _ false) .nil))
        have := List.getElem?_eq_none_iff.1 ho
        omega
      | some old =>
        obtain ⟨i, rfl⟩ : ∃ i : Nat, cell = (i : Int) := ⟨cell.toNat, by omega⟩
        rw [Int.toNat_natCast] at ho ⊢
        exact (doWord_fn t c kind a b' old me 0 hk i ws (.sl (byts (qV d))) r0 r1 f ho h.len).weakT (.cons (.refl _) (.cons (resN_le _ false) .nil))
  · have hme' : me < r0.length := hme
    have hr : r0[me]? = some r0[me] := List.getElem?_eq_getElem hme'
    have hs := h.str r0[me] (List.getElem_mem hme')
    generalize r0[me] = p at hr hs
    obtain ⟨x, s⟩ := p
    have hs : x.length ≤ b := hs
    unfold doX
    dsimp only
    rcases hk with rfl | rfl
    · cases f
      · simp only [hr, decide_true, Bool.true_or, cond_true, cond_false]
        exact (doDisk50_fn t c cell a b' 0 ws r0 r1 me x s (qV d) (by decide) rfl hr h.rows (by omega)).weakT (.cons (.refl _) (.cons (resN_le 0 false) .nil))
      · exact (doFail5_fn t c cell a b' me 0 ws (.sl (byts (qV d))) r0 r1).weakT (.cons (.refl _) (.cons (resN_le 0 true) .nil))
    · cases f
      · simp only [hr, decide_true, Bool.or_true, cond_true, cond_false]
        exact (doDisk60_fn t c cell a b' 0 ws r0 r1 me x s (.sl (byts (qV d))) (by decide) rfl hr h.rows).weakT (.cons (.refl _) (.cons (resN_le 0 false) .nil))
      · exact (doFail6_fn t c cell a b' me 0 ws (.sl (byts (qV d))) r0 r1).weakT (.cons (.refl _) (.cons (resN_le 0 true) .nil))
/-! ### A world's answers -/
def wSt (me : Nat) (fail : Nat → Bool) (s : Wd × Nat) (q : Ned) : Ans (Wd × Nat) := .ret (doX s.1 me q (fail s.2)).2 ((doX s.1 me q (fail s.2)).1, s.2 + 1)
theorem wSt_le {α : Type} {me : Nat} {fail : Nat → Bool} : ∀ {p : Pr α} {s : Wd × Nat} {x : α} {s' : Wd × Nat}, p.run (wSt me fail) s = .done x s' → s.2 ≤ s'.2
  | .ret _, _, _, _, h => by cases h; exact Nat.le_refl _
  | .stuck, _, _, _, h => by cases h
  | .ask q k, s, _, s', h => by
    rw [wU] at h
    have h2 := wSt_le (p := k _) h
    exact Nat.le_trans (Nat.le_succ _) h2
/-- what is left of a program behind a log -/
def Pr.after {α : Type} : Pr α → List yE → Option (Pr α)
  | p, [] => some p
  | .ask _ k, r :: L => (k r).after L
  | _, _ :: _ => none
theorem after_snoc {α : Type} {q : Ned} {k : yE → Pr α} (r : yE) : ∀ {L : List yE} {p : Pr α}, p.after L = some (.ask q k) → p.after (L ++ [r]) = some (k r)
  | [], p, h => by
    have : p = .ask q k := by cases p <;> exact Option.some.inj h
    subst this
    show (k r).after [] = some (k r)
    cases k r <;> rfl
  | x :: L, .ask q' k', h => after_snoc r (L := L) (p := k' x) h
  | x :: L, .ret _, h => by cases h
  | x :: L, .stuck, h => by cases h
theorem after_run {α : Type} {p' : Pr α} : ∀ {L L0 : List yE} {p : Pr α}, p.after L = some p' → p.run (y5 (L0 ++ L)) L0.length = p'.run (y5 (L0 ++ L)) (L0.length + L.length)
  | [], L0, p, h => by
    have : p = p' := by cases p <;> exact Option.some.inj h
    subst this
    simp
  | x :: L, L0, .ask q k, h => by
    have e : y5 (L0 ++ x :: L) L0.length q = .ret x (L0.length + 1) := by unfold y5; simp
    rw [wU, e]
    have := after_run (L := L) (L0 := L0 ++ [x]) (p := k x) h
    simp only [List.append_assoc, List.singleton_append, List.length_append, List.length_cons, List.length_nil, Nat.zero_add] at this ⊢
    rw [this]
    congr 1
    omega
  | x :: L, _, .ret _, h => by cases h
  | x :: L, _, .stuck, h => by cases h
theorem after_need {α : Type} {p : Pr α} {L : List yE} {q : Ned} {k : yE → Pr α} (h : p.after L = some (.ask q k)) : p.run (y5 L) 0 = .need q L.length := by
  have := after_run (L0 := []) h
  simp only [List.nil_append, List.length_nil, Nat.zero_add] at this
  rw [this, wU]
  have e : y5 L L.length q = .need q L.length := by unfold y5; simp
  rw [e]
theorem after_done {α : Type} {p : Pr α} {L : List yE} {x : α} (h : p.after L = some (.ret x)) : p.run (y5 L) 0 = .done x L.length := by
  have := after_run (L0 := []) h
  simp only [List.nil_append, List.length_nil, Nat.zero_add] at this
  rw [this, zP]
end Go.Proofs.YtohlllohmoojiaaGreatDoor
/- A struct's literal of which parts are own rows, stored into a new variable; appending to nil. Generic over the program. -/
namespace Go.Proofs.YtohlllohmoojiaaGreatDoor
set_option maxRecDepth 100000
set_option maxHeartbeats 16000000
open Go Go.RowKit
set_option linter.unusedSimpArgs false
theorem cells_own {M : Nat → Nat → Prop} {n : Nat} {w0 : Home} {w : World} {S : AS} {ρ : Nat → Value} {a : Act} (hs : Sat M n w0 S ρ a w) {id2 : Nat} {b2 : Blk} {v : Value} (hb2 : S.blk id2 = some b2) (hrow : b2.isRow = true) (h2 : yD (Mut M S ρ) ρ w (.own id2) v) :
    yH (Mut M S ρ) ρ w (AV.own id2).wZ v.cells.toList := own_cells hs hb2 hrow h2
def partB (S : AS) (av : AV) : Bool := av.qW || (match av with
  | .own id => (match S.blk id with | some b => b.isRow | none => false)
  | _ => false)
section
variable {P : Program} {n : Nat} {ops : Array Oper} {S : AS} {K : Exit → AS → Prop}
theorem w_makeV1 {o : Oper} {d t e sz by_ m : Nat} {k : IntKind} {z : Value} {xl xc : Operand} [ht : Und P t (.slice e)] [hi : InfoA P e z sz by_] (ho : o.op = .makeSlice t xl xc) (hl : S.get xl = .p (.val (.int k (m : Int)))) (hc : S.get xc = .p (.val (.int k (m : Int)))) (hlim : m * sz ≤ 16777216 ∧ by_ * m ≤ 281474976710656 ∧ m ≤ maxLen)
    (hzs : z.cells.size = sz) (hsz : 0 < sz) (hzp : [z] = z.cells.toList) (h1 : z.cells.toList.all (fun u => u.oneCell') = true) (hd : o.dst = some d) (hn : d < n) : zK P n o S [] (.own d) (some (qP e sz (List.replicate m (.val z)))) :=
  w_makeV ho hl hc hlim hzs hsz (zp := .val z) (by rw [← hzp]; rfl) h1 hd hn
theorem w_makeVN {o : Oper} {d t e sz by_ m : Nat} {k : IntKind} {z : Value} {xl xc : Operand} [ht : Und P t (.slice e)] [hi : InfoA P e z sz by_] (ho : o.op = .makeSlice t xl xc) (hl : S.get xl = .p (.val (.int k (m : Int)))) (hc : S.get xc = .p (.val (.int k (m : Int)))) (hlim : m * sz ≤ 16777216 ∧ by_ * m ≤ 281474976710656 ∧ m ≤ maxLen)
    (hzs : z.cells.size = sz) (hsz : 0 < sz) (h1 : z.cells.toList.all (fun u => u.oneCell') = true) (hd : o.dst = some d) (hn : d < n) : zK P n o S [] (.own d) (some (qP e sz (List.replicate m (.agg (z.cells.toList.map PV.val))))) :=
  w_makeV ho hl hc hlim hzs hsz (zp := .agg (z.cells.toList.map PV.val)) rfl h1 hd hn
end
theorem sub_frzE {S : AS} (id e sz : Nat) (es : List PV) (hb : S.blk id = some (qP e sz es)) : Sub S (S.frz id (.sl es)) := sub_frz hb
end Go.Proofs.YtohlllohmoojiaaGreatDoor
/- An operation that steps alone (law 15), as a tree in a world: contract. -/
namespace Go.Proofs.YtohlllohmoojiaaGreatDoor
set_option maxRecDepth 100000
set_option maxHeartbeats 16000000
open Go Go.RowKit
set_option linter.unusedSimpArgs false
set_option linter.unusedVariables false
attribute [local irreducible] zY zZ Step zK Sub zS zH Fn zG yZ
structure AlSt where
  n : Nat
  W : Wd
  L : List yE
  p : Pr OutN
def noFail (_ : Nat) : Bool := false
def aloneS (me : Nat) (k u v w : Int) (most : Int) (s : AlSt) : AS :=
  { t := [(1, .p (.val (.int .i64 me))), (3, .p (.val (.int .i64 most))), (4, .ptr 4 0), (6, .ptr 6 0), (8, .ptr 8 0), (9, .ptr 9 0), (10, .p (.val (.bool false))), (11, .own 11), (12, .p (.val (.int .i64 (s.n : Nat))))],
    s := [(4, .box 59 (s.W.pv.cells.map AV.p)), (6, .box 24 ((opV k u v w).cells.map AV.p)), (8, .box 59 ([.val (.int .i64 0), .val (.int .i64 0), xW, .val (.int .u64 0), xW, xW].map AV.p)),
      (9, .box 38 ((outV 0 false 0 0).cells.map AV.p)), (11, lentV 125 3 (s.L.map qR))] }
theorem next_needW (L : List yE) (hL : wF L) {t : Int} (c me : Int) {k u v w : Int} (ht : Small t) (h : OpL k u v w) {q : Ned} {j : Nat} (hm : (opL t k u v w).run (y5 L) 0 = .need q j) (hq : qA q) :
    Fn Tryz.prog 10 [.val (.int .i64 t), .val (.int .i64 c), .val (.int .i64 me), opV k u v w, logV L] (.tup [accV q.kind q.cell q.a q.b (.sl (byts (qV q.d))), outV 0 false 0 0, .val (.bool false)]) := by
  refine (next_need L hL c me ht h hm).weakT (.cons (.agg (.cons (.refl _) (.cons (.refl _) (.cons (.refl _) (.cons (.refl _) (.cons ?_ (.cons (.refl _) .nil))))))) (.cons (.refl _) (.cons (.refl _) .nil)))
  rcases hq.d with ⟨_, e⟩ | ⟨_, bs, _, _, e⟩
  · rw [e]; exact .nil
  · rw [e, bytsOf_byts]; exact .refl _
theorem alone_fn (B : Nat) (W W' : Wd) (me : Nat) (k u v w : Int) (most : Nat) (m : Nat) (o : OutN) (hW : WdOK B W) (ht0 : Small W.t) (hme : me < W.r0.length) (hop : OpL k u v w)
    (hr : (opL W.t k u v w).run (wSt me noFail) (W, 0) = .done o (W', m)) (hmm : m ≤ most) (h1000 : most ≤ 1000) (hB : B ≤ 700000) (hB2 : B + 1000 * most ≤ 900000) :
    Fn Tryz.prog 25 [W.pv, .val (.int .i64 me), opV k u v w, .val (.int .i64 most)] (.tup [W'.pv, outV o.e o.is o.n o.w, .val (.bool true)]) := by
  have hfine := fine_opL (t := W.t) hop
  obtain ⟨t, c, ws, root, r0, r1⟩ := W
  have hme : me < r0.length := hme
  have ht0 : Small t := ht0
  refine yS Tryz.func25 rfl Tryz.ntmps25 (Nat.le_of_ble_eq_true rfl) ?_
  repeat' (first | (refine zY.nil ?_) | (refine zZ.is ?_; first | refine zZ.seq ?_ | (refine zZ.isR (id := 0) ?_; refine zZ.rc [0, 1, 2, 3] [4, 6, 8, 9, 11, 13, 14, 16, 17, 50] (r := (.m qE (.m qE (.m yG (.m yG (.v zC .e)))))) (h := ?_)) | (refine zZ.isR (id := 1) ?_; refine zZ.rc [1, 3, 4, 6, 8, 9, 10] [4, 6, 8, 9, 11, 13, 14, 16, 17, 50] (r := (.v zC .e)) (h := ?_)) | (refine zZ.isR (id := 2) ?_; refine zZ.rc [1, 3, 4, 6, 8, 9, 10, 11] [4, 6, 8, 9, 11, 13, 14, 16, 17, 50] (r := (.v zC .e)) (h := ?_)) | refine zZ.block ?_) | refine zG.n ?_)
  refine zZ.loop (fun s => aloneS me k u v w most s) (fun s => s.n ≤ m ∧ s.W.t = t ∧ s.W.r0.length = r0.length ∧ WdOK (B + 1000 * s.n) s.W ∧ s.L.length = s.n ∧ (∀ r ∈ s.L, U r.n) ∧ (opL t k u v w).after s.L = some s.p ∧ s.p.xL yes (many - s.n) ∧ s.p.run (wSt me noFail) (s.W, s.n) = .done o (W', m)) (fun s => most + 1 - s.n) ⟨0, ⟨t, c, ws, root, r0, r1⟩, [], opL t k u v w⟩ ?h0
    ⟨Nat.zero_le _, rfl, rfl, hW, rfl, (fun r h => by simp at h), (by cases opL t k u v w <;> rfl), hfine, hr⟩ ?rd
  case h0 =>
    refine (sub_adopt (d := 11) (id := 11) (ty := 125) (sz := 3) (by decide) rfl).trans ?_
    refine (vI (id := 11) (b := .row 125 3 0 []) (b' := qP 125 3 []) (by rfl) (rowV_alike 125 3 [])).sub.trans ?_
    refine (sub_lend (id := 11) (e := 125) (sz := 3) (es := []) (by rfl)).trans ?_
    refine yJ (is := [1, 3, 4, 6, 8, 9, 10, 11, 12]) (js := [4, 6, 8, 9, 11]) ?_ ?_
    repeat' first | exact zX.nil | apply zX.p rfl | apply zX.ptr rfl | apply zX.own rfl | apply zX.clo rfl | apply zX.ifp rfl | apply zX.pt rfl | apply zX.tup rfl | apply zX.skip
    repeat' first | exact zW.nil | apply zW.boxP rfl rfl | apply zW.y7 rfl | (apply zW.at0; exact zI rfl (H.nk _).1 (by repeat' fail)) | (apply zW.at1; exact zI rfl (H.nk _).2.1 (by repeat' fail)) | (apply zW.at2; exact zI rfl (H.nk _).2.2 (by repeat' fail)) | apply zW.some rfl | apply zW.skip
  case rd =>
    rintro ⟨n, W, L, p⟩ ⟨hn, ht, hrl, hok, hl, hru, haf, hfi, hrun⟩
    dsimp only at hn ht hrl hok hl hru haf hfi hrun
    obtain ⟨t', c', ws', root', r0', r1'⟩ := W
    have ht : t' = t := ht
    subst ht
    change zZ _ _ _ (aloneS me k u v w most ⟨n, ⟨t', c', ws', root', r0', r1'⟩, L, p⟩) _
    unfold aloneS
    dsimp only
    have g1 : decide ((n : Int) ≤ most) = true := decide_eq_true (by omega)
    repeat' (first | (refine zY.nil ?_) | (refine zZ.is ?_; first | refine zZ.seq ?_ | (refine zZ.isR (id := 3) ?_; refine zZ.rc [1, 3, 4, 6, 8, 9, 10, 11, 12, 13, 14, 15, 16, 17, 20, 37] [4, 6, 8, 9, 11, 13, 14, 16, 17, 50] (r := (.v zJ (.v zJ (.v v44_0 .e)))) (h := ?_)) | (refine zZ.isR (id := 5) ?_; refine zZ.rc [1, 3, 4, 6, 8, 9, 10, 11, 12, 13, 14, 15, 16, 17, 20, 37] [4, 6, 8, 9, 11, 13, 14, 16, 17, 50] (r := (.v zU (.v zU (.v yV (.v zU (.v zU (.v yV (.v zJ (.v vN (.v v0_1 .e)))))))))) (h := ?_)) | refine zZ.yM rfl bA ?_ | refine zZ.skip ?_ | refine zZ.block ?_) | refine zG.n ?_)
    refine zY.sub (sub_view (d := 32) (id := 11) (e := 125) (sz := 3) (es := L.map qR) rfl rfl) ?_
    have hL : wF L := ⟨by omega, hru⟩
    cases p with
    | stuck => cases hrun
    | ret o' =>
      rw [zP] at hrun
      injection hrun with e1 e2
      injection e2 with e2 e3
      subst e1 e2
      have c1 := next_done L hL c' me ht0 hop (after_done haf)
      repeat' (first | (refine zY.is ?_; first | refine zY.nil ?_ | (refine zY.at_ 23 rfl ?_; refine zY.rc (.v v0_4 (.v y9 (.v y9 (.v y9 (.m yG (.m yG (.w yQ (.w yQ (.v zC .e))))))))) ?_) | (refine zY.in_ [33] rfl ?_; refine zY.v rfl rfl (xJ (c1) rfl rfl rfl (by decide)) ?_)) | (refine zZ.is ?_; first | refine zZ.seq ?_ | (refine zZ.isR (id := 6) ?_; refine zZ.rc [1, 3, 4, 6, 8, 9, 10, 11, 12, 13, 14, 15, 16, 17, 20, 37] [4, 6, 8, 9, 11, 13, 14, 16, 17, 50] (r := (.v zJ .e)) (h := ?_)) | (refine zZ.isR (id := 7) ?_; refine zZ.rk [1, 3, 4, 6, 8, 9, 10, 11, 12, 13, 14, 15, 16, 17, 20, 37] [4, 6, 8, 9, 11, 13, 14, 16, 17, 50] ?_; refine zZ.drawGo (by kernel_rfl) ?_) | refine zZ.yM rfl bA ?_ | refine zZ.ret ?_) | refine zG.n ?_ | refine zG.r ?_ | refine yZ.r ?_ | (refine DGo.at_ [] ?_; refine DGo.all [0, 1] (by kernel_rfl) ?_) | (refine DGo.at_ [1] ?_; refine DGo.all [0] (by kernel_rfl) ?_) | (refine DGo.at_ [0, 1] ?_; refine DGo.all [2] (by kernel_rfl) ?_) | (refine DGo.at_ [2, 0, 1] ?_; refine DGo.all [3] (by kernel_rfl) ?_) | (refine DGo.at_ [3, 2, 0, 1] ?_; refine DGo.fr 4 ?_) | (refine DGo.at_ [4, 3, 2, 0, 1] ?_; refine DGo.fin (by kernel_rfl) ?_) | (refine DGo.at_ [0] ?_; refine DGo.all [1, 2] (by kernel_rfl) ?_) | (refine DGo.at_ [2, 0] ?_; refine DGo.all [1] (by kernel_rfl) ?_) | (refine DGo.at_ [1, 2, 0] ?_; refine DGo.all [3] (by kernel_rfl) ?_) | (refine DGo.at_ [3, 1, 2, 0] ?_; refine DGo.fr 4 ?_) | (refine DGo.at_ [4, 3, 1, 2, 0] ?_; refine DGo.fin (by kernel_rfl) ?_) | (refine DGo.at_ [1, 0] ?_; refine DGo.all [2] (by kernel_rfl) ?_) | (refine DGo.at_ [2, 1, 0] ?_; refine DGo.all [3] (by kernel_rfl) ?_) | (refine DGo.at_ [3, 2, 1, 0] ?_; refine DGo.fr 4 ?_) | (refine DGo.at_ [4, 3, 2, 1, 0] ?_; refine DGo.fin (by kernel_rfl) ?_) | refine x9.cons ?_ ?_ | exact x9.nil | (refine xC.at_ 0 ?_; refine xC.v rfl rfl rfl (yX rfl rfl rfl (by rfl) (by rfl) rfl (by decide)) ?_) | (refine xC.at_ 1 ?_; refine xC.v rfl rfl rfl (yX rfl rfl rfl (by rfl) (by rfl) rfl (by decide)) ?_) | (refine xC.at_ 2 ?_; refine xC.w rfl rfl (by exact zT rfl rfl rfl rfl rfl (by rfl) (by exact Nat.le_of_ble_eq_true rfl) rfl rfl) ?_) | (refine xC.at_ 3 ?_; refine xC.w rfl rfl (by exact zT rfl rfl rfl rfl rfl (by rfl) (by exact Nat.le_of_ble_eq_true rfl) rfl rfl) ?_))
      all_goals exact ⟨by first | exact .inl rfl | exact .inr rfl, _, Sub.refl _, .tup (rs := [.cell 8 59, .cell 9 38, .tmp 10]) (l := [Wd.pv ⟨t', c', ws', root', r0', r1'⟩, outV o'.e o'.is o'.n o'.w, .val (.bool true)]) rfl (by decide) (.cons (.cellN rfl rfl (by rfl) (by rfl)) (.cons (.cellN rfl rfl (by rfl) (by rfl)) (.cons (.tmp rfl) .nil)))⟩
    | ask q kq =>
      have hq : qA q := hfi.1
      rw [wU] at hrun
      have hrun2 : (kq (doX ⟨t', c', ws', root', r0', r1'⟩ me q false).2).run (wSt me noFail) ((doX ⟨t', c', ws', root', r0', r1'⟩ me q false).1, n + 1) = .done o (W', m) := hrun
      have hle := wSt_le hrun2
      dsimp only at hle
      have c1 := next_needW L hL c' me ht0 hop (after_need haf) hq
      have hdo := doX_ok hok hq me false
      have hkeep := doX_keeps ⟨t', c', ws', root', r0', r1'⟩ me q false
      have hme' : me < r0'.length := by have : r0'.length = r0.length := hrl; omega
      have c2 := doX_fn hok (by omega) hq (me := me) hme' false
      have haf2 := after_snoc (doX ⟨t', c', ws', root', r0', r1'⟩ me q false).2 haf
      generalize hde : doX ⟨t', c', ws', root', r0', r1'⟩ me q false = dd at *
      obtain ⟨W2, r⟩ := dd
      dsimp only at hrun2 hle c2 hdo hkeep haf2
      have g3 : IntKind.i64.wrap ((n : Int) + 1) = ((n + 1 : Nat) : Int) := by rw [wrap_i64 _ (by omega)]; omega
      have g4 : ∀ e ∈ L.map qR, e.cells.length = 3 := resV_cells L
      have g5 : ∀ e ∈ [qR r], e.cells.length = 3 := fun e he => by simp at he; subst he; rfl
      have g10 : ((L.map qR).length + ([qR r] : List PV).length) * 40 ≤ 140737488355328 ∧ (L.map qR).length + ([qR r] : List PV).length ≤ maxLen := by
        simp only [List.length_map, List.length_cons, List.length_nil, maxLen]
        omega
      have hnext : n + 1 ≤ m ∧ W2.t = t' ∧ W2.r0.length = r0.length ∧ WdOK (B + 1000 * (n + 1)) W2 ∧ (L ++ [r]).length = n + 1 ∧ (∀ x ∈ L ++ [r], U x.n) ∧ (opL t' k u v w).after (L ++ [r]) = some (kq r) ∧ (kq r).xL yes (many - (n + 1)) ∧ (kq r).run (wSt me noFail) (W2, n + 1) = .done o (W', m) :=
        ⟨hle, hkeep.1, hkeep.2.2.1.trans hrl, hdo.1.le (by omega), by simp [hl], (fun x hx => by
          rcases List.mem_append.1 hx with hx | hx
          · exact hru x hx
          · simp at hx; subst hx; exact hdo.2), haf2, Pr.xL.le (by omega) (hfi.2 r hdo.2), hrun2⟩
      have ps_ := trivial
      repeat' (first | (refine zY.is ?_; first | refine zY.nil ?_ | (refine zY.at_ 23 rfl ?_; refine zY.rc (.v v0_4 (.v y9 (.v y9 (.v y9 (.m yG (.m yG (.w yQ (.w yQ (.v zC .e))))))))) ?_) | (refine zY.at_ 40 rfl ?_; refine zY.rc (.v v0_4 (.v y9 (.v y9 (.m yG (.m yG (.w yQ (.w yQ .e))))))) ?_) | (refine zY.in_ [33] rfl ?_; refine zY.v rfl rfl (xJ (c1) rfl rfl rfl (by decide)) ?_) | (refine zY.in_ [44] rfl ?_; refine zY.v rfl rfl (xJ (c2) rfl rfl rfl (by decide)) ?_)) | (refine zZ.is ?_; first | refine zZ.seq ?_ | (refine zZ.isR (id := 6) ?_; refine zZ.rc [1, 3, 4, 6, 8, 9, 10, 11, 12, 13, 14, 15, 16, 17, 20, 37] [4, 6, 8, 9, 11, 13, 14, 16, 17, 50] (r := (.v zJ .e)) (h := ?_)) | (refine zZ.isR (id := 8) ?_; refine zZ.rc [1, 3, 4, 6, 8, 9, 10, 11, 12, 13, 14, 15, 16, 17, 20, 37] [4, 6, 8, 9, 11, 13, 14, 16, 17, 50] (r := (.v vN (.v zJ (.v vN .e)))) (h := ?_)) | (refine zZ.isR (id := 9) ?_; refine zZ.rc [1, 3, 4, 6, 8, 9, 10, 11, 12, 13, 14, 15, 16, 17, 20, 37] [4, 6, 8, 9, 11, 13, 14, 16, 17, 50] (r := (.v vN (.w yQ .e))) (h := ?_)) | (refine zZ.isR (id := 10) ?_; refine zZ.rc [1, 3, 4, 6, 8, 9, 10, 11, 12, 13, 14, 15, 16, 17, 20, 37] [4, 6, 8, 9, 11, 13, 14, 16, 17, 50] (r := (.v v0_1 (.v vN (.v v20_0 (.w w55_3 (.v v1_1 .e)))))) (h := ?_)) | (refine zZ.isR (id := 4) ?_; refine zZ.rc [1, 3, 4, 6, 8, 9, 10, 11, 12, 13, 14, 15, 16, 17, 20, 37] [4, 6, 8, 9, 11, 13, 14, 16, 17, 50] (r := (.v zJ (.v v30_0 (.v zC .e)))) (h := ?_)) | refine zZ.yI rfl bA ?_ | refine zZ.skip ?_) | refine zG.n ?_ | refine yZ.n ?_)
      all_goals
        refine ⟨⟨n + 1, W2, L ++ [r], kq r⟩, ?_, hnext, by dsimp only; omega⟩
        show Sub _ (aloneS me k u v w most ⟨n + 1, W2, L ++ [r], kq r⟩)
        unfold aloneS
        dsimp only
        rw [List.map_append]
        refine yJ (is := [1, 3, 4, 6, 8, 9, 10, 11, 12]) (js := [4, 6, 8, 9, 11]) ?_ ?_
        repeat' first | exact zX.nil | apply zX.p rfl | apply zX.ptr rfl | apply zX.own rfl | apply zX.clo rfl | apply zX.ifp rfl | apply zX.pt rfl | apply zX.tup rfl | apply zX.skip
        repeat' first | exact zW.nil | apply zW.boxP rfl rfl | apply zW.y7 rfl | (apply zW.at0; exact zI rfl (H.nk _).1 (by repeat' fail)) | (apply zW.at1; exact zI rfl (H.nk _).2.1 (by repeat' fail)) | (apply zW.at2; exact zI rfl (H.nk _).2.2 (by repeat' fail)) | apply zW.some rfl | apply zW.skip
end Go.Proofs.YtohlllohmoojiaaGreatDoor
/- New disks (reference): contract. -/
namespace Go.Proofs.YtohlllohmoojiaaGreatDoor
set_option maxRecDepth 100000
set_option maxHeartbeats 16000000
open Go Go.RowKit
set_option linter.unusedSimpArgs false
attribute [local irreducible] zY zZ Step zK Sub zS zH Fn
def zStr : PV := .agg [.val (.slice none 0 0), .val (.int .i64 0)]
theorem flat_zs : ∀ t : Nat, PL0s (flat (List.replicate t zStr)) (flat (strs (List.replicate t ([], 0))))
  | 0 => .nil
  | t + 1 => .cons .nil (.cons (.refl _) (flat_zs t))
theorem zStr_cells (t : Nat) : ∀ e ∈ List.replicate t zStr, e.cells.length = 2 := fun e he => by
  rw [List.eq_of_mem_replicate he]
  rfl
theorem new7_fn (t : Nat) (h1 : 1 ≤ t) (h64 : t ≤ 64) : Fn Tryz.prog 71 [.val (.int .i64 t)] (.tup [vC 0 (List.replicate t ([], 0)) (List.replicate t ([], 0)), .val (.int .i64 0)]) := by
  have g1 : decide ((t : Int) < 1) = false := decide_eq_false (by omega)
  have g2 : decide ((64 : Int) < t) = false := decide_eq_false (by omega)
  have g3 : t * 2 ≤ 16777216 ∧ 32 * t ≤ 281474976710656 ∧ t ≤ maxLen := by simp only [maxLen]; omega
  have g4 := zStr_cells t
  refine Fn.weakT (l := [.agg [.val (.int .u64 0), .sl (List.replicate t zStr), .sl (List.replicate t zStr)], .val (.int .i64 0)]) ?_ (.cons (.agg (.cons (.refl _) (.cons (.sl (by simp [strs]) (flat_zs t)) (.cons (.sl (by simp [strs]) (flat_zs t)) .nil)))) (.cons (.refl _) .nil))
  refine yS Tryz.func71 rfl Tryz.ntmps71 (Nat.le_of_ble_eq_true rfl) ?_
  repeat' ((refine zZ.is ?_; first | refine zZ.seq ?_ | (refine zZ.iq 0 ?_; refine zZ.rqb _ K_5 K_10 ?_; (refine zY.m rfl rfl (yB rfl (by decide) rfl (by decide)) ?_); (refine zY.v rfl rfl (zV rfl rfl rfl (by decide)) ?_); refine zY.nil ?_) | (refine zZ.iq 1 ?_; refine zZ.rqc _ K_l K_10 ?_; all_goals (refine zY.v rfl rfl (zQ rfl rfl rfl (by decide)) ?_); all_goals (refine zY.v rfl rfl (by exact xI rfl rfl rfl (by exact g1) rfl (by decide)) ?_); all_goals (refine zY.v rfl rfl (zQ rfl rfl rfl (by decide)) ?_); all_goals (refine zY.gY rfl rfl (by decide) rfl (by with_reducible rfl) rfl (by decide) (zQ rfl rfl rfl (by decide)) ?_); all_goals (refine zY.gY rfl rfl (by decide) rfl (by with_reducible rfl) rfl (by decide) (by exact r_gtr rfl rfl rfl (by exact g2) rfl (by decide)) ?_); all_goals (refine zY.v rfl rfl (by exact yP rfl rfl (by with_reducible rfl) rfl rfl (by decide)) ?_); all_goals (refine zY.nil ?_)) | (refine zZ.iq 3 ?_; refine zZ.rqc _ K_l K_10 ?_; (refine zY.m rfl rfl (yB rfl (by decide) rfl (by decide)) ?_); refine zY.nil ?_) | (refine zZ.iq 4 ?_; refine zZ.rqc _ K_v K_10 ?_; (refine zY.v rfl rfl (zQ rfl rfl rfl (by decide)) ?_); (refine zY.m rfl rfl (by exact w_makeVN rfl rfl rfl (by exact g3) rfl (by decide) (by rfl) rfl (by decide)) ?_); (refine zY.v rfl rfl (zA rfl rfl rfl (by decide)) ?_); (refine zY.v rfl rfl (by exact vS rfl rfl rfl (by omega) rfl (by decide)) ?_); (refine zY.w rfl (by exact w_storeO rfl rfl rfl rfl rfl rfl (by exact Nat.le_of_ble_eq_true rfl) rfl rfl) ?_); refine zY.nil ?_) | (refine zZ.isR (id := 5) ?_; refine zZ.zR [0, 2, 3, 4] [2, 4, 13, 17] (by repeat' first | exact zX.nil | apply zX.p rfl | apply zX.ptr rfl) (by repeat' first | exact zW.nil | apply zW.boxP rfl rfl | apply zW.some rfl | apply zW.skip) ?_; (refine zY.v rfl rfl (zQ rfl rfl rfl (by decide)) ?_); (refine zY.m rfl rfl (by exact w_makeVN rfl rfl rfl (by exact g3) rfl (by decide) (by rfl) rfl (by decide)) ?_); (refine zY.v rfl rfl (zA rfl rfl rfl (by decide)) ?_); (refine zY.v rfl rfl (by exact vS rfl rfl rfl (by omega) rfl (by decide)) ?_); (refine zY.w rfl (by exact w_storeO rfl rfl rfl rfl rfl rfl (by exact Nat.le_of_ble_eq_true rfl) rfl rfl) ?_); refine zY.nil ?_) | (refine zZ.isR (id := 6) ?_; refine zZ.sub (sub_frz (id := 13) rfl) ?_; refine zZ.sub (sub_frz (id := 17) rfl) ?_; refine zZ.rqc _ K_w K_10 ?_; (refine zY.v rfl rfl (yX rfl rfl rfl (by rfl) (by rfl) rfl (by decide)) ?_); (refine zY.w rfl (by exact zT rfl rfl rfl rfl rfl (by rfl) (by exact Nat.le_of_ble_eq_true rfl) rfl rfl) ?_); (refine zY.v rfl rfl (zV rfl rfl rfl (by decide)) ?_); refine zY.nil ?_) | refine zZ.yI rfl (by first | assumption | with_reducible rfl) ?_ | refine zZ.skip ?_ | refine zZ.ret ?_))
  all_goals exact ⟨by first | exact .inl rfl | exact .inr rfl, _, Sub.refl _, .tup (rs := [.cell 2 57, .tmp 3]) (l := [.agg [.val (.int .u64 0), .sl (List.replicate t zStr), .sl (List.replicate t zStr)], .val (.int .i64 0)]) rfl (by decide) (.cons (.cellN rfl rfl (by rfl) (by rfl)) (.cons (.tmp rfl) .nil))⟩
end Go.Proofs.YtohlllohmoojiaaGreatDoor
/- Structs that hold an own row's slice: what a function hands back. Generic over the program. -/
namespace Go.Proofs.YtohlllohmoojiaaGreatDoor
set_option maxRecDepth 100000
set_option maxHeartbeats 16000000
open Go Go.RowKit
set_option linter.unusedVariables false
set_option linter.unusedSimpArgs false
/-- a struct's cells, pure ones and own rows' slices -/
def cls : List AV → Option (List Cl)
  | [] => some []
  | .p x :: r => (cls r).map (.p x :: ·)
  | .own id :: r => (cls r).map (.o id :: ·)
  | _ :: _ => none
theorem cls_spec : ∀ {xs : List AV} {cs : List Cl}, cls xs = some cs → xs = cs.map Cl.av
  | [], cs, h => by cases h; rfl
  | .p x :: r, cs, h => by
    unfold cls at h
    rw [Option.map_eq_some_iff] at h
    obtain ⟨l, h1, rfl⟩ := h
    rw [cls_spec h1]; rfl
  | .own id :: r, cs, h => by
    unfold cls at h
    rw [Option.map_eq_some_iff] at h
    obtain ⟨l, h1, rfl⟩ := h
    rw [cls_spec h1]; rfl
  | .any :: _, _, h => by cases h
  | .ptr _ _ :: _, _, h => by cases h
  | .pt _ :: _, _, h => by cases h
  | .tup _ :: _, _, h => by cases h
  | .clo _ _ :: _, _, h => by cases h
  | .glob _ :: _, _, h => by cases h
  | .ifp _ _ :: _, _, h => by cases h
  | .ag _ :: _, _, h => by cases h
theorem clOK_of {M : Nat → Nat → Prop} {ρ : Nat → Value} {w : World} {c : Cl} {v : Value} (h : yD M ρ w c.av v) : ClOK M ρ w c v := by
  cases c with
  | p x => exact rep_p h
  | o id => exact qI h
theorem repA_ag {M : Nat → Nat → Prop} {ρ : Nat → Value} {w : World} {xs : List AV} {ys : List Value} {cs : List Cl} (h : yH M ρ w xs ys) (hc : xs = cs.map Cl.av) : yD M ρ w (.ag cs) (.agg ys.toArray) := by
  subst hc
  refine .ag cs ys (by simpa using h.len) (fun i c v h1 h2 => clOK_of (h.each i c.av v (by rw [List.getElem?_map, h1]; rfl) h2)) h.one
section
variable {P : Program} {n : Nat} {o : Oper} {S : AS} {d : Nat} {x : Operand} {t : TypeId}
theorem w_extractAg {avs : List AV} {i : Nat} {cs : List Cl} (ho : o.op = .extract x i) (hx : S.get x = .tup avs) (hi : avs[i]? = some (.ag cs)) (hd : o.dst = some d) (hn : d < n) : zK P n o S [] (.ag cs) none :=
  zK.pure hd hn fun S2 hg _ M w0 ρ a w hs => by
    have h1 := hs.rep x
    rw [hg x (by rw [ho]; simp [Op.operands]), hx] at h1
    generalize hev : a.eval x = ev at h1
    cases h1 with
    | tup _ vs hl h =>
      have hlt : i < vs.length := by rw [hl]; exact (List.getElem?_eq_some_iff.1 hi).1
      refine ⟨vs[i], w, ?_, Below.refl _ _, h i _ _ hi (List.getElem?_eq_getElem hlt)⟩
      unfold execOp
      rw [ho]
      simp [hev, Instr.extract, hlt]
theorem w_loadAg {id off m : Nat} {b : Blk} {cs : List Cl} [h : TyA P t true m] (ho : o.op = .load t x) (hx : S.get x = .ptr id off) (hb : S.blk id = some b) (hc : cls ((b.xs.drop off).take m) = some cs) (hl : cs.length = m) (hd : o.dst = some d) (hn : d < n) : zK P n o S [id] (.ag cs) none :=
  zK.pure hd hn fun S2 hg hbl M w0 ρ a w hs => by
    have h1 := hs.rep x
    rw [hg x (by rw [ho]; simp [Op.operands]), hx] at h1
    obtain ⟨g, hgv, hv⟩ := vV h1
    have hb2 : S2.blk id = some b := (hbl id (by simp)).trans hb
    obtain ⟨ys, hcs, hcell⟩ := (hs.blks id b hb2).cells hgv
    have hcm := cls_spec hc
    have hlen : ((b.xs.drop off).take m).length = m := by rw [hcm, List.length_map, hl]
    have hlen2 : ((ys.drop off).take m).length = m := by
      simp only [List.length_take, List.length_drop] at hlen ⊢
      rw [hcs.len]
      exact hlen
    have get : ∀ (j : Nat) y, ((ys.drop off).take m)[j]? = some y → j < m ∧ ys[off + j]? = some y := by
      intro j y hy
      rw [List.getElem?_take] at hy
      split at hy
      · rename_i hj
        rw [List.getElem?_drop] at hy
        exact ⟨hj, hy⟩
      · cases hy
    refine ⟨.agg ((ys.drop off).take m).toArray, w, ?_, Below.refl _ _, repA_ag (xs := (b.xs.drop off).take m) ⟨by rw [hlen, hlen2], fun i c v h1 h2 => ?_, fun v hv => hcs.one v (List.mem_of_mem_drop (List.mem_of_mem_take hv))⟩ hcm⟩
    · unfold execOp
      rw [ho]
      have := loadAt_many (P := P) (w := w) (t := t) (g := g) (o := off) (ys := (ys.drop off).take m) (h.ag w) (h.sz w) hlen2 (fun j y hy => (hcell (off + j) y (get j y hy).2).1)
      simp only [hv, Sem.run_bind, this]
      rfl
    · obtain ⟨hj, hy⟩ := get i v h2
      rw [List.getElem?_take, if_pos hj, List.getElem?_drop] at h1
      exact hcs.each (off + i) c v h1 hy
def ownB (id : Nat) (av : AV) : Bool := av.qW || (match av with
  | .own j => j == id
  | _ => false)
/-- a struct's literal that holds own row id (0: none) -/
theorem w_buildAg (id : Nat) {ps : Array (Nat × Operand)} {pl : List (Nat × Nat)} {z : Value} {zs : List AV} {cs : List Cl} {b : Blk} [hb : BuildA P t pl] [hz : ZeroA P t z] (ho : o.op = .build t ps) (h1 : z.cells.toList.all (fun u => u.oneCell') = true)
    (hk : ps.toList.all (fun p => ownB id (S.get p.2)) = true) (hbk : S.blk id = some b) (hrow : b.isRow = true)
    (hf : fillA (fun i => pl[i]?) (z.cells.toList.map fun u => .p (.val u)) (ps.toList.map fun p => (p.1, S.get p.2)) = some zs) (hp : cls zs = some cs) (hd : o.dst = some d) (hn : d < n) : zK P n o S [id] (.ag cs) none :=
  zK.pure hd hn fun S2 hg hbl M w0 ρ a w hs => by
    have hargs : ∀ p ∈ ps.toList, S2.get p.2 = S.get p.2 := fun p hp => hg p.2 (by rw [ho]; simp only [Op.operands, List.mem_map]; exact ⟨p, hp, rfl⟩)
    have hb2 : S2.blk id = some b := (hbl id (by simp)).trans hbk
    have parts : ∀ p ∈ ps.toList, yH (Mut M S2 ρ) ρ w (S.get p.2).wZ (a.eval p.2).cells.toList := fun p hp => by
      have h := List.all_eq_true.1 hk p hp
      have hrep := hs.rep p.2
      rw [hargs p hp] at hrep
      generalize hav : S.get p.2 = av at h hrep ⊢
      cases hpo : av.qW with
      | true => exact repA_cells hrep hpo
      | false =>
        unfold ownB at h
        rw [hpo, Bool.false_or] at h
        cases av with
        | own j =>
          obtain rfl : j = id := by simpa using h
          exact cells_own hs hb2 hrow hrep
        | _ => cases h
    obtain ⟨us, h3, h4⟩ := fill_rep (fun i => pl[i]?) S.get a.eval ps.toList _ zs z.cells.toList parts hf (zerosA fun u hu => List.all_eq_true.1 h1 u hu)
    refine ⟨.agg us.toArray, w, ?_, Below.refl _ _, repA_ag h4 (cls_spec hp)⟩
    unfold execOp
    rw [ho]
    have e : (ps.map fun (i, x) => (i, a.eval x)) = (ps.toList.map fun p => (p.1, a.eval p.2)).toArray := by apply Array.ext'; simp
    simp only [e, Sem.run_bind, run_build (P := P) (t := t) (pl := pl) (z := z) _ w _ h3]
    rfl
/-- without one -/
theorem w_buildAg0 {ps : Array (Nat × Operand)} {pl : List (Nat × Nat)} {z : Value} {zs : List AV} {cs : List Cl} [hb : BuildA P t pl] [hz : ZeroA P t z] (ho : o.op = .build t ps) (h1 : z.cells.toList.all (fun u => u.oneCell') = true)
    (hk : ps.toList.all (fun p => (S.get p.2).qW) = true)
    (hf : fillA (fun i => pl[i]?) (z.cells.toList.map fun u => .p (.val u)) (ps.toList.map fun p => (p.1, S.get p.2)) = some zs) (hp : cls zs = some cs) (hd : o.dst = some d) (hn : d < n) : zK P n o S [] (.ag cs) none :=
  zK.pure hd hn fun S2 hg _ M w0 ρ a w hs => by
    have hargs : ∀ p ∈ ps.toList, S2.get p.2 = S.get p.2 := fun p hp => hg p.2 (by rw [ho]; simp only [Op.operands, List.mem_map]; exact ⟨p, hp, rfl⟩)
    obtain ⟨us, h3, h4⟩ := fill_rep (fun i => pl[i]?) S.get a.eval ps.toList _ zs z.cells.toList (parts_ok hs hargs hk) hf (zerosA fun u hu => List.all_eq_true.1 h1 u hu)
    refine ⟨.agg us.toArray, w, ?_, Below.refl _ _, repA_ag h4 (cls_spec hp)⟩
    unfold execOp
    rw [ho]
    have e : (ps.map fun (i, x) => (i, a.eval x)) = (ps.toList.map fun p => (p.1, a.eval p.2)).toArray := by apply Array.ext'; simp
    simp only [e, Sem.run_bind, run_build (P := P) (t := t) (pl := pl) (z := z) _ w _ h3]
    rfl
end
/-! ### A function that hands back a struct with an own row -/
def Cl.at_ (d : Nat) : Cl → Cl
  | .o _ => .o d
  | .p x => .p x
structure AgRes (cs : List Cl) (t sz : Nat) (es : List PV) (M : Nat → Nat → Prop) (w w' : World) (us : List Value) (u : Value) : Prop where
  len : us.length = cs.length
  each : ∀ (i : Nat) c x, cs[i]? = some c → us[i]? = some x → match c with
    | .p y => Rep (fun k c => M k c ∨ yA u = some k) w' y x
    | .o _ => x = u
  one : ∀ x ∈ us, x.oneCell' = true
  row : ∃ ys, w'.ownsRow w.heap.size t sz u es.length ys ∧ RepL (fun k c => M k c ∨ yA u = some k) w' (flat es) ys
def agV (z : Option Value) (us : List Value) : Value := match z with
  | none => .agg us.toArray
  | some c => .tuple #[.agg us.toArray, c]
def FnAg (P : Program) (f : FuncId) (args : List PV) (cs : List Cl) (t sz : Nat) (es : List PV) (z : Option Value) : Prop :=
  ∀ (M : Nat → Nat → Prop) (w : World) (vs : List Value), Lays w ∧ (∀ g c, Tabs g → ¬ M g c) → (∀ k c, M k c → k < w.heap.size) → vs.length = args.length → (∀ (i : Nat) x v, args[i]? = some x → vs[i]? = some v → Rep M w x v) →
    Calls P f vs.toArray w fun e w' => ∃ us u, e = .returned (agV z us) ∧ AgRes cs t sz es M w w' us u ∧ Below w.heap.size w w'
/-- the results, as they lie at the end -/
inductive AgEnd (P : Program) (fn : Func) (S : AS) (cs : List Cl) (t sz : Nat) (es : List PV) : Option Value → Prop
  | one {a ty id off m k : Nat} {b : Blk} [ht : TyA P ty true m] (hr : fn.results = #[.cell a ty]) (h : S.tmp a = .ptr id off) (hb : S.blk id = some b) (hc : cls ((b.xs.drop off).take m) = some (cs.map (Cl.at_ k))) (hl : cs.length = m) (hk : S.blk k = some (qP t sz es)) : AgEnd P fn S cs t sz es none
  | two {a ty id off m k q : Nat} {b : Blk} {z : Value} [ht : TyA P ty true m] (hr : fn.results = #[.cell a ty, .tmp q]) (h : S.tmp a = .ptr id off) (hb : S.blk id = some b) (hc : cls ((b.xs.drop off).take m) = some (cs.map (Cl.at_ k))) (hl : cs.length = m) (hk : S.blk k = some (qP t sz es)) (hq : S.tmp q = .p (.val z)) : AgEnd P fn S cs t sz es (some z)
theorem ag_cell {P : Program} {M : Nat → Nat → Prop} {n : Nat} {w : World} {hl0 : Lays w} {w' : World} {S : AS} {ρ : Nat → Value} {a : Act} (hs : Sat M n (Home.plain w hl0) S ρ a w') {cs : List Cl} {t sz p ty id off m k : Nat} {es : List PV} {b : Blk} [ht : TyA P ty true m]
    (h : S.tmp p = .ptr id off) (hb : S.blk id = some b) (hc : cls ((b.xs.drop off).take m) = some (cs.map (Cl.at_ k))) (hl : cs.length = m) (hk : S.blk k = some (qP t sz es)) :
    ∃ us, (resOne a.tmps (.cell p ty)).run P w' = .ok (.agg us.toArray) w' ∧ AgRes cs t sz es M w w' us (ρ k) := by
  have h1 := hs.tmps p
  rw [h] at h1
  obtain ⟨g, hgv, hv⟩ := vV h1
  obtain ⟨ys, hcs, hcell⟩ := (hs.blks id b hb).cells hgv
  have hcm := cls_spec hc
  have hlen : ((b.xs.drop off).take m).length = m := by rw [hcm, List.length_map, List.length_map, hl]
  have hlen2 : ((ys.drop off).take m).length = m := by
    simp only [List.length_take, List.length_drop] at hlen ⊢
    rw [hcs.len]
    exact hlen
  have get : ∀ (j : Nat) y, ((ys.drop off).take m)[j]? = some y → j < m ∧ ys[off + j]? = some y := by
    intro j y hy
    rw [List.getElem?_take] at hy
    split at hy
    · rename_i hj
      rw [List.getElem?_drop] at hy
      exact ⟨hj, hy⟩
    · cases hy
  have hup : ∀ k' c, k' < w'.heap.size → (M k' c ∨ yA (ρ k) = some k') → Mut M S ρ k' c := fun k' c _ h => h.elim .inl fun h => .inr ⟨k, _, hk, h, trivial⟩
  refine ⟨(ys.drop off).take m, ?_, ⟨by rw [hlen2, hl], fun i c x h1 h2 => ?_, fun v hv => hcs.one v (List.mem_of_mem_drop (List.mem_of_mem_take hv)), ?_⟩⟩
  · have := loadAt_many (P := P) (w := w') (t := ty) (g := g) (o := off) (ys := (ys.drop off).take m) (ht.ag w') (ht.sz w') hlen2 (fun j y hy => (hcell (off + j) y (get j y hy).2).1)
    simp only [Instr.loadAt, Instr.sureAddr, Sem.run_bind, Sem.run_pure, Result.andThen_ok] at this
    simp only [resOne, hv, asAddr, Sem.run_bind, Sem.run_pure, Result.andThen_ok]
    exact this
  · obtain ⟨hj, hy⟩ := get i x h2
    have h3 : b.xs[off + i]? = some (c.at_ k).av := by
      have h4 : ((b.xs.drop off).take m)[i]? = ((cs.map (Cl.at_ k)).map Cl.av)[i]? := by rw [hcm]
      rw [List.getElem?_take, if_pos hj, List.getElem?_drop, List.getElem?_map, List.getElem?_map, h1] at h4
      exact h4
    have h5 := clOK_of (hcs.each (off + i) _ x h3 hy)
    cases c with
    | p y => exact Rep.mono h5 hup
    | o j => exact h5
  · obtain ⟨ys2, ho, hc2⟩ := hs.blks k _ hk
    refine ⟨ys2, vH ho (fun k' hk' => (hs.mine k _ k' hk hk').elim (fun h => h) (fun h => h.elim)), by simpa using hc2.len, fun i c v h3 h4 => ?_, hc2.one⟩
    exact (rep_p (hc2.each i (.p c) v (by rw [List.getElem?_map, h3]; rfl) h4)).mono hup
theorem fn_ofAg {P : Program} {f : FuncId} {fn : Func} {c : Code} {args : List PV} {cs : List Cl} {t sz : Nat} {es : List PV} {z : Option Value} {n : Nat} (hf : P.funcs[f]? = some fn) (hb : fn.body = some c) (hn : fn.ntmps = n) (hle : args.length ≤ n)
    (h : zZ P n c (AS.entry args) (fun e S => (e = .ret ∨ e = .normal) ∧ AgEnd P fn S cs t sz es z)) : FnAg P f args cs t sz es z := by
  intro M w vs hT hM hvl hvs
  refine calls_of_wp hf hb ?_
  have hsat : Sat M n (Home.plain w hT.1) (AS.entry args) (fun _ => undef) { tmps := vs.toArray ++ Array.replicate (fn.ntmps - vs.toArray.size) undef, defers := [] } w := by
    refine ⟨wQ.refl (Home.plain w hT.1), (fun k c hk hh => by rcases hh with hh | hh; exact absurd (hM k c hk) (Nat.not_lt.2 hh); exact hh), hT.2, by simp; omega, rfl, fun i => ?_, (fun id b hb => by cases hb), (fun id b k hb => by cases hb), (fun k v hk => by cases hk), (fun _ _ => rfl), (fun i j bi bj k hi => by cases hi)⟩
    show yD _ _ _ ((look (zipArgs 0 args) i).getD .any) _
    rw [look_zipArgs]
    simp only [Nat.zero_le, if_true, Nat.sub_zero]
    cases hx : args[i]? with
    | none => exact .any _
    | some x =>
      have hi : i < vs.length := by rw [hvl]; exact (List.getElem?_eq_some_iff.1 hx).1
      have e : ({ tmps := vs.toArray ++ Array.replicate (fn.ntmps - vs.toArray.size) undef, defers := [] } : Act).tmps.getD i undef = vs[i] := by
        simp [Array.getD_eq_getD_getElem?, Array.getElem?_append, hi]
      rw [e]
      refine .p ((hvs i x vs[i] hx (List.getElem?_eq_getElem hi)).mono ?_)
      rintro k c _ (hk | ⟨id, b, hb, _⟩)
      · exact hk
      · cases hb
  refine h M (Home.plain w hT.1) _ _ w _ hsat ?_
  rintro e S0 ρ' a' w' ⟨he, hend⟩ hs'
  have fin : a'.defers = [] ∧ ∃ v, (results fn a'.tmps).run P w' = .ok v w' ∧ (∃ us u, Ending.returned v = .returned (agV z us) ∧ AgRes cs t sz es M w w' us u ∧ Below w.heap.size w w') := by
    refine ⟨hs'.defers, ?_⟩
    cases hend with
    | @one p ty id off m k b ht hr hp hbk hc hl hk =>
      obtain ⟨us, h1, h2⟩ := ag_cell (P := P) (ty := ty) hs' hp hbk hc hl hk
      have h5 := wE (P := P) (w := w') fn a'.tmps (rs := [_]) (vs := [.agg us.toArray]) hr (by simp only [List.mapM_cons, List.mapM_nil, Sem.run_bind, Sem.run_pure, h1, Result.andThen_ok])
      exact ⟨_, h5, us, _, rfl, h2, hs'.below.plain⟩
    | @two p ty id off m k q b z ht hr hp hbk hc hl hk hq =>
      obtain ⟨us, h1, h2⟩ := ag_cell (P := P) (ty := ty) hs' hp hbk hc hl hk
      have e3 : a'.tmps.getD q undef = z := by
        have g1 := hs'.tmps q
        rw [hq] at g1
        have g2 := rep_p g1
        generalize a'.tmps.getD q undef = u at g2
        cases g2; rfl
      have hq2 : (resOne a'.tmps (.tmp q)).run P w' = .ok z w' := by rw [← e3]; rfl
      have h5 := wE (P := P) (w := w') fn a'.tmps (rs := [_, _]) (vs := [.agg us.toArray, z]) hr (by simp only [List.mapM_cons, List.mapM_nil, Sem.run_bind, Sem.run_pure, h1, hq2, Result.andThen_ok])
      exact ⟨_, h5, us, _, rfl, h2, hs'.below.plain⟩
  intro _
  cases e with
  | ret => exact fin
  | normal => exact fin
  | exit id => rcases he with h | h <;> cases h
  | goto l => rcases he with h | h <;> cases h
  | panic c => rcases he with h | h <;> cases h
  | outgrown => rcases he with h | h <;> cases h
def agA (z : Option Value) (cs : List Cl) : AV := match z with
  | none => .ag cs
  | some c => .tup [.ag cs, .p (.val c)]
section
variable {P : Program} {n : Nat} {o : Oper} {S : AS} {d : Nat}
theorem w_callAg {f : Nat} {args : Array Operand} {ts : Array TypeId} {xs : List PV} {cs : List Cl} {e sz : Nat} {es : List PV} {z : Option Value} [hc : HasFn P f] (hf : FnAg P f xs cs e sz es z) (ho : o.op = .call { callee := .value (.func f), args := args, argTypes := ts })
    (hx : args.toList.map S.get = xs.map AV.p) (hd : o.dst = some d) (hn : d < n) : zK P n o S [] (agA z (cs.map (Cl.at_ d))) (some (qP e sz es)) := by
  intro S2 hg _ M w0 ρ a w K Q hs hK
  have hargs : ∀ x ∈ args.toList, S2.get x = S.get x := fun x hx => hg x (by rw [ho]; simp [Op.operands, Call.operands]; exact .inr (by simpa using hx))
  have he : (execOp a.eval o).run P w = .ok (.enter f (args.map a.eval)) w := by
    unfold execOp
    rw [ho]
    simp [resolve, Deferred.ofValue, Act.eval, invoke, hc.h]
  unfold Oper.wp
  rw [he, Oper.upon_enter]
  have hlen : (args.toList.map a.eval).length = xs.length := by
    have := congrArg List.length hx
    simpa using this
  have := hf (Mut M S2 ρ) w (args.toList.map a.eval) ⟨hs.lays, hs.tabs⟩ (fun k c hk => Mut.lt hs hk) hlen (fun i x v h1 h2 => by
    rw [List.getElem?_map, Option.map_eq_some_iff] at h2
    obtain ⟨y, hy, rfl⟩ := h2
    have h3 : S.get y = .p x := by
      have h4 : (args.toList.map S.get)[i]? = (xs.map AV.p)[i]? := by rw [hx]
      rw [List.getElem?_map, List.getElem?_map, hy, h1] at h4
      simpa using h4
    exact xY hs ((hargs y (List.mem_of_getElem? hy)).trans h3))
  have e1 : (args.toList.map a.eval).toArray = args.map a.eval := by apply Array.ext'; simp
  rw [e1] at this
  refine this.mono ?_
  rintro en w' ⟨us, v, rfl, hres, hb⟩
  obtain ⟨ys, hown, hl⟩ := hres.row
  show K (a.put o.dst (agV z us)) w'
  rw [hd] at hK ⊢
  have hnew : ∀ k, yA v = some k → w.heap.size ≤ k := fun k hk => by
    rcases hown.2 with ⟨rfl, _⟩ | ⟨g, cap, cur, rfl, hg2, _⟩
    · cases hk
    · simp only [yA, Option.some.injEq] at hk; omega
  have hbk : wJ (fun k c => Mut M S2 ρ k c ∨ (yA v = some k ∧ (qP e sz es).turns c)) 0 ρ w' v (qP e sz es) :=
    ⟨ys, vH hown (fun _ _ => Nat.zero_le _), ⟨by simpa using hl.len, fun i c u h1 h2 => by
      rw [List.getElem?_map, Option.map_eq_some_iff] at h1
      obtain ⟨y, hy, rfl⟩ := h1
      exact .p ((hl.each i y u hy h2).mono fun k c _ hk => hk.elim .inl fun h => .inr h.1), hl.one⟩⟩
  have hs' := hs.change d (qP e sz es) v none (hs.free d hn) (w' := w') ⟨hb.os, hb.tape, hb.output, hb.size, fun k hk _ => hb.block k hk⟩ (fun k hk => by cases hk) (fun k hk => .inl (hnew k hk)) hbk
  refine hK _ _ w' (hs'.put hn ?_)
  have hag : yD (Mut M (S2.create d (qP e sz es)) (upd ρ d v)) (upd ρ d v) w' (.ag (cs.map (Cl.at_ d))) (.agg us.toArray) := by
    refine .ag _ us (by simpa using hres.len) (fun i c x hc hx => ?_) hres.one
    rw [List.getElem?_map, Option.map_eq_some_iff] at hc
    obtain ⟨c0, hc0, rfl⟩ := hc
    have h2 := hres.each i c0 x hc0 hx
    cases c0 with
    | o j => show x = upd ρ d v d; simp only [upd, if_true]; exact h2
    | p y =>
      refine Rep.mono h2 fun k c _ hk => ?_
      rcases hk with hk | ⟨id, b, hb1, hv1, ht1⟩
      · exact .inl (.inl hk)
      · rw [AS.vW] at hb1
        by_cases hid : d = id
        · subst hid
          rw [show upd ρ d v d = v from by simp [upd]] at hv1
          exact .inr hv1
        · rw [if_neg hid, Option.map_eq_some_iff] at hb1
          obtain ⟨b0, hb0, rfl⟩ := hb1
          have hv2 : yA (ρ id) = some k := by simpa [upd, Ne.symm hid] using hv1
          exact .inl (.inr ⟨id, b0, hb0, hv2, (Blk.turns_kill b0 d c).1 ht1⟩)
  cases z with
  | none => exact hag
  | some c =>
    refine .tup [.ag (cs.map (Cl.at_ d)), .p (.val c)] [.agg us.toArray, c] rfl fun i c' x hc hx => ?_
    match i with
    | 0 => cases hc; cases hx; exact hag
    | 1 => cases hc; cases hx; exact .p (.val _)
    | i + 2 => simp at hc
end
end Go.Proofs.YtohlllohmoojiaaGreatDoor
