/- For every input MergeTells returns true, and leaves its arguments as they were. Conditions: none beyond the given statement. (Part 8 of 9.) -/
import Derived.Test.YtomlhekjgagjaaaDoorMt7
namespace Go.Proofs.YtomlhekjgagjaaaDoor
set_option maxRecDepth 100000
set_option maxHeartbeats 16000000
open Go Go.RowKit
attribute [local irreducible] zY zZ Step zA Sub zI yV Fn
def wN (ss : List (List Int)) : PV := .sl (ss.map fun s => .sl (byts s))
def fewL (ss : List (List Int)) : Bool := decide (ss.length ≤ 8) && decide (total ss ≤ 3000)
def fwS (ss : List (List Int)) (i : Nat) : AS := { t := [(0, .p (wN ss)), (3, .p (.val (.int .i64 (total (ss.take i) : Nat)))), (4, .p (.val (.int .i64 (i : Nat))))], s := [] }
theorem total_take {ss : List (List Int)} {i : Nat} {s : List Int} (h : ss[i]? = some s) : total (ss.take (i + 1)) = total (ss.take i) + s.length := by
  rw [List.take_add_one, h]
  simp [total]
theorem total_le (ss : List (List Int)) (i : Nat) : total (ss.take i) ≤ total ss := by
  have h : total ss = total (ss.take i) + total (ss.drop i) := by
    unfold total
    rw [← List.sum_append, ← List.map_append, List.take_append_drop]
  omega
theorem few_fn (ss : List (List Int)) (hn : ss.length ≤ 1000000000000) (ht : total ss ≤ 10000000000000000) : Fn Tryd.prog 11 [wN ss] (.p (.val (.bool (fewL ss)))) := by
 have hlen : (ss.map fun s => PV.sl (byts s)).length = ss.length := by rw [List.length_map]
 have hcells : ∀ e ∈ ss.map (fun s => PV.sl (byts s)), e.cells.length = 1 := fun e he => by
  obtain ⟨b, _, rfl⟩ := List.mem_map.1 he
  rfl
 refine wL Tryd.func11 rfl Tryd.ntmps11 (Nat.le_of_ble_eq_true rfl) ?_
 unfold wN
 repeat' ((refine zZ.is ?_; first | refine zZ.seq ?_ | (refine zZ.isR (id := 0) ?_; refine zZ.zK [0] [] (by repeat' first | exact zX.nil | apply zX.p rfl) (by repeat' exact zW.nil) ?_; refine zY.va rfl rfl rfl rfl (by decide) ?_; refine zY.nil ?_) | (refine zZ.isR (id := 1) ?_; refine zZ.zK [0, 2] [] (by repeat' first | exact zX.nil | apply zX.p rfl) (by repeat' exact zW.nil) ?_; refine zY.va rfl rfl rfl rfl (by decide) ?_; refine zY.nil ?_) | (refine zZ.isR (id := 2) ?_; refine zZ.zK [0, 2, 3] [] (by repeat' first | exact zX.nil | apply zX.p rfl) (by repeat' exact zW.nil) ?_; refine zY.va rfl rfl rfl rfl (by decide) ?_; refine zY.nil ?_) | refine zZ.block ?_))
 refine zZ.loop (fwS ss) (fun i => i ≤ ss.length) (fun i => ss.length - i) 0 ?h0 (Nat.zero_le _) ?rd
 case h0 =>
  unfold fwS wN
  exact zB K_w []
 case rd =>
  intro i hi
  have g3 : IntKind.i64.wrap (((i : Nat) : Int) + 1) = ((i + 1 : Nat) : Int) := by rw [wrap_i64 _ (by omega)]; omega
  unfold fwS wN
  by_cases hlt : i < ss.length
  case pos =>
   have g1 : decide (((i : Nat) : Int) < (((ss.map fun s => PV.sl (byts s)).length : Nat) : Int)) = true := decide_eq_true (by rw [hlen]; omega)
   obtain ⟨b, hbi⟩ : ∃ b, ss[i]? = some b := ⟨_, List.getElem?_eq_getElem hlt⟩
   have g2 : (ss.map fun b => PV.sl (byts b))[i]? = some (.sl (byts b)) := by rw [List.getElem?_map, hbi]; rfl
   have htk := total_take hbi
   have htl := total_le ss (i + 1)
   have g4 : IntKind.i64.wrap ((total (ss.take i) : Nat) + (b.length : Nat) : Int) = (total (ss.take (i + 1)) : Nat) := by rw [htk, wrap_i64 _ (by omega)]; omega
   repeat' (first | (refine zZ.is ?_; first | refine zZ.seq ?_ | (refine zZ.isR (id := 3) ?_; refine zZ.zK [0, 2, 3, 4, 8] [] (by repeat' first | exact zX.nil | apply zX.p rfl | apply zX.skip) (by repeat' exact zW.nil) ?_; refine zY.vm rfl rfl rfl rfl (by decide) ?_; refine zY.vm rfl rfl rfl rfl (by decide) ?_; refine zY.v rfl rfl (yJ rfl rfl rfl (by decide)) ?_; refine zY.v rfl rfl (zR rfl rfl rfl g1 rfl (by decide)) ?_; refine zY.nil ?_) | (refine zZ.isR (id := 5) ?_; refine zZ.zK [0, 2, 3, 4, 8] [] (by repeat' first | exact zX.nil | apply zX.p rfl | apply zX.skip) (by repeat' exact zW.nil) ?_; refine zY.vm rfl rfl rfl rfl (by decide) ?_; refine zY.vm rfl rfl rfl rfl (by decide) ?_; refine zY.vm rfl rfl rfl rfl (by decide) ?_; refine zY.v rfl rfl (zH rfl rfl rfl hcells g2 rfl (by decide)) ?_; refine zY.v rfl rfl (zM rfl rfl rfl rfl (by decide)) ?_; refine zY.v rfl rfl (xB rfl rfl rfl (by decide)) ?_; refine zY.v rfl rfl (yY rfl rfl rfl g4 rfl (by decide)) ?_; refine zY.va rfl rfl rfl rfl (by decide) ?_; refine zY.nil ?_) | (refine zZ.isR (id := 4) ?_; refine zZ.zK [0, 2, 3, 4, 8] [] (by repeat' first | exact zX.nil | apply zX.p rfl | apply zX.skip) (by repeat' exact zW.nil) ?_; refine zY.vm rfl rfl rfl rfl (by decide) ?_; refine zY.v rfl rfl (yY rfl rfl rfl g3 rfl (by decide)) ?_; refine zY.va rfl rfl rfl rfl (by decide) ?_; refine zY.nil ?_) | refine zZ.yZ rfl (by first | assumption | with_reducible rfl) ?_ | refine zZ.skip ?_ | refine zZ.block ?_) | refine zF.n ?_)
   all_goals
    refine ⟨i + 1, ?_, hlt, by omega⟩
    try unfold fwS wN
    exact zB K_w []
  case neg =>
   have hie : i = ss.length := by omega
   subst hie
   have g1 : decide (((ss.length : Nat) : Int) < (((ss.map fun s => PV.sl (byts s)).length : Nat) : Int)) = false := decide_eq_false (by rw [hlen]; omega)
   rw [List.take_length]
   unfold fewL
   cases c1 : decide (ss.length ≤ 8) <;> cases c2 : decide (total ss ≤ 3000)
   all_goals
    have k1 : decide ((((ss.map fun s => PV.sl (byts s)).length : Nat) : Int) ≤ 8) = decide (ss.length ≤ 8) := decide_eq_decide.2 (by rw [hlen]; omega)
    have k2 : decide (((total ss : Nat) : Int) ≤ 3000) = decide (total ss ≤ 3000) := decide_eq_decide.2 (by omega)
    rw [c1] at k1
    rw [c2] at k2
    repeat' ((refine zZ.is ?_; first | refine zZ.seq ?_ | (refine zZ.isR (id := 3) ?_; refine zZ.zK [0, 2, 3, 4, 8] [] (by repeat' first | exact zX.nil | apply zX.p rfl | apply zX.skip) (by repeat' exact zW.nil) ?_; refine zY.vm rfl rfl rfl rfl (by decide) ?_; refine zY.vm rfl rfl rfl rfl (by decide) ?_; refine zY.v rfl rfl (yJ rfl rfl rfl (by decide)) ?_; refine zY.v rfl rfl (zR rfl rfl rfl g1 rfl (by decide)) ?_; refine zY.nil ?_) | (refine zZ.isR (id := 6) ?_; refine zZ.zK [0, 2, 3] [] (by repeat' first | exact zX.nil | apply zX.p rfl | apply zX.skip) (by repeat' exact zW.nil) ?_; all_goals (refine zY.vm rfl rfl rfl rfl (by decide) ?_); all_goals (refine zY.v rfl rfl (yJ rfl rfl rfl (by decide)) ?_); all_goals (refine zY.v rfl rfl (r_leq rfl rfl rfl k1 rfl (by decide)) ?_); all_goals (refine zY.vm rfl rfl rfl rfl (by decide) ?_); all_goals (first | refine zY.gY rfl rfl (by decide) rfl (by rfl) rfl (by decide) (zV rfl rfl rfl (by decide)) ?_ | refine zY.gnT rfl rfl (by decide) rfl (by rfl) rfl (by decide) ?_); all_goals (first | refine zY.gY rfl rfl (by decide) rfl (by rfl) rfl (by decide) (r_leq rfl rfl rfl k2 rfl (by decide)) ?_ | refine zY.gnT rfl rfl (by decide) rfl (by rfl) rfl (by decide) ?_); all_goals (refine zY.v rfl rfl (by first | exact zN rfl rfl (by rfl) rfl rfl (by decide) | exact zL rfl rfl (by rfl) rfl rfl (by decide)) ?_); all_goals (refine zY.va rfl rfl rfl rfl (by decide) ?_); all_goals (refine zY.nil ?_)) | refine zZ.yX rfl (by first | assumption | with_reducible rfl) ?_ | refine zZ.exit ?_ | refine zZ.ret ?_))
   all_goals exact ⟨.inl rfl, gives1 rfl rfl rfl⟩
def smS (A B : List zQ) (i : Nat) : AS := { t := [(0, .p (.sl (A.map zQ.V))), (1, .p (.sl (B.map zQ.V))), (5, .p (.val (.int .i64 (i : Nat))))], s := [] }
theorem same_fn (A B : List zQ) (hA : A.length ≤ 1000000) (hB : B.length ≤ 1000000) (r : Bool) (hr : r = true ↔ A = B) : Fn Tryd.prog 14 [.sl (A.map zQ.V), .sl (B.map zQ.V)] (.p (.val (.bool r))) := by
 have hlA : (A.map zQ.V).length = A.length := by rw [List.length_map]
 have hlB : (B.map zQ.V).length = B.length := by rw [List.length_map]
 have hcA := yN A
 have hcB := yN B
 refine wL Tryd.func14 rfl Tryd.ntmps14 (Nat.le_of_ble_eq_true rfl) ?_
 by_cases hl : A.length = B.length
 case neg =>
  have c1 : (!decide ((((A.map zQ.V).length : Nat) : Int) = (((B.map zQ.V).length : Nat) : Int))) = true := by rw [decide_eq_false (by rw [hlA, hlB]; omega)]; rfl
  have hr' : r = false := Bool.eq_false_iff.2 fun h => hl (by rw [hr.1 h])
  subst hr'
  repeat' (first | (refine zZ.is ?_; first | refine zZ.seq ?_ | (refine zZ.isR (id := 0) ?_; refine zZ.zK [0, 1] [] (by repeat' first | exact zX.nil | apply zX.p rfl) (by repeat' exact zW.nil) ?_; refine zY.va rfl rfl rfl rfl (by decide) ?_; refine zY.nil ?_) | (refine zZ.isR (id := 1) ?_; refine zZ.zK [0, 1, 4] [] (by repeat' first | exact zX.nil | apply zX.p rfl) (by repeat' exact zW.nil) ?_; refine zY.vm rfl rfl rfl rfl (by decide) ?_; refine zY.v rfl rfl (yJ rfl rfl rfl (by decide)) ?_; refine zY.vm rfl rfl rfl rfl (by decide) ?_; refine zY.v rfl rfl (yJ rfl rfl rfl (by decide)) ?_; refine zY.v rfl rfl (wW rfl rfl rfl c1 rfl (by decide)) ?_; refine zY.nil ?_) | (refine zZ.isR (id := 2) ?_; refine zZ.zK [0, 1, 4] [] (by repeat' first | exact zX.nil | apply zX.p rfl) (by repeat' exact zW.nil) ?_; refine zY.va rfl rfl rfl rfl (by decide) ?_; refine zY.nil ?_) | refine zZ.yZ rfl (by first | assumption | with_reducible rfl) ?_ | refine zZ.ret ?_) | refine zF.r ?_)
  all_goals exact ⟨.inl rfl, gives1 rfl rfl rfl⟩
 case pos =>
  have c1 : (!decide ((((A.map zQ.V).length : Nat) : Int) = (((B.map zQ.V).length : Nat) : Int))) = false := by rw [decide_eq_true (by rw [hlA, hlB]; omega)]; rfl
  repeat' ((refine zZ.is ?_; first | refine zZ.seq ?_ | (refine zZ.isR (id := 0) ?_; refine zZ.zK [0, 1] [] (by repeat' first | exact zX.nil | apply zX.p rfl) (by repeat' exact zW.nil) ?_; refine zY.va rfl rfl rfl rfl (by decide) ?_; refine zY.nil ?_) | (refine zZ.isR (id := 1) ?_; refine zZ.zK [0, 1, 4] [] (by repeat' first | exact zX.nil | apply zX.p rfl) (by repeat' exact zW.nil) ?_; refine zY.vm rfl rfl rfl rfl (by decide) ?_; refine zY.v rfl rfl (yJ rfl rfl rfl (by decide)) ?_; refine zY.vm rfl rfl rfl rfl (by decide) ?_; refine zY.v rfl rfl (yJ rfl rfl rfl (by decide)) ?_; refine zY.v rfl rfl (wW rfl rfl rfl c1 rfl (by decide)) ?_; refine zY.nil ?_) | (refine zZ.isR (id := 3) ?_; refine zZ.zK [0, 1, 4] [] (by repeat' first | exact zX.nil | apply zX.p rfl) (by repeat' exact zW.nil) ?_; refine zY.va rfl rfl rfl rfl (by decide) ?_; refine zY.nil ?_) | refine zZ.yX rfl (by first | assumption | with_reducible rfl) ?_ | refine zZ.skip ?_ | refine zZ.block ?_))
  refine zZ.loop (smS A B) (fun i => i ≤ A.length ∧ A.take i = B.take i) (fun i => A.length - i) 0 ?h0 ⟨Nat.zero_le _, rfl⟩ ?rd
  case h0 =>
   unfold smS
   exact zB K_2d []
  case rd =>
   intro i ⟨hi, htk⟩
   have g3 : IntKind.i64.wrap (((i : Nat) : Int) + 1) = ((i + 1 : Nat) : Int) := by rw [wrap_i64 _ (by omega)]; omega
   unfold smS
   by_cases hlt : i < A.length
   case pos =>
    have g1 : decide (((i : Nat) : Int) < (((A.map zQ.V).length : Nat) : Int)) = true := decide_eq_true (by rw [hlA]; omega)
    obtain ⟨a, ha⟩ : ∃ a, A[i]? = some a := ⟨_, List.getElem?_eq_getElem hlt⟩
    obtain ⟨b, hb⟩ : ∃ b, B[i]? = some b := ⟨_, List.getElem?_eq_getElem (by omega)⟩
    have g2 : (A.map zQ.V)[i]? = some a.V := by rw [List.getElem?_map, ha]; rfl
    have g4 : (B.map zQ.V)[i]? = some b.V := by rw [List.getElem?_map, hb]; rfl
    obtain ⟨ak, as', ay, au, av, ax⟩ := a
    obtain ⟨bk', bs, by', bu, bv, bx⟩ := b
    by_cases hab : (⟨ak, as', ay, au, av, ax⟩ : zQ) = ⟨bk', bs, by', bu, bv, bx⟩
    case pos =>
     have htk' : A.take (i + 1) = B.take (i + 1) := by rw [List.take_add_one, List.take_add_one, ha, hb, htk, hab]
     clear ha hb
     cases hab
     have c7 : (!decide ([(IntKind.i64, ak), (IntKind.u64, as'), (IntKind.u64, ay), (IntKind.u64, au), (IntKind.u64, av), (IntKind.u64, ax)] = [(IntKind.i64, ak), (IntKind.u64, as'), (IntKind.u64, ay), (IntKind.u64, au), (IntKind.u64, av), (IntKind.u64, ax)])) = false := by rw [decide_eq_true rfl]; rfl
     repeat' (first | (refine zZ.is ?_; first | refine zZ.seq ?_ | (refine zZ.isR (id := 4) ?_; refine zZ.zK [0, 1, 4, 5, 14, 25] [] (by repeat' first | exact zX.nil | apply zX.p rfl | apply zX.skip) (by repeat' exact zW.nil) ?_; refine zY.vm rfl rfl rfl rfl (by decide) ?_; refine zY.vm rfl rfl rfl rfl (by decide) ?_; refine zY.v rfl rfl (yJ rfl rfl rfl (by decide)) ?_; refine zY.v rfl rfl (zR rfl rfl rfl g1 rfl (by decide)) ?_; refine zY.nil ?_) | (refine zZ.isR (id := 6) ?_; refine zZ.xO [0, 1, 4, 5, 14, 25] [] (by repeat' first | exact zX.nil | apply zX.p rfl | apply zX.skip) (by repeat' exact zW.nil) (zZ.draws ?_); all_goals (refine Draws.v rfl rfl (zV rfl rfl rfl (by decide)) ?_); all_goals (refine Draws.v rfl rfl (zV rfl rfl rfl (by decide)) ?_); all_goals (refine Draws.v rfl rfl (zH rfl rfl rfl hcA g2 rfl (by decide)) ?_); all_goals (refine Draws.v rfl rfl (by exact xD rfl rfl (by exact Nat.le_of_ble_eq_true rfl) rfl (by decide)) ?_); all_goals (refine Draws.v rfl rfl (zV rfl rfl rfl (by decide)) ?_); all_goals (refine Draws.v rfl rfl (zV rfl rfl rfl (by decide)) ?_); all_goals (refine Draws.v rfl rfl (zH rfl rfl rfl hcB g4 rfl (by decide)) ?_); all_goals (refine Draws.v rfl rfl (by exact xD rfl rfl (by exact Nat.le_of_ble_eq_true rfl) rfl (by decide)) ?_); all_goals (refine Draws.v rfl rfl (r_neqT rfl rfl rfl rfl rfl rfl (by rfl) c7 rfl (by decide)) ?_); all_goals ((refine Draws.done (by kernel_rfl) (by kernel_rfl) (by kernel_rfl) ?_; refine zI.nil ?_))) | (refine zZ.isR (id := 5) ?_; refine zZ.zK [0, 1, 4, 5, 14, 25] [] (by repeat' first | exact zX.nil | apply zX.p rfl | apply zX.skip) (by repeat' exact zW.nil) ?_; refine zY.vm rfl rfl rfl rfl (by decide) ?_; refine zY.v rfl rfl (yY rfl rfl rfl g3 rfl (by decide)) ?_; refine zY.va rfl rfl rfl rfl (by decide) ?_; refine zY.nil ?_) | refine zZ.yZ rfl (by first | assumption | with_reducible rfl) ?_ | refine zZ.yX rfl (by first | assumption | with_reducible rfl) ?_ | refine zZ.skip ?_ | refine zZ.block ?_) | refine zF.n ?_)
     all_goals
      refine ⟨i + 1, ?_, ⟨hlt, htk'⟩, by omega⟩
      try unfold smS
      exact zB K_2d []
    case neg =>
     have c7 : (!decide ([(IntKind.i64, ak), (IntKind.u64, as'), (IntKind.u64, ay), (IntKind.u64, au), (IntKind.u64, av), (IntKind.u64, ax)] = [(IntKind.i64, bk'), (IntKind.u64, bs), (IntKind.u64, by'), (IntKind.u64, bu), (IntKind.u64, bv), (IntKind.u64, bx)])) = true := by
      rw [decide_eq_false (fun h => hab (by simp only [List.cons.injEq, Prod.mk.injEq, true_and, and_true] at h; simp only [zQ.mk.injEq]; exact h))]; rfl
     have hr' : r = false := Bool.eq_false_iff.2 fun h => hab (by
      have e := hr.1 h
      subst e
      rw [ha] at hb
      exact Option.some.inj hb)
     subst hr'
     repeat' (first | (refine zZ.is ?_; first | refine zZ.seq ?_ | (refine zZ.isR (id := 4) ?_; refine zZ.zK [0, 1, 4, 5, 14, 25] [] (by repeat' first | exact zX.nil | apply zX.p rfl | apply zX.skip) (by repeat' exact zW.nil) ?_; refine zY.vm rfl rfl rfl rfl (by decide) ?_; refine zY.vm rfl rfl rfl rfl (by decide) ?_; refine zY.v rfl rfl (yJ rfl rfl rfl (by decide)) ?_; refine zY.v rfl rfl (zR rfl rfl rfl g1 rfl (by decide)) ?_; refine zY.nil ?_) | (refine zZ.isR (id := 6) ?_; refine zZ.xO [0, 1, 4, 5, 14, 25] [] (by repeat' first | exact zX.nil | apply zX.p rfl | apply zX.skip) (by repeat' exact zW.nil) (zZ.draws ?_); all_goals (refine Draws.v rfl rfl (zV rfl rfl rfl (by decide)) ?_); all_goals (refine Draws.v rfl rfl (zV rfl rfl rfl (by decide)) ?_); all_goals (refine Draws.v rfl rfl (zH rfl rfl rfl hcA g2 rfl (by decide)) ?_); all_goals (refine Draws.v rfl rfl (by exact xD rfl rfl (by exact Nat.le_of_ble_eq_true rfl) rfl (by decide)) ?_); all_goals (refine Draws.v rfl rfl (zV rfl rfl rfl (by decide)) ?_); all_goals (refine Draws.v rfl rfl (zV rfl rfl rfl (by decide)) ?_); all_goals (refine Draws.v rfl rfl (zH rfl rfl rfl hcB g4 rfl (by decide)) ?_); all_goals (refine Draws.v rfl rfl (by exact xD rfl rfl (by exact Nat.le_of_ble_eq_true rfl) rfl (by decide)) ?_); all_goals (refine Draws.v rfl rfl (r_neqT rfl rfl rfl rfl rfl rfl (by rfl) c7 rfl (by decide)) ?_); all_goals ((refine Draws.done (by kernel_rfl) (by kernel_rfl) (by kernel_rfl) ?_; refine zI.nil ?_))) | (refine zZ.isR (id := 7) ?_; refine zZ.zK [0, 1, 4, 5, 14, 25] [] (by repeat' first | exact zX.nil | apply zX.p rfl | apply zX.skip) (by repeat' exact zW.nil) ?_; refine zY.va rfl rfl rfl rfl (by decide) ?_; refine zY.nil ?_) | refine zZ.yZ rfl (by first | assumption | with_reducible rfl) ?_ | refine zZ.skip ?_ | refine zZ.block ?_ | refine zZ.ret ?_) | refine zF.r ?_ | refine zO.r ?_)
     all_goals exact ⟨.inl rfl, gives1 rfl rfl rfl⟩
   case neg =>
    have g1 : decide (((i : Nat) : Int) < (((A.map zQ.V).length : Nat) : Int)) = false := decide_eq_false (by rw [hlA]; omega)
    have hr' : r = true := hr.2 (by rw [List.take_of_length_le (by omega), List.take_of_length_le (by omega)] at htk; exact htk)
    subst hr'
    repeat' ((refine zZ.is ?_; first | refine zZ.seq ?_ | (refine zZ.isR (id := 4) ?_; refine zZ.zK [0, 1, 4, 5, 14, 25] [] (by repeat' first | exact zX.nil | apply zX.p rfl | apply zX.skip) (by repeat' exact zW.nil) ?_; refine zY.vm rfl rfl rfl rfl (by decide) ?_; refine zY.vm rfl rfl rfl rfl (by decide) ?_; refine zY.v rfl rfl (yJ rfl rfl rfl (by decide)) ?_; refine zY.v rfl rfl (zR rfl rfl rfl g1 rfl (by decide)) ?_; refine zY.nil ?_) | (refine zZ.isR (id := 8) ?_; refine zZ.zK [4] [] (by repeat' first | exact zX.nil | apply zX.skip) (by repeat' exact zW.nil) ?_; refine zY.va rfl rfl rfl rfl (by decide) ?_; refine zY.nil ?_) | refine zZ.yX rfl (by first | assumption | with_reducible rfl) ?_ | refine zZ.exit ?_ | refine zZ.ret ?_))
    all_goals exact ⟨.inl rfl, gives1 rfl rfl rfl⟩
end Go.Proofs.YtomlhekjgagjaaaDoor
namespace Go.Proofs.YtomlhekjgagjaaaDoor
set_option maxRecDepth 100000
set_option maxHeartbeats 16000000
open Go Go.RowKit
attribute [local irreducible] zY zZ Step zA Sub zI yV Fn
def splitS0 (b : List Int) : AS := { t := [(0, .p (.sl (byts (vU b)))), (4, .p (.val (.slice none 0 0))), (5, .p (.val (.int .i64 0)))], s := [] }
def splitS1 (b X : List Int) : AS := { t := [(0, .p (.sl (byts (vU b)))), (4, .p (.sl [.sl (byts X)])), (5, .p (.val (.int .i64 (6 + (b.length : Int)))))], s := [] }
def splitS (b : List Int) : Nat → AS
  | 0 => splitS0 b
  | _ => splitS1 b b
def splitI (b X : List Int) (i : Nat) : AS :=
  { t := [(0, .p (.sl (byts (vU b)))), (4, .p (.val (.slice none 0 0))), (5, .p (.val (.int .i64 0))), (6, .p (.val (.int .i64 b.length))), (7, .p (.sl (byts X))), (8, .p (.sl (byts (vU b)))), (10, .p (.val (.int .i64 (i : Nat))))], s := [] }
theorem putF_len (b : List Int) (hl : putOk b) : (vU b).length = 6 + b.length := by rw [putF_ref b hl]; simp; omega
end Go.Proofs.YtomlhekjgagjaaaDoor
namespace Go.Proofs.YtomlhekjgagjaaaDoor
set_option maxRecDepth 100000
set_option maxHeartbeats 16000000
open Go Go.RowKit
attribute [local irreducible] zY zZ Step zA Sub zI yV Fn
def frms (bs : List (List Int)) : List Int := (bs.map vU).flatten
def qC (bs : List (List Int)) : List PV := bs.map fun b => .sl (byts b)
def splitNS (bs : List (List Int)) (j : Nat) : AS :=
  { t := [(0, .p (.sl (byts (frms bs)))), (4, .own 4), (5, .p (.val (.int .i64 ((frms (bs.take j)).length : Nat))))], s := [(4, lentV 35 1 (qC (bs.take j)))] }
def splitNI (bs : List (List Int)) (j : Nat) (b X : List Int) (i : Nat) : AS :=
  { t := [(0, .p (.sl (byts (frms bs)))), (4, .own 4), (5, .p (.val (.int .i64 ((frms (bs.take j)).length : Nat)))), (6, .p (.val (.int .i64 b.length))), (7, .p (.sl (byts X))), (8, .p (.sl (byts (vU b)))), (10, .p (.val (.int .i64 (i : Nat))))], s := [(4, lentV 35 1 (qC (bs.take j)))] }
end Go.Proofs.YtomlhekjgagjaaaDoor
namespace Go.Proofs.YtomlhekjgagjaaaDoor
set_option maxRecDepth 100000
set_option maxHeartbeats 16000000
open Go Go.RowKit
attribute [local irreducible] zY zZ Step zA Sub zI yV Fn
def usedL (s : List Int) : Nat → Nat → Nat
  | 0, p => p
  | f + 1, p => match xZ s p with
    | none => p
    | some x => usedL s f x.1
def usedOf (s : List Int) : Nat := usedL s (s.length + 1) 0
theorem num2 (s : List Int) (p : Nat) (h : p + 2 ≤ s.length) : numOf ((s.drop p).take 2) = s.getD p 0 + 256 * s.getD (p + 1) 0 := by
  rw [qK s p 1 (by omega), qK s (p + 1) 0 (by omega)]
  simp [numOf]
theorem num4 (s : List Int) (p : Nat) (h : p + 4 ≤ s.length) : numOf ((s.drop p).take 4) = s.getD p 0 + 256 * (s.getD (p + 1) 0 + 256 * (s.getD (p + 2) 0 + 256 * s.getD (p + 3) 0)) := by
  rw [qK s p 3 (by omega), qK s (p + 1) 2 (by omega), qK s (p + 2) 1 (by omega), qK s (p + 3) 0 (by omega)]
  simp [numOf]
theorem at_none1 {s : List Int} {p : Nat} (h : ¬ p + 6 ≤ s.length) : xZ s p = none := by
  unfold xZ
  rw [decide_eq_false h]
  rfl
theorem at_none2 {s : List Int} {p : Nat} (h : ¬ 1 ≤ (numOf ((s.drop p).take 2)).toNat) : xZ s p = none := by
  unfold xZ
  rw [decide_eq_false h]
  simp
theorem at_none3 {s : List Int} {p : Nat} (h : ¬ p + 6 + (numOf ((s.drop p).take 2)).toNat ≤ s.length) : xZ s p = none := by
  unfold xZ
  rw [decide_eq_false h]
  simp
theorem at_none4 {s : List Int} {p : Nat} (h : ¬ ((xJ 0 ((s.drop (p + 6)).take (numOf ((s.drop p).take 2)).toNat) : Nat) : Int) = numOf ((s.drop (p + 2)).take 4)) : xZ s p = none := by
  unfold xZ
  rw [decide_eq_false h]
  simp
theorem at_some {s : List Int} {p : Nat} (h1 : p + 6 ≤ s.length) (h2 : 1 ≤ (numOf ((s.drop p).take 2)).toNat) (h3 : p + 6 + (numOf ((s.drop p).take 2)).toNat ≤ s.length) (h4 : ((xJ 0 ((s.drop (p + 6)).take (numOf ((s.drop p).take 2)).toNat) : Nat) : Int) = numOf ((s.drop (p + 2)).take 4)) : xZ s p = some (p + 6 + (numOf ((s.drop p).take 2)).toNat, (s.drop (p + 6)).take (numOf ((s.drop p).take 2)).toNat) := by
  unfold xZ
  rw [decide_eq_true h1, decide_eq_true h2, decide_eq_true h3, decide_eq_true h4]
  rfl
theorem framesL_some {s : List Int} {f p : Nat} {x : Nat × List Int} (h : xZ s p = some x) : wI s (f + 1) p = x :: wI s f x.1 := by
  rw [wI, h]
theorem usedL_some {s : List Int} {f p : Nat} {x : Nat × List Int} (h : xZ s p = some x) : usedL s (f + 1) p = usedL s f x.1 := by
  rw [usedL, h]
def saS (s : List Int) (q : List (List Int) × Nat) : AS :=
  { t := [(0, .p (.sl (byts s))), (4, .own 4), (5, .p (.val (.int .i64 (q.2 : Nat))))], s := [(4, xR 35 1 (qC q.1))] }
def saI (s : List Int) (R : List (List Int)) (p n : Nat) (X : List Int) (k : Nat) : AS :=
  { t := [(0, .p (.sl (byts s))), (4, .own 4), (5, .p (.val (.int .i64 (p : Nat)))), (6, .p (.val (.int .i64 (n : Nat)))), (7, .p (.sl (byts X))), (8, .p (.sl (byts (vU X)))), (10, .p (.val (.int .i64 (k : Nat))))], s := [(4, xR 35 1 (qC R))] }
theorem splitA_fn (s : List Int) (hb : ∀ x ∈ s, 0 ≤ x ∧ x < 256) (hlen : s.length ≤ 1000000) :
    Fn Tryd.prog 26 [.sl (byts s)] (.tup [.sl (qC (rowsOf s)), .val (.int .i64 (usedOf s : Nat))]) := by
  refine wK Tryd.func26 rfl Tryd.ntmps26 (Nat.le_of_ble_eq_true rfl) ?_
  repeat' ((refine zZ.is ?_; first | refine zZ.seq ?_ | (refine zZ.iq 0 ?_; refine zZ.rqa _ K_8 K_1 ?_; refine zY.va rfl rfl rfl rfl (by decide) ?_; refine zY.va rfl rfl rfl rfl (by decide) ?_; refine zY.nil ?_) | (refine zZ.iq 1 ?_; refine zZ.rqa _ K_a K_1 ?_; refine zY.va rfl rfl rfl rfl (by decide) ?_; refine zY.nil ?_) | (refine zZ.iq 2 ?_; refine zZ.rqa _ K_h K_1 ?_; refine zY.va rfl rfl rfl rfl (by decide) ?_; refine zY.nil ?_) | refine zZ.block ?_))
  refine zZ.loop (saS s) (fun q => q.2 ≤ s.length ∧ q.1.length ≤ q.2 ∧ ∃ f, s.length - q.2 < f ∧ rowsOf s = q.1 ++ (wI s f q.2).map (·.2) ∧ usedOf s = usedL s f q.2) (fun q => s.length - q.2) ([], 0) ?h0 ⟨Nat.zero_le _, Nat.le_refl _, s.length + 1, by simp, rfl, rfl⟩ ?rd
  case h0 =>
    refine (vL (d := 4) (id := 4) (ty := 35) (sz := 1) (by decide) rfl).trans ?_
    unfold saS
    exact zB K_1h K_1i
  case rd =>
    rintro ⟨R, p⟩ ⟨hp, hR, f, hf, hrows, hused⟩
    simp only at hp hR hf hrows hused
    obtain ⟨f, rfl⟩ : ∃ f', f = f' + 1 := ⟨f - 1, by omega⟩
    have stop : xZ s p = none → rowsOf s = R ∧ usedOf s = p := fun h => by
      rw [hrows, hused]
      unfold wI usedL
      rw [h]
      simp
    have f0a : IntKind.i64.wrap ((p : Int) + 6) = ((p + 6 : Nat) : Int) := by rw [wrap_i64 _ (by omega)]; omega
    unfold saS
    dsimp only
    by_cases h6 : p + 6 ≤ s.length
    case neg =>
      have f0 : decide (((p + 6 : Nat) : Int) ≤ (s.length : Int)) = false := decide_eq_false (by omega)
      obtain ⟨e1, e2⟩ := stop (at_none1 h6)
      rw [e1, e2]
      repeat' ((refine zZ.is ?_; first | refine zZ.seq ?_ | (refine zZ.iq 3 ?_; refine zZ.rqb _ K_4 K_1 ?_; refine zY.vm rfl rfl rfl rfl (by decide) ?_; refine zY.v rfl rfl (yY rfl rfl rfl f0a rfl (by decide)) ?_; refine zY.vm rfl rfl rfl rfl (by decide) ?_; refine zY.v rfl rfl (xB rfl rfl rfl (by decide)) ?_; refine zY.v rfl rfl (r_leq rfl rfl rfl f0 rfl (by decide)) ?_; refine zY.nil ?_) | (refine zZ.iq 16 ?_; refine zZ.rqb _ K_24 K_1 ?_; refine zY.v rfl rfl (yK rfl rfl rfl (by decide)) ?_; refine zY.vm rfl rfl rfl rfl (by decide) ?_; refine zY.v rfl rfl (zS rfl rfl rfl (by decide)) ?_; refine zY.va rfl rfl rfl rfl (by decide) ?_; refine zY.nil ?_) | refine zZ.yX rfl (by first | assumption | with_reducible rfl) ?_ | refine zZ.exit ?_ | refine zZ.ret ?_))
      all_goals exact ⟨.inl rfl, _, wP 4 35 1 _ rfl, yR.qV (rs := [.tmp 2, .tmp 3]) rfl (by decide) (.cons (.tmp rfl) (.cons (.tmp rfl) .nil)) rfl⟩
    case pos =>
      have f0 : decide (((p + 6 : Nat) : Int) ≤ (s.length : Int)) = true := decide_eq_true (by omega)
      have f0b : IntKind.i64.wrap ((p : Int) + 1) = ((p + 1 : Nat) : Int) := by rw [wrap_i64 _ (by omega)]; omega
      have i0 : (0 : Int) ≤ (p : Int) ∧ (p : Int) < (s.length : Int) := by omega
      have i1 : (0 : Int) ≤ ((p + 1 : Nat) : Int) ∧ ((p + 1 : Nat) : Int) < (s.length : Int) := by omega
      have hby : ∀ i, 0 ≤ s.getD i 0 ∧ s.getD i 0 < 256 := fun i => by
        rw [List.getD_eq_getElem?_getD]
        cases h : s[i]? with
        | none => simp
        | some v => exact hb v (List.mem_of_getElem? h)
      have b0 := hby p
      have b1 := hby (p + 1)
      have hn2 := num2 s p (by omega)
      have hn4 := num4 s (p + 2) (by omega)
      have an2 := at_none2 (s := s) (p := p)
      have an3 := at_none3 (s := s) (p := p)
      have an4 := at_none4 (s := s) (p := p)
      have ats := at_some (s := s) (p := p) h6
      obtain ⟨n, hn⟩ : ∃ n : Nat, n = (numOf ((s.drop p).take 2)).toNat := ⟨_, rfl⟩
      rw [← hn] at an2 an3 an4 ats
      have hnv : (n : Int) = s.getD p 0 + 256 * s.getD (p + 1) 0 := by omega
      have g1 : IntKind.i64.wrap (s.getD (p : Int).toNat 0) = s.getD p 0 := by rw [Int.toNat_natCast]; exact wrap_i64 _ (by omega)
      have g2 : IntKind.i64.wrap (s.getD ((p + 1 : Nat) : Int).toNat 0) = s.getD (p + 1) 0 := by rw [Int.toNat_natCast]; exact wrap_i64 _ (by omega)
      have g3 : IntKind.i64.wrap (256 * s.getD (p + 1) 0) = 256 * s.getD (p + 1) 0 := wrap_i64 _ (by omega)
      have g4 : IntKind.i64.wrap (s.getD p 0 + 256 * s.getD (p + 1) 0) = (n : Int) := by rw [wrap_i64 _ (by omega)]; omega
      have g5 : IntKind.i64.wrap (((p + 6 : Nat) : Int) + (n : Int)) = ((p + 6 + n : Nat) : Int) := by rw [wrap_i64 _ (by omega)]; omega
      by_cases hn0 : n = 0
      · have f1 : decide ((n : Int) = 0) = true := decide_eq_true (by omega)
        obtain ⟨e1, e2⟩ := stop (an2 (by omega))
        rw [e1, e2]
        repeat' (first | (refine zZ.is ?_; first | refine zZ.seq ?_ | (refine zZ.iq 3 ?_; refine zZ.rqb _ K_4 K_1 ?_; refine zY.vm rfl rfl rfl rfl (by decide) ?_; refine zY.v rfl rfl (yY rfl rfl rfl f0a rfl (by decide)) ?_; refine zY.vm rfl rfl rfl rfl (by decide) ?_; refine zY.v rfl rfl (xB rfl rfl rfl (by decide)) ?_; refine zY.v rfl rfl (r_leq rfl rfl rfl f0 rfl (by decide)) ?_; refine zY.nil ?_) | (refine zZ.iq 4 ?_; refine zZ.rqu _ K_4 K_1 (zZ.draws ?_); all_goals (refine Draws.v rfl rfl (zV rfl rfl rfl (by decide)) ?_); all_goals (refine Draws.v rfl rfl (zV rfl rfl rfl (by decide)) ?_); all_goals (refine Draws.v rfl rfl (xS rfl rfl rfl i0 rfl (by decide)) ?_); all_goals (refine Draws.v rfl rfl (zM rfl rfl rfl rfl (by decide)) ?_); all_goals (refine Draws.v rfl rfl (yP rfl rfl g1 rfl (by decide)) ?_); all_goals (refine Draws.v rfl rfl (zV rfl rfl rfl (by decide)) ?_); all_goals (refine Draws.v rfl rfl (zV rfl rfl rfl (by decide)) ?_); all_goals (refine Draws.v rfl rfl (yY rfl rfl rfl f0b rfl (by decide)) ?_); all_goals (refine Draws.v rfl rfl (xS rfl rfl rfl i1 rfl (by decide)) ?_); all_goals (refine Draws.v rfl rfl (zM rfl rfl rfl rfl (by decide)) ?_); all_goals (refine Draws.v rfl rfl (yP rfl rfl g2 rfl (by decide)) ?_); all_goals (refine Draws.v rfl rfl (a_mul rfl rfl rfl g3 rfl (by decide)) ?_); all_goals (refine Draws.v rfl rfl (yY rfl rfl rfl g4 rfl (by decide)) ?_); all_goals (refine Draws.v rfl rfl (wF rfl rfl rfl (by decide)) ?_); all_goals ((refine Draws.done (by kernel_rfl) (by kernel_rfl) (by kernel_rfl) ?_; refine zI.nil ?_))) | (refine zZ.iq 5 ?_; refine zZ.rqb _ K_4 K_1 ?_; all_goals (refine zY.vm rfl rfl rfl rfl (by decide) ?_); all_goals (refine zY.v rfl rfl (zU rfl rfl rfl f1 rfl (by decide)) ?_); all_goals (refine zY.vm rfl rfl rfl rfl (by decide) ?_); all_goals (refine zY.gnF rfl rfl (by decide) rfl (by rfl) rfl (by decide) ?_); all_goals (refine zY.gnF rfl rfl (by decide) rfl (by rfl) rfl (by decide) ?_); all_goals (refine zY.gnF rfl rfl (by decide) rfl (by rfl) rfl (by decide) ?_); all_goals (refine zY.gnF rfl rfl (by decide) rfl (by rfl) rfl (by decide) ?_); all_goals (refine zY.gnF rfl rfl (by decide) rfl (by rfl) rfl (by decide) ?_); all_goals (refine zY.gnF rfl rfl (by decide) rfl (by rfl) rfl (by decide) ?_); all_goals (refine zY.gnF rfl rfl (by decide) rfl (by rfl) rfl (by decide) ?_); all_goals (refine zY.v rfl rfl (zN rfl rfl (by rfl) rfl rfl (by decide)) ?_); all_goals (refine zY.nil ?_)) | (refine zZ.iq 6 ?_; refine zZ.rqb _ K_4 K_1 ?_; refine zY.v rfl rfl (yK rfl rfl rfl (by decide)) ?_; refine zY.vm rfl rfl rfl rfl (by decide) ?_; refine zY.v rfl rfl (zS rfl rfl rfl (by decide)) ?_; refine zY.va rfl rfl rfl rfl (by decide) ?_; refine zY.nil ?_) | refine zZ.yZ rfl (by first | assumption | with_reducible rfl) ?_ | refine zZ.skip ?_ | refine zZ.block ?_ | refine zZ.ret ?_) | refine zF.r ?_ | refine zO.r ?_)
        all_goals exact ⟨.inl rfl, _, wP 4 35 1 _ rfl, yR.qV (rs := [.tmp 2, .tmp 3]) rfl (by decide) (.cons (.tmp rfl) (.cons (.tmp rfl) .nil)) rfl⟩
      · have f1 : decide ((n : Int) = 0) = false := decide_eq_false (by omega)
        by_cases hn3 : p + 6 + n ≤ s.length
        case neg =>
          have f2 : decide ((s.length : Int) < ((p + 6 + n : Nat) : Int)) = true := decide_eq_true (by omega)
          obtain ⟨e1, e2⟩ := stop (an3 hn3)
          rw [e1, e2]
          repeat' (first | (refine zZ.is ?_; first | refine zZ.seq ?_ | (refine zZ.iq 3 ?_; refine zZ.rqb _ K_4 K_1 ?_; refine zY.vm rfl rfl rfl rfl (by decide) ?_; refine zY.v rfl rfl (yY rfl rfl rfl f0a rfl (by decide)) ?_; refine zY.vm rfl rfl rfl rfl (by decide) ?_; refine zY.v rfl rfl (xB rfl rfl rfl (by decide)) ?_; refine zY.v rfl rfl (r_leq rfl rfl rfl f0 rfl (by decide)) ?_; refine zY.nil ?_) | (refine zZ.iq 4 ?_; refine zZ.rqu _ K_4 K_1 (zZ.draws ?_); all_goals (refine Draws.v rfl rfl (zV rfl rfl rfl (by decide)) ?_); all_goals (refine Draws.v rfl rfl (zV rfl rfl rfl (by decide)) ?_); all_goals (refine Draws.v rfl rfl (xS rfl rfl rfl i0 rfl (by decide)) ?_); all_goals (refine Draws.v rfl rfl (zM rfl rfl rfl rfl (by decide)) ?_); all_goals (refine Draws.v rfl rfl (yP rfl rfl g1 rfl (by decide)) ?_); all_goals (refine Draws.v rfl rfl (zV rfl rfl rfl (by decide)) ?_); all_goals (refine Draws.v rfl rfl (zV rfl rfl rfl (by decide)) ?_); all_goals (refine Draws.v rfl rfl (yY rfl rfl rfl f0b rfl (by decide)) ?_); all_goals (refine Draws.v rfl rfl (xS rfl rfl rfl i1 rfl (by decide)) ?_); all_goals (refine Draws.v rfl rfl (zM rfl rfl rfl rfl (by decide)) ?_); all_goals (refine Draws.v rfl rfl (yP rfl rfl g2 rfl (by decide)) ?_); all_goals (refine Draws.v rfl rfl (a_mul rfl rfl rfl g3 rfl (by decide)) ?_); all_goals (refine Draws.v rfl rfl (yY rfl rfl rfl g4 rfl (by decide)) ?_); all_goals (refine Draws.v rfl rfl (wF rfl rfl rfl (by decide)) ?_); all_goals ((refine Draws.done (by kernel_rfl) (by kernel_rfl) (by kernel_rfl) ?_; refine zI.nil ?_))) | (refine zZ.iq 5 ?_; refine zZ.rqb _ K_4 K_1 ?_; all_goals (refine zY.vm rfl rfl rfl rfl (by decide) ?_); all_goals (refine zY.v rfl rfl (zU rfl rfl rfl f1 rfl (by decide)) ?_); all_goals (refine zY.vm rfl rfl rfl rfl (by decide) ?_); all_goals (refine zY.gY rfl rfl (by decide) rfl (by rfl) rfl (by decide) (zV rfl rfl rfl (by decide)) ?_); all_goals (refine zY.gY rfl rfl (by decide) rfl (by rfl) rfl (by decide) (yY rfl rfl rfl f0a rfl (by decide)) ?_); all_goals (refine zY.gY rfl rfl (by decide) rfl (by rfl) rfl (by decide) (zV rfl rfl rfl (by decide)) ?_); all_goals (refine zY.gY rfl rfl (by decide) rfl (by rfl) rfl (by decide) (yY rfl rfl rfl g5 rfl (by decide)) ?_); all_goals (refine zY.gY rfl rfl (by decide) rfl (by rfl) rfl (by decide) (zV rfl rfl rfl (by decide)) ?_); all_goals (refine zY.gY rfl rfl (by decide) rfl (by rfl) rfl (by decide) (xB rfl rfl rfl (by decide)) ?_); all_goals (refine zY.gY rfl rfl (by decide) rfl (by rfl) rfl (by decide) (wC rfl rfl rfl f2 rfl (by decide)) ?_); all_goals (refine zY.v rfl rfl (zL rfl rfl (by rfl) rfl rfl (by decide)) ?_); all_goals (refine zY.nil ?_)) | (refine zZ.iq 6 ?_; refine zZ.rqb _ K_4 K_1 ?_; refine zY.v rfl rfl (yK rfl rfl rfl (by decide)) ?_; refine zY.vm rfl rfl rfl rfl (by decide) ?_; refine zY.v rfl rfl (zS rfl rfl rfl (by decide)) ?_; refine zY.va rfl rfl rfl rfl (by decide) ?_; refine zY.nil ?_) | refine zZ.yZ rfl (by first | assumption | with_reducible rfl) ?_ | refine zZ.skip ?_ | refine zZ.block ?_ | refine zZ.ret ?_) | refine zF.r ?_ | refine zO.r ?_)
          all_goals exact ⟨.inl rfl, _, wP 4 35 1 _ rfl, yR.qV (rs := [.tmp 2, .tmp 3]) rfl (by decide) (.cons (.tmp rfl) (.cons (.tmp rfl) .nil)) rfl⟩
        case pos =>
          have f2 : decide ((s.length : Int) < ((p + 6 + n : Nat) : Int)) = false := decide_eq_false (by omega)
          have i2 : (0 : Int) ≤ ((p + 6 : Nat) : Int) ∧ ((p + 6 : Nat) : Int) ≤ ((p + 6 + n : Nat) : Int) ∧ ((p + 6 + n : Nat) : Int) ≤ (s.length : Int) := by omega
          obtain ⟨X, hXd⟩ : ∃ X, X = (s.drop (p + 6)).take n := ⟨_, rfl⟩
          rw [← hXd] at an4 ats
          have hXl : X.length = n := by rw [hXd, List.length_take, List.length_drop]; omega
          have hXb : ∀ x ∈ X, 0 ≤ x ∧ x < 256 := fun x hx => by rw [hXd] at hx; exact hb x (List.mem_of_mem_drop (List.mem_of_mem_take hx))
          have hpo : putOk X := ⟨by omega, by omega⟩
          have hF := putF_ref X hpo
          have hpl := putF_len X hpo
          have hm := moreF_lt 0 X
          have hX : ([] ++ (s.drop ((p + 6 : Nat) : Int).toNat).take (((p + 6 + n : Nat) : Int).toNat - ((p + 6 : Nat) : Int).toNat)) = X := by
            rw [List.nil_append, Int.toNat_natCast, Int.toNat_natCast, hXd]
            have e1 : p + 6 + n - (p + 6) = n := by omega
            rw [e1]
          have c1 := putRef_fn X hXb hpo
          have c1 : Fn Tryd.prog 45 [.sl (byts ([] ++ (s.drop ((p + 6 : Nat) : Int).toNat).take (((p + 6 + n : Nat) : Int).toNat - ((p + 6 : Nat) : Int).toNat)))] (.tup [.sl (byts (vU X)), .val (.int .i64 0)]) := by rw [hX]; exact c1
          have l1 : ([] : List Int).length + ((s.drop ((p + 6 : Nat) : Int).toNat).take (((p + 6 + n : Nat) : Int).toNat - ((p + 6 : Nat) : Int).toNat)).length ≤ 140737488355328 := by
            simp only [List.length_nil, Nat.zero_add, List.length_take, List.length_drop, Int.toNat_natCast]; omega
          repeat' ((refine zZ.is ?_; first | refine zZ.seq ?_ | (refine zZ.iq 3 ?_; refine zZ.rqb _ K_4 K_1 ?_; refine zY.vm rfl rfl rfl rfl (by decide) ?_; refine zY.v rfl rfl (yY rfl rfl rfl f0a rfl (by decide)) ?_; refine zY.vm rfl rfl rfl rfl (by decide) ?_; refine zY.v rfl rfl (xB rfl rfl rfl (by decide)) ?_; refine zY.v rfl rfl (r_leq rfl rfl rfl f0 rfl (by decide)) ?_; refine zY.nil ?_) | (refine zZ.iq 4 ?_; refine zZ.rqu _ K_4 K_1 (zZ.draws ?_); all_goals (refine Draws.v rfl rfl (zV rfl rfl rfl (by decide)) ?_); all_goals (refine Draws.v rfl rfl (zV rfl rfl rfl (by decide)) ?_); all_goals (refine Draws.v rfl rfl (xS rfl rfl rfl i0 rfl (by decide)) ?_); all_goals (refine Draws.v rfl rfl (zM rfl rfl rfl rfl (by decide)) ?_); all_goals (refine Draws.v rfl rfl (yP rfl rfl g1 rfl (by decide)) ?_); all_goals (refine Draws.v rfl rfl (zV rfl rfl rfl (by decide)) ?_); all_goals (refine Draws.v rfl rfl (zV rfl rfl rfl (by decide)) ?_); all_goals (refine Draws.v rfl rfl (yY rfl rfl rfl f0b rfl (by decide)) ?_); all_goals (refine Draws.v rfl rfl (xS rfl rfl rfl i1 rfl (by decide)) ?_); all_goals (refine Draws.v rfl rfl (zM rfl rfl rfl rfl (by decide)) ?_); all_goals (refine Draws.v rfl rfl (yP rfl rfl g2 rfl (by decide)) ?_); all_goals (refine Draws.v rfl rfl (a_mul rfl rfl rfl g3 rfl (by decide)) ?_); all_goals (refine Draws.v rfl rfl (yY rfl rfl rfl g4 rfl (by decide)) ?_); all_goals (refine Draws.v rfl rfl (wF rfl rfl rfl (by decide)) ?_); all_goals ((refine Draws.done (by kernel_rfl) (by kernel_rfl) (by kernel_rfl) ?_; refine zI.nil ?_))) | (refine zZ.iq 5 ?_; refine zZ.rqb _ K_4 K_1 ?_; all_goals (refine zY.vm rfl rfl rfl rfl (by decide) ?_); all_goals (refine zY.v rfl rfl (zU rfl rfl rfl f1 rfl (by decide)) ?_); all_goals (refine zY.vm rfl rfl rfl rfl (by decide) ?_); all_goals (refine zY.gY rfl rfl (by decide) rfl (by rfl) rfl (by decide) (zV rfl rfl rfl (by decide)) ?_); all_goals (refine zY.gY rfl rfl (by decide) rfl (by rfl) rfl (by decide) (yY rfl rfl rfl f0a rfl (by decide)) ?_); all_goals (refine zY.gY rfl rfl (by decide) rfl (by rfl) rfl (by decide) (zV rfl rfl rfl (by decide)) ?_); all_goals (refine zY.gY rfl rfl (by decide) rfl (by rfl) rfl (by decide) (yY rfl rfl rfl g5 rfl (by decide)) ?_); all_goals (refine zY.gY rfl rfl (by decide) rfl (by rfl) rfl (by decide) (zV rfl rfl rfl (by decide)) ?_); all_goals (refine zY.gY rfl rfl (by decide) rfl (by rfl) rfl (by decide) (xB rfl rfl rfl (by decide)) ?_); all_goals (refine zY.gY rfl rfl (by decide) rfl (by rfl) rfl (by decide) (wC rfl rfl rfl f2 rfl (by decide)) ?_); all_goals (refine zY.v rfl rfl (zL rfl rfl (by rfl) rfl rfl (by decide)) ?_); all_goals (refine zY.nil ?_)) | (refine zZ.iq 7 ?_; refine zZ.rqb _ K_4 K_1 ?_; refine zY.m rfl rfl (w_build0V rfl rfl (by decide)) ?_; refine zY.vm rfl rfl rfl rfl (by decide) ?_; refine zY.vm rfl rfl rfl rfl (by decide) ?_; refine zY.v rfl rfl (yY rfl rfl rfl f0a rfl (by decide)) ?_; refine zY.vm rfl rfl rfl rfl (by decide) ?_; refine zY.v rfl rfl (yY rfl rfl rfl f0a rfl (by decide)) ?_; refine zY.vm rfl rfl rfl rfl (by decide) ?_; refine zY.v rfl rfl (yY rfl rfl rfl g5 rfl (by decide)) ?_; refine zY.v rfl rfl (wU rfl rfl rfl rfl i2 rfl (by decide)) ?_; refine zY.w rfl (w_appB rfl rfl rfl rfl l1 rfl rfl (by decide)) ?_; refine zY.v rfl rfl (zS rfl rfl rfl (by decide)) ?_; refine zY.nil ?_) | (refine zZ.isR (id := 8) ?_; refine zZ.sub ((sub_frzB 42 rfl)) ?_; refine zZ.rqb _ K_4 K_1 ?_; refine zY.vm rfl rfl rfl rfl (by decide) ?_; refine zY.v rfl rfl (by exact yL (c1) rfl rfl rfl (by decide)) ?_; refine zY.v rfl rfl (yE rfl rfl rfl (by decide)) ?_; refine zY.v rfl rfl (zC rfl rfl rfl rfl (by decide)) ?_; refine zY.v rfl rfl (zC rfl rfl rfl rfl (by decide)) ?_; refine zY.va rfl rfl rfl rfl (by decide) ?_; refine zY.va rfl rfl rfl rfl (by decide) ?_; refine zY.nil ?_) | (refine zZ.iq 9 ?_; refine zZ.rqb _ K_4 K_1 ?_; refine zY.va rfl rfl rfl rfl (by decide) ?_; refine zY.nil ?_) | refine zZ.yZ rfl (by first | assumption | with_reducible rfl) ?_ | refine zZ.yX rfl (by first | assumption | with_reducible rfl) ?_ | refine zZ.skip ?_ | refine zZ.block ?_))
          generalize hXe : ([] ++ (s.drop ((p + 6 : Nat) : Int).toNat).take (((p + 6 + n : Nat) : Int).toNat - ((p + 6 : Nat) : Int).toNat)) = Y at hX ⊢
          subst hX
          refine zZ.loop (fun k => saI s R p n Y (k + 2)) (fun k => k ≤ 4 ∧ ∀ i, i < k → (vU Y).getD (i + 2) 0 = s.getD (p + (i + 2)) 0) (fun k => 4 - k) 0 ?k0 ⟨Nat.zero_le _, fun i hi => by omega⟩ ?kr
          case k0 =>
            unfold saI
            exact zB K_1t K_1i
          case kr =>
            intro k ⟨hk4, hke⟩
            have q1 : IntKind.i64.wrap ((p : Int) + ((k + 2 : Nat) : Int)) = ((p + (k + 2) : Nat) : Int) := by rw [wrap_i64 _ (by omega)]; omega
            have q2 : IntKind.i64.wrap (((k + 2 : Nat) : Int) + 1) = ((k + 1 + 2 : Nat) : Int) := by rw [wrap_i64 _ (by omega)]; omega
            have e2 : (vU Y).getD 2 0 = ((xJ 0 Y : Nat) : Int) % 256 := by rw [hF]; rfl
            have e3 : (vU Y).getD 3 0 = ((xJ 0 Y : Nat) : Int) / 256 % 256 := by rw [hF]; rfl
            have e4 : (vU Y).getD 4 0 = ((xJ 0 Y : Nat) : Int) / 65536 % 256 := by rw [hF]; rfl
            have e5 : (vU Y).getD 5 0 = ((xJ 0 Y : Nat) : Int) / 16777216 := by rw [hF]; rfl
            have y2 := hby (p + 2)
            have y3 := hby (p + 3)
            have y4 := hby (p + 4)
            have y5 := hby (p + 5)
            unfold saI
            rcases Nat.lt_or_ge k 4 with h4 | h4
            · have q3 : (0 : Int) ≤ ((k + 2 : Nat) : Int) ∧ ((k + 2 : Nat) : Int) < ((vU Y).length : Int) := by rw [hpl]; omega
              have q3b : (0 : Int) ≤ ((p + (k + 2) : Nat) : Int) ∧ ((p + (k + 2) : Nat) : Int) < (s.length : Int) := by omega
              have q5 : decide (((k + 2 : Nat) : Int) < 6) = true := decide_eq_true (by omega)
              by_cases heq : (vU Y).getD (k + 2) 0 = s.getD (p + (k + 2)) 0
              · have q4 : (!decide ((vU Y).getD ((k + 2 : Nat) : Int).toNat 0 = s.getD ((p + (k + 2) : Nat) : Int).toNat 0)) = false := by
                  rw [Int.toNat_natCast, Int.toNat_natCast, heq]; simp
                repeat' (first | (refine zZ.is ?_; first | refine zZ.seq ?_ | (refine zZ.iq 10 ?_; refine zZ.rqb _ K_4 K_1 ?_; refine zY.vm rfl rfl rfl rfl (by decide) ?_; refine zY.v rfl rfl (zR rfl rfl rfl q5 rfl (by decide)) ?_; refine zY.nil ?_) | (refine zZ.iq 12 ?_; refine zZ.rqu _ K_4 K_1 (zZ.draws ?_); all_goals (refine Draws.v rfl rfl (zV rfl rfl rfl (by decide)) ?_); all_goals (refine Draws.v rfl rfl (zV rfl rfl rfl (by decide)) ?_); all_goals (refine Draws.v rfl rfl (xS rfl rfl rfl q3 rfl (by decide)) ?_); all_goals (refine Draws.v rfl rfl (zM rfl rfl rfl rfl (by decide)) ?_); all_goals (refine Draws.v rfl rfl (zV rfl rfl rfl (by decide)) ?_); all_goals (refine Draws.v rfl rfl (zV rfl rfl rfl (by decide)) ?_); all_goals (refine Draws.v rfl rfl (zV rfl rfl rfl (by decide)) ?_); all_goals (refine Draws.v rfl rfl (yY rfl rfl rfl q1 rfl (by decide)) ?_); all_goals (refine Draws.v rfl rfl (xS rfl rfl rfl q3b rfl (by decide)) ?_); all_goals (refine Draws.v rfl rfl (zM rfl rfl rfl rfl (by decide)) ?_); all_goals (refine Draws.v rfl rfl (wW rfl rfl rfl q4 rfl (by decide)) ?_); all_goals ((refine Draws.done (by kernel_rfl) (by kernel_rfl) (by kernel_rfl) ?_; refine zI.nil ?_))) | (refine zZ.iq 11 ?_; refine zZ.rqb _ K_4 K_1 ?_; refine zY.vm rfl rfl rfl rfl (by decide) ?_; refine zY.v rfl rfl (yY rfl rfl rfl q2 rfl (by decide)) ?_; refine zY.va rfl rfl rfl rfl (by decide) ?_; refine zY.nil ?_) | refine zZ.yZ rfl (by first | assumption | with_reducible rfl) ?_ | refine zZ.yX rfl (by first | assumption | with_reducible rfl) ?_ | refine zZ.skip ?_ | refine zZ.block ?_) | refine zF.n ?_)
                all_goals
                  refine ⟨k + 1, ?_, ⟨by omega, fun i hi => ?_⟩, by omega⟩
                  · try unfold saI
                    exact zB K_1t K_1i
                  · rcases Nat.lt_or_ge i k with h | h
                    · exact hke i h
                    · obtain rfl : i = k := by omega
                      exact heq
              · have q4 : (!decide ((vU Y).getD ((k + 2 : Nat) : Int).toNat 0 = s.getD ((p + (k + 2) : Nat) : Int).toNat 0)) = true := by
                  rw [Int.toNat_natCast, Int.toNat_natCast, decide_eq_false heq]; rfl
                have hne : ¬ ((xJ 0 Y : Nat) : Int) = numOf ((s.drop (p + 2)).take 4) := fun h => heq (by
                  have a3 : p + 2 + 1 = p + 3 := rfl
                  have a4 : p + 2 + 2 = p + 4 := rfl
                  have a5 : p + 2 + 3 = p + 5 := rfl
                  rw [hn4, a3, a4, a5] at h
                  rcases (show k = 0 ∨ k = 1 ∨ k = 2 ∨ k = 3 by omega) with rfl | rfl | rfl | rfl
                  · show (vU Y).getD 2 0 = s.getD (p + 2) 0
                    rw [e2, h]; omega
                  · show (vU Y).getD 3 0 = s.getD (p + 3) 0
                    rw [e3, h]; omega
                  · show (vU Y).getD 4 0 = s.getD (p + 4) 0
                    rw [e4, h]; omega
                  · show (vU Y).getD 5 0 = s.getD (p + 5) 0
                    rw [e5, h]; omega)
                obtain ⟨r1, r2⟩ := stop (an4 hne)
                rw [r1, r2]
                repeat' (first | (refine zZ.is ?_; first | refine zZ.seq ?_ | (refine zZ.iq 10 ?_; refine zZ.rqb _ K_4 K_1 ?_; refine zY.vm rfl rfl rfl rfl (by decide) ?_; refine zY.v rfl rfl (zR rfl rfl rfl q5 rfl (by decide)) ?_; refine zY.nil ?_) | (refine zZ.iq 12 ?_; refine zZ.rqu _ K_4 K_1 (zZ.draws ?_); all_goals (refine Draws.v rfl rfl (zV rfl rfl rfl (by decide)) ?_); all_goals (refine Draws.v rfl rfl (zV rfl rfl rfl (by decide)) ?_); all_goals (refine Draws.v rfl rfl (xS rfl rfl rfl q3 rfl (by decide)) ?_); all_goals (refine Draws.v rfl rfl (zM rfl rfl rfl rfl (by decide)) ?_); all_goals (refine Draws.v rfl rfl (zV rfl rfl rfl (by decide)) ?_); all_goals (refine Draws.v rfl rfl (zV rfl rfl rfl (by decide)) ?_); all_goals (refine Draws.v rfl rfl (zV rfl rfl rfl (by decide)) ?_); all_goals (refine Draws.v rfl rfl (yY rfl rfl rfl q1 rfl (by decide)) ?_); all_goals (refine Draws.v rfl rfl (xS rfl rfl rfl q3b rfl (by decide)) ?_); all_goals (refine Draws.v rfl rfl (zM rfl rfl rfl rfl (by decide)) ?_); all_goals (refine Draws.v rfl rfl (wW rfl rfl rfl q4 rfl (by decide)) ?_); all_goals ((refine Draws.done (by kernel_rfl) (by kernel_rfl) (by kernel_rfl) ?_; refine zI.nil ?_))) | (refine zZ.iq 13 ?_; refine zZ.rqb _ K_4 K_1 ?_; refine zY.v rfl rfl (yK rfl rfl rfl (by decide)) ?_; refine zY.vm rfl rfl rfl rfl (by decide) ?_; refine zY.v rfl rfl (zS rfl rfl rfl (by decide)) ?_; refine zY.va rfl rfl rfl rfl (by decide) ?_; refine zY.nil ?_) | refine zZ.yZ rfl (by first | assumption | with_reducible rfl) ?_ | refine zZ.skip ?_ | refine zZ.block ?_ | refine zZ.ret ?_) | refine zF.r ?_ | refine zO.r ?_)
                all_goals exact ⟨.inl rfl, _, wP 4 35 1 _ rfl, yR.qV (rs := [.tmp 2, .tmp 3]) rfl (by decide) (.cons (.tmp rfl) (.cons (.tmp rfl) .nil)) rfl⟩
            · obtain rfl : k = 4 := by omega
              have hcrc : ((xJ 0 Y : Nat) : Int) = numOf ((s.drop (p + 2)).take 4) := by
                have w2 := hke 0 (by omega)
                have w3 := hke 1 (by omega)
                have w4 := hke 2 (by omega)
                have w5 := hke 3 (by omega)
                simp only [Nat.zero_add, Nat.reduceAdd] at w2 w3 w4 w5
                rw [e2] at w2
                rw [e3] at w3
                rw [e4] at w4
                rw [e5] at w5
                have a3 : p + 2 + 1 = p + 3 := rfl
                have a4 : p + 2 + 2 = p + 4 := rfl
                have a5 : p + 2 + 3 = p + 5 := rfl
                rw [hn4, a3, a4, a5]
                omega
              have hsome := ats (by omega) hn3 hcrc
              have q5 : decide (((4 + 2 : Nat) : Int) < 6) = false := rfl
              have q6 : ∀ e ∈ [PV.sl (byts Y)], e.cells.length = 1 := fun e he => by simp at he; subst he; rfl
              have q7 : ∀ e ∈ qC R, e.cells.length = 1 := fun e he => by obtain ⟨x, _, rfl⟩ := List.mem_map.1 he; rfl
              have q8 : ((qC R).length + ([PV.sl (byts Y)] : List PV).length) * 24 ≤ 140737488355328 ∧ (qC R).length + ([PV.sl (byts Y)] : List PV).length ≤ maxLen := by
                simp only [qC, List.length_map, List.length_cons, List.length_nil, maxLen]; omega
              have q10 : ([PV.sl (byts Y)] : List PV).length * 24 ≤ 140737488355328 ∧ ([PV.sl (byts Y)] : List PV).length ≤ maxLen := by simp [maxLen]
              have er : qC (R ++ [Y]) = qC R ++ [PV.sl (byts Y)] := by simp [qC]
              repeat' (first | (refine zZ.is ?_; first | refine zZ.seq ?_ | (refine zZ.iq 10 ?_; refine zZ.rqb _ K_4 K_1 ?_; refine zY.vm rfl rfl rfl rfl (by decide) ?_; refine zY.v rfl rfl (zR rfl rfl rfl q5 rfl (by decide)) ?_; refine zY.nil ?_) | (refine zZ.iq 14 ?_; refine zZ.rqb _ K_4 K_1 ?_; refine zY.v rfl rfl (yK rfl rfl rfl (by decide)) ?_; refine zY.vm rfl rfl rfl rfl (by decide) ?_; refine zY.v rfl rfl (xK rfl (by decide) (by decide) (by decide) (by decide) (by rfl) (by rfl) (by rfl) (by rfl) (by rfl) (by rfl) (by rfl) rfl (by decide)) ?_; refine zY.w rfl (vZ rfl rfl rfl rfl q6 q8 rfl (by decide) rfl (by decide)) ?_; refine zY.v rfl rfl (zS rfl rfl rfl (by decide)) ?_; refine zY.nil ?_) | (refine zZ.iq 15 ?_; refine zZ.rqb _ K_4 K_1 ?_; refine zY.vm rfl rfl rfl rfl (by decide) ?_; refine zY.v rfl rfl (yY rfl rfl rfl f0a rfl (by decide)) ?_; refine zY.vm rfl rfl rfl rfl (by decide) ?_; refine zY.v rfl rfl (yY rfl rfl rfl g5 rfl (by decide)) ?_; refine zY.va rfl rfl rfl rfl (by decide) ?_; refine zY.nil ?_) | refine zZ.yX rfl (by assumption) ?_ | refine zZ.exit ?_) | refine zF.n ?_ | refine zO.n ?_)
              all_goals
                refine ⟨(R ++ [Y], p + 6 + n), ?_, ⟨hn3, by show (R ++ [Y]).length ≤ _; rw [List.length_append]; simp only [List.length_cons, List.length_nil]; omega, f, by show s.length - (p + 6 + n) < f; omega, ?_, ?_⟩, by show s.length - (p + 6 + n) < s.length - p; omega⟩
                · try unfold saS
                  dsimp only
                  rw [er]
                  exact zB K_1h K_1i
                · rw [hrows]
                  show R ++ (wI s (f + 1) p).map (·.2) = _
                  rw [framesL_some hsome, List.map_cons, List.append_assoc]
                  rfl
                · rw [hused]
                  exact usedL_some hsome
end Go.Proofs.YtomlhekjgagjaaaDoor
namespace Go.Proofs.YtomlhekjgagjaaaDoor
set_option maxRecDepth 100000
set_option maxHeartbeats 16000000
open Go Go.RowKit
attribute [local irreducible] zY zZ Step zA Sub zI yV Fn zF zO
theorem lim48 {A : List PV} {v : PV} (h : A.length ≤ 2000000) : (A.length + ([v] : List PV).length) * 48 ≤ 140737488355328 ∧ A.length + ([v] : List PV).length ≤ maxLen := by
  simp only [List.length_cons, List.length_nil, maxLen]
  omega
theorem lim48' {v : PV} : ([v] : List PV).length * 48 ≤ 140737488355328 ∧ ([v] : List PV).length ≤ maxLen := by simp [maxLen]
theorem cells6 {e : zQ} : ∀ x ∈ [e.V], x.cells.length = 6 := fun x hx => by simp at hx; subst hx; rfl
theorem map_len2 (A B : List zQ) {a b : Nat} (ha : A.length ≤ a) (hb : B.length ≤ b) : ((A ++ B).map zQ.V).length ≤ a + b := by
  rw [List.length_map, List.length_append]
  omega
theorem map_snoc (A B : List zQ) (e : zQ) : (A ++ (B ++ [e])).map zQ.V = (A ++ B).map zQ.V ++ [e.V] := by simp
def raS (ss : List (List Int)) (p : List zQ × Nat) : AS := { t := [(0, .p (wN ss)), (4, .own 42), (5, .p (.val (.int .i64 (p.2 : Nat))))], s := [(42, xR 46 6 (p.1.map zQ.V))] }
def raI (ss : List (List Int)) (i : Nat) (out : List zQ) (R : List (List Int)) (q : List zQ × Int × Nat) : AS := { t := [(0, .p (wN ss)), (4, .own 42), (5, .p (.val (.int .i64 (i : Nat)))), (6, .p (.sl (qC R))), (8, .p (.val (.int .u64 q.2.1))), (9, .p (.val (.int .i64 (q.2.2 : Nat))))], s := [(42, xR 46 6 ((out ++ q.1).map zQ.V))] }
theorem all_fn (ss : List (List Int)) (hb : ∀ s ∈ ss, xW s) (hn : ss.length ≤ 1000000) (ht : total ss ≤ 1000000) : Fn Tryd.prog 33 [wN ss] (.tup [.sl (((allR ss).getD []).map zQ.V), .val (.bool (allR ss).isSome)]) := by
  have hlen : (ss.map fun s => PV.sl (byts s)).length = ss.length := by rw [List.length_map]
  have hcells : ∀ e ∈ ss.map (fun s => PV.sl (byts s)), e.cells.length = 1 := fun e he => by
    obtain ⟨b, _, rfl⟩ := List.mem_map.1 he
    rfl
  refine wK Tryd.func33 rfl Tryd.ntmps33 (Nat.le_of_ble_eq_true rfl) ?_
  by_cases hz : ss.length = 0
  case pos =>
    have c0 : decide ((((ss.map fun s => PV.sl (byts s)).length : Nat) : Int) = 0) = true := decide_eq_true (by rw [hlen]; omega)
    have hA : allR ss = none := by unfold allR; rw [if_pos hz]
    rw [hA]
    unfold wN
    repeat' (first | (refine zZ.is ?_; first | refine zZ.seq ?_ | (refine zZ.iq 0 ?_; refine zZ.rqa _ K_8 K_3 ?_; refine zY.va rfl rfl rfl rfl (by decide) ?_; refine zY.va rfl rfl rfl rfl (by decide) ?_; refine zY.nil ?_) | (refine zZ.iq 1 ?_; refine zZ.rqa _ K_a K_3 ?_; refine zY.va rfl rfl rfl rfl (by decide) ?_; refine zY.nil ?_) | (refine zZ.iq 2 ?_; refine zZ.rqa _ K_h K_3 ?_; refine zY.vm rfl rfl rfl rfl (by decide) ?_; refine zY.v rfl rfl (yJ rfl rfl rfl (by decide)) ?_; refine zY.v rfl rfl (zU rfl rfl rfl c0 rfl (by decide)) ?_; refine zY.nil ?_) | (refine zZ.iq 3 ?_; refine zZ.rqa _ K_h K_3 ?_; refine zY.va rfl rfl rfl rfl (by decide) ?_; refine zY.va rfl rfl rfl rfl (by decide) ?_; refine zY.nil ?_) | refine zZ.yZ rfl (by first | assumption | with_reducible rfl) ?_ | refine zZ.ret ?_) | refine zF.n ?_ | refine zF.r ?_)
    all_goals exact ⟨.inl rfl, _, xM (d := 2) rfl, yR.qV (rs := [.tmp 2, .tmp 3]) rfl (by decide) (.cons (.tmp rfl) (.cons (.tmp rfl) .nil)) rfl⟩
  case neg =>
    have c0 : decide ((((ss.map fun s => PV.sl (byts s)).length : Nat) : Int) = 0) = false := decide_eq_false (by rw [hlen]; omega)
    have hA : allR ss = allL 0 ss := by unfold allR; rw [if_neg hz]
    rw [hA]
    generalize hAA : allL 0 ss = A
    unfold wN
    repeat' (first | (refine zZ.is ?_; first | refine zZ.seq ?_ | (refine zZ.iq 0 ?_; refine zZ.rqa _ K_8 K_3 ?_; refine zY.va rfl rfl rfl rfl (by decide) ?_; refine zY.va rfl rfl rfl rfl (by decide) ?_; refine zY.nil ?_) | (refine zZ.iq 1 ?_; refine zZ.rqa _ K_a K_3 ?_; refine zY.va rfl rfl rfl rfl (by decide) ?_; refine zY.nil ?_) | (refine zZ.iq 2 ?_; refine zZ.rqa _ K_h K_3 ?_; refine zY.vm rfl rfl rfl rfl (by decide) ?_; refine zY.v rfl rfl (yJ rfl rfl rfl (by decide)) ?_; refine zY.v rfl rfl (zU rfl rfl rfl c0 rfl (by decide)) ?_; refine zY.nil ?_) | (refine zZ.iq 4 ?_; refine zZ.rqa _ K_h K_3 ?_; refine zY.va rfl rfl rfl rfl (by decide) ?_; refine zY.nil ?_) | refine zZ.yX rfl (by first | assumption | with_reducible rfl) ?_ | refine zZ.skip ?_ | refine zZ.block ?_) | refine zF.n ?_)
    refine zZ.loop (raS ss) (fun p => p.2 ≤ ss.length ∧ A = (allL p.2 (ss.drop p.2)).map (p.1 ++ ·) ∧ p.1.length ≤ total (ss.take p.2)) (fun p => ss.length - p.2) ([], 0) ?h0 ⟨Nat.zero_le _, by rw [← hAA]; simp, by simp⟩ ?rd
    case h0 =>
      refine (vL (d := 4) (id := 42) (ty := 46) (sz := 6) (by decide) rfl).trans ?_
      unfold raS wN
      exact zB K_1h K_q
    case rd =>
      rintro ⟨out, i⟩ ⟨hi, hx, hol⟩
      simp only at hi hx hol
      have g3 : IntKind.i64.wrap (((i : Nat) : Int) + 1) = ((i + 1 : Nat) : Int) := by rw [wrap_i64 _ (by omega)]; omega
      have htl := total_le ss (i + 1)
      unfold raS wN
      dsimp only
      by_cases hlt : i < ss.length
      case neg =>
        have hie : i = ss.length := by omega
        subst hie
        have g1 : decide (((ss.length : Nat) : Int) < (((ss.map fun s => PV.sl (byts s)).length : Nat) : Int)) = false := decide_eq_false (by rw [hlen]; omega)
        rw [List.drop_length] at hx
        have hx : A = some out := by rw [hx]; simp [allL]
        rw [hx]
        repeat' (first | (refine zZ.is ?_; first | refine zZ.seq ?_ | (refine zZ.iq 5 ?_; refine zZ.rqb _ K_5 K_3 ?_; refine zY.vm rfl rfl rfl rfl (by decide) ?_; refine zY.vm rfl rfl rfl rfl (by decide) ?_; refine zY.v rfl rfl (yJ rfl rfl rfl (by decide)) ?_; refine zY.v rfl rfl (zR rfl rfl rfl g1 rfl (by decide)) ?_; refine zY.nil ?_) | (refine zZ.isR (id := 24) ?_; refine zZ.zK [2, 3, 4] [2, 4, 10, 42, 71] (by repeat' first | exact zX.nil | apply zX.own rfl | apply zX.skip) (by repeat' first | exact zW.nil | apply zW.some rfl | apply zW.skip) ?_; refine zY.v rfl rfl (yK rfl rfl rfl (by decide)) ?_; refine zY.v rfl rfl (zS rfl rfl rfl (by decide)) ?_; refine zY.va rfl rfl rfl rfl (by decide) ?_; refine zY.nil ?_) | refine zZ.yX rfl (by first | assumption | with_reducible rfl) ?_ | refine zZ.exit ?_ | refine zZ.ret ?_) | refine zF.n ?_ | refine zO.eY ?_ | refine zF.e ?_)
        all_goals exact ⟨.inl rfl, _, wP 42 46 6 _ rfl, yR.qV (rs := [.tmp 2, .tmp 3]) rfl (by decide) (.cons (.tmp rfl) (.cons (.tmp rfl) .nil)) rfl⟩
      case pos =>
        have g1 : decide (((i : Nat) : Int) < (((ss.map fun s => PV.sl (byts s)).length : Nat) : Int)) = true := decide_eq_true (by rw [hlen]; omega)
        obtain ⟨s, hsi⟩ : ∃ s, ss[i]? = some s := ⟨_, List.getElem?_eq_getElem hlt⟩
        have g2 : (ss.map fun b => PV.sl (byts b))[i]? = some (.sl (byts s)) := by rw [List.getElem?_map, hsi]; rfl
        have hsb := hb s (List.mem_of_getElem? hsi)
        have htk := total_take hsi
        have hdrop : ss.drop i = s :: ss.drop (i + 1) := by
          rw [List.drop_eq_getElem_cons hlt]
          rw [List.getElem?_eq_getElem hlt] at hsi
          rw [Option.some.inj hsi]
        rw [hdrop, allL_cons] at hx
        have sp := splitA_fn s hsb (by omega)
        have hmany := rows_many s
        have hrow := rows_bytes hsb
        generalize rowsOf s = R at *
        have hR6 : R.length ≤ 1000000 := Nat.le_trans hmany (by omega)
        have hlR : (qC R).length = R.length := by unfold qC; rw [List.length_map]
        have hcR : ∀ e ∈ qC R, e.cells.length = 1 := fun e he => by
          obtain ⟨b, _, rfl⟩ := List.mem_map.1 he
          rfl
        repeat' (first | (refine zZ.is ?_; first | refine zZ.seq ?_ | (refine zZ.iq 5 ?_; refine zZ.rqb _ K_5 K_3 ?_; refine zY.vm rfl rfl rfl rfl (by decide) ?_; refine zY.vm rfl rfl rfl rfl (by decide) ?_; refine zY.v rfl rfl (yJ rfl rfl rfl (by decide)) ?_; refine zY.v rfl rfl (zR rfl rfl rfl g1 rfl (by decide)) ?_; refine zY.nil ?_) | (refine zZ.iq 7 ?_; refine zZ.rqb _ K_5 K_3 ?_; refine zY.vm rfl rfl rfl rfl (by decide) ?_; refine zY.vm rfl rfl rfl rfl (by decide) ?_; refine zY.v rfl rfl (zH rfl rfl rfl hcells g2 rfl (by decide)) ?_; refine zY.v rfl rfl (zM rfl rfl rfl rfl (by decide)) ?_; refine zY.v rfl rfl (by exact yL (sp) rfl rfl rfl (by decide)) ?_; refine zY.v rfl rfl (yE rfl rfl rfl (by decide)) ?_; refine zY.v rfl rfl (zC rfl rfl rfl rfl (by decide)) ?_; refine zY.v rfl rfl (zC rfl rfl rfl rfl (by decide)) ?_; refine zY.va rfl rfl rfl rfl (by decide) ?_; refine zY.va rfl rfl rfl rfl (by decide) ?_; refine zY.nil ?_) | (refine zZ.iq 8 ?_; refine zZ.rqb _ K_5 K_3 ?_; refine zY.va rfl rfl rfl rfl (by decide) ?_; refine zY.nil ?_) | (refine zZ.iq 9 ?_; refine zZ.rqb _ K_5 K_3 ?_; refine zY.va rfl rfl rfl rfl (by decide) ?_; refine zY.nil ?_) | refine zZ.yZ rfl (by first | assumption | with_reducible rfl) ?_ | refine zZ.skip ?_ | refine zZ.block ?_) | refine zF.n ?_)
        refine zZ.loop (raI ss i out R) (fun q => q.2.2 ≤ R.length ∧ (0 ≤ q.2.1 ∧ q.2.1 < 18446744073709551616) ∧ q.1.length ≤ q.2.2 ∧ vN i 0 0 R = (vN i q.2.2 q.2.1 (R.drop q.2.2)).map (fun z => (q.1 ++ z.1, z.2))) (fun q => R.length - q.2.2) ([], 0, 0) ?i0 ⟨Nat.zero_le _, ⟨by decide, by decide⟩, Nat.le_refl _, by simp⟩ ?ir
        case i0 =>
          unfold raI wN
          rw [List.append_nil]
          exact zB K_2e K_q
        case ir =>
          rintro ⟨seg, left, k⟩ ⟨hk, hle, hseg, hr⟩
          simp only at hk hle hseg hr
          have k3 : IntKind.i64.wrap (((k : Nat) : Int) + 1) = ((k + 1 : Nat) : Int) := by rw [wrap_i64 _ (by omega)]; omega
          unfold raI wN
          dsimp only
          by_cases hkt : k < R.length
          case neg =>
            have hie : k = R.length := by omega
            subst hie
            have k1 : decide (((R.length : Nat) : Int) < (((qC R).length : Nat) : Int)) = false := decide_eq_false (by rw [hlR]; omega)
            rw [List.drop_length] at hr
            have hr : vN i 0 0 R = some (seg, left) := by rw [hr]; simp [vN]
            rw [hr] at hx
            dsimp only at hx
            cases hE : (decide (left > 0) || (decide ((i : Int) = 0) && decide ((R.length : Int) = 0)))
            all_goals rw [hE] at hx
            case true =>
              have hA : A = none := by rw [hx]; rfl
              rw [hA]
              clear hx hr hol htk htl hseg hdrop
              cases c5 : decide (left > 0) <;> cases c3 : decide ((i : Int) = 0) <;> cases c8 : decide ((R.length : Int) = 0)
              all_goals rw [c5, c3, c8] at hE
              all_goals first
                | exact absurd hE (by decide)
                | skip
              all_goals rw [← hlR] at c8
              all_goals
                repeat' (first | (refine zZ.is ?_; first | refine zZ.seq ?_ | (refine zZ.iq 10 ?_; refine zZ.rqb _ K_5 K_3 ?_; refine zY.vm rfl rfl rfl rfl (by decide) ?_; refine zY.vm rfl rfl rfl rfl (by decide) ?_; refine zY.v rfl rfl (yJ rfl rfl rfl (by decide)) ?_; refine zY.v rfl rfl (zR rfl rfl rfl k1 rfl (by decide)) ?_; refine zY.nil ?_) | (refine zZ.iq 22 ?_; refine zZ.rqb _ K_5 K_3 ?_; all_goals (refine zY.vm rfl rfl rfl rfl (by decide) ?_); all_goals (refine zY.v rfl rfl (wC rfl rfl rfl c5 rfl (by decide)) ?_); all_goals (refine zY.vm rfl rfl rfl rfl (by decide) ?_); all_goals (first | refine zY.gY rfl rfl (by decide) rfl (by rfl) rfl (by decide) (zV rfl rfl rfl (by decide)) ?_ | refine zY.gnF rfl rfl (by decide) rfl (by assumption) rfl (by decide) ?_); all_goals (first | refine zY.gY rfl rfl (by decide) rfl (by rfl) rfl (by decide) (zU rfl rfl rfl c3 rfl (by decide)) ?_ | refine zY.gnF rfl rfl (by decide) rfl (by assumption) rfl (by decide) ?_); all_goals (first | refine zY.gY rfl rfl (by decide) rfl (by rfl) rfl (by decide) (zV rfl rfl rfl (by decide)) ?_ | refine zY.gnF rfl rfl (by decide) rfl (by assumption) rfl (by decide) ?_); all_goals (first | refine zY.gU rfl rfl (by decide) (by rfl) rfl (by decide) ?_ | refine zY.gY rfl rfl (by decide) rfl (by assumption) rfl (by decide) (zV rfl rfl rfl (by decide)) ?_); all_goals (first | refine zY.gU rfl rfl (by decide) (by rfl) rfl (by decide) ?_ | refine zY.gY rfl rfl (by decide) rfl (by assumption) rfl (by decide) (yJ rfl rfl rfl (by decide)) ?_); all_goals (first | refine zY.gU rfl rfl (by decide) (by rfl) rfl (by decide) ?_ | refine zY.gY rfl rfl (by decide) rfl (by assumption) rfl (by decide) (zU rfl rfl rfl c8 rfl (by decide)) ?_); all_goals (first | refine zY.gY rfl rfl (by decide) rfl (by rfl) rfl (by decide) (by exact zN rfl rfl (by assumption) rfl rfl (by decide)) ?_ | refine zY.gnF rfl rfl (by decide) rfl (by assumption) rfl (by decide) ?_); all_goals (refine zY.v rfl rfl (by first | exact zN rfl rfl (by assumption) rfl rfl (by decide) | exact zL rfl rfl (by rfl) rfl rfl (by decide)) ?_); all_goals (refine zY.nil ?_)) | (refine zZ.iq 23 ?_; refine zZ.rqb _ K_5 K_3 ?_; refine zY.va rfl rfl rfl rfl (by decide) ?_; refine zY.va rfl rfl rfl rfl (by decide) ?_; refine zY.nil ?_) | refine zZ.yZ rfl (by assumption) ?_ | refine zZ.yX rfl (by first | assumption | with_reducible rfl) ?_ | refine zZ.exit ?_ | refine zZ.ret ?_) | refine zF.n ?_ | refine zF.r ?_ | refine zO.r ?_ | refine zO.eY ?_ | refine zF.e ?_)
              all_goals exact ⟨.inl rfl, _, xM (d := 2) rfl, yR.qV (rs := [.tmp 2, .tmp 3]) rfl (by decide) (.cons (.tmp rfl) (.cons (.tmp rfl) .nil)) rfl⟩
            case false =>
              have hok : (i + 1 ≤ ss.length ∧ A = (allL (i + 1) (ss.drop (i + 1))).map ((out ++ seg) ++ ·) ∧ (out ++ seg).length ≤ total (ss.take (i + 1))) := by
                refine ⟨hlt, ?_, ?_⟩
                · rw [hx]
                  show (Option.map _ (Option.map _ _)) = _
                  rw [Option.map_map]
                  congr 1
                  funext z
                  simp
                · rw [List.length_append, htk]
                  omega
              clear hx hr hol htk htl hseg hdrop
              cases c5 : decide (left > 0) <;> cases c3 : decide ((i : Int) = 0) <;> cases c8 : decide ((R.length : Int) = 0)
              all_goals rw [c5, c3, c8] at hE
              all_goals first
                | exact absurd hE (by decide)
                | skip
              all_goals rw [← hlR] at c8
              all_goals
                repeat' (first | (refine zZ.is ?_; first | refine zZ.seq ?_ | (refine zZ.iq 10 ?_; refine zZ.rqb _ K_5 K_3 ?_; refine zY.vm rfl rfl rfl rfl (by decide) ?_; refine zY.vm rfl rfl rfl rfl (by decide) ?_; refine zY.v rfl rfl (yJ rfl rfl rfl (by decide)) ?_; refine zY.v rfl rfl (zR rfl rfl rfl k1 rfl (by decide)) ?_; refine zY.nil ?_) | (refine zZ.iq 22 ?_; refine zZ.rqb _ K_5 K_3 ?_; all_goals (refine zY.vm rfl rfl rfl rfl (by decide) ?_); all_goals (refine zY.v rfl rfl (wC rfl rfl rfl c5 rfl (by decide)) ?_); all_goals (refine zY.vm rfl rfl rfl rfl (by decide) ?_); all_goals (refine zY.gY rfl rfl (by decide) rfl (by assumption) rfl (by decide) (zV rfl rfl rfl (by decide)) ?_); all_goals (refine zY.gY rfl rfl (by decide) rfl (by assumption) rfl (by decide) (zU rfl rfl rfl c3 rfl (by decide)) ?_); all_goals (refine zY.gY rfl rfl (by decide) rfl (by assumption) rfl (by decide) (zV rfl rfl rfl (by decide)) ?_); all_goals (first | refine zY.gY rfl rfl (by decide) rfl (by rfl) rfl (by decide) (zV rfl rfl rfl (by decide)) ?_ | refine zY.gnT rfl rfl (by decide) rfl (by assumption) rfl (by decide) ?_); all_goals (first | refine zY.gY rfl rfl (by decide) rfl (by rfl) rfl (by decide) (yJ rfl rfl rfl (by decide)) ?_ | refine zY.gnT rfl rfl (by decide) rfl (by assumption) rfl (by decide) ?_); all_goals (first | refine zY.gY rfl rfl (by decide) rfl (by rfl) rfl (by decide) (zU rfl rfl rfl c8 rfl (by decide)) ?_ | refine zY.gnT rfl rfl (by decide) rfl (by assumption) rfl (by decide) ?_); all_goals (refine zY.gY rfl rfl (by decide) rfl (by assumption) rfl (by decide) (by first | exact zN rfl rfl (by rfl) rfl rfl (by decide) | exact zL rfl rfl (by assumption) rfl rfl (by decide)) ?_); all_goals (refine zY.v rfl rfl (by exact zL rfl rfl (by assumption) rfl rfl (by decide)) ?_); all_goals (refine zY.nil ?_)) | (refine zZ.iq 6 ?_; refine zZ.rqb _ K_5 K_3 ?_; refine zY.vm rfl rfl rfl rfl (by decide) ?_; refine zY.v rfl rfl (yY rfl rfl rfl g3 rfl (by decide)) ?_; refine zY.va rfl rfl rfl rfl (by decide) ?_; refine zY.nil ?_) | refine zZ.yX rfl (by assumption) ?_ | refine zZ.skip ?_ | refine zZ.exit ?_) | refine zF.n ?_ | refine zO.n ?_ | refine zO.eY ?_ | refine zF.e ?_)
              all_goals
                refine ⟨(out ++ seg, i + 1), ?_, hok, by show ss.length - (i + 1) < ss.length - i; omega⟩
                try unfold raS wN
                exact zB K_1h K_q
          case pos =>
            have k1 : decide (((k : Nat) : Int) < (((qC R).length : Nat) : Int)) = true := decide_eq_true (by rw [hlR]; omega)
            obtain ⟨b, hbk⟩ : ∃ b, R[k]? = some b := ⟨_, List.getElem?_eq_getElem hkt⟩
            have k2 : (qC R)[k]? = some (.sl (byts b)) := by unfold qC; rw [List.getElem?_map, hbk]; rfl
            have hbb := hrow b (List.mem_of_getElem? hbk)
            have d1 := decRef_fn b (by omega) hbb.1
            have hdr : R.drop k = b :: R.drop (k + 1) := by
              rw [List.drop_eq_getElem_cons hkt]
              rw [List.getElem?_eq_getElem hkt] at hbk
              rw [Option.some.inj hbk]
            rw [hdr, rowsR_cons] at hr
            cases he : decE b with
            | none =>
              rw [decR_none he] at d1
              unfold decBad at d1
              rw [he] at hr
              have hA : A = none := by rw [hx, hr]; rfl
              rw [hA]
              repeat' (first | (refine zZ.is ?_; first | refine zZ.seq ?_ | (refine zZ.iq 10 ?_; refine zZ.rqb _ K_5 K_3 ?_; refine zY.vm rfl rfl rfl rfl (by decide) ?_; refine zY.vm rfl rfl rfl rfl (by decide) ?_; refine zY.v rfl rfl (yJ rfl rfl rfl (by decide)) ?_; refine zY.v rfl rfl (zR rfl rfl rfl k1 rfl (by decide)) ?_; refine zY.nil ?_) | (refine zZ.iq 12 ?_; refine zZ.rqb _ K_5 K_3 ?_; refine zY.vm rfl rfl rfl rfl (by decide) ?_; refine zY.vm rfl rfl rfl rfl (by decide) ?_; refine zY.v rfl rfl (zH rfl rfl rfl hcR k2 rfl (by decide)) ?_; refine zY.v rfl rfl (zM rfl rfl rfl rfl (by decide)) ?_; refine zY.v rfl rfl (by exact yL (d1) rfl rfl rfl (by decide)) ?_; refine zY.v rfl rfl (yE rfl rfl rfl (by decide)) ?_; refine zY.v rfl rfl (zC rfl rfl rfl rfl (by decide)) ?_; refine zY.v rfl rfl (zC rfl rfl rfl rfl (by decide)) ?_; refine zY.m rfl rfl (yI rfl (by decide) rfl (by decide)) ?_; refine zY.w rfl (by exact z8 rfl rfl rfl rfl rfl (by rfl) (by exact Nat.le_of_ble_eq_true rfl) rfl rfl) ?_; refine zY.va rfl rfl rfl rfl (by decide) ?_; refine zY.nil ?_) | (refine zZ.iq 13 ?_; refine zZ.rqc _ K_5 K_3 ?_; all_goals (refine zY.vm rfl rfl rfl rfl (by decide) ?_); all_goals (refine zY.v rfl rfl (by exact wW rfl rfl rfl (by exact bT (by decide)) rfl (by decide)) ?_); all_goals (refine zY.vm rfl rfl rfl rfl (by decide) ?_); all_goals (refine zY.gnF rfl rfl (by decide) rfl (by rfl) rfl (by decide) ?_); all_goals (refine zY.gnF rfl rfl (by decide) rfl (by rfl) rfl (by decide) ?_); all_goals (refine zY.gnF rfl rfl (by decide) rfl (by rfl) rfl (by decide) ?_); all_goals (refine zY.gnF rfl rfl (by decide) rfl (by rfl) rfl (by decide) ?_); all_goals (refine zY.gnF rfl rfl (by decide) rfl (by rfl) rfl (by decide) ?_); all_goals (refine zY.gnF rfl rfl (by decide) rfl (by rfl) rfl (by decide) ?_); all_goals (refine zY.gU rfl rfl (by decide) (by rfl) rfl (by decide) ?_); all_goals (refine zY.gU rfl rfl (by decide) (by rfl) rfl (by decide) ?_); all_goals (refine zY.gnF rfl rfl (by decide) rfl (by rfl) rfl (by decide) ?_); all_goals (refine zY.gnF rfl rfl (by decide) rfl (by rfl) rfl (by decide) ?_); all_goals (refine zY.v rfl rfl (zN rfl rfl (by rfl) rfl rfl (by decide)) ?_); all_goals (refine zY.nil ?_)) | (refine zZ.iq 14 ?_; refine zZ.rqc _ K_5 K_3 ?_; refine zY.va rfl rfl rfl rfl (by decide) ?_; refine zY.va rfl rfl rfl rfl (by decide) ?_; refine zY.nil ?_) | refine zZ.yZ rfl (by first | assumption | with_reducible rfl) ?_ | refine zZ.skip ?_ | refine zZ.block ?_ | refine zZ.ret ?_) | refine zF.n ?_ | refine zF.r ?_ | refine zO.r ?_)
              all_goals exact ⟨.inl rfl, _, xM (d := 2) rfl, yR.qV (rs := [.tmp 2, .tmp 3]) rfl (by decide) (.cons (.tmp rfl) (.cons (.tmp rfl) .nil)) rfl⟩
            | some e =>
              rw [decR_some he] at d1
              have heo := (decE_ok hbb.1 he).1
              rw [he] at hr
              have q6 := cells6 (e := e)
              have q7 := lim48' (v := e.V)
              have q8 := lim48 (v := e.V) (map_len2 out seg (Nat.le_trans hol (Nat.le_trans (total_le ss i) ht)) (Nat.le_trans hseg (Nat.le_trans hk hR6)))
              have hm := map_snoc out seg e
              have w1 : left > 0 → IntKind.u64.wrap (left - 1) = left - 1 := fun h => wrap_u64 _ (by omega)
              have hs1 := heo.s
              obtain ⟨ek, es, ey, eu, ev, ex⟩ := e
              dsimp only at hr hs1
              cases hH : (decide (ek = 3) != (decide ((i : Int) = 0) && decide ((k : Int) = 0)))
              all_goals rw [hH] at hr
              case true =>
                have hA : A = none := by rw [hx, hr]; rfl
                rw [hA]
                clear hr hx hol htk htl hseg hdrop hdr he hbb
                cases c2 : decide (ek = 3) <;> cases c3 : decide ((i : Int) = 0) <;> cases c4 : decide ((k : Int) = 0)
                all_goals rw [c2, c3, c4] at hH
                all_goals first
                  | exact absurd hH (by decide)
                  | skip
                all_goals
                  repeat' (first | (refine zZ.is ?_; first | refine zZ.seq ?_ | (refine zZ.iq 10 ?_; refine zZ.rqb _ K_5 K_3 ?_; refine zY.vm rfl rfl rfl rfl (by decide) ?_; refine zY.vm rfl rfl rfl rfl (by decide) ?_; refine zY.v rfl rfl (yJ rfl rfl rfl (by decide)) ?_; refine zY.v rfl rfl (zR rfl rfl rfl k1 rfl (by decide)) ?_; refine zY.nil ?_) | (refine zZ.iq 12 ?_; refine zZ.rqb _ K_5 K_3 ?_; refine zY.vm rfl rfl rfl rfl (by decide) ?_; refine zY.vm rfl rfl rfl rfl (by decide) ?_; refine zY.v rfl rfl (zH rfl rfl rfl hcR k2 rfl (by decide)) ?_; refine zY.v rfl rfl (zM rfl rfl rfl rfl (by decide)) ?_; refine zY.v rfl rfl (by exact yL (d1) rfl rfl rfl (by decide)) ?_; refine zY.v rfl rfl (yE rfl rfl rfl (by decide)) ?_; refine zY.v rfl rfl (zC rfl rfl rfl rfl (by decide)) ?_; refine zY.v rfl rfl (zC rfl rfl rfl rfl (by decide)) ?_; refine zY.m rfl rfl (yI rfl (by decide) rfl (by decide)) ?_; refine zY.w rfl (by exact z8 rfl rfl rfl rfl rfl (by rfl) (by exact Nat.le_of_ble_eq_true rfl) rfl rfl) ?_; refine zY.va rfl rfl rfl rfl (by decide) ?_; refine zY.nil ?_) | (refine zZ.iq 13 ?_; refine zZ.rqc _ K_5 K_3 ?_; all_goals (refine zY.vm rfl rfl rfl rfl (by decide) ?_); all_goals (refine zY.v rfl rfl (by exact wW rfl rfl rfl (by exact bF (by decide)) rfl (by decide)) ?_); all_goals (refine zY.vm rfl rfl rfl rfl (by decide) ?_); all_goals (refine zY.gY rfl rfl (by decide) rfl (by rfl) rfl (by decide) (zJ rfl rfl rfl (by decide)) ?_); all_goals (refine zY.gY rfl rfl (by decide) rfl (by rfl) rfl (by decide) (zD rfl rfl rfl (by rfl) rfl (by decide)) ?_); all_goals (refine zY.gY rfl rfl (by decide) rfl (by rfl) rfl (by decide) (zU rfl rfl rfl c2 rfl (by decide)) ?_); all_goals (refine zY.gY rfl rfl (by decide) rfl (by rfl) rfl (by decide) (zV rfl rfl rfl (by decide)) ?_); all_goals (refine zY.gY rfl rfl (by decide) rfl (by rfl) rfl (by decide) (zU rfl rfl rfl c3 rfl (by decide)) ?_); all_goals (refine zY.gY rfl rfl (by decide) rfl (by rfl) rfl (by decide) (zV rfl rfl rfl (by decide)) ?_); all_goals (first | refine zY.gY rfl rfl (by decide) rfl (by assumption) rfl (by decide) (zV rfl rfl rfl (by decide)) ?_ | refine zY.gnT rfl rfl (by decide) rfl (by rfl) rfl (by decide) ?_); all_goals (first | refine zY.gY rfl rfl (by decide) rfl (by assumption) rfl (by decide) (zU rfl rfl rfl c4 rfl (by decide)) ?_ | refine zY.gnT rfl rfl (by decide) rfl (by rfl) rfl (by decide) ?_); all_goals (refine zY.gY rfl rfl (by decide) rfl (by rfl) rfl (by decide) (by first | exact zN rfl rfl (by assumption) rfl rfl (by decide) | exact zL rfl rfl (by rfl) rfl rfl (by decide)) ?_); all_goals (refine zY.gY rfl rfl (by decide) rfl (by rfl) rfl (by decide) (by exact r_neqB rfl rfl rfl (by exact bT (by decide)) rfl (by decide)) ?_); all_goals (refine zY.v rfl rfl (zL rfl rfl (by rfl) rfl rfl (by decide)) ?_); all_goals (refine zY.nil ?_)) | (refine zZ.iq 14 ?_; refine zZ.rqc _ K_5 K_3 ?_; refine zY.va rfl rfl rfl rfl (by decide) ?_; refine zY.va rfl rfl rfl rfl (by decide) ?_; refine zY.nil ?_) | refine zZ.yZ rfl (by assumption) ?_ | refine zZ.skip ?_ | refine zZ.block ?_ | refine zZ.ret ?_) | refine zF.n ?_ | refine zF.r ?_ | refine zO.r ?_)
                all_goals exact ⟨.inl rfl, _, xM (d := 2) rfl, yR.qV (rs := [.tmp 2, .tmp 3]) rfl (by decide) (.cons (.tmp rfl) (.cons (.tmp rfl) .nil)) rfl⟩
              case false =>
                cases c2 : decide (ek = 3)
                case true =>
                  rw [c2] at hr hH
                  have hnx : (k + 1 ≤ R.length ∧ (0 ≤ (es : Int) ∧ (es : Int) < 18446744073709551616) ∧ (seg).length ≤ k + 1 ∧ vN i 0 0 R = (vN i (k + 1) (es) (R.drop (k + 1))).map (fun z => (seg ++ z.1, z.2))) := by
                    refine ⟨hkt, by first | exact hle | exact hs1 | omega, by first | exact Nat.le_succ_of_le hseg | (simp only [List.length_append, List.length_cons, List.length_nil]; omega), ?_⟩
                    rw [hr]
                    first
                      | rfl
                      | (show (Option.map _ (Option.map _ _)) = _
                         rw [Option.map_map]
                         congr 1
                         funext z
                         simp)
                  clear hr hx hol htk htl hseg hdrop hdr he hbb
                  cases c3 : decide ((i : Int) = 0) <;> cases c4 : decide ((k : Int) = 0)
                  all_goals rw [c3, c4] at hH
                  all_goals first
                    | exact absurd hH (by decide)
                    | skip
                  all_goals
                    repeat' (first | (refine zZ.is ?_; first | refine zZ.seq ?_ | (refine zZ.iq 10 ?_; refine zZ.rqb _ K_5 K_3 ?_; refine zY.vm rfl rfl rfl rfl (by decide) ?_; refine zY.vm rfl rfl rfl rfl (by decide) ?_; refine zY.v rfl rfl (yJ rfl rfl rfl (by decide)) ?_; refine zY.v rfl rfl (zR rfl rfl rfl k1 rfl (by decide)) ?_; refine zY.nil ?_) | (refine zZ.iq 12 ?_; refine zZ.rqb _ K_5 K_3 ?_; refine zY.vm rfl rfl rfl rfl (by decide) ?_; refine zY.vm rfl rfl rfl rfl (by decide) ?_; refine zY.v rfl rfl (zH rfl rfl rfl hcR k2 rfl (by decide)) ?_; refine zY.v rfl rfl (zM rfl rfl rfl rfl (by decide)) ?_; refine zY.v rfl rfl (by exact yL (d1) rfl rfl rfl (by decide)) ?_; refine zY.v rfl rfl (yE rfl rfl rfl (by decide)) ?_; refine zY.v rfl rfl (zC rfl rfl rfl rfl (by decide)) ?_; refine zY.v rfl rfl (zC rfl rfl rfl rfl (by decide)) ?_; refine zY.m rfl rfl (yI rfl (by decide) rfl (by decide)) ?_; refine zY.w rfl (by exact z8 rfl rfl rfl rfl rfl (by rfl) (by exact Nat.le_of_ble_eq_true rfl) rfl rfl) ?_; refine zY.va rfl rfl rfl rfl (by decide) ?_; refine zY.nil ?_) | (refine zZ.iq 13 ?_; refine zZ.rqc _ K_5 K_3 ?_; all_goals (refine zY.vm rfl rfl rfl rfl (by decide) ?_); all_goals (refine zY.v rfl rfl (by exact wW rfl rfl rfl (by exact bF (by decide)) rfl (by decide)) ?_); all_goals (refine zY.vm rfl rfl rfl rfl (by decide) ?_); all_goals (refine zY.gY rfl rfl (by decide) rfl (by assumption) rfl (by decide) (zJ rfl rfl rfl (by decide)) ?_); all_goals (refine zY.gY rfl rfl (by decide) rfl (by assumption) rfl (by decide) (zD rfl rfl rfl (by rfl) rfl (by decide)) ?_); all_goals (refine zY.gY rfl rfl (by decide) rfl (by assumption) rfl (by decide) (zU rfl rfl rfl c2 rfl (by decide)) ?_); all_goals (refine zY.gY rfl rfl (by decide) rfl (by assumption) rfl (by decide) (zV rfl rfl rfl (by decide)) ?_); all_goals (refine zY.gY rfl rfl (by decide) rfl (by assumption) rfl (by decide) (zU rfl rfl rfl c3 rfl (by decide)) ?_); all_goals (refine zY.gY rfl rfl (by decide) rfl (by assumption) rfl (by decide) (zV rfl rfl rfl (by decide)) ?_); all_goals (refine zY.gY rfl rfl (by decide) rfl (by rfl) rfl (by decide) (zV rfl rfl rfl (by decide)) ?_); all_goals (refine zY.gY rfl rfl (by decide) rfl (by rfl) rfl (by decide) (zU rfl rfl rfl c4 rfl (by decide)) ?_); all_goals (refine zY.gY rfl rfl (by decide) rfl (by assumption) rfl (by decide) (zN rfl rfl (by rfl) rfl rfl (by decide)) ?_); all_goals (refine zY.gY rfl rfl (by decide) rfl (by assumption) rfl (by decide) (by exact r_neqB rfl rfl rfl (by exact bF (by decide)) rfl (by decide)) ?_); all_goals (refine zY.v rfl rfl (by exact zL rfl rfl (by assumption) rfl rfl (by decide)) ?_); all_goals (refine zY.nil ?_)) | (refine zZ.iq 15 ?_; refine zZ.rqc _ K_5 K_3 ?_; refine zY.v rfl rfl (zJ rfl rfl rfl (by decide)) ?_; refine zY.v rfl rfl (zD rfl rfl rfl (by rfl) rfl (by decide)) ?_; refine zY.v rfl rfl (zU rfl rfl rfl c2 rfl (by decide)) ?_; refine zY.nil ?_) | (refine zZ.iq 16 ?_; refine zZ.rqc _ K_5 K_3 ?_; refine zY.v rfl rfl (zJ rfl rfl rfl (by decide)) ?_; refine zY.v rfl rfl (zD rfl rfl rfl (by rfl) rfl (by decide)) ?_; refine zY.va rfl rfl rfl rfl (by decide) ?_; refine zY.nil ?_) | (refine zZ.iq 11 ?_; refine zZ.rqc _ K_5 K_3 ?_; refine zY.vm rfl rfl rfl rfl (by decide) ?_; refine zY.v rfl rfl (yY rfl rfl rfl k3 rfl (by decide)) ?_; refine zY.va rfl rfl rfl rfl (by decide) ?_; refine zY.nil ?_) | refine zZ.yZ rfl (by first | assumption | with_reducible rfl) ?_ | refine zZ.yX rfl (by assumption) ?_ | refine zZ.skip ?_ | refine zZ.block ?_ | refine zZ.exit ?_) | refine zF.n ?_ | refine zO.eY ?_ | refine zF.e ?_)
                  all_goals
                    refine ⟨(seg, es, k + 1), ?_, hnx, by show R.length - (k + 1) < R.length - k; omega⟩
                    dsimp only
                    exact zB K_2e K_q
                case false =>
                  rw [c2] at hr hH
                  cases c5 : decide (left > 0)
                  case false =>
                    rw [c5] at hr
                    have hnx : (k + 1 ≤ R.length ∧ (0 ≤ (left : Int) ∧ (left : Int) < 18446744073709551616) ∧ (seg ++ [(⟨ek, es, ey, eu, ev, ex⟩ : zQ)]).length ≤ k + 1 ∧ vN i 0 0 R = (vN i (k + 1) (left) (R.drop (k + 1))).map (fun z => (seg ++ [(⟨ek, es, ey, eu, ev, ex⟩ : zQ)] ++ z.1, z.2))) := by
                      refine ⟨hkt, by first | exact hle | exact hs1 | omega, by first | exact Nat.le_succ_of_le hseg | (simp only [List.length_append, List.length_cons, List.length_nil]; omega), ?_⟩
                      rw [hr]
                      first
                        | rfl
                        | (show (Option.map _ (Option.map _ _)) = _
                           rw [Option.map_map]
                           congr 1
                           funext z
                           simp)
                    clear hr hx hol htk htl hseg hdrop hdr he hbb
                    cases c3 : decide ((i : Int) = 0) <;> cases c4 : decide ((k : Int) = 0)
                    all_goals rw [c3, c4] at hH
                    all_goals first
                      | exact absurd hH (by decide)
                      | skip
                    all_goals
                      repeat' (first | (refine zZ.is ?_; first | refine zZ.seq ?_ | (refine zZ.iq 10 ?_; refine zZ.rqb _ K_5 K_3 ?_; refine zY.vm rfl rfl rfl rfl (by decide) ?_; refine zY.vm rfl rfl rfl rfl (by decide) ?_; refine zY.v rfl rfl (yJ rfl rfl rfl (by decide)) ?_; refine zY.v rfl rfl (zR rfl rfl rfl k1 rfl (by decide)) ?_; refine zY.nil ?_) | (refine zZ.iq 12 ?_; refine zZ.rqb _ K_5 K_3 ?_; refine zY.vm rfl rfl rfl rfl (by decide) ?_; refine zY.vm rfl rfl rfl rfl (by decide) ?_; refine zY.v rfl rfl (zH rfl rfl rfl hcR k2 rfl (by decide)) ?_; refine zY.v rfl rfl (zM rfl rfl rfl rfl (by decide)) ?_; refine zY.v rfl rfl (by exact yL (d1) rfl rfl rfl (by decide)) ?_; refine zY.v rfl rfl (yE rfl rfl rfl (by decide)) ?_; refine zY.v rfl rfl (zC rfl rfl rfl rfl (by decide)) ?_; refine zY.v rfl rfl (zC rfl rfl rfl rfl (by decide)) ?_; refine zY.m rfl rfl (yI rfl (by decide) rfl (by decide)) ?_; refine zY.w rfl (by exact z8 rfl rfl rfl rfl rfl (by rfl) (by exact Nat.le_of_ble_eq_true rfl) rfl rfl) ?_; refine zY.va rfl rfl rfl rfl (by decide) ?_; refine zY.nil ?_) | (refine zZ.iq 13 ?_; refine zZ.rqc _ K_5 K_3 ?_; all_goals (refine zY.vm rfl rfl rfl rfl (by decide) ?_); all_goals (refine zY.v rfl rfl (by exact wW rfl rfl rfl (by exact bF (by decide)) rfl (by decide)) ?_); all_goals (refine zY.vm rfl rfl rfl rfl (by decide) ?_); all_goals (refine zY.gY rfl rfl (by decide) rfl (by assumption) rfl (by decide) (zJ rfl rfl rfl (by decide)) ?_); all_goals (refine zY.gY rfl rfl (by decide) rfl (by assumption) rfl (by decide) (zD rfl rfl rfl (by rfl) rfl (by decide)) ?_); all_goals (refine zY.gY rfl rfl (by decide) rfl (by assumption) rfl (by decide) (zU rfl rfl rfl c2 rfl (by decide)) ?_); all_goals (refine zY.gY rfl rfl (by decide) rfl (by assumption) rfl (by decide) (zV rfl rfl rfl (by decide)) ?_); all_goals (refine zY.gY rfl rfl (by decide) rfl (by assumption) rfl (by decide) (zU rfl rfl rfl c3 rfl (by decide)) ?_); all_goals (refine zY.gY rfl rfl (by decide) rfl (by assumption) rfl (by decide) (zV rfl rfl rfl (by decide)) ?_); all_goals (first | refine zY.gY rfl rfl (by decide) rfl (by rfl) rfl (by decide) (zV rfl rfl rfl (by decide)) ?_ | refine zY.gnT rfl rfl (by decide) rfl (by assumption) rfl (by decide) ?_); all_goals (first | refine zY.gY rfl rfl (by decide) rfl (by rfl) rfl (by decide) (zU rfl rfl rfl c4 rfl (by decide)) ?_ | refine zY.gnT rfl rfl (by decide) rfl (by assumption) rfl (by decide) ?_); all_goals (refine zY.gY rfl rfl (by decide) rfl (by assumption) rfl (by decide) (by first | exact zN rfl rfl (by rfl) rfl rfl (by decide) | exact zL rfl rfl (by assumption) rfl rfl (by decide)) ?_); all_goals (refine zY.gY rfl rfl (by decide) rfl (by assumption) rfl (by decide) (by exact r_neqB rfl rfl rfl (by exact bF (by decide)) rfl (by decide)) ?_); all_goals (refine zY.v rfl rfl (by exact zL rfl rfl (by assumption) rfl rfl (by decide)) ?_); all_goals (refine zY.nil ?_)) | (refine zZ.iq 15 ?_; refine zZ.rqc _ K_5 K_3 ?_; refine zY.v rfl rfl (zJ rfl rfl rfl (by decide)) ?_; refine zY.v rfl rfl (zD rfl rfl rfl (by rfl) rfl (by decide)) ?_; refine zY.v rfl rfl (zU rfl rfl rfl c2 rfl (by decide)) ?_; refine zY.nil ?_) | (refine zZ.iq 17 ?_; refine zZ.rqc _ K_5 K_3 ?_; refine zY.vm rfl rfl rfl rfl (by decide) ?_; refine zY.v rfl rfl (wC rfl rfl rfl c5 rfl (by decide)) ?_; refine zY.nil ?_) | (refine zZ.iq 21 ?_; refine zZ.rqc _ K_5 K_3 ?_; refine zY.v rfl rfl (yK rfl rfl rfl (by decide)) ?_; refine zY.v rfl rfl (yH rfl rfl rfl (by rfl) (by rfl) rfl (by decide)) ?_; refine zY.v rfl rfl (xK rfl (by decide) (by decide) (by decide) (by decide) (by rfl) (by rfl) (by rfl) (by rfl) (by rfl) (by rfl) (by rfl) rfl (by decide)) ?_; refine zY.w rfl (vZ rfl rfl rfl rfl q6 q8 rfl (by decide) rfl (by decide)) ?_; refine zY.v rfl rfl (zS rfl rfl rfl (by decide)) ?_; refine zY.nil ?_) | (refine zZ.iq 11 ?_; refine zZ.rqc _ K_5 K_3 ?_; refine zY.vm rfl rfl rfl rfl (by decide) ?_; refine zY.v rfl rfl (yY rfl rfl rfl k3 rfl (by decide)) ?_; refine zY.va rfl rfl rfl rfl (by decide) ?_; refine zY.nil ?_) | refine zZ.yZ rfl (by first | assumption | with_reducible rfl) ?_ | refine zZ.yX rfl (by assumption) ?_ | refine zZ.skip ?_ | refine zZ.block ?_) | refine zF.n ?_ | refine zO.n ?_)
                    all_goals
                      refine ⟨(seg ++ [(⟨ek, es, ey, eu, ev, ex⟩ : zQ)], left, k + 1), ?_, hnx, by show R.length - (k + 1) < R.length - k; omega⟩
                      dsimp only
                      rw [hm]
                      exact zB K_2e K_q
                  case true =>
                    rw [c5] at hr
                    have w2 := w1 (of_decide_eq_true c5)
                    have w3 := of_decide_eq_true c5
                    cases c6 : decide (ek = 1)
                    case false =>
                      have c7 : (!decide (ek = 1)) = true := by rw [c6]; rfl
                      rw [c6] at hr
                      have hA : A = none := by rw [hx, hr]; rfl
                      rw [hA]
                      clear hr hx hol htk htl hseg hdrop hdr he hbb
                      cases c3 : decide ((i : Int) = 0) <;> cases c4 : decide ((k : Int) = 0)
                      all_goals rw [c3, c4] at hH
                      all_goals first
                        | exact absurd hH (by decide)
                        | skip
                      all_goals
                        repeat' (first | (refine zZ.is ?_; first | refine zZ.seq ?_ | (refine zZ.iq 10 ?_; refine zZ.rqb _ K_5 K_3 ?_; refine zY.vm rfl rfl rfl rfl (by decide) ?_; refine zY.vm rfl rfl rfl rfl (by decide) ?_; refine zY.v rfl rfl (yJ rfl rfl rfl (by decide)) ?_; refine zY.v rfl rfl (zR rfl rfl rfl k1 rfl (by decide)) ?_; refine zY.nil ?_) | (refine zZ.iq 12 ?_; refine zZ.rqb _ K_5 K_3 ?_; refine zY.vm rfl rfl rfl rfl (by decide) ?_; refine zY.vm rfl rfl rfl rfl (by decide) ?_; refine zY.v rfl rfl (zH rfl rfl rfl hcR k2 rfl (by decide)) ?_; refine zY.v rfl rfl (zM rfl rfl rfl rfl (by decide)) ?_; refine zY.v rfl rfl (by exact yL (d1) rfl rfl rfl (by decide)) ?_; refine zY.v rfl rfl (yE rfl rfl rfl (by decide)) ?_; refine zY.v rfl rfl (zC rfl rfl rfl rfl (by decide)) ?_; refine zY.v rfl rfl (zC rfl rfl rfl rfl (by decide)) ?_; refine zY.m rfl rfl (yI rfl (by decide) rfl (by decide)) ?_; refine zY.w rfl (by exact z8 rfl rfl rfl rfl rfl (by rfl) (by exact Nat.le_of_ble_eq_true rfl) rfl rfl) ?_; refine zY.va rfl rfl rfl rfl (by decide) ?_; refine zY.nil ?_) | (refine zZ.iq 13 ?_; refine zZ.rqc _ K_5 K_3 ?_; all_goals (refine zY.vm rfl rfl rfl rfl (by decide) ?_); all_goals (refine zY.v rfl rfl (by exact wW rfl rfl rfl (by exact bF (by decide)) rfl (by decide)) ?_); all_goals (refine zY.vm rfl rfl rfl rfl (by decide) ?_); all_goals (refine zY.gY rfl rfl (by decide) rfl (by assumption) rfl (by decide) (zJ rfl rfl rfl (by decide)) ?_); all_goals (refine zY.gY rfl rfl (by decide) rfl (by assumption) rfl (by decide) (zD rfl rfl rfl (by rfl) rfl (by decide)) ?_); all_goals (refine zY.gY rfl rfl (by decide) rfl (by assumption) rfl (by decide) (zU rfl rfl rfl c2 rfl (by decide)) ?_); all_goals (refine zY.gY rfl rfl (by decide) rfl (by assumption) rfl (by decide) (zV rfl rfl rfl (by decide)) ?_); all_goals (refine zY.gY rfl rfl (by decide) rfl (by assumption) rfl (by decide) (zU rfl rfl rfl c3 rfl (by decide)) ?_); all_goals (refine zY.gY rfl rfl (by decide) rfl (by assumption) rfl (by decide) (zV rfl rfl rfl (by decide)) ?_); all_goals (first | refine zY.gY rfl rfl (by decide) rfl (by rfl) rfl (by decide) (zV rfl rfl rfl (by decide)) ?_ | refine zY.gnT rfl rfl (by decide) rfl (by assumption) rfl (by decide) ?_); all_goals (first | refine zY.gY rfl rfl (by decide) rfl (by rfl) rfl (by decide) (zU rfl rfl rfl c4 rfl (by decide)) ?_ | refine zY.gnT rfl rfl (by decide) rfl (by assumption) rfl (by decide) ?_); all_goals (refine zY.gY rfl rfl (by decide) rfl (by assumption) rfl (by decide) (by first | exact zN rfl rfl (by rfl) rfl rfl (by decide) | exact zL rfl rfl (by assumption) rfl rfl (by decide)) ?_); all_goals (refine zY.gY rfl rfl (by decide) rfl (by assumption) rfl (by decide) (by exact r_neqB rfl rfl rfl (by exact bF (by decide)) rfl (by decide)) ?_); all_goals (refine zY.v rfl rfl (by exact zL rfl rfl (by assumption) rfl rfl (by decide)) ?_); all_goals (refine zY.nil ?_)) | (refine zZ.iq 15 ?_; refine zZ.rqc _ K_5 K_3 ?_; refine zY.v rfl rfl (zJ rfl rfl rfl (by decide)) ?_; refine zY.v rfl rfl (zD rfl rfl rfl (by rfl) rfl (by decide)) ?_; refine zY.v rfl rfl (zU rfl rfl rfl c2 rfl (by decide)) ?_; refine zY.nil ?_) | (refine zZ.iq 17 ?_; refine zZ.rqc _ K_5 K_3 ?_; refine zY.vm rfl rfl rfl rfl (by decide) ?_; refine zY.v rfl rfl (wC rfl rfl rfl c5 rfl (by decide)) ?_; refine zY.nil ?_) | (refine zZ.iq 18 ?_; refine zZ.rqc _ K_5 K_3 ?_; refine zY.v rfl rfl (zJ rfl rfl rfl (by decide)) ?_; refine zY.v rfl rfl (zD rfl rfl rfl (by rfl) rfl (by decide)) ?_; refine zY.v rfl rfl (wW rfl rfl rfl c7 rfl (by decide)) ?_; refine zY.nil ?_) | (refine zZ.iq 19 ?_; refine zZ.rqc _ K_5 K_3 ?_; refine zY.va rfl rfl rfl rfl (by decide) ?_; refine zY.va rfl rfl rfl rfl (by decide) ?_; refine zY.nil ?_) | refine zZ.yZ rfl (by first | assumption | with_reducible rfl) ?_ | refine zZ.yX rfl (by assumption) ?_ | refine zZ.skip ?_ | refine zZ.block ?_ | refine zZ.ret ?_) | refine zF.n ?_ | refine zF.r ?_ | refine zO.r ?_)
                      all_goals exact ⟨.inl rfl, _, xM (d := 2) rfl, yR.qV (rs := [.tmp 2, .tmp 3]) rfl (by decide) (.cons (.tmp rfl) (.cons (.tmp rfl) .nil)) rfl⟩
                    case true =>
                      have c7 : (!decide (ek = 1)) = false := by rw [c6]; rfl
                      rw [c6] at hr
                      have hnx : (k + 1 ≤ R.length ∧ (0 ≤ (left - 1 : Int) ∧ (left - 1 : Int) < 18446744073709551616) ∧ (seg ++ [(⟨ek, es, ey, eu, ev, ex⟩ : zQ)]).length ≤ k + 1 ∧ vN i 0 0 R = (vN i (k + 1) (left - 1) (R.drop (k + 1))).map (fun z => (seg ++ [(⟨ek, es, ey, eu, ev, ex⟩ : zQ)] ++ z.1, z.2))) := by
                        refine ⟨hkt, by first | exact hle | exact hs1 | omega, by first | exact Nat.le_succ_of_le hseg | (simp only [List.length_append, List.length_cons, List.length_nil]; omega), ?_⟩
                        rw [hr]
                        first
                          | rfl
                          | (show (Option.map _ (Option.map _ _)) = _
                             rw [Option.map_map]
                             congr 1
                             funext z
                             simp)
                      clear hr hx hol htk htl hseg hdrop hdr he hbb
                      cases c3 : decide ((i : Int) = 0) <;> cases c4 : decide ((k : Int) = 0)
                      all_goals rw [c3, c4] at hH
                      all_goals first
                        | exact absurd hH (by decide)
                        | skip
                      all_goals
                        repeat' (first | (refine zZ.is ?_; first | refine zZ.seq ?_ | (refine zZ.iq 10 ?_; refine zZ.rqb _ K_5 K_3 ?_; refine zY.vm rfl rfl rfl rfl (by decide) ?_; refine zY.vm rfl rfl rfl rfl (by decide) ?_; refine zY.v rfl rfl (yJ rfl rfl rfl (by decide)) ?_; refine zY.v rfl rfl (zR rfl rfl rfl k1 rfl (by decide)) ?_; refine zY.nil ?_) | (refine zZ.iq 12 ?_; refine zZ.rqb _ K_5 K_3 ?_; refine zY.vm rfl rfl rfl rfl (by decide) ?_; refine zY.vm rfl rfl rfl rfl (by decide) ?_; refine zY.v rfl rfl (zH rfl rfl rfl hcR k2 rfl (by decide)) ?_; refine zY.v rfl rfl (zM rfl rfl rfl rfl (by decide)) ?_; refine zY.v rfl rfl (by exact yL (d1) rfl rfl rfl (by decide)) ?_; refine zY.v rfl rfl (yE rfl rfl rfl (by decide)) ?_; refine zY.v rfl rfl (zC rfl rfl rfl rfl (by decide)) ?_; refine zY.v rfl rfl (zC rfl rfl rfl rfl (by decide)) ?_; refine zY.m rfl rfl (yI rfl (by decide) rfl (by decide)) ?_; refine zY.w rfl (by exact z8 rfl rfl rfl rfl rfl (by rfl) (by exact Nat.le_of_ble_eq_true rfl) rfl rfl) ?_; refine zY.va rfl rfl rfl rfl (by decide) ?_; refine zY.nil ?_) | (refine zZ.iq 13 ?_; refine zZ.rqc _ K_5 K_3 ?_; all_goals (refine zY.vm rfl rfl rfl rfl (by decide) ?_); all_goals (refine zY.v rfl rfl (by exact wW rfl rfl rfl (by exact bF (by decide)) rfl (by decide)) ?_); all_goals (refine zY.vm rfl rfl rfl rfl (by decide) ?_); all_goals (refine zY.gY rfl rfl (by decide) rfl (by assumption) rfl (by decide) (zJ rfl rfl rfl (by decide)) ?_); all_goals (refine zY.gY rfl rfl (by decide) rfl (by assumption) rfl (by decide) (zD rfl rfl rfl (by rfl) rfl (by decide)) ?_); all_goals (refine zY.gY rfl rfl (by decide) rfl (by assumption) rfl (by decide) (zU rfl rfl rfl c2 rfl (by decide)) ?_); all_goals (refine zY.gY rfl rfl (by decide) rfl (by assumption) rfl (by decide) (zV rfl rfl rfl (by decide)) ?_); all_goals (refine zY.gY rfl rfl (by decide) rfl (by assumption) rfl (by decide) (zU rfl rfl rfl c3 rfl (by decide)) ?_); all_goals (refine zY.gY rfl rfl (by decide) rfl (by assumption) rfl (by decide) (zV rfl rfl rfl (by decide)) ?_); all_goals (first | refine zY.gY rfl rfl (by decide) rfl (by rfl) rfl (by decide) (zV rfl rfl rfl (by decide)) ?_ | refine zY.gnT rfl rfl (by decide) rfl (by assumption) rfl (by decide) ?_); all_goals (first | refine zY.gY rfl rfl (by decide) rfl (by rfl) rfl (by decide) (zU rfl rfl rfl c4 rfl (by decide)) ?_ | refine zY.gnT rfl rfl (by decide) rfl (by assumption) rfl (by decide) ?_); all_goals (refine zY.gY rfl rfl (by decide) rfl (by assumption) rfl (by decide) (by first | exact zN rfl rfl (by rfl) rfl rfl (by decide) | exact zL rfl rfl (by assumption) rfl rfl (by decide)) ?_); all_goals (refine zY.gY rfl rfl (by decide) rfl (by assumption) rfl (by decide) (by exact r_neqB rfl rfl rfl (by exact bF (by decide)) rfl (by decide)) ?_); all_goals (refine zY.v rfl rfl (by exact zL rfl rfl (by assumption) rfl rfl (by decide)) ?_); all_goals (refine zY.nil ?_)) | (refine zZ.iq 15 ?_; refine zZ.rqc _ K_5 K_3 ?_; refine zY.v rfl rfl (zJ rfl rfl rfl (by decide)) ?_; refine zY.v rfl rfl (zD rfl rfl rfl (by rfl) rfl (by decide)) ?_; refine zY.v rfl rfl (zU rfl rfl rfl c2 rfl (by decide)) ?_; refine zY.nil ?_) | (refine zZ.iq 17 ?_; refine zZ.rqc _ K_5 K_3 ?_; refine zY.vm rfl rfl rfl rfl (by decide) ?_; refine zY.v rfl rfl (wC rfl rfl rfl c5 rfl (by decide)) ?_; refine zY.nil ?_) | (refine zZ.iq 18 ?_; refine zZ.rqc _ K_5 K_3 ?_; refine zY.v rfl rfl (zJ rfl rfl rfl (by decide)) ?_; refine zY.v rfl rfl (zD rfl rfl rfl (by rfl) rfl (by decide)) ?_; refine zY.v rfl rfl (wW rfl rfl rfl c7 rfl (by decide)) ?_; refine zY.nil ?_) | (refine zZ.iq 20 ?_; refine zZ.rqc _ K_5 K_3 ?_; refine zY.vm rfl rfl rfl rfl (by decide) ?_; refine zY.v rfl rfl (wB rfl rfl rfl w2 rfl (by decide)) ?_; refine zY.va rfl rfl rfl rfl (by decide) ?_; refine zY.nil ?_) | (refine zZ.iq 21 ?_; refine zZ.rqc _ K_5 K_3 ?_; refine zY.v rfl rfl (yK rfl rfl rfl (by decide)) ?_; refine zY.v rfl rfl (yH rfl rfl rfl (by rfl) (by rfl) rfl (by decide)) ?_; refine zY.v rfl rfl (xK rfl (by decide) (by decide) (by decide) (by decide) (by rfl) (by rfl) (by rfl) (by rfl) (by rfl) (by rfl) (by rfl) rfl (by decide)) ?_; refine zY.w rfl (vZ rfl rfl rfl rfl q6 q8 rfl (by decide) rfl (by decide)) ?_; refine zY.v rfl rfl (zS rfl rfl rfl (by decide)) ?_; refine zY.nil ?_) | (refine zZ.iq 11 ?_; refine zZ.rqc _ K_5 K_3 ?_; refine zY.vm rfl rfl rfl rfl (by decide) ?_; refine zY.v rfl rfl (yY rfl rfl rfl k3 rfl (by decide)) ?_; refine zY.va rfl rfl rfl rfl (by decide) ?_; refine zY.nil ?_) | refine zZ.yZ rfl (by first | assumption | with_reducible rfl) ?_ | refine zZ.yX rfl (by assumption) ?_ | refine zZ.skip ?_ | refine zZ.block ?_) | refine zF.n ?_ | refine zO.n ?_)
                      all_goals
                        refine ⟨(seg ++ [(⟨ek, es, ey, eu, ev, ex⟩ : zQ)], left - 1, k + 1), ?_, hnx, by show R.length - (k + 1) < R.length - k; omega⟩
                        dsimp only
                        rw [hm]
                        exact zB K_2e K_q
end Go.Proofs.YtomlhekjgagjaaaDoor
namespace Go.Proofs.YtomlhekjgagjaaaDoor
set_option maxRecDepth 100000
set_option maxHeartbeats 16000000
open Go Go.RowKit
attribute [local irreducible] zY zZ Step zA Sub zI yV Fn
def rpS (L : List zQ) (k s y u v x : Int) (i : Nat) : AS := { t := [(0, .p (.sl (L.map zQ.V))), (3, .ptr 3 0), (5, .own 42), (6, .p (.val (.int .i64 (i : Nat))))], s := [(3, .box 46 ([.val (.int .i64 k), .val (.int .u64 s), .val (.int .u64 y), .val (.int .u64 u), .val (.int .u64 v), .val (.int .u64 x)].map AV.p)), (42, xR 46 6 ((L.take i).map zQ.V))] }
theorem insY_at (e : zQ) : ∀ (L : List zQ) (i : Nat), (∀ x ∈ L.take i, x.y < e.y) → insY e L = L.take i ++ insY e (L.drop i)
  | [], i, _ => by simp
  | a :: r, 0, _ => rfl
  | a :: r, i + 1, h => by
    have h1 := h a (by simp)
    have h2 := insY_at e r i fun x hx => h x (by simp [hx])
    show (if a.y < e.y then a :: insY e r else e :: a :: r) = _
    rw [if_pos h1, h2]
    rfl
theorem putR_fn (L : List zQ) (e : zQ) (hl : L.length ≤ 1000000) : Fn Tryd.prog 35 [.sl (L.map zQ.V), e.V] (.p (.sl ((insY e L).map zQ.V))) := by
 have hc := yN L
 have hlen : (L.map zQ.V).length = L.length := by rw [List.length_map]
 obtain ⟨k, s, y, u, v, x⟩ := e
 refine wK Tryd.func35 rfl Tryd.ntmps35 (Nat.le_of_ble_eq_true rfl) ?_
 repeat' ((refine zZ.is ?_; first | refine zZ.seq ?_ | (refine zZ.iq 0 ?_; refine zZ.rqa _ K_i K_16 ?_; refine zY.m rfl rfl (vV rfl rfl rfl (by decide)) ?_; refine zY.va rfl rfl rfl rfl (by decide) ?_; refine zY.nil ?_) | (refine zZ.iq 1 ?_; refine zZ.rqj _ K_w K_16 ?_; refine zY.va rfl rfl rfl rfl (by decide) ?_; refine zY.nil ?_) | (refine zZ.iq 2 ?_; refine zZ.rqj _ K_41 K_16 ?_; refine zY.va rfl rfl rfl rfl (by decide) ?_; refine zY.nil ?_) | refine zZ.block ?_))
 refine zZ.loop (rpS L k s y u v x) (fun i => i ≤ L.length ∧ ∀ a ∈ L.take i, a.y < y) (fun i => L.length - i) 0 ?h0 ⟨Nat.zero_le _, by simp⟩ ?rd
 case h0 =>
  refine (vL (d := 5) (id := 42) (ty := 46) (sz := 6) (by decide) rfl).trans ?_
  unfold rpS
  exact zB K_3c K_3d
 case rd =>
  intro i ⟨hi, hx⟩
  have g3 : IntKind.i64.wrap (((i : Nat) : Int) + 1) = ((i + 1 : Nat) : Int) := by rw [wrap_i64 _ (by omega)]; omega
  have q6 : ∀ z ∈ [(⟨k, s, y, u, v, x⟩ : zQ).V], z.cells.length = 6 := fun z hz => by simp at hz; subst hz; rfl
  have q7 : ([(⟨k, s, y, u, v, x⟩ : zQ).V] : List PV).length * 48 ≤ 140737488355328 ∧ ([(⟨k, s, y, u, v, x⟩ : zQ).V] : List PV).length ≤ maxLen := by simp [maxLen]
  have q8 : (((L.take i).map zQ.V).length + ([(⟨k, s, y, u, v, x⟩ : zQ).V] : List PV).length) * 48 ≤ 140737488355328 ∧ ((L.take i).map zQ.V).length + ([(⟨k, s, y, u, v, x⟩ : zQ).V] : List PV).length ≤ maxLen := by simp [maxLen]; omega
  have s1 : (0 : Int) ≤ ((i : Nat) : Int) ∧ ((i : Nat) : Int) ≤ (((L.map zQ.V).length : Nat) : Int) := by rw [hlen]; omega
  have s2 : ∀ z ∈ (L.map zQ.V).drop i, z.cells.length = 6 := fun z hz => hc z (List.mem_of_mem_drop hz)
  have s3 : (((L.take i).map zQ.V ++ [(⟨k, s, y, u, v, x⟩ : zQ).V]).length + ((L.map zQ.V).drop i).length) * 48 ≤ 140737488355328 ∧ ((L.take i).map zQ.V ++ [(⟨k, s, y, u, v, x⟩ : zQ).V]).length + ((L.map zQ.V).drop i).length ≤ maxLen := by simp [maxLen]; omega
  have hat := insY_at ⟨k, s, y, u, v, x⟩ L i hx
  unfold rpS
  by_cases hlt : i < L.length
  case pos =>
   have g1 : decide (((i : Nat) : Int) < (((L.map zQ.V).length : Nat) : Int)) = true := decide_eq_true (by rw [hlen]; omega)
   obtain ⟨e, he⟩ : ∃ e, L[i]? = some e := ⟨_, List.getElem?_eq_getElem hlt⟩
   have g2 : (L.map zQ.V)[i]? = some e.V := by rw [List.getElem?_map, he]; rfl
   have hdrop : L.drop i = e :: L.drop (i + 1) := by
    rw [List.drop_eq_getElem_cons hlt]
    rw [List.getElem?_eq_getElem hlt] at he
    rw [Option.some.inj he]
   have htake : L.take (i + 1) = L.take i ++ [e] := by rw [List.take_add_one, he]; rfl
   have r6 : ∀ z ∈ [e.V], z.cells.length = 6 := fun z hz => by simp at hz; subst hz; rfl
   have r7 : ([e.V] : List PV).length * 48 ≤ 140737488355328 ∧ ([e.V] : List PV).length ≤ maxLen := by simp [maxLen]
   have r8 : (((L.take i).map zQ.V).length + ([e.V] : List PV).length) * 48 ≤ 140737488355328 ∧ ((L.take i).map zQ.V).length + ([e.V] : List PV).length ≤ maxLen := by simp [maxLen]; omega
   obtain ⟨ek, es, ey, eu, ev, ex⟩ := e
   cases c2 : decide (ey < y)
   case true =>
    have hm : (L.take (i + 1)).map zQ.V = (L.take i).map zQ.V ++ [(⟨ek, es, ey, eu, ev, ex⟩ : zQ).V] := by rw [htake]; simp
    repeat' (first | (refine zZ.is ?_; first | refine zZ.seq ?_ | (refine zZ.iq 3 ?_; refine zZ.rqp _ K_21 K_16 (zZ.draws ?_); all_goals (refine Draws.v rfl rfl (zV rfl rfl rfl (by decide)) ?_); all_goals (refine Draws.v rfl rfl (zV rfl rfl rfl (by decide)) ?_); all_goals (refine Draws.v rfl rfl (yJ rfl rfl rfl (by decide)) ?_); all_goals (refine Draws.v rfl rfl (zR rfl rfl rfl g1 rfl (by decide)) ?_); all_goals (refine Draws.v rfl rfl (zV rfl rfl rfl (by decide)) ?_); all_goals (refine Draws.gY rfl rfl (by decide) rfl (by rfl) rfl (zV rfl rfl rfl (by decide)) ?_); all_goals (refine Draws.gY rfl rfl (by decide) rfl (by rfl) rfl (zV rfl rfl rfl (by decide)) ?_); all_goals (refine Draws.gY rfl rfl (by decide) rfl (by rfl) rfl (zH rfl rfl rfl hc g2 rfl (by decide)) ?_); all_goals (refine Draws.gY rfl rfl (by decide) rfl (by rfl) rfl (yD rfl rfl rfl (by decide)) ?_); all_goals (refine Draws.gY rfl rfl (by decide) rfl (by rfl) rfl (zM rfl rfl rfl rfl (by decide)) ?_); all_goals (refine Draws.gY rfl rfl (by decide) rfl (by rfl) rfl (zJ rfl rfl rfl (by decide)) ?_); all_goals (refine Draws.gY rfl rfl (by decide) rfl (by rfl) rfl (zD rfl rfl rfl (by rfl) rfl (by decide)) ?_); all_goals (refine Draws.gY rfl rfl (by decide) rfl (by rfl) rfl (zR rfl rfl rfl c2 rfl (by decide)) ?_); all_goals (refine Draws.v rfl rfl (zN rfl rfl (by rfl) rfl rfl (by decide)) ?_); all_goals ((refine Draws.done (by kernel_rfl) (by kernel_rfl) (by kernel_rfl) ?_; refine zI.nil ?_))) | (refine zZ.iq 4 ?_; refine zZ.rqc _ K_21 K_16 ?_; refine zY.v rfl rfl (yK rfl rfl rfl (by decide)) ?_; refine zY.vm rfl rfl rfl rfl (by decide) ?_; refine zY.vm rfl rfl rfl rfl (by decide) ?_; refine zY.v rfl rfl (zH rfl rfl rfl hc g2 rfl (by decide)) ?_; refine zY.v rfl rfl (by exact xD rfl rfl (by exact Nat.le_of_ble_eq_true rfl) rfl (by decide)) ?_; refine zY.v rfl rfl (xK rfl (by decide) (by decide) (by decide) (by decide) (by rfl) (by rfl) (by rfl) (by rfl) (by rfl) (by rfl) (by rfl) rfl (by decide)) ?_; refine zY.w rfl (vZ rfl rfl rfl rfl r6 r8 rfl (by decide) rfl (by decide)) ?_; refine zY.v rfl rfl (zS rfl rfl rfl (by decide)) ?_; refine zY.nil ?_) | (refine zZ.iq 5 ?_; refine zZ.rqc _ K_21 K_16 ?_; refine zY.vm rfl rfl rfl rfl (by decide) ?_; refine zY.v rfl rfl (yY rfl rfl rfl g3 rfl (by decide)) ?_; refine zY.va rfl rfl rfl rfl (by decide) ?_; refine zY.nil ?_) | refine zZ.yZ rfl (by first | assumption | with_reducible rfl) ?_ | refine zZ.skip ?_ | refine zZ.block ?_) | refine zF.n ?_ | refine zO.n ?_)
    all_goals
     refine ⟨i + 1, ?_, ⟨hlt, fun a ha => ?_⟩, by omega⟩
     ·rw [hm]
      exact zB K_3c K_3d
     ·rw [htake] at ha
      rcases List.mem_append.1 ha with ha | ha
      ·exact hx a ha
      ·rw [List.mem_singleton] at ha; subst ha; exact of_decide_eq_true c2
   case false =>
    have hres : (insY ⟨k, s, y, u, v, x⟩ L).map zQ.V = (L.take i).map zQ.V ++ [(⟨k, s, y, u, v, x⟩ : zQ).V] ++ (L.map zQ.V).drop i := by
     rw [hat, hdrop]
     show (L.take i ++ (if ey < y then _ else _)).map zQ.V = _
     rw [if_neg (of_decide_eq_false c2), ← List.map_drop, hdrop]
     simp
    rw [hres]
    repeat' ((refine zZ.is ?_; first | refine zZ.seq ?_ | (refine zZ.iq 3 ?_; refine zZ.rqp _ K_21 K_16 (zZ.draws ?_); all_goals (refine Draws.v rfl rfl (zV rfl rfl rfl (by decide)) ?_); all_goals (refine Draws.v rfl rfl (zV rfl rfl rfl (by decide)) ?_); all_goals (refine Draws.v rfl rfl (yJ rfl rfl rfl (by decide)) ?_); all_goals (refine Draws.v rfl rfl (zR rfl rfl rfl g1 rfl (by decide)) ?_); all_goals (refine Draws.v rfl rfl (zV rfl rfl rfl (by decide)) ?_); all_goals (refine Draws.gY rfl rfl (by decide) rfl (by rfl) rfl (zV rfl rfl rfl (by decide)) ?_); all_goals (refine Draws.gY rfl rfl (by decide) rfl (by rfl) rfl (zV rfl rfl rfl (by decide)) ?_); all_goals (refine Draws.gY rfl rfl (by decide) rfl (by rfl) rfl (zH rfl rfl rfl hc g2 rfl (by decide)) ?_); all_goals (refine Draws.gY rfl rfl (by decide) rfl (by rfl) rfl (yD rfl rfl rfl (by decide)) ?_); all_goals (refine Draws.gY rfl rfl (by decide) rfl (by rfl) rfl (zM rfl rfl rfl rfl (by decide)) ?_); all_goals (refine Draws.gY rfl rfl (by decide) rfl (by rfl) rfl (zJ rfl rfl rfl (by decide)) ?_); all_goals (refine Draws.gY rfl rfl (by decide) rfl (by rfl) rfl (zD rfl rfl rfl (by rfl) rfl (by decide)) ?_); all_goals (refine Draws.gY rfl rfl (by decide) rfl (by rfl) rfl (zR rfl rfl rfl c2 rfl (by decide)) ?_); all_goals (refine Draws.v rfl rfl (zN rfl rfl (by rfl) rfl rfl (by decide)) ?_); all_goals ((refine Draws.done (by kernel_rfl) (by kernel_rfl) (by kernel_rfl) ?_; refine zI.nil ?_))) | (refine zZ.iq 6 ?_; refine zZ.rqc _ K_15 K_16 ?_; refine zY.v rfl rfl (yK rfl rfl rfl (by decide)) ?_; refine zY.v rfl rfl (yH rfl rfl rfl (by rfl) (by rfl) rfl (by decide)) ?_; refine zY.v rfl rfl (xK rfl (by decide) (by decide) (by decide) (by decide) (by rfl) (by rfl) (by rfl) (by rfl) (by rfl) (by rfl) (by rfl) rfl (by decide)) ?_; refine zY.w rfl (vZ rfl rfl rfl rfl q6 q8 rfl (by decide) rfl (by decide)) ?_; refine zY.v rfl rfl (zS rfl rfl rfl (by decide)) ?_; refine zY.nil ?_) | (refine zZ.isR (id := 7) ?_; refine zZ.zK [0, 4, 5, 6] [3, 4, 5, 26, 32, 42] (by repeat' first | exact zX.nil | apply zX.p rfl | apply zX.own rfl | apply zX.skip) (by repeat' first | exact zW.nil | apply zW.boxP rfl rfl | apply zW.some rfl | apply zW.skip) ?_; refine zY.v rfl rfl (yK rfl rfl rfl (by decide)) ?_; refine zY.vm rfl rfl rfl rfl (by decide) ?_; refine zY.vm rfl rfl rfl rfl (by decide) ?_; refine zY.v rfl rfl (a_sliceL rfl rfl hc rfl s1 rfl (by decide)) ?_; refine zY.w rfl (vZ rfl rfl rfl rfl s2 s3 rfl (by decide) rfl (by decide)) ?_; refine zY.v rfl rfl (zS rfl rfl rfl (by decide)) ?_; refine zY.nil ?_) | refine zZ.yX rfl (by first | assumption | with_reducible rfl) ?_ | refine zZ.exit ?_ | refine zZ.ret ?_))
    all_goals exact ⟨.inl rfl, _, wP 42 46 6 _ rfl, yR.p rfl (.tmp rfl)⟩
  case neg =>
   have g1 : decide (((i : Nat) : Int) < (((L.map zQ.V).length : Nat) : Int)) = false := decide_eq_false (by rw [hlen]; omega)
   have hres : (insY ⟨k, s, y, u, v, x⟩ L).map zQ.V = (L.take i).map zQ.V ++ [(⟨k, s, y, u, v, x⟩ : zQ).V] ++ (L.map zQ.V).drop i := by
    rw [hat, List.drop_of_length_le (by omega), List.drop_of_length_le (by omega)]
    simp [insY]
   rw [hres]
   repeat' ((refine zZ.is ?_; first | refine zZ.seq ?_ | (refine zZ.iq 3 ?_; refine zZ.rqp _ K_21 K_16 (zZ.draws ?_); all_goals (refine Draws.v rfl rfl (zV rfl rfl rfl (by decide)) ?_); all_goals (refine Draws.v rfl rfl (zV rfl rfl rfl (by decide)) ?_); all_goals (refine Draws.v rfl rfl (yJ rfl rfl rfl (by decide)) ?_); all_goals (refine Draws.v rfl rfl (zR rfl rfl rfl g1 rfl (by decide)) ?_); all_goals (refine Draws.v rfl rfl (zV rfl rfl rfl (by decide)) ?_); all_goals (refine Draws.gNT rfl rfl (by decide) rfl (by rfl) rfl (by decide) ?_); all_goals (refine Draws.gNT rfl rfl (by decide) rfl (by rfl) rfl (by decide) ?_); all_goals (refine Draws.gNT rfl rfl (by decide) rfl (by rfl) rfl (by decide) ?_); all_goals (refine Draws.gNT rfl rfl (by decide) rfl (by rfl) rfl (by decide) ?_); all_goals (refine Draws.gNT rfl rfl (by decide) rfl (by rfl) rfl (by decide) ?_); all_goals (refine Draws.gNT rfl rfl (by decide) rfl (by rfl) rfl (by decide) ?_); all_goals (refine Draws.gNT rfl rfl (by decide) rfl (by rfl) rfl (by decide) ?_); all_goals (refine Draws.gNT rfl rfl (by decide) rfl (by rfl) rfl (by decide) ?_); all_goals (refine Draws.v rfl rfl (zL rfl rfl (by rfl) rfl rfl (by decide)) ?_); all_goals ((refine Draws.done (by kernel_rfl) (by kernel_rfl) (by kernel_rfl) ?_; refine zI.nil ?_))) | (refine zZ.iq 6 ?_; refine zZ.rqc _ K_15 K_16 ?_; refine zY.v rfl rfl (yK rfl rfl rfl (by decide)) ?_; refine zY.v rfl rfl (yH rfl rfl rfl (by rfl) (by rfl) rfl (by decide)) ?_; refine zY.v rfl rfl (xK rfl (by decide) (by decide) (by decide) (by decide) (by rfl) (by rfl) (by rfl) (by rfl) (by rfl) (by rfl) (by rfl) rfl (by decide)) ?_; refine zY.w rfl (vZ rfl rfl rfl rfl q6 q8 rfl (by decide) rfl (by decide)) ?_; refine zY.v rfl rfl (zS rfl rfl rfl (by decide)) ?_; refine zY.nil ?_) | (refine zZ.isR (id := 7) ?_; refine zZ.zK [0, 4, 5, 6] [3, 4, 5, 26, 32, 42] (by repeat' first | exact zX.nil | apply zX.p rfl | apply zX.own rfl | apply zX.skip) (by repeat' first | exact zW.nil | apply zW.boxP rfl rfl | apply zW.some rfl | apply zW.skip) ?_; refine zY.v rfl rfl (yK rfl rfl rfl (by decide)) ?_; refine zY.vm rfl rfl rfl rfl (by decide) ?_; refine zY.vm rfl rfl rfl rfl (by decide) ?_; refine zY.v rfl rfl (a_sliceL rfl rfl hc rfl s1 rfl (by decide)) ?_; refine zY.w rfl (vZ rfl rfl rfl rfl s2 s3 rfl (by decide) rfl (by decide)) ?_; refine zY.v rfl rfl (zS rfl rfl rfl (by decide)) ?_; refine zY.nil ?_) | refine zZ.yX rfl (by first | assumption | with_reducible rfl) ?_ | refine zZ.exit ?_ | refine zZ.ret ?_))
   all_goals exact ⟨.inl rfl, _, wP 42 46 6 _ rfl, yR.p rfl (.tmp rfl)⟩
end Go.Proofs.YtomlhekjgagjaaaDoor
