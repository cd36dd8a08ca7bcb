/- For every input MergeAgain returns true, and leaves its arguments as they were. Conditions: none beyond the given statement. (Part 8 of 8.) -/
import Derived.Test.YtomlhekjgagjaaaDoorMa7
import Derived.ProofKit
import Derived.OpenShut
import Derived.Below
import Derived.LaidMore
import Derived.Deep.Fields
import Derived.Deep.Slices
import Derived.Test.YtomlhekjgagjaaaDoorRows
import Derived.LaidLaws
import Derived.ChangeSame
import Derived.ChangeVars
import Derived.JoinedOf
import Derived.Stop.Joined
import Derived.RowKitTokens
import Derived.Test.YtomlhekjgagjaaaDoorCards
import Derived.Test.YtomlhekjgagjaaaDoorTie
import Derived.SevenTiedAt
/- The document's answer: Put; contract. -/
namespace Go.Proofs.YtomlhekjgagjaaaDoor
set_option maxRecDepth 100000
set_option maxHeartbeats 16000000
open Go Go.RowKit
set_option linter.unusedSimpArgs false
set_option linter.unusedVariables false
attribute [local irreducible] zX zY Step zB Sub zM yZ Fn
def rpS (L : List zJ) (k s y u v x : Int) (i : Nat) : AS := { t := [(0, .p (.sl (L.map zJ.V))), (3, .ptr 3 0), (5, .own 42), (6, .p (.val (.int .i64 (i : Nat))))], s := [(3, .box 46 ([.val (.int .i64 k), .val (.int .u64 s), .val (.int .u64 y), .val (.int .u64 u), .val (.int .u64 v), .val (.int .u64 x)].map AV.p)), (42, xL 46 6 ((L.take i).map zJ.V))] }
end Go.Proofs.YtomlhekjgagjaaaDoor
/- The document's answer: Rows; graphs that are the same; contracts. -/
namespace Go.Proofs.YtomlhekjgagjaaaDoor
set_option maxRecDepth 100000
set_option maxHeartbeats 16000000
open Go Go.RowKit
set_option linter.unusedSimpArgs false
set_option linter.unusedVariables false
attribute [local irreducible] zX zY Step zB Sub zM yZ Fn zG zR
def saG (A : List ArcD) (i : Nat) : AS := { t := [(0, .p (.sl (A.map ArcD.V))), (1, .p (.sl (A.map ArcD.V))), (5, .p (.val (.int .i64 (i : Nat))))], s := [] }
theorem sameArc_fn (A : List ArcD) (hA : A.length ≤ 1000000) : Fn Tryd.prog 21 [.sl (A.map ArcD.V), .sl (A.map ArcD.V)] (.p (.val (.bool true))) := by
  have hlA : (A.map ArcD.V).length = A.length := by rw [List.length_map]
  have hcA := arcs_cells A
  refine wJ Tryd.func21 rfl Tryd.ntmps21 (Nat.le_of_ble_eq_true rfl) ?_
  have c1 : (!decide ((((A.map ArcD.V).length : Nat) : Int) = (((A.map ArcD.V).length : Nat) : Int))) = false := by rw [decide_eq_true rfl]; rfl
  repeat' (first | (refine zY.is ?_; first | refine zY.seq ?_ | (refine zY.isR (id := 0) ?_; refine zY.zQ [0, 1] [] (by repeat' first | exact zZ.nil | apply zZ.p rfl) (by repeat' exact zW.nil) ?_; (refine zX.v rfl rfl (zK rfl rfl rfl (by decide)) ?_); refine zX.nil ?_) | (refine zY.isR (id := 1) ?_; refine zY.zQ [0, 1, 4] [] (by repeat' first | exact zZ.nil | apply zZ.p rfl) (by repeat' exact zW.nil) ?_; (refine zX.v rfl rfl (zV rfl rfl rfl (by decide)) ?_); (refine zX.v rfl rfl (yD rfl rfl rfl (by decide)) ?_); (refine zX.v rfl rfl (zV rfl rfl rfl (by decide)) ?_); (refine zX.v rfl rfl (yD rfl rfl rfl (by decide)) ?_); (refine zX.v rfl rfl (by exact wG rfl rfl rfl (by exact c1) rfl (by decide)) ?_); refine zX.nil ?_) | (refine zY.isR (id := 3) ?_; refine zY.zQ [0, 1, 4] [] (by repeat' first | exact zZ.nil | apply zZ.p rfl) (by repeat' exact zW.nil) ?_; (refine zX.v rfl rfl (zK rfl rfl rfl (by decide)) ?_); refine zX.nil ?_) | refine zY.yA rfl (by first | assumption | with_reducible rfl) ?_ | refine zY.skip ?_ | refine zY.block ?_) | refine zG.n ?_)
  refine zY.loop (saG A) (fun i => i ≤ A.length) (fun i => A.length - i) 0 ?h0 (Nat.zero_le _) ?rd
  case h0 =>
    unfold saG
    refine zD (is := [0, 1, 5]) (js := []) ?_ ?_
    repeat' first | exact zZ.nil | apply zZ.p rfl | apply zZ.ptr rfl | apply zZ.own rfl | apply zZ.clo rfl | apply zZ.ifp rfl | apply zZ.pt rfl | apply zZ.tup rfl | apply zZ.skip
    repeat' first | exact zW.nil | apply zW.boxP rfl rfl | apply zW.zT rfl | apply zW.some rfl | apply zW.skip
  case rd =>
    intro i hi
    have g3 : IntKind.i64.wrap (((i : Nat) : Int) + 1) = ((i + 1 : Nat) : Int) := by rw [wrap_i64 _ (by omega)]; omega
    unfold saG
    by_cases hlt : i < A.length
    case pos =>
      have g1 : decide (((i : Nat) : Int) < (((A.map ArcD.V).length : Nat) : Int)) = true := decide_eq_true (by rw [hlA]; omega)
      obtain ⟨a, ha⟩ : ∃ a, A[i]? = some a := ⟨_, List.getElem?_eq_getElem hlt⟩
      have g2 : (A.map ArcD.V)[i]? = some a.V := by rw [List.getElem?_map, ha]; rfl
      obtain ⟨au, av, aw⟩ := a
      have c7 : (!decide ([(IntKind.i64, au), (IntKind.i64, av), (IntKind.u64, aw)] = [(IntKind.i64, au), (IntKind.i64, av), (IntKind.u64, aw)])) = false := by rw [decide_eq_true rfl]; rfl
      clear ha
      repeat' (first | (refine zY.is ?_; first | refine zY.seq ?_ | (refine zY.isR (id := 4) ?_; refine zY.zQ [0, 1, 4, 5, 14, 25] [] (by repeat' first | exact zZ.nil | apply zZ.p rfl | apply zZ.skip) (by repeat' exact zW.nil) ?_; (refine zX.v rfl rfl (zV rfl rfl rfl (by decide)) ?_); (refine zX.v rfl rfl (zV rfl rfl rfl (by decide)) ?_); (refine zX.v rfl rfl (yD rfl rfl rfl (by decide)) ?_); (refine zX.v rfl rfl (by exact zS rfl rfl rfl (by exact g1) rfl (by decide)) ?_); refine zX.nil ?_) | (refine zY.isR (id := 6) ?_; refine zY.yH [0, 1, 4, 5, 14, 25] [] (by repeat' first | exact zZ.nil | apply zZ.p rfl | apply zZ.skip) (by repeat' exact zW.nil) (zY.draws ?_); all_goals (refine Draws.v rfl rfl (zV rfl rfl rfl (by decide)) ?_); all_goals (refine Draws.v rfl rfl (zV rfl rfl rfl (by decide)) ?_); all_goals (refine Draws.v rfl rfl (by exact zN rfl rfl rfl (by exact hcA) (by exact g2) rfl (by decide)) ?_); all_goals (refine Draws.v rfl rfl (by exact xQ rfl rfl (by exact Nat.le_of_ble_eq_true rfl) rfl (by decide)) ?_); all_goals (refine Draws.v rfl rfl (zV rfl rfl rfl (by decide)) ?_); all_goals (refine Draws.v rfl rfl (zV rfl rfl rfl (by decide)) ?_); all_goals (refine Draws.v rfl rfl (by exact zN rfl rfl rfl (by exact hcA) (by exact g2) rfl (by decide)) ?_); all_goals (refine Draws.v rfl rfl (by exact xQ rfl rfl (by exact Nat.le_of_ble_eq_true rfl) rfl (by decide)) ?_); all_goals (refine Draws.v rfl rfl (by exact r_neqT rfl rfl rfl rfl rfl rfl (by rfl) (by exact c7) rfl (by decide)) ?_); all_goals ((refine Draws.done (by kernel_rfl) (by kernel_rfl) (by kernel_rfl) ?_; refine zM.nil ?_))) | (refine zY.isR (id := 5) ?_; refine zY.zQ [0, 1, 4, 5, 14, 25] [] (by repeat' first | exact zZ.nil | apply zZ.p rfl | apply zZ.skip) (by repeat' exact zW.nil) ?_; (refine zX.v rfl rfl (zV rfl rfl rfl (by decide)) ?_); (refine zX.v rfl rfl (by exact yE rfl rfl rfl (by exact g3) rfl (by decide)) ?_); (refine zX.v rfl rfl (zK rfl rfl rfl (by decide)) ?_); refine zX.nil ?_) | refine zY.yJ rfl (by first | assumption | with_reducible rfl) ?_ | refine zY.yA rfl (by first | assumption | with_reducible rfl) ?_ | refine zY.skip ?_ | refine zY.block ?_) | refine zG.n ?_ | refine zR.n ?_)
      all_goals
        refine ⟨i + 1, ?_, hlt, by omega⟩
        try unfold saG
        refine zD (is := [0, 1, 5]) (js := []) ?_ ?_
        repeat' first | exact zZ.nil | apply zZ.p rfl | apply zZ.ptr rfl | apply zZ.own rfl | apply zZ.clo rfl | apply zZ.ifp rfl | apply zZ.pt rfl | apply zZ.tup rfl | apply zZ.skip
        repeat' first | exact zW.nil | apply zW.boxP rfl rfl | apply zW.zT rfl | apply zW.some rfl | apply zW.skip
    case neg =>
      have g1 : decide (((i : Nat) : Int) < (((A.map ArcD.V).length : Nat) : Int)) = false := decide_eq_false (by rw [hlA]; omega)
      repeat' (first | (refine zY.is ?_; first | refine zY.seq ?_ | (refine zY.isR (id := 4) ?_; refine zY.zQ [0, 1, 4, 5, 14, 25] [] (by repeat' first | exact zZ.nil | apply zZ.p rfl | apply zZ.skip) (by repeat' exact zW.nil) ?_; (refine zX.v rfl rfl (zV rfl rfl rfl (by decide)) ?_); (refine zX.v rfl rfl (zV rfl rfl rfl (by decide)) ?_); (refine zX.v rfl rfl (yD rfl rfl rfl (by decide)) ?_); (refine zX.v rfl rfl (by exact zS rfl rfl rfl (by exact g1) rfl (by decide)) ?_); refine zX.nil ?_) | (refine zY.isR (id := 8) ?_; refine zY.zQ [4] [] (by repeat' first | exact zZ.nil | apply zZ.skip) (by repeat' exact zW.nil) ?_; (refine zX.v rfl rfl (zK rfl rfl rfl (by decide)) ?_); refine zX.nil ?_) | refine zY.yA rfl (by first | assumption | with_reducible rfl) ?_ | refine zY.exit ?_ | refine zY.ret ?_) | refine zG.n ?_ | refine zR.eY ?_ | refine zG.e ?_)
      all_goals exact ⟨.inl rfl, gives1 rfl rfl rfl⟩
/-- rows up to a place are right -/
structure vO (l P : List zJ) : Prop where
  each : ∀ e ∈ P, e.may = true ∧ livesR l e = true
  sort : SortY P
  once : (P.map (·.s)).Nodup
def RowsOK (l : List zJ) : Prop := vO l l
theorem vO.nil (l : List zJ) : vO l [] := ⟨(fun e he => by cases he), .nil, .nil⟩
theorem vO.of_take {l P : List zJ} (h : vO l P) (i : Nat) : vO l (P.take i) := by
  refine ⟨fun e he => h.each e (List.mem_of_mem_take he), List.Pairwise.sublist (List.take_sublist _ _) h.sort, ?_⟩
  rw [List.map_take]
  exact List.Pairwise.sublist (List.take_sublist _ _) h.once
theorem vO.last {l P : List zJ} {e : zJ} (h : vO l (P ++ [e])) : (e.may = true ∧ livesR l e = true) ∧ (∀ x ∈ P, x.y < e.y) ∧ ∀ x ∈ P, x.s ≠ e.s := by
  refine ⟨h.each e (by simp), fun x hx => ?_, fun x hx => ?_⟩
  · exact (List.pairwise_append.1 h.sort).2.2 x hx e (by simp)
  · have h1 := h.once
    rw [List.map_append] at h1
    exact (List.pairwise_append.1 h1).2.2 x.s (List.mem_map.2 ⟨x, hx, rfl⟩) e.s (by simp)
theorem vO.snoc {l P : List zJ} {e : zJ} (h : vO l P) (hm : e.may = true) (hl : livesR l e = true) (hy : ∀ x, P.getLast? = some x → x.y < e.y) (hs : ∀ x ∈ P, x.s ≠ e.s) : vO l (P ++ [e]) := by
  refine ⟨fun d hd => ?_, ?_, ?_⟩
  · rcases List.mem_append.1 hd with hd | hd
    · exact h.each d hd
    · rw [List.mem_singleton] at hd; subst hd; exact ⟨hm, hl⟩
  · refine List.pairwise_append.2 ⟨h.sort, by simp, fun a ha b hb => ?_⟩
    rw [List.mem_singleton] at hb
    subst hb
    cases hg : P.getLast? with
    | none => rw [List.getLast?_eq_none_iff] at hg; subst hg; cases ha
    | some z =>
      have hz := hy z hg
      obtain ⟨Q, rfl⟩ : ∃ Q, P = Q ++ [z] := List.getLast?_eq_some_iff.1 hg
      rcases List.mem_append.1 ha with ha | ha
      · have := (List.pairwise_append.1 h.sort).2.2 a ha z (by simp); omega
      · rw [List.mem_singleton] at ha; subst ha; exact hz
  · rw [List.map_append]
    refine List.pairwise_append.2 ⟨h.once, by simp, fun a ha b hb => ?_⟩
    obtain ⟨x, hx, rfl⟩ := List.mem_map.1 ha
    simp only [List.map_cons, List.map_nil, List.mem_singleton] at hb
    subst hb
    exact hs x hx
def rrO (l : List zJ) (i : Nat) : AS := { t := [(0, .p (.sl (l.map zJ.V))), (3, .p (.val (.int .i64 (i : Nat))))], s := [] }
def rrI (l : List zJ) (i k : Nat) : AS := { t := [(0, .p (.sl (l.map zJ.V))), (3, .p (.val (.int .i64 (i : Nat)))), (5, .p (.val (.int .i64 (k : Nat))))], s := [] }
theorem take_last {l : List zJ} {i : Nat} (h : i < l.length) : (l.take (i + 1)).getLast? = l[i]? := by
  rw [List.take_add_one, List.getElem?_eq_getElem h]
  exact List.getLast?_eq_some_iff.2 ⟨l.take i, rfl⟩
theorem rowsR_fn (l : List zJ) (hl : l.length ≤ 1000000) (hok : ∀ e ∈ l, e.ok) (r : Bool) (hr : r = true ↔ RowsOK l) : Fn Tryd.prog 15 [.sl (l.map zJ.V)] (.p (.val (.bool r))) := by
  have hc := yG l
  have hlen : (l.map zJ.V).length = l.length := by rw [List.length_map]
  have bad : ∀ {i : Nat} {e : zJ}, l[i]? = some e → ¬ vO l (l.take i ++ [e]) → r = false := fun {i e} he hn => Bool.eq_false_iff.2 fun h => hn (by
    have h1 := vO.of_take (hr.1 h) (i + 1)
    rw [List.take_add_one, he] at h1
    exact h1)
  refine wJ Tryd.func15 rfl Tryd.ntmps15 (Nat.le_of_ble_eq_true rfl) ?_
  repeat' (first | (refine zY.is ?_; first | refine zY.seq ?_ | (refine zY.isR (id := 0) ?_; refine zY.zQ [0] [] (by repeat' first | exact zZ.nil | apply zZ.p rfl) (by repeat' exact zW.nil) ?_; (refine zX.v rfl rfl (zK rfl rfl rfl (by decide)) ?_); refine zX.nil ?_) | (refine zY.isR (id := 1) ?_; refine zY.zQ [0, 2] [] (by repeat' first | exact zZ.nil | apply zZ.p rfl) (by repeat' exact zW.nil) ?_; (refine zX.v rfl rfl (zK rfl rfl rfl (by decide)) ?_); refine zX.nil ?_) | refine zY.block ?_) | refine zG.n ?_)
  refine zY.loop (rrO l) (fun i => i ≤ l.length ∧ vO l (l.take i)) (fun i => l.length - i) 0 ?h0 ⟨Nat.zero_le _, .nil l⟩ ?rd
  case h0 =>
    unfold rrO
    refine zD (is := [0, 3]) (js := []) ?_ ?_
    repeat' first | exact zZ.nil | apply zZ.p rfl | apply zZ.ptr rfl | apply zZ.own rfl | apply zZ.clo rfl | apply zZ.ifp rfl | apply zZ.pt rfl | apply zZ.tup rfl | apply zZ.skip
    repeat' first | exact zW.nil | apply zW.boxP rfl rfl | apply zW.zT rfl | apply zW.some rfl | apply zW.skip
  case rd =>
    rintro i ⟨hi, hx⟩
    have g3 : IntKind.i64.wrap (((i : Nat) : Int) + 1) = ((i + 1 : Nat) : Int) := by rw [wrap_i64 _ (by omega)]; omega
    unfold rrO
    by_cases hlt : i < l.length
    case pos =>
      have g1 : decide (((i : Nat) : Int) < (((l.map zJ.V).length : Nat) : Int)) = true := decide_eq_true (by rw [hlen]; omega)
      obtain ⟨e, he⟩ : ∃ e, l[i]? = some e := ⟨_, List.getElem?_eq_getElem hlt⟩
      have g2 : (l.map zJ.V)[i]? = some e.V := by rw [List.getElem?_map, he]; rfl
      have ho := hok e (List.mem_of_getElem? he)
      have m1 := mayRef_fn e.k e.s e.y e.u e.v e.x ho.y.1 ho.y.2
      have m1 : Fn Tryd.prog 25 [e.V] (.p (.val (.bool e.may))) := m1
      have l1 := livesR_fn l e hl ho
      have htake := he
      cases hm : e.may
      case false =>
        rw [hm] at m1
        have hr0 := bad he (fun h => by have := h.last.1.1; rw [hm] at this; cases this)
        subst hr0
        clear bad he
        obtain ⟨ek, es, ey, eu, ev, ex⟩ := e
        repeat' (first | (refine zY.is ?_; first | refine zY.seq ?_ | (refine zY.isR (id := 2) ?_; refine zY.zQ [0, 2, 3, 4, 5, 9, 45, 48, 61] [] (by repeat' first | exact zZ.nil | apply zZ.p rfl | apply zZ.skip) (by repeat' exact zW.nil) ?_; (refine zX.v rfl rfl (zV rfl rfl rfl (by decide)) ?_); (refine zX.v rfl rfl (zV rfl rfl rfl (by decide)) ?_); (refine zX.v rfl rfl (yD rfl rfl rfl (by decide)) ?_); (refine zX.v rfl rfl (by exact zS rfl rfl rfl (by exact g1) rfl (by decide)) ?_); refine zX.nil ?_) | (refine zY.isR (id := 4) ?_; refine zY.zQ [0, 2, 3, 4, 5, 9, 45, 48, 61] [] (by repeat' first | exact zZ.nil | apply zZ.p rfl | apply zZ.skip) (by repeat' exact zW.nil) ?_; (refine zX.v rfl rfl (zV rfl rfl rfl (by decide)) ?_); (refine zX.v rfl rfl (zV rfl rfl rfl (by decide)) ?_); (refine zX.v rfl rfl (by exact zN rfl rfl rfl (by exact hc) (by exact g2) rfl (by decide)) ?_); (refine zX.v rfl rfl (by exact xQ rfl rfl (by exact Nat.le_of_ble_eq_true rfl) rfl (by decide)) ?_); (refine zX.v rfl rfl (by exact yY (m1) rfl rfl rfl (by decide)) ?_); (refine zX.v rfl rfl (zK rfl rfl rfl (by decide)) ?_); refine zX.nil ?_) | (refine zY.isR (id := 5) ?_; refine zY.yH [0, 2, 3, 4, 5, 9, 45, 48, 61] [] (by repeat' first | exact zZ.nil | apply zZ.p rfl | apply zZ.skip) (by repeat' exact zW.nil) (zY.draws ?_); all_goals (refine Draws.v rfl rfl (zV rfl rfl rfl (by decide)) ?_); all_goals (refine Draws.v rfl rfl (by exact xV rfl rfl (by exact bT (by decide)) rfl (by decide)) ?_); all_goals (refine Draws.v rfl rfl (zV rfl rfl rfl (by decide)) ?_); all_goals (refine Draws.gNF rfl rfl (by decide) rfl (by with_reducible rfl) rfl (by decide) ?_); all_goals (refine Draws.gNF rfl rfl (by decide) rfl (by with_reducible rfl) rfl (by decide) ?_); all_goals (refine Draws.gNF rfl rfl (by decide) rfl (by with_reducible rfl) rfl (by decide) ?_); all_goals (refine Draws.gNF rfl rfl (by decide) rfl (by with_reducible rfl) rfl (by decide) ?_); all_goals (refine Draws.gNF rfl rfl (by decide) rfl (by with_reducible rfl) rfl (by decide) ?_); all_goals (refine Draws.gNF rfl rfl (by decide) rfl (by with_reducible rfl) rfl (by decide) ?_); all_goals (refine Draws.gNF rfl rfl (by decide) rfl (by with_reducible rfl) rfl (by decide) ?_); all_goals (refine Draws.v rfl rfl (by exact zP rfl rfl (by with_reducible rfl) rfl rfl (by decide)) ?_); all_goals (refine Draws.v rfl rfl (zV rfl rfl rfl (by decide)) ?_); all_goals (refine Draws.gNF rfl rfl (by decide) rfl (by with_reducible rfl) rfl (by decide) ?_); all_goals (refine Draws.gNF rfl rfl (by decide) rfl (by with_reducible rfl) rfl (by decide) ?_); all_goals (refine Draws.gNF rfl rfl (by decide) rfl (by with_reducible rfl) rfl (by decide) ?_); all_goals (refine Draws.gU rfl rfl (by decide) (by rfl) rfl (by decide) ?_); all_goals (refine Draws.gU rfl rfl (by decide) (by rfl) rfl (by decide) ?_); all_goals (refine Draws.gU rfl rfl (by decide) (by rfl) rfl (by decide) ?_); all_goals (refine Draws.gU rfl rfl (by decide) (by rfl) rfl (by decide) ?_); all_goals (refine Draws.gU rfl rfl (by decide) (by rfl) rfl (by decide) ?_); all_goals (refine Draws.gU rfl rfl (by decide) (by rfl) rfl (by decide) ?_); all_goals (refine Draws.gU rfl rfl (by decide) (by rfl) rfl (by decide) ?_); all_goals (refine Draws.gU rfl rfl (by decide) (by rfl) rfl (by decide) ?_); all_goals (refine Draws.gU rfl rfl (by decide) (by rfl) rfl (by decide) ?_); all_goals (refine Draws.gU rfl rfl (by decide) (by rfl) rfl (by decide) ?_); all_goals (refine Draws.gU rfl rfl (by decide) (by rfl) rfl (by decide) ?_); all_goals (refine Draws.gU rfl rfl (by decide) (by rfl) rfl (by decide) ?_); all_goals (refine Draws.gNF rfl rfl (by decide) rfl (by with_reducible rfl) rfl (by decide) ?_); all_goals (refine Draws.v rfl rfl (by exact zP rfl rfl (by with_reducible rfl) rfl rfl (by decide)) ?_); all_goals ((refine Draws.done (by kernel_rfl) (by kernel_rfl) (by kernel_rfl) ?_; refine zM.nil ?_))) | (refine zY.isR (id := 6) ?_; refine zY.zQ [0, 2, 3, 4, 5, 9, 45, 48, 61] [] (by repeat' first | exact zZ.nil | apply zZ.p rfl | apply zZ.skip) (by repeat' exact zW.nil) ?_; (refine zX.v rfl rfl (zK rfl rfl rfl (by decide)) ?_); refine zX.nil ?_) | refine zY.yJ rfl (by first | assumption | with_reducible rfl) ?_ | refine zY.skip ?_ | refine zY.block ?_ | refine zY.ret ?_) | refine zG.n ?_ | refine zG.r ?_ | refine zR.r ?_)
        all_goals exact ⟨.inl rfl, gives1 rfl rfl rfl⟩
      case true =>
        rw [hm] at m1
        cases hv : livesR l e
        case false =>
          rw [hv] at l1
          have hr0 := bad he (fun h => by have := h.last.1.2; rw [hv] at this; cases this)
          subst hr0
          clear bad he
          obtain ⟨ek, es, ey, eu, ev, ex⟩ := e
          repeat' (first | (refine zY.is ?_; first | refine zY.seq ?_ | (refine zY.isR (id := 2) ?_; refine zY.zQ [0, 2, 3, 4, 5, 9, 45, 48, 61] [] (by repeat' first | exact zZ.nil | apply zZ.p rfl | apply zZ.skip) (by repeat' exact zW.nil) ?_; (refine zX.v rfl rfl (zV rfl rfl rfl (by decide)) ?_); (refine zX.v rfl rfl (zV rfl rfl rfl (by decide)) ?_); (refine zX.v rfl rfl (yD rfl rfl rfl (by decide)) ?_); (refine zX.v rfl rfl (by exact zS rfl rfl rfl (by exact g1) rfl (by decide)) ?_); refine zX.nil ?_) | (refine zY.isR (id := 4) ?_; refine zY.zQ [0, 2, 3, 4, 5, 9, 45, 48, 61] [] (by repeat' first | exact zZ.nil | apply zZ.p rfl | apply zZ.skip) (by repeat' exact zW.nil) ?_; (refine zX.v rfl rfl (zV rfl rfl rfl (by decide)) ?_); (refine zX.v rfl rfl (zV rfl rfl rfl (by decide)) ?_); (refine zX.v rfl rfl (by exact zN rfl rfl rfl (by exact hc) (by exact g2) rfl (by decide)) ?_); (refine zX.v rfl rfl (by exact xQ rfl rfl (by exact Nat.le_of_ble_eq_true rfl) rfl (by decide)) ?_); (refine zX.v rfl rfl (by exact yY (m1) rfl rfl rfl (by decide)) ?_); (refine zX.v rfl rfl (zK rfl rfl rfl (by decide)) ?_); refine zX.nil ?_) | (refine zY.isR (id := 5) ?_; refine zY.yH [0, 2, 3, 4, 5, 9, 45, 48, 61] [] (by repeat' first | exact zZ.nil | apply zZ.p rfl | apply zZ.skip) (by repeat' exact zW.nil) (zY.draws ?_); all_goals (refine Draws.v rfl rfl (zV rfl rfl rfl (by decide)) ?_); all_goals (refine Draws.v rfl rfl (by exact xV rfl rfl (by exact bF (by decide)) rfl (by decide)) ?_); all_goals (refine Draws.v rfl rfl (zV rfl rfl rfl (by decide)) ?_); all_goals (refine Draws.gY rfl rfl (by decide) rfl (by with_reducible rfl) rfl (zV rfl rfl rfl (by decide)) ?_); all_goals (refine Draws.gY rfl rfl (by decide) rfl (by with_reducible rfl) rfl (zV rfl rfl rfl (by decide)) ?_); all_goals (refine Draws.gY rfl rfl (by decide) rfl (by with_reducible rfl) rfl (zV rfl rfl rfl (by decide)) ?_); all_goals (refine Draws.gY rfl rfl (by decide) rfl (by with_reducible rfl) rfl (by exact zN rfl rfl rfl (by exact hc) (by exact g2) rfl (by decide)) ?_); all_goals (refine Draws.gY rfl rfl (by decide) rfl (by with_reducible rfl) rfl (by exact xQ rfl rfl (by exact Nat.le_of_ble_eq_true rfl) rfl (by decide)) ?_); all_goals (refine Draws.gY rfl rfl (by decide) rfl (by with_reducible rfl) rfl (by exact yY (l1) rfl rfl rfl (by decide)) ?_); all_goals (refine Draws.gY rfl rfl (by decide) rfl (by with_reducible rfl) rfl (by exact xV rfl rfl (by exact bT (by decide)) rfl (by decide)) ?_); all_goals (refine Draws.v rfl rfl (by exact zI rfl rfl (by with_reducible rfl) rfl rfl (by decide)) ?_); all_goals (refine Draws.v rfl rfl (zV rfl rfl rfl (by decide)) ?_); all_goals (refine Draws.gNF rfl rfl (by decide) rfl (by with_reducible rfl) rfl (by decide) ?_); all_goals (refine Draws.gNF rfl rfl (by decide) rfl (by with_reducible rfl) rfl (by decide) ?_); all_goals (refine Draws.gNF rfl rfl (by decide) rfl (by with_reducible rfl) rfl (by decide) ?_); all_goals (refine Draws.gU rfl rfl (by decide) (by rfl) rfl (by decide) ?_); all_goals (refine Draws.gU rfl rfl (by decide) (by rfl) rfl (by decide) ?_); all_goals (refine Draws.gU rfl rfl (by decide) (by rfl) rfl (by decide) ?_); all_goals (refine Draws.gU rfl rfl (by decide) (by rfl) rfl (by decide) ?_); all_goals (refine Draws.gU rfl rfl (by decide) (by rfl) rfl (by decide) ?_); all_goals (refine Draws.gU rfl rfl (by decide) (by rfl) rfl (by decide) ?_); all_goals (refine Draws.gU rfl rfl (by decide) (by rfl) rfl (by decide) ?_); all_goals (refine Draws.gU rfl rfl (by decide) (by rfl) rfl (by decide) ?_); all_goals (refine Draws.gU rfl rfl (by decide) (by rfl) rfl (by decide) ?_); all_goals (refine Draws.gU rfl rfl (by decide) (by rfl) rfl (by decide) ?_); all_goals (refine Draws.gU rfl rfl (by decide) (by rfl) rfl (by decide) ?_); all_goals (refine Draws.gU rfl rfl (by decide) (by rfl) rfl (by decide) ?_); all_goals (refine Draws.gNF rfl rfl (by decide) rfl (by with_reducible rfl) rfl (by decide) ?_); all_goals (refine Draws.v rfl rfl (by exact zP rfl rfl (by with_reducible rfl) rfl rfl (by decide)) ?_); all_goals ((refine Draws.done (by kernel_rfl) (by kernel_rfl) (by kernel_rfl) ?_; refine zM.nil ?_))) | (refine zY.isR (id := 6) ?_; refine zY.zQ [0, 2, 3, 4, 5, 9, 45, 48, 61] [] (by repeat' first | exact zZ.nil | apply zZ.p rfl | apply zZ.skip) (by repeat' exact zW.nil) ?_; (refine zX.v rfl rfl (zK rfl rfl rfl (by decide)) ?_); refine zX.nil ?_) | refine zY.yJ rfl (by first | assumption | with_reducible rfl) ?_ | refine zY.skip ?_ | refine zY.block ?_ | refine zY.ret ?_) | refine zG.n ?_ | refine zG.r ?_ | refine zR.r ?_)
          all_goals exact ⟨.inl rfl, gives1 rfl rfl rfl⟩
        case true =>
          rw [hv] at l1
          have step : ∀ (hy : ∀ x, (l.take i).getLast? = some x → x.y < e.y) (hs : ∀ x ∈ l.take i, x.s ≠ e.s), vO l (l.take (i + 1)) := fun hy hs => by
            rw [List.take_add_one, he]
            exact hx.snoc hm hv hy hs
          have inner : ∀ (hy : ∀ x, (l.take i).getLast? = some x → x.y < e.y) (K : Exit → AS → Prop), True := fun _ _ => trivial
          by_cases hi0 : i = 0
          case pos =>
            subst hi0
            have k0 : decide (((0 : Nat) : Int) > 0) = false := rfl
            have k1 : decide (((0 : Nat) : Int) < ((0 : Nat) : Int)) = false := rfl
            have hnext := step (fun x hx => by simp at hx) (fun x hx => by simp at hx)
            clear bad he step inner
            obtain ⟨ek, es, ey, eu, ev, ex⟩ := e
            repeat' (first | (refine zY.is ?_; first | refine zY.seq ?_ | (refine zY.isR (id := 2) ?_; refine zY.zQ [0, 2, 3, 4, 5, 9, 45, 48, 61] [] (by repeat' first | exact zZ.nil | apply zZ.p rfl | apply zZ.skip) (by repeat' exact zW.nil) ?_; (refine zX.v rfl rfl (zV rfl rfl rfl (by decide)) ?_); (refine zX.v rfl rfl (zV rfl rfl rfl (by decide)) ?_); (refine zX.v rfl rfl (yD rfl rfl rfl (by decide)) ?_); (refine zX.v rfl rfl (by exact zS rfl rfl rfl (by exact g1) rfl (by decide)) ?_); refine zX.nil ?_) | (refine zY.isR (id := 4) ?_; refine zY.zQ [0, 2, 3, 4, 5, 9, 45, 48, 61] [] (by repeat' first | exact zZ.nil | apply zZ.p rfl | apply zZ.skip) (by repeat' exact zW.nil) ?_; (refine zX.v rfl rfl (zV rfl rfl rfl (by decide)) ?_); (refine zX.v rfl rfl (zV rfl rfl rfl (by decide)) ?_); (refine zX.v rfl rfl (by exact zN rfl rfl rfl (by exact hc) (by exact g2) rfl (by decide)) ?_); (refine zX.v rfl rfl (by exact xQ rfl rfl (by exact Nat.le_of_ble_eq_true rfl) rfl (by decide)) ?_); (refine zX.v rfl rfl (by exact yY (m1) rfl rfl rfl (by decide)) ?_); (refine zX.v rfl rfl (zK rfl rfl rfl (by decide)) ?_); refine zX.nil ?_) | (refine zY.isR (id := 5) ?_; refine zY.yH [0, 2, 3, 4, 5, 9, 45, 48, 61] [] (by repeat' first | exact zZ.nil | apply zZ.p rfl | apply zZ.skip) (by repeat' exact zW.nil) (zY.draws ?_); all_goals (refine Draws.v rfl rfl (zV rfl rfl rfl (by decide)) ?_); all_goals (refine Draws.v rfl rfl (by exact xV rfl rfl (by exact k0) rfl (by decide)) ?_); all_goals (refine Draws.v rfl rfl (zV rfl rfl rfl (by decide)) ?_); all_goals (refine Draws.gY rfl rfl (by decide) rfl (by assumption) rfl (zV rfl rfl rfl (by decide)) ?_); all_goals (refine Draws.gY rfl rfl (by decide) rfl (by assumption) rfl (zV rfl rfl rfl (by decide)) ?_); all_goals (refine Draws.gY rfl rfl (by decide) rfl (by assumption) rfl (zV rfl rfl rfl (by decide)) ?_); all_goals (refine Draws.gY rfl rfl (by decide) rfl (by assumption) rfl (by exact zN rfl rfl rfl (by exact hc) (by exact g2) rfl (by decide)) ?_); all_goals (refine Draws.gY rfl rfl (by decide) rfl (by assumption) rfl (by exact xQ rfl rfl (by exact Nat.le_of_ble_eq_true rfl) rfl (by decide)) ?_); all_goals (refine Draws.gY rfl rfl (by decide) rfl (by assumption) rfl (by exact yY (l1) rfl rfl rfl (by decide)) ?_); all_goals (refine Draws.gY rfl rfl (by decide) rfl (by assumption) rfl (by exact xV rfl rfl (by exact k0) rfl (by decide)) ?_); all_goals (refine Draws.v rfl rfl (by exact zI rfl rfl (by assumption) rfl rfl (by decide)) ?_); all_goals (refine Draws.v rfl rfl (zV rfl rfl rfl (by decide)) ?_); all_goals (refine Draws.gY rfl rfl (by decide) rfl (by assumption) rfl (zV rfl rfl rfl (by decide)) ?_); all_goals (refine Draws.gY rfl rfl (by decide) rfl (by assumption) rfl (by exact wC rfl rfl rfl (by exact k0) rfl (by decide)) ?_); all_goals (refine Draws.gY rfl rfl (by decide) rfl (by assumption) rfl (zV rfl rfl rfl (by decide)) ?_); all_goals (refine Draws.gNT rfl rfl (by decide) rfl (by assumption) rfl (by decide) ?_); all_goals (refine Draws.gNT rfl rfl (by decide) rfl (by assumption) rfl (by decide) ?_); all_goals (refine Draws.gNT rfl rfl (by decide) rfl (by assumption) rfl (by decide) ?_); all_goals (refine Draws.gNT rfl rfl (by decide) rfl (by assumption) rfl (by decide) ?_); all_goals (refine Draws.gNT rfl rfl (by decide) rfl (by assumption) rfl (by decide) ?_); all_goals (refine Draws.gNT rfl rfl (by decide) rfl (by assumption) rfl (by decide) ?_); all_goals (refine Draws.gNT rfl rfl (by decide) rfl (by assumption) rfl (by decide) ?_); all_goals (refine Draws.gNT rfl rfl (by decide) rfl (by assumption) rfl (by decide) ?_); all_goals (refine Draws.gNT rfl rfl (by decide) rfl (by assumption) rfl (by decide) ?_); all_goals (refine Draws.gNT rfl rfl (by decide) rfl (by assumption) rfl (by decide) ?_); all_goals (refine Draws.gNT rfl rfl (by decide) rfl (by assumption) rfl (by decide) ?_); all_goals (refine Draws.gNT rfl rfl (by decide) rfl (by assumption) rfl (by decide) ?_); all_goals (refine Draws.gY rfl rfl (by decide) rfl (by assumption) rfl (by exact zI rfl rfl (by assumption) rfl rfl (by decide)) ?_); all_goals (refine Draws.v rfl rfl (by exact zI rfl rfl (by assumption) rfl rfl (by decide)) ?_); all_goals ((refine Draws.done (by kernel_rfl) (by kernel_rfl) (by kernel_rfl) ?_; refine zM.nil ?_))) | (refine zY.isR (id := 7) ?_; refine zY.zQ [0, 2, 3, 4, 5, 9, 45, 48, 61] [] (by repeat' first | exact zZ.nil | apply zZ.p rfl | apply zZ.skip) (by repeat' exact zW.nil) ?_; (refine zX.v rfl rfl (zK rfl rfl rfl (by decide)) ?_); refine zX.nil ?_) | refine zY.yJ rfl (by first | assumption | with_reducible rfl) ?_ | refine zY.yA rfl (by assumption) ?_ | refine zY.skip ?_ | refine zY.block ?_) | refine zG.n ?_)
            refine zY.loop (rrI l 0) (fun k => k = 0) (fun k => 0) 0 ?i0 rfl ?ir
            case i0 =>
              unfold rrI
              refine zD (is := [0, 3, 5]) (js := []) ?_ ?_
              repeat' first | exact zZ.nil | apply zZ.p rfl | apply zZ.ptr rfl | apply zZ.own rfl | apply zZ.clo rfl | apply zZ.ifp rfl | apply zZ.pt rfl | apply zZ.tup rfl | apply zZ.skip
              repeat' first | exact zW.nil | apply zW.boxP rfl rfl | apply zW.zT rfl | apply zW.some rfl | apply zW.skip
            case ir =>
              rintro k rfl
              unfold rrI
              repeat' (first | (refine zY.is ?_; first | refine zY.seq ?_ | (refine zY.isR (id := 8) ?_; refine zY.zQ [0, 2, 3, 4, 5, 9, 45, 48, 61] [] (by repeat' first | exact zZ.nil | apply zZ.p rfl | apply zZ.skip) (by repeat' exact zW.nil) ?_; (refine zX.v rfl rfl (zV rfl rfl rfl (by decide)) ?_); (refine zX.v rfl rfl (zV rfl rfl rfl (by decide)) ?_); (refine zX.v rfl rfl (by exact zS rfl rfl rfl (by exact k1) rfl (by decide)) ?_); refine zX.nil ?_) | (refine zY.isR (id := 3) ?_; refine zY.zQ [0, 2, 3, 4, 5, 9, 45, 48, 61] [] (by repeat' first | exact zZ.nil | apply zZ.p rfl | apply zZ.skip) (by repeat' exact zW.nil) ?_; (refine zX.v rfl rfl (zV rfl rfl rfl (by decide)) ?_); (refine zX.v rfl rfl (by exact yE rfl rfl rfl (by exact g3) rfl (by decide)) ?_); (refine zX.v rfl rfl (zK rfl rfl rfl (by decide)) ?_); refine zX.nil ?_) | refine zY.yA rfl (by assumption) ?_ | refine zY.exit ?_) | refine zG.n ?_ | refine zR.n ?_ | refine zR.eY ?_ | refine zG.e ?_)
              all_goals
                refine ⟨0 + 1, ?_, ⟨hlt, hnext⟩, by omega⟩
                try unfold rrO
                refine zD (is := [0, 3]) (js := []) ?_ ?_
                repeat' first | exact zZ.nil | apply zZ.p rfl | apply zZ.ptr rfl | apply zZ.own rfl | apply zZ.clo rfl | apply zZ.ifp rfl | apply zZ.pt rfl | apply zZ.tup rfl | apply zZ.skip
                repeat' first | exact zW.nil | apply zW.boxP rfl rfl | apply zW.zT rfl | apply zW.some rfl | apply zW.skip
          case neg =>
            have k0 : decide (((i : Nat) : Int) > 0) = true := decide_eq_true (by omega)
            obtain ⟨p, hp⟩ : ∃ p, l[i - 1]? = some p := ⟨_, List.getElem?_eq_getElem (by omega)⟩
            have k2 : (l.map zJ.V)[i - 1]? = some p.V := by rw [List.getElem?_map, hp]; rfl
            have k3 : IntKind.i64.wrap (((i : Nat) : Int) - 1) = ((i - 1 : Nat) : Int) := by rw [wrap_i64 _ (by omega)]; omega
            have hlast : (l.take i).getLast? = some p := by
              have := take_last (l := l) (i := i - 1) (by omega)
              rw [show i - 1 + 1 = i by omega, hp] at this
              exact this
            cases hyp : decide (e.y ≤ p.y)
            case true =>
              have hr0 := bad he (fun h => by
                have := h.last.2.1 p (List.mem_of_getLast? hlast)
                have h2 := of_decide_eq_true hyp
                omega)
              subst hr0
              clear bad he step inner hp hlast
              obtain ⟨ek, es, ey, eu, ev, ex⟩ := e
              obtain ⟨pk, ps, py, pu, pv, px⟩ := p
              repeat' (first | (refine zY.is ?_; first | refine zY.seq ?_ | (refine zY.isR (id := 2) ?_; refine zY.zQ [0, 2, 3, 4, 5, 9, 45, 48, 61] [] (by repeat' first | exact zZ.nil | apply zZ.p rfl | apply zZ.skip) (by repeat' exact zW.nil) ?_; (refine zX.v rfl rfl (zV rfl rfl rfl (by decide)) ?_); (refine zX.v rfl rfl (zV rfl rfl rfl (by decide)) ?_); (refine zX.v rfl rfl (yD rfl rfl rfl (by decide)) ?_); (refine zX.v rfl rfl (by exact zS rfl rfl rfl (by exact g1) rfl (by decide)) ?_); refine zX.nil ?_) | (refine zY.isR (id := 4) ?_; refine zY.zQ [0, 2, 3, 4, 5, 9, 45, 48, 61] [] (by repeat' first | exact zZ.nil | apply zZ.p rfl | apply zZ.skip) (by repeat' exact zW.nil) ?_; (refine zX.v rfl rfl (zV rfl rfl rfl (by decide)) ?_); (refine zX.v rfl rfl (zV rfl rfl rfl (by decide)) ?_); (refine zX.v rfl rfl (by exact zN rfl rfl rfl (by exact hc) (by exact g2) rfl (by decide)) ?_); (refine zX.v rfl rfl (by exact xQ rfl rfl (by exact Nat.le_of_ble_eq_true rfl) rfl (by decide)) ?_); (refine zX.v rfl rfl (by exact yY (m1) rfl rfl rfl (by decide)) ?_); (refine zX.v rfl rfl (zK rfl rfl rfl (by decide)) ?_); refine zX.nil ?_) | (refine zY.isR (id := 5) ?_; refine zY.yH [0, 2, 3, 4, 5, 9, 45, 48, 61] [] (by repeat' first | exact zZ.nil | apply zZ.p rfl | apply zZ.skip) (by repeat' exact zW.nil) (zY.draws ?_); all_goals (refine Draws.v rfl rfl (zV rfl rfl rfl (by decide)) ?_); all_goals (refine Draws.v rfl rfl (by exact xV rfl rfl (by exact bF (by decide)) rfl (by decide)) ?_); all_goals (refine Draws.v rfl rfl (zV rfl rfl rfl (by decide)) ?_); all_goals (refine Draws.gY rfl rfl (by decide) rfl (by with_reducible rfl) rfl (zV rfl rfl rfl (by decide)) ?_); all_goals (refine Draws.gY rfl rfl (by decide) rfl (by with_reducible rfl) rfl (zV rfl rfl rfl (by decide)) ?_); all_goals (refine Draws.gY rfl rfl (by decide) rfl (by with_reducible rfl) rfl (zV rfl rfl rfl (by decide)) ?_); all_goals (refine Draws.gY rfl rfl (by decide) rfl (by with_reducible rfl) rfl (by exact zN rfl rfl rfl (by exact hc) (by exact g2) rfl (by decide)) ?_); all_goals (refine Draws.gY rfl rfl (by decide) rfl (by with_reducible rfl) rfl (by exact xQ rfl rfl (by exact Nat.le_of_ble_eq_true rfl) rfl (by decide)) ?_); all_goals (refine Draws.gY rfl rfl (by decide) rfl (by with_reducible rfl) rfl (by exact yY (l1) rfl rfl rfl (by decide)) ?_); all_goals (refine Draws.gY rfl rfl (by decide) rfl (by with_reducible rfl) rfl (by exact xV rfl rfl (by exact bF (by decide)) rfl (by decide)) ?_); all_goals (refine Draws.v rfl rfl (by exact zI rfl rfl (by with_reducible rfl) rfl rfl (by decide)) ?_); all_goals (refine Draws.v rfl rfl (zV rfl rfl rfl (by decide)) ?_); all_goals (refine Draws.gY rfl rfl (by decide) rfl (by with_reducible rfl) rfl (zV rfl rfl rfl (by decide)) ?_); all_goals (refine Draws.gY rfl rfl (by decide) rfl (by with_reducible rfl) rfl (by exact wC rfl rfl rfl (by exact k0) rfl (by decide)) ?_); all_goals (refine Draws.gY rfl rfl (by decide) rfl (by with_reducible rfl) rfl (zV rfl rfl rfl (by decide)) ?_); all_goals (refine Draws.gY rfl rfl (by decide) rfl (by with_reducible rfl) rfl (zV rfl rfl rfl (by decide)) ?_); all_goals (refine Draws.gY rfl rfl (by decide) rfl (by with_reducible rfl) rfl (zV rfl rfl rfl (by decide)) ?_); all_goals (refine Draws.gY rfl rfl (by decide) rfl (by with_reducible rfl) rfl (by exact zN rfl rfl rfl (by exact hc) (by exact g2) rfl (by decide)) ?_); all_goals (refine Draws.gY rfl rfl (by decide) rfl (by with_reducible rfl) rfl (yI rfl rfl rfl (by decide)) ?_); all_goals (refine Draws.gY rfl rfl (by decide) rfl (by with_reducible rfl) rfl (z8 rfl rfl rfl rfl (by decide)) ?_); all_goals (refine Draws.gY rfl rfl (by decide) rfl (by with_reducible rfl) rfl (zV rfl rfl rfl (by decide)) ?_); all_goals (refine Draws.gY rfl rfl (by decide) rfl (by with_reducible rfl) rfl (zV rfl rfl rfl (by decide)) ?_); all_goals (refine Draws.gY rfl rfl (by decide) rfl (by with_reducible rfl) rfl (by exact wY rfl rfl rfl (by exact k3) rfl (by decide)) ?_); all_goals (refine Draws.gY rfl rfl (by decide) rfl (by with_reducible rfl) rfl (by exact zN rfl rfl rfl (by exact hc) (by exact k2) rfl (by decide)) ?_); all_goals (refine Draws.gY rfl rfl (by decide) rfl (by with_reducible rfl) rfl (yI rfl rfl rfl (by decide)) ?_); all_goals (refine Draws.gY rfl rfl (by decide) rfl (by with_reducible rfl) rfl (z8 rfl rfl rfl rfl (by decide)) ?_); all_goals (refine Draws.gY rfl rfl (by decide) rfl (by with_reducible rfl) rfl (by exact r_leq rfl rfl rfl (by exact hyp) rfl (by decide)) ?_); all_goals (refine Draws.gY rfl rfl (by decide) rfl (by with_reducible rfl) rfl (by exact zP rfl rfl (by with_reducible rfl) rfl rfl (by decide)) ?_); all_goals (refine Draws.v rfl rfl (by exact zI rfl rfl (by with_reducible rfl) rfl rfl (by decide)) ?_); all_goals ((refine Draws.done (by kernel_rfl) (by kernel_rfl) (by kernel_rfl) ?_; refine zM.nil ?_))) | (refine zY.isR (id := 6) ?_; refine zY.zQ [0, 2, 3, 4, 5, 9, 45, 48, 61] [] (by repeat' first | exact zZ.nil | apply zZ.p rfl | apply zZ.skip) (by repeat' exact zW.nil) ?_; (refine zX.v rfl rfl (zK rfl rfl rfl (by decide)) ?_); refine zX.nil ?_) | refine zY.yJ rfl (by first | assumption | with_reducible rfl) ?_ | refine zY.skip ?_ | refine zY.block ?_ | refine zY.ret ?_) | refine zG.n ?_ | refine zG.r ?_ | refine zR.r ?_)
              all_goals exact ⟨.inl rfl, gives1 rfl rfl rfl⟩
            case false =>
              have step2 := step (fun x hx => by rw [hlast] at hx; cases hx; have := of_decide_eq_false hyp; omega)
              clear step inner hp hlast
              obtain ⟨ek, es, ey, eu, ev, ex⟩ := e
              obtain ⟨pk, ps, py, pu, pv, px⟩ := p
              repeat' (first | (refine zY.is ?_; first | refine zY.seq ?_ | (refine zY.isR (id := 2) ?_; refine zY.zQ [0, 2, 3, 4, 5, 9, 45, 48, 61] [] (by repeat' first | exact zZ.nil | apply zZ.p rfl | apply zZ.skip) (by repeat' exact zW.nil) ?_; (refine zX.v rfl rfl (zV rfl rfl rfl (by decide)) ?_); (refine zX.v rfl rfl (zV rfl rfl rfl (by decide)) ?_); (refine zX.v rfl rfl (yD rfl rfl rfl (by decide)) ?_); (refine zX.v rfl rfl (by exact zS rfl rfl rfl (by exact g1) rfl (by decide)) ?_); refine zX.nil ?_) | (refine zY.isR (id := 4) ?_; refine zY.zQ [0, 2, 3, 4, 5, 9, 45, 48, 61] [] (by repeat' first | exact zZ.nil | apply zZ.p rfl | apply zZ.skip) (by repeat' exact zW.nil) ?_; (refine zX.v rfl rfl (zV rfl rfl rfl (by decide)) ?_); (refine zX.v rfl rfl (zV rfl rfl rfl (by decide)) ?_); (refine zX.v rfl rfl (by exact zN rfl rfl rfl (by exact hc) (by exact g2) rfl (by decide)) ?_); (refine zX.v rfl rfl (by exact xQ rfl rfl (by exact Nat.le_of_ble_eq_true rfl) rfl (by decide)) ?_); (refine zX.v rfl rfl (by exact yY (m1) rfl rfl rfl (by decide)) ?_); (refine zX.v rfl rfl (zK rfl rfl rfl (by decide)) ?_); refine zX.nil ?_) | (refine zY.isR (id := 5) ?_; refine zY.yH [0, 2, 3, 4, 5, 9, 45, 48, 61] [] (by repeat' first | exact zZ.nil | apply zZ.p rfl | apply zZ.skip) (by repeat' exact zW.nil) (zY.draws ?_); all_goals (refine Draws.v rfl rfl (zV rfl rfl rfl (by decide)) ?_); all_goals (refine Draws.v rfl rfl (by exact xV rfl rfl (by exact bF (by decide)) rfl (by decide)) ?_); all_goals (refine Draws.v rfl rfl (zV rfl rfl rfl (by decide)) ?_); all_goals (refine Draws.gY rfl rfl (by decide) rfl (by with_reducible rfl) rfl (zV rfl rfl rfl (by decide)) ?_); all_goals (refine Draws.gY rfl rfl (by decide) rfl (by with_reducible rfl) rfl (zV rfl rfl rfl (by decide)) ?_); all_goals (refine Draws.gY rfl rfl (by decide) rfl (by with_reducible rfl) rfl (zV rfl rfl rfl (by decide)) ?_); all_goals (refine Draws.gY rfl rfl (by decide) rfl (by with_reducible rfl) rfl (by exact zN rfl rfl rfl (by exact hc) (by exact g2) rfl (by decide)) ?_); all_goals (refine Draws.gY rfl rfl (by decide) rfl (by with_reducible rfl) rfl (by exact xQ rfl rfl (by exact Nat.le_of_ble_eq_true rfl) rfl (by decide)) ?_); all_goals (refine Draws.gY rfl rfl (by decide) rfl (by with_reducible rfl) rfl (by exact yY (l1) rfl rfl rfl (by decide)) ?_); all_goals (refine Draws.gY rfl rfl (by decide) rfl (by with_reducible rfl) rfl (by exact xV rfl rfl (by exact bF (by decide)) rfl (by decide)) ?_); all_goals (refine Draws.v rfl rfl (by exact zI rfl rfl (by with_reducible rfl) rfl rfl (by decide)) ?_); all_goals (refine Draws.v rfl rfl (zV rfl rfl rfl (by decide)) ?_); all_goals (refine Draws.gY rfl rfl (by decide) rfl (by with_reducible rfl) rfl (zV rfl rfl rfl (by decide)) ?_); all_goals (refine Draws.gY rfl rfl (by decide) rfl (by with_reducible rfl) rfl (by exact wC rfl rfl rfl (by exact k0) rfl (by decide)) ?_); all_goals (refine Draws.gY rfl rfl (by decide) rfl (by with_reducible rfl) rfl (zV rfl rfl rfl (by decide)) ?_); all_goals (refine Draws.gY rfl rfl (by decide) rfl (by with_reducible rfl) rfl (zV rfl rfl rfl (by decide)) ?_); all_goals (refine Draws.gY rfl rfl (by decide) rfl (by with_reducible rfl) rfl (zV rfl rfl rfl (by decide)) ?_); all_goals (refine Draws.gY rfl rfl (by decide) rfl (by with_reducible rfl) rfl (by exact zN rfl rfl rfl (by exact hc) (by exact g2) rfl (by decide)) ?_); all_goals (refine Draws.gY rfl rfl (by decide) rfl (by with_reducible rfl) rfl (yI rfl rfl rfl (by decide)) ?_); all_goals (refine Draws.gY rfl rfl (by decide) rfl (by with_reducible rfl) rfl (z8 rfl rfl rfl rfl (by decide)) ?_); all_goals (refine Draws.gY rfl rfl (by decide) rfl (by with_reducible rfl) rfl (zV rfl rfl rfl (by decide)) ?_); all_goals (refine Draws.gY rfl rfl (by decide) rfl (by with_reducible rfl) rfl (zV rfl rfl rfl (by decide)) ?_); all_goals (refine Draws.gY rfl rfl (by decide) rfl (by with_reducible rfl) rfl (by exact wY rfl rfl rfl (by exact k3) rfl (by decide)) ?_); all_goals (refine Draws.gY rfl rfl (by decide) rfl (by with_reducible rfl) rfl (by exact zN rfl rfl rfl (by exact hc) (by exact k2) rfl (by decide)) ?_); all_goals (refine Draws.gY rfl rfl (by decide) rfl (by with_reducible rfl) rfl (yI rfl rfl rfl (by decide)) ?_); all_goals (refine Draws.gY rfl rfl (by decide) rfl (by with_reducible rfl) rfl (z8 rfl rfl rfl rfl (by decide)) ?_); all_goals (refine Draws.gY rfl rfl (by decide) rfl (by with_reducible rfl) rfl (by exact r_leq rfl rfl rfl (by exact hyp) rfl (by decide)) ?_); all_goals (refine Draws.gY rfl rfl (by decide) rfl (by with_reducible rfl) rfl (by exact zP rfl rfl (by with_reducible rfl) rfl rfl (by decide)) ?_); all_goals (refine Draws.v rfl rfl (by exact zI rfl rfl (by with_reducible rfl) rfl rfl (by decide)) ?_); all_goals ((refine Draws.done (by kernel_rfl) (by kernel_rfl) (by kernel_rfl) ?_; refine zM.nil ?_))) | (refine zY.isR (id := 7) ?_; refine zY.zQ [0, 2, 3, 4, 5, 9, 45, 48, 61] [] (by repeat' first | exact zZ.nil | apply zZ.p rfl | apply zZ.skip) (by repeat' exact zW.nil) ?_; (refine zX.v rfl rfl (zK rfl rfl rfl (by decide)) ?_); refine zX.nil ?_) | refine zY.yJ rfl (by first | assumption | with_reducible rfl) ?_ | refine zY.yA rfl (by first | assumption | with_reducible rfl) ?_ | refine zY.skip ?_ | refine zY.block ?_) | refine zG.n ?_)
              refine zY.loop (rrI l i) (fun k => k ≤ i ∧ ∀ x ∈ l.take k, x.s ≠ es) (fun k => i - k) 0 ?j0 ⟨Nat.zero_le _, fun x hx => by simp at hx⟩ ?jr
              case j0 =>
                unfold rrI
                refine zD (is := [0, 3, 5]) (js := []) ?_ ?_
                repeat' first | exact zZ.nil | apply zZ.p rfl | apply zZ.ptr rfl | apply zZ.own rfl | apply zZ.clo rfl | apply zZ.ifp rfl | apply zZ.pt rfl | apply zZ.tup rfl | apply zZ.skip
                repeat' first | exact zW.nil | apply zW.boxP rfl rfl | apply zW.zT rfl | apply zW.some rfl | apply zW.skip
              case jr =>
                rintro k ⟨hk, hks⟩
                have n3 : IntKind.i64.wrap (((k : Nat) : Int) + 1) = ((k + 1 : Nat) : Int) := by rw [wrap_i64 _ (by omega)]; omega
                unfold rrI
                by_cases hki : k < i
                case pos =>
                  have n1 : decide (((k : Nat) : Int) < ((i : Nat) : Int)) = true := decide_eq_true (by omega)
                  obtain ⟨x, hxk⟩ : ∃ x, l[k]? = some x := ⟨_, List.getElem?_eq_getElem (by omega)⟩
                  have n2 : (l.map zJ.V)[k]? = some x.V := by rw [List.getElem?_map, hxk]; rfl
                  cases hss : decide (x.s = es)
                  case true =>
                    have hr0 := bad he (fun h => h.last.2.2 x (by
                      refine List.mem_of_getElem? (i := k) ?_
                      rw [List.getElem?_take, if_pos hki]
                      exact hxk) (of_decide_eq_true hss))
                    subst hr0
                    clear bad he step2 hxk
                    obtain ⟨xk, xs, xy, xu, xv, xx⟩ := x
                    repeat' (first | (refine zY.is ?_; first | refine zY.seq ?_ | (refine zY.isR (id := 8) ?_; refine zY.zQ [0, 2, 3, 4, 5, 9, 45, 48, 61] [] (by repeat' first | exact zZ.nil | apply zZ.p rfl | apply zZ.skip) (by repeat' exact zW.nil) ?_; (refine zX.v rfl rfl (zV rfl rfl rfl (by decide)) ?_); (refine zX.v rfl rfl (zV rfl rfl rfl (by decide)) ?_); (refine zX.v rfl rfl (by exact zS rfl rfl rfl (by exact n1) rfl (by decide)) ?_); refine zX.nil ?_) | (refine zY.isR (id := 10) ?_; refine zY.yH [0, 2, 3, 4, 5, 9, 45, 48, 61] [] (by repeat' first | exact zZ.nil | apply zZ.p rfl | apply zZ.skip) (by repeat' exact zW.nil) (zY.draws ?_); all_goals (refine Draws.v rfl rfl (zV rfl rfl rfl (by decide)) ?_); all_goals (refine Draws.v rfl rfl (zV rfl rfl rfl (by decide)) ?_); all_goals (refine Draws.v rfl rfl (by exact zN rfl rfl rfl (by exact hc) (by exact n2) rfl (by decide)) ?_); all_goals (refine Draws.v rfl rfl (yI rfl rfl rfl (by decide)) ?_); all_goals (refine Draws.v rfl rfl (z8 rfl rfl rfl rfl (by decide)) ?_); all_goals (refine Draws.v rfl rfl (zV rfl rfl rfl (by decide)) ?_); all_goals (refine Draws.v rfl rfl (zV rfl rfl rfl (by decide)) ?_); all_goals (refine Draws.v rfl rfl (by exact zN rfl rfl rfl (by exact hc) (by exact g2) rfl (by decide)) ?_); all_goals (refine Draws.v rfl rfl (yI rfl rfl rfl (by decide)) ?_); all_goals (refine Draws.v rfl rfl (z8 rfl rfl rfl rfl (by decide)) ?_); all_goals (refine Draws.v rfl rfl (by exact yM rfl rfl rfl (by exact hss) rfl (by decide)) ?_); all_goals ((refine Draws.done (by kernel_rfl) (by kernel_rfl) (by kernel_rfl) ?_; refine zM.nil ?_))) | (refine zY.isR (id := 11) ?_; refine zY.zQ [0, 2, 3, 4, 5, 9, 45, 48, 61] [] (by repeat' first | exact zZ.nil | apply zZ.p rfl | apply zZ.skip) (by repeat' exact zW.nil) ?_; (refine zX.v rfl rfl (zK rfl rfl rfl (by decide)) ?_); refine zX.nil ?_) | refine zY.yJ rfl (by first | assumption | with_reducible rfl) ?_ | refine zY.skip ?_ | refine zY.block ?_ | refine zY.ret ?_) | refine zG.n ?_ | refine zG.r ?_ | refine zR.r ?_)
                    all_goals exact ⟨.inl rfl, gives1 rfl rfl rfl⟩
                  case false =>
                    have hks' : ∀ z ∈ l.take (k + 1), z.s ≠ es := fun z hz => by
                      rw [List.take_add_one, hxk] at hz
                      rcases List.mem_append.1 hz with hz | hz
                      · exact hks z hz
                      · simp at hz; subst hz; exact of_decide_eq_false hss
                    clear bad he step2 hxk hks
                    obtain ⟨xk, xs, xy, xu, xv, xx⟩ := x
                    repeat' (first | (refine zY.is ?_; first | refine zY.seq ?_ | (refine zY.isR (id := 8) ?_; refine zY.zQ [0, 2, 3, 4, 5, 9, 45, 48, 61] [] (by repeat' first | exact zZ.nil | apply zZ.p rfl | apply zZ.skip) (by repeat' exact zW.nil) ?_; (refine zX.v rfl rfl (zV rfl rfl rfl (by decide)) ?_); (refine zX.v rfl rfl (zV rfl rfl rfl (by decide)) ?_); (refine zX.v rfl rfl (by exact zS rfl rfl rfl (by exact n1) rfl (by decide)) ?_); refine zX.nil ?_) | (refine zY.isR (id := 10) ?_; refine zY.yH [0, 2, 3, 4, 5, 9, 45, 48, 61] [] (by repeat' first | exact zZ.nil | apply zZ.p rfl | apply zZ.skip) (by repeat' exact zW.nil) (zY.draws ?_); all_goals (refine Draws.v rfl rfl (zV rfl rfl rfl (by decide)) ?_); all_goals (refine Draws.v rfl rfl (zV rfl rfl rfl (by decide)) ?_); all_goals (refine Draws.v rfl rfl (by exact zN rfl rfl rfl (by exact hc) (by exact n2) rfl (by decide)) ?_); all_goals (refine Draws.v rfl rfl (yI rfl rfl rfl (by decide)) ?_); all_goals (refine Draws.v rfl rfl (z8 rfl rfl rfl rfl (by decide)) ?_); all_goals (refine Draws.v rfl rfl (zV rfl rfl rfl (by decide)) ?_); all_goals (refine Draws.v rfl rfl (zV rfl rfl rfl (by decide)) ?_); all_goals (refine Draws.v rfl rfl (by exact zN rfl rfl rfl (by exact hc) (by exact g2) rfl (by decide)) ?_); all_goals (refine Draws.v rfl rfl (yI rfl rfl rfl (by decide)) ?_); all_goals (refine Draws.v rfl rfl (z8 rfl rfl rfl rfl (by decide)) ?_); all_goals (refine Draws.v rfl rfl (by exact yM rfl rfl rfl (by exact hss) rfl (by decide)) ?_); all_goals ((refine Draws.done (by kernel_rfl) (by kernel_rfl) (by kernel_rfl) ?_; refine zM.nil ?_))) | (refine zY.isR (id := 9) ?_; refine zY.zQ [0, 2, 3, 4, 5, 9, 45, 48, 61] [] (by repeat' first | exact zZ.nil | apply zZ.p rfl | apply zZ.skip) (by repeat' exact zW.nil) ?_; (refine zX.v rfl rfl (zV rfl rfl rfl (by decide)) ?_); (refine zX.v rfl rfl (by exact yE rfl rfl rfl (by exact n3) rfl (by decide)) ?_); (refine zX.v rfl rfl (zK rfl rfl rfl (by decide)) ?_); refine zX.nil ?_) | refine zY.yJ rfl (by first | assumption | with_reducible rfl) ?_ | refine zY.yA rfl (by first | assumption | with_reducible rfl) ?_ | refine zY.skip ?_ | refine zY.block ?_) | refine zG.n ?_ | refine zR.n ?_)
                    all_goals
                      refine ⟨k + 1, ?_, ⟨hki, hks'⟩, by omega⟩
                      try unfold rrI
                      refine zD (is := [0, 3, 5]) (js := []) ?_ ?_
                      repeat' first | exact zZ.nil | apply zZ.p rfl | apply zZ.ptr rfl | apply zZ.own rfl | apply zZ.clo rfl | apply zZ.ifp rfl | apply zZ.pt rfl | apply zZ.tup rfl | apply zZ.skip
                      repeat' first | exact zW.nil | apply zW.boxP rfl rfl | apply zW.zT rfl | apply zW.some rfl | apply zW.skip
                case neg =>
                  have hki : k = i := by omega
                  subst hki
                  have n1 : decide (((k : Nat) : Int) < ((k : Nat) : Int)) = false := decide_eq_false (by omega)
                  have hnext := step2 hks
                  clear bad he step2 hks
                  repeat' (first | (refine zY.is ?_; first | refine zY.seq ?_ | (refine zY.isR (id := 8) ?_; refine zY.zQ [0, 2, 3, 4, 5, 9, 45, 48, 61] [] (by repeat' first | exact zZ.nil | apply zZ.p rfl | apply zZ.skip) (by repeat' exact zW.nil) ?_; (refine zX.v rfl rfl (zV rfl rfl rfl (by decide)) ?_); (refine zX.v rfl rfl (zV rfl rfl rfl (by decide)) ?_); (refine zX.v rfl rfl (by exact zS rfl rfl rfl (by exact n1) rfl (by decide)) ?_); refine zX.nil ?_) | (refine zY.isR (id := 3) ?_; refine zY.zQ [0, 2, 3, 4, 5, 9, 45, 48, 61] [] (by repeat' first | exact zZ.nil | apply zZ.p rfl | apply zZ.skip) (by repeat' exact zW.nil) ?_; (refine zX.v rfl rfl (zV rfl rfl rfl (by decide)) ?_); (refine zX.v rfl rfl (by exact yE rfl rfl rfl (by exact g3) rfl (by decide)) ?_); (refine zX.v rfl rfl (zK rfl rfl rfl (by decide)) ?_); refine zX.nil ?_) | refine zY.yA rfl (by first | assumption | with_reducible rfl) ?_ | refine zY.exit ?_) | refine zG.n ?_ | refine zR.n ?_ | refine zR.eY ?_ | refine zG.e ?_)
                  all_goals
                    refine ⟨k + 1, ?_, ⟨hlt, hnext⟩, by omega⟩
                    try unfold rrO
                    refine zD (is := [0, 3]) (js := []) ?_ ?_
                    repeat' first | exact zZ.nil | apply zZ.p rfl | apply zZ.ptr rfl | apply zZ.own rfl | apply zZ.clo rfl | apply zZ.ifp rfl | apply zZ.pt rfl | apply zZ.tup rfl | apply zZ.skip
                    repeat' first | exact zW.nil | apply zW.boxP rfl rfl | apply zW.zT rfl | apply zW.some rfl | apply zW.skip
    case neg =>
      have hie : i = l.length := by omega
      subst hie
      have g1 : decide (((l.length : Nat) : Int) < (((l.map zJ.V).length : Nat) : Int)) = false := decide_eq_false (by rw [hlen]; omega)
      rw [List.take_length] at hx
      have hr1 : r = true := hr.2 hx
      subst hr1
      repeat' (first | (refine zY.is ?_; first | refine zY.seq ?_ | (refine zY.isR (id := 2) ?_; refine zY.zQ [0, 2, 3, 4, 5, 9, 45, 48, 61] [] (by repeat' first | exact zZ.nil | apply zZ.p rfl | apply zZ.skip) (by repeat' exact zW.nil) ?_; (refine zX.v rfl rfl (zV rfl rfl rfl (by decide)) ?_); (refine zX.v rfl rfl (zV rfl rfl rfl (by decide)) ?_); (refine zX.v rfl rfl (yD rfl rfl rfl (by decide)) ?_); (refine zX.v rfl rfl (by exact zS rfl rfl rfl (by exact g1) rfl (by decide)) ?_); refine zX.nil ?_) | (refine zY.isR (id := 12) ?_; refine zY.zQ [2] [] (by repeat' first | exact zZ.nil | apply zZ.skip) (by repeat' exact zW.nil) ?_; (refine zX.v rfl rfl (zK rfl rfl rfl (by decide)) ?_); refine zX.nil ?_) | refine zY.yA rfl (by first | assumption | with_reducible rfl) ?_ | refine zY.exit ?_ | refine zY.ret ?_) | refine zG.n ?_ | refine zR.eY ?_ | refine zG.e ?_)
      all_goals exact ⟨.inl rfl, gives1 rfl rfl rfl⟩
end Go.Proofs.YtomlhekjgagjaaaDoor
/- Rows laid anew twice: plain. -/
namespace Go.Proofs.YtomlhekjgagjaaaDoor
set_option maxRecDepth 100000
set_option maxHeartbeats 16000000
open Go Go.RowKit
set_option linter.unusedSimpArgs false
set_option linter.unusedVariables false
theorem anewL_len (L : List zJ) : (wN L).length = L.length := by unfold wN; rw [List.length_map]
theorem anew_arcs (L : List zJ) : (wN L).map arcOf = L.map arcOf := by
  unfold wN
  rw [List.map_map]
  exact List.map_congr_left fun e _ => rfl
/-- what stamps are laid -/
theorem stampsF_get : ∀ (r : List zJ) (d : List (Int × Int)) (i : Nat) (j : Int), (∀ e ∈ r, e.s ≠ j) → dget (stampsF d i r) j = dget d j
  | [], d, i, j, _ => rfl
  | e :: r, d, i, j, h => by
    unfold stampsF
    rw [stampsF_get r _ (i + 1) j fun x hx => h x (by simp [hx]), dget_set, if_neg (h e (by simp))]
theorem stampsF_at : ∀ (r : List zJ) (d : List (Int × Int)) (i k : Nat) (e : zJ), (r.map (·.s)).Nodup → r[k]? = some e → dget (stampsF d i r) e.s = some ((i + k + 1 : Nat) : Int)
  | [], d, i, k, e, _, h => by simp at h
  | x :: r, d, i, 0, e, hn, h => by
    have : x = e := by simpa using h
    subst this
    unfold stampsF
    have hn' := List.nodup_cons.1 (show (x.s :: r.map (·.s)).Nodup from hn)
    rw [stampsF_get r _ (i + 1) x.s (fun y hy e => hn'.1 (by rw [← e]; exact List.mem_map.2 ⟨y, hy, rfl⟩)), dget_set, if_pos rfl]
  | x :: r, d, i, k + 1, e, hn, h => by
    unfold stampsF
    have hn' := List.nodup_cons.1 (show (x.s :: r.map (·.s)).Nodup from hn)
    rw [stampsF_at r _ (i + 1) k e hn'.2 (by simpa using h)]
    congr 2
    omega
theorem stampsL_at {L : List zJ} (hn : (L.map (·.s)).Nodup) {k : Nat} {e : zJ} (h : L[k]? = some e) : wW (xE L) e.s = ((k + 1 : Nat) : Int) := by
  unfold wW xE
  rw [stampsF_at L [] 0 k e hn h]
  show ((0 + k + 1 : Nat) : Int) = _
  omega
theorem stampsL_none {L : List zJ} {j : Int} (h : ∀ e ∈ L, e.s ≠ j) : wW (xE L) j = 0 := by
  unfold wW xE
  rw [stampsF_get L [] 0 j h]
  rfl
/-- a stamp's new one: a place, or none -/
theorem newOf_any {L : List zJ} (hn : (L.map (·.s)).Nodup) (j : Int) : wW (xE L) j = 0 ∨ ∃ (k : Nat) (e : zJ), L[k]? = some e ∧ e.s = j ∧ wW (xE L) j = ((k + 1 : Nat) : Int) := by
  by_cases h : ∃ e ∈ L, e.s = j
  · obtain ⟨e, he, rfl⟩ := h
    obtain ⟨k, hk, rfl⟩ := List.mem_iff_getElem.1 he
    exact .inr ⟨k, _, List.getElem?_eq_getElem hk, rfl, stampsL_at hn (List.getElem?_eq_getElem hk)⟩
  · exact .inl (stampsL_none fun e he e2 => h ⟨e, he, e2⟩)
theorem anewL_at {L : List zJ} (hn : (L.map (·.s)).Nodup) {k : Nat} {e : zJ} (h : L[k]? = some e) : (wN L)[k]? = some ⟨e.k, ((k + 1 : Nat) : Int), e.y, wW (xE L) e.u, wW (xE L) e.v, e.x⟩ := by
  unfold wN
  rw [List.getElem?_map, h]
  show some (anewE (xE L) e) = _
  unfold anewE
  rw [stampsL_at hn h]
theorem anewL_s {L : List zJ} (hn : (L.map (·.s)).Nodup) {k : Nat} {e : zJ} (h : (wN L)[k]? = some e) : e.s = ((k + 1 : Nat) : Int) := by
  have hlt : k < L.length := by rw [← anewL_len]; exact (List.getElem?_eq_some_iff.1 h).1
  rw [anewL_at hn (List.getElem?_eq_getElem hlt)] at h
  rw [← Option.some.inj h]
theorem anewL_nodup {L : List zJ} (hn : (L.map (·.s)).Nodup) : ((wN L).map (·.s)).Nodup := by
  refine List.pairwise_iff_getElem.2 fun i j hi hj hij => ?_
  rw [List.getElem_map, List.getElem_map]
  have h1 := anewL_s hn (List.getElem?_eq_getElem (l := wN L) (i := i) (by simpa using hi))
  have h2 := anewL_s hn (List.getElem?_eq_getElem (l := wN L) (i := j) (by simpa using hj))
  rw [h1, h2]
  omega
theorem anew_twice {L : List zJ} (hn : (L.map (·.s)).Nodup) : wN (wN L) = wN L := by
  have hn2 := anewL_nodup hn
  have key : ∀ j, wW (xE (wN L)) (wW (xE L) j) = wW (xE L) j := fun j => by
    rcases newOf_any hn j with h | ⟨k, e, hk, rfl, h⟩
    · rw [h]
      refine stampsL_none fun e he e2 => ?_
      obtain ⟨i, hi, rfl⟩ := List.mem_iff_getElem.1 he
      have := anewL_s hn (List.getElem?_eq_getElem hi)
      omega
    · have ha := anewL_at hn hk
      have := stampsL_at hn2 ha
      simp only at this
      rw [h]
      exact this
  refine List.ext_getElem? fun k => ?_
  by_cases hk : k < L.length
  · have h1 := anewL_at hn (List.getElem?_eq_getElem hk)
    have h2 := anewL_at hn2 h1
    simp only at h2
    rw [key, key] at h2
    rw [h2, h1]
  · rw [List.getElem?_eq_none (by rw [anewL_len, anewL_len]; omega), List.getElem?_eq_none (by rw [anewL_len]; omega)]
end Go.Proofs.YtomlhekjgagjaaaDoor
/- The document's answer: Few and Same; contracts. -/
namespace Go.Proofs.YtomlhekjgagjaaaDoor
set_option maxRecDepth 100000
set_option maxHeartbeats 16000000
open Go Go.RowKit
set_option linter.unusedSimpArgs false
set_option linter.unusedVariables false
attribute [local irreducible] zX zY Step zB Sub zM yZ Fn
def strsW (ss : List (List Int)) : PV := .sl (ss.map fun s => .sl (byts s))
def fewL (ss : List (List Int)) : Bool := decide (ss.length ≤ 8) && decide (total ss ≤ 3000)
def fwS (ss : List (List Int)) (i : Nat) : AS := { t := [(0, .p (strsW ss)), (3, .p (.val (.int .i64 (total (ss.take i) : Nat)))), (4, .p (.val (.int .i64 (i : Nat))))], s := [] }
def smS (A B : List zJ) (i : Nat) : AS := { t := [(0, .p (.sl (A.map zJ.V))), (1, .p (.sl (B.map zJ.V))), (5, .p (.val (.int .i64 (i : Nat))))], s := [] }
theorem same_fn (A B : List zJ) (hA : A.length ≤ 1000000) (hB : B.length ≤ 1000000) (r : Bool) (hr : r = true ↔ A = B) : Fn Tryd.prog 14 [.sl (A.map zJ.V), .sl (B.map zJ.V)] (.p (.val (.bool r))) := by
  have hlA : (A.map zJ.V).length = A.length := by rw [List.length_map]
  have hlB : (B.map zJ.V).length = B.length := by rw [List.length_map]
  have hcA := yG A
  have hcB := yG B
  refine wJ Tryd.func14 rfl Tryd.ntmps14 (Nat.le_of_ble_eq_true rfl) ?_
  by_cases hl : A.length = B.length
  case neg =>
    have c1 : (!decide ((((A.map zJ.V).length : Nat) : Int) = (((B.map zJ.V).length : Nat) : Int))) = true := by rw [decide_eq_false (by rw [hlA, hlB]; omega)]; rfl
    have hr' : r = false := Bool.eq_false_iff.2 fun h => hl (by rw [hr.1 h])
    subst hr'
    repeat' (first | (refine zY.is ?_; first | refine zY.seq ?_ | (refine zY.isR (id := 0) ?_; refine zY.zQ [0, 1] [] (by repeat' first | exact zZ.nil | apply zZ.p rfl) (by repeat' exact zW.nil) ?_; (refine zX.v rfl rfl (zK rfl rfl rfl (by decide)) ?_); refine zX.nil ?_) | (refine zY.isR (id := 1) ?_; refine zY.zQ [0, 1, 4] [] (by repeat' first | exact zZ.nil | apply zZ.p rfl) (by repeat' exact zW.nil) ?_; (refine zX.v rfl rfl (zV rfl rfl rfl (by decide)) ?_); (refine zX.v rfl rfl (yD rfl rfl rfl (by decide)) ?_); (refine zX.v rfl rfl (zV rfl rfl rfl (by decide)) ?_); (refine zX.v rfl rfl (yD rfl rfl rfl (by decide)) ?_); (refine zX.v rfl rfl (by exact wG rfl rfl rfl (by exact c1) rfl (by decide)) ?_); refine zX.nil ?_) | (refine zY.isR (id := 2) ?_; refine zY.zQ [0, 1, 4] [] (by repeat' first | exact zZ.nil | apply zZ.p rfl) (by repeat' exact zW.nil) ?_; (refine zX.v rfl rfl (zK rfl rfl rfl (by decide)) ?_); refine zX.nil ?_) | refine zY.yJ rfl (by first | assumption | with_reducible rfl) ?_ | refine zY.ret ?_) | refine zG.r ?_)
    all_goals exact ⟨.inl rfl, gives1 rfl rfl rfl⟩
  case pos =>
    have c1 : (!decide ((((A.map zJ.V).length : Nat) : Int) = (((B.map zJ.V).length : Nat) : Int))) = false := by rw [decide_eq_true (by rw [hlA, hlB]; omega)]; rfl
    repeat' ((refine zY.is ?_; first | refine zY.seq ?_ | (refine zY.isR (id := 0) ?_; refine zY.zQ [0, 1] [] (by repeat' first | exact zZ.nil | apply zZ.p rfl) (by repeat' exact zW.nil) ?_; (refine zX.v rfl rfl (zK rfl rfl rfl (by decide)) ?_); refine zX.nil ?_) | (refine zY.isR (id := 1) ?_; refine zY.zQ [0, 1, 4] [] (by repeat' first | exact zZ.nil | apply zZ.p rfl) (by repeat' exact zW.nil) ?_; (refine zX.v rfl rfl (zV rfl rfl rfl (by decide)) ?_); (refine zX.v rfl rfl (yD rfl rfl rfl (by decide)) ?_); (refine zX.v rfl rfl (zV rfl rfl rfl (by decide)) ?_); (refine zX.v rfl rfl (yD rfl rfl rfl (by decide)) ?_); (refine zX.v rfl rfl (by exact wG rfl rfl rfl (by exact c1) rfl (by decide)) ?_); refine zX.nil ?_) | (refine zY.isR (id := 3) ?_; refine zY.zQ [0, 1, 4] [] (by repeat' first | exact zZ.nil | apply zZ.p rfl) (by repeat' exact zW.nil) ?_; (refine zX.v rfl rfl (zK rfl rfl rfl (by decide)) ?_); refine zX.nil ?_) | refine zY.yA rfl (by first | assumption | with_reducible rfl) ?_ | refine zY.skip ?_ | refine zY.block ?_))
    refine zY.loop (smS A B) (fun i => i ≤ A.length ∧ A.take i = B.take i) (fun i => A.length - i) 0 ?h0 ⟨Nat.zero_le _, rfl⟩ ?rd
    case h0 =>
      unfold smS
      refine zD (is := [0, 1, 5]) (js := []) ?_ ?_
      repeat' first | exact zZ.nil | apply zZ.p rfl | apply zZ.ptr rfl | apply zZ.own rfl | apply zZ.clo rfl | apply zZ.ifp rfl | apply zZ.pt rfl | apply zZ.tup rfl | apply zZ.skip
      repeat' first | exact zW.nil | apply zW.boxP rfl rfl | apply zW.zT rfl | apply zW.some rfl | apply zW.skip
    case rd =>
      intro i ⟨hi, htk⟩
      have g3 : IntKind.i64.wrap (((i : Nat) : Int) + 1) = ((i + 1 : Nat) : Int) := by rw [wrap_i64 _ (by omega)]; omega
      unfold smS
      by_cases hlt : i < A.length
      case pos =>
        have g1 : decide (((i : Nat) : Int) < (((A.map zJ.V).length : Nat) : Int)) = true := decide_eq_true (by rw [hlA]; omega)
        obtain ⟨a, ha⟩ : ∃ a, A[i]? = some a := ⟨_, List.getElem?_eq_getElem hlt⟩
        obtain ⟨b, hb⟩ : ∃ b, B[i]? = some b := ⟨_, List.getElem?_eq_getElem (by omega)⟩
        have g2 : (A.map zJ.V)[i]? = some a.V := by rw [List.getElem?_map, ha]; rfl
        have g4 : (B.map zJ.V)[i]? = some b.V := by rw [List.getElem?_map, hb]; rfl
        obtain ⟨ak, as', ay, au, av, ax⟩ := a
        obtain ⟨bk', bs, by', bu, bv, bx⟩ := b
        by_cases hab : (⟨ak, as', ay, au, av, ax⟩ : zJ) = ⟨bk', bs, by', bu, bv, bx⟩
        case pos =>
          have htk' : A.take (i + 1) = B.take (i + 1) := by rw [List.take_add_one, List.take_add_one, ha, hb, htk, hab]
          clear ha hb
          cases hab
          have c7 : (!decide ([(IntKind.i64, ak), (IntKind.u64, as'), (IntKind.u64, ay), (IntKind.u64, au), (IntKind.u64, av), (IntKind.u64, ax)] = [(IntKind.i64, ak), (IntKind.u64, as'), (IntKind.u64, ay), (IntKind.u64, au), (IntKind.u64, av), (IntKind.u64, ax)])) = false := by rw [decide_eq_true rfl]; rfl
          repeat' (first | (refine zY.is ?_; first | refine zY.seq ?_ | (refine zY.isR (id := 4) ?_; refine zY.zQ [0, 1, 4, 5, 14, 25] [] (by repeat' first | exact zZ.nil | apply zZ.p rfl | apply zZ.skip) (by repeat' exact zW.nil) ?_; (refine zX.v rfl rfl (zV rfl rfl rfl (by decide)) ?_); (refine zX.v rfl rfl (zV rfl rfl rfl (by decide)) ?_); (refine zX.v rfl rfl (yD rfl rfl rfl (by decide)) ?_); (refine zX.v rfl rfl (by exact zS rfl rfl rfl (by exact g1) rfl (by decide)) ?_); refine zX.nil ?_) | (refine zY.isR (id := 6) ?_; refine zY.yH [0, 1, 4, 5, 14, 25] [] (by repeat' first | exact zZ.nil | apply zZ.p rfl | apply zZ.skip) (by repeat' exact zW.nil) (zY.draws ?_); all_goals (refine Draws.v rfl rfl (zV rfl rfl rfl (by decide)) ?_); all_goals (refine Draws.v rfl rfl (zV rfl rfl rfl (by decide)) ?_); all_goals (refine Draws.v rfl rfl (by exact zN rfl rfl rfl (by exact hcA) (by exact g2) rfl (by decide)) ?_); all_goals (refine Draws.v rfl rfl (by exact xQ rfl rfl (by exact Nat.le_of_ble_eq_true rfl) rfl (by decide)) ?_); all_goals (refine Draws.v rfl rfl (zV rfl rfl rfl (by decide)) ?_); all_goals (refine Draws.v rfl rfl (zV rfl rfl rfl (by decide)) ?_); all_goals (refine Draws.v rfl rfl (by exact zN rfl rfl rfl (by exact hcB) (by exact g4) rfl (by decide)) ?_); all_goals (refine Draws.v rfl rfl (by exact xQ rfl rfl (by exact Nat.le_of_ble_eq_true rfl) rfl (by decide)) ?_); all_goals (refine Draws.v rfl rfl (by exact r_neqT rfl rfl rfl rfl rfl rfl (by rfl) (by exact c7) rfl (by decide)) ?_); all_goals ((refine Draws.done (by kernel_rfl) (by kernel_rfl) (by kernel_rfl) ?_; refine zM.nil ?_))) | (refine zY.isR (id := 5) ?_; refine zY.zQ [0, 1, 4, 5, 14, 25] [] (by repeat' first | exact zZ.nil | apply zZ.p rfl | apply zZ.skip) (by repeat' exact zW.nil) ?_; (refine zX.v rfl rfl (zV rfl rfl rfl (by decide)) ?_); (refine zX.v rfl rfl (by exact yE rfl rfl rfl (by exact g3) rfl (by decide)) ?_); (refine zX.v rfl rfl (zK rfl rfl rfl (by decide)) ?_); refine zX.nil ?_) | refine zY.yJ rfl (by first | assumption | with_reducible rfl) ?_ | refine zY.yA rfl (by first | assumption | with_reducible rfl) ?_ | refine zY.skip ?_ | refine zY.block ?_) | refine zG.n ?_)
          all_goals
            refine ⟨i + 1, ?_, ⟨hlt, htk'⟩, by omega⟩
            try unfold smS
            refine zD (is := [0, 1, 5]) (js := []) ?_ ?_
            repeat' first | exact zZ.nil | apply zZ.p rfl | apply zZ.ptr rfl | apply zZ.own rfl | apply zZ.clo rfl | apply zZ.ifp rfl | apply zZ.pt rfl | apply zZ.tup rfl | apply zZ.skip
            repeat' first | exact zW.nil | apply zW.boxP rfl rfl | apply zW.zT rfl | apply zW.some rfl | apply zW.skip
        case neg =>
          have c7 : (!decide ([(IntKind.i64, ak), (IntKind.u64, as'), (IntKind.u64, ay), (IntKind.u64, au), (IntKind.u64, av), (IntKind.u64, ax)] = [(IntKind.i64, bk'), (IntKind.u64, bs), (IntKind.u64, by'), (IntKind.u64, bu), (IntKind.u64, bv), (IntKind.u64, bx)])) = true := by
            rw [decide_eq_false (fun h => hab (by simp only [List.cons.injEq, Prod.mk.injEq, true_and, and_true] at h; simp only [zJ.mk.injEq]; exact h))]; rfl
          have hr' : r = false := Bool.eq_false_iff.2 fun h => hab (by
            have e := hr.1 h
            subst e
            rw [ha] at hb
            exact Option.some.inj hb)
          subst hr'
          repeat' (first | (refine zY.is ?_; first | refine zY.seq ?_ | (refine zY.isR (id := 4) ?_; refine zY.zQ [0, 1, 4, 5, 14, 25] [] (by repeat' first | exact zZ.nil | apply zZ.p rfl | apply zZ.skip) (by repeat' exact zW.nil) ?_; (refine zX.v rfl rfl (zV rfl rfl rfl (by decide)) ?_); (refine zX.v rfl rfl (zV rfl rfl rfl (by decide)) ?_); (refine zX.v rfl rfl (yD rfl rfl rfl (by decide)) ?_); (refine zX.v rfl rfl (by exact zS rfl rfl rfl (by exact g1) rfl (by decide)) ?_); refine zX.nil ?_) | (refine zY.isR (id := 6) ?_; refine zY.yH [0, 1, 4, 5, 14, 25] [] (by repeat' first | exact zZ.nil | apply zZ.p rfl | apply zZ.skip) (by repeat' exact zW.nil) (zY.draws ?_); all_goals (refine Draws.v rfl rfl (zV rfl rfl rfl (by decide)) ?_); all_goals (refine Draws.v rfl rfl (zV rfl rfl rfl (by decide)) ?_); all_goals (refine Draws.v rfl rfl (by exact zN rfl rfl rfl (by exact hcA) (by exact g2) rfl (by decide)) ?_); all_goals (refine Draws.v rfl rfl (by exact xQ rfl rfl (by exact Nat.le_of_ble_eq_true rfl) rfl (by decide)) ?_); all_goals (refine Draws.v rfl rfl (zV rfl rfl rfl (by decide)) ?_); all_goals (refine Draws.v rfl rfl (zV rfl rfl rfl (by decide)) ?_); all_goals (refine Draws.v rfl rfl (by exact zN rfl rfl rfl (by exact hcB) (by exact g4) rfl (by decide)) ?_); all_goals (refine Draws.v rfl rfl (by exact xQ rfl rfl (by exact Nat.le_of_ble_eq_true rfl) rfl (by decide)) ?_); all_goals (refine Draws.v rfl rfl (by exact r_neqT rfl rfl rfl rfl rfl rfl (by rfl) (by exact c7) rfl (by decide)) ?_); all_goals ((refine Draws.done (by kernel_rfl) (by kernel_rfl) (by kernel_rfl) ?_; refine zM.nil ?_))) | (refine zY.isR (id := 7) ?_; refine zY.zQ [0, 1, 4, 5, 14, 25] [] (by repeat' first | exact zZ.nil | apply zZ.p rfl | apply zZ.skip) (by repeat' exact zW.nil) ?_; (refine zX.v rfl rfl (zK rfl rfl rfl (by decide)) ?_); refine zX.nil ?_) | refine zY.yJ rfl (by first | assumption | with_reducible rfl) ?_ | refine zY.skip ?_ | refine zY.block ?_ | refine zY.ret ?_) | refine zG.r ?_ | refine zR.r ?_)
          all_goals exact ⟨.inl rfl, gives1 rfl rfl rfl⟩
      case neg =>
        have g1 : decide (((i : Nat) : Int) < (((A.map zJ.V).length : Nat) : Int)) = false := decide_eq_false (by rw [hlA]; omega)
        have hr' : r = true := hr.2 (by rw [List.take_of_length_le (by omega), List.take_of_length_le (by omega)] at htk; exact htk)
        subst hr'
        repeat' ((refine zY.is ?_; first | refine zY.seq ?_ | (refine zY.isR (id := 4) ?_; refine zY.zQ [0, 1, 4, 5, 14, 25] [] (by repeat' first | exact zZ.nil | apply zZ.p rfl | apply zZ.skip) (by repeat' exact zW.nil) ?_; (refine zX.v rfl rfl (zV rfl rfl rfl (by decide)) ?_); (refine zX.v rfl rfl (zV rfl rfl rfl (by decide)) ?_); (refine zX.v rfl rfl (yD rfl rfl rfl (by decide)) ?_); (refine zX.v rfl rfl (by exact zS rfl rfl rfl (by exact g1) rfl (by decide)) ?_); refine zX.nil ?_) | (refine zY.isR (id := 8) ?_; refine zY.zQ [4] [] (by repeat' first | exact zZ.nil | apply zZ.skip) (by repeat' exact zW.nil) ?_; (refine zX.v rfl rfl (zK rfl rfl rfl (by decide)) ?_); refine zX.nil ?_) | refine zY.yA rfl (by first | assumption | with_reducible rfl) ?_ | refine zY.exit ?_ | refine zY.ret ?_))
        all_goals exact ⟨.inl rfl, gives1 rfl rfl rfl⟩
end Go.Proofs.YtomlhekjgagjaaaDoor
/- MergeAgain: the law's function is true. -/
namespace Go.Proofs.YtomlhekjgagjaaaDoor
set_option maxRecDepth 100000
set_option maxHeartbeats 16000000
open Go Go.RowKit
set_option linter.unusedSimpArgs false
set_option linter.unusedVariables false
attribute [local irreducible] zX zY Step zB Sub zM yZ Fn zG zR
def maS (L A B : List zJ) (i : Nat) : AS := { t := [(0, .p (.sl (L.map zJ.V))), (3, .p (.val (.bool true))), (4, .p (.sl (A.map zJ.V))), (5, .p (.sl (B.map zJ.V))), (6, .p (.val (.int .i64 (i : Nat))))], s := [] }
theorem anewE_ok {d : List (Int × Int)} {e : zJ} (h : e.ok) (hd : ∀ j, U (wW d j)) : (anewE d e).ok := ⟨hd _, h.y, hd _, hd _, h.x⟩
theorem newOf_U (L : List zJ) (hn : (L.map (·.s)).Nodup) (hl : L.length ≤ 1000000) (j : Int) : U (wW (xE L) j) := by
  rcases newOf_any hn j with h | ⟨k, e, hk, _, h⟩
  · rw [h]
    exact ⟨by decide, by decide⟩
  · have := (List.getElem?_eq_some_iff.1 hk).1
    rw [h]
    exact ⟨by omega, by omega⟩
theorem anewL_ok {L : List zJ} (hn : (L.map (·.s)).Nodup) (hl : L.length ≤ 1000000) (hok : ∀ e ∈ L, e.ok) : ∀ e ∈ wN L, e.ok := fun e he => by
  obtain ⟨x, hx, rfl⟩ := List.mem_map.1 he
  exact anewE_ok (hok x hx) (newOf_U L hn hl)
theorem magain_fn (L : List zJ) (hok : ∀ e ∈ L, e.ok) (hmx : L.length ≤ maxLen) : Fn Tryd.prog 7 [.sl (L.map zJ.V)] (.p (.val (.bool true))) := by
  have sh := shown22_fn
  have hlL : (L.map zJ.V).length = L.length := by rw [List.length_map]
  refine wJ Tryd.func7 rfl Tryd.ntmps7 (Nat.le_of_ble_eq_true rfl) ?_
  by_cases h12 : L.length ≤ 12
  case neg =>
    have c1 : decide ((((L.map zJ.V).length : Nat) : Int) > 12) = true := decide_eq_true (by rw [hlL]; omega)
    repeat' (first | (refine zY.is ?_; first | refine zY.seq ?_ | (refine zY.isR (id := 0) ?_; refine zY.zQ [0] [] (by repeat' first | exact zZ.nil | apply zZ.p rfl) (by repeat' exact zW.nil) ?_; (refine zX.v rfl rfl (zK rfl rfl rfl (by decide)) ?_); refine zX.nil ?_) | (refine zY.isR (id := 1) ?_; refine zY.zQ [0, 2] [] (by repeat' first | exact zZ.nil | apply zZ.p rfl) (by repeat' exact zW.nil) ?_; (refine zX.v rfl rfl (by exact yY (sh) rfl rfl rfl (by decide)) ?_); (refine zX.v rfl rfl (zK rfl rfl rfl (by decide)) ?_); refine zX.nil ?_) | (refine zY.isR (id := 2) ?_; refine zY.zQ [0, 2, 3] [] (by repeat' first | exact zZ.nil | apply zZ.p rfl) (by repeat' exact zW.nil) ?_; all_goals (refine zX.v rfl rfl (zV rfl rfl rfl (by decide)) ?_); all_goals (refine zX.v rfl rfl (yD rfl rfl rfl (by decide)) ?_); all_goals (refine zX.v rfl rfl (by exact wC rfl rfl rfl (by exact c1) rfl (by decide)) ?_); all_goals (refine zX.v rfl rfl (zV rfl rfl rfl (by decide)) ?_); all_goals (refine zX.gnF rfl rfl (by decide) rfl (by with_reducible rfl) rfl (by decide) ?_); all_goals (refine zX.gnF rfl rfl (by decide) rfl (by with_reducible rfl) rfl (by decide) ?_); all_goals (refine zX.gnF rfl rfl (by decide) rfl (by with_reducible rfl) rfl (by decide) ?_); all_goals (refine zX.v rfl rfl (by exact zP rfl rfl (by with_reducible rfl) rfl rfl (by decide)) ?_); all_goals (refine zX.nil ?_)) | (refine zY.isR (id := 3) ?_; refine zY.zQ [0, 2, 3] [] (by repeat' first | exact zZ.nil | apply zZ.p rfl) (by repeat' exact zW.nil) ?_; (refine zX.v rfl rfl (zV rfl rfl rfl (by decide)) ?_); (refine zX.v rfl rfl (zK rfl rfl rfl (by decide)) ?_); refine zX.nil ?_) | refine zY.yJ rfl (by first | assumption | with_reducible rfl) ?_ | refine zY.ret ?_) | refine zG.n ?_ | refine zG.r ?_)
    all_goals exact ⟨.inl rfl, gives1 rfl rfl rfl⟩
  case pos =>
    have c1 : decide ((((L.map zJ.V).length : Nat) : Int) > 12) = false := decide_eq_false (by rw [hlL]; omega)
    by_cases hR : RowsOK L
    case neg =>
      have rw1 := rowsR_fn L (by omega) hok false (by simp [hR])
      repeat' (first | (refine zY.is ?_; first | refine zY.seq ?_ | (refine zY.isR (id := 0) ?_; refine zY.zQ [0] [] (by repeat' first | exact zZ.nil | apply zZ.p rfl) (by repeat' exact zW.nil) ?_; (refine zX.v rfl rfl (zK rfl rfl rfl (by decide)) ?_); refine zX.nil ?_) | (refine zY.isR (id := 1) ?_; refine zY.zQ [0, 2] [] (by repeat' first | exact zZ.nil | apply zZ.p rfl) (by repeat' exact zW.nil) ?_; (refine zX.v rfl rfl (by exact yY (sh) rfl rfl rfl (by decide)) ?_); (refine zX.v rfl rfl (zK rfl rfl rfl (by decide)) ?_); refine zX.nil ?_) | (refine zY.isR (id := 2) ?_; refine zY.zQ [0, 2, 3] [] (by repeat' first | exact zZ.nil | apply zZ.p rfl) (by repeat' exact zW.nil) ?_; all_goals (refine zX.v rfl rfl (zV rfl rfl rfl (by decide)) ?_); all_goals (refine zX.v rfl rfl (yD rfl rfl rfl (by decide)) ?_); all_goals (refine zX.v rfl rfl (by exact wC rfl rfl rfl (by exact c1) rfl (by decide)) ?_); all_goals (refine zX.v rfl rfl (zV rfl rfl rfl (by decide)) ?_); all_goals (refine zX.gY rfl rfl (by decide) rfl (by with_reducible rfl) rfl (by decide) (zV rfl rfl rfl (by decide)) ?_); all_goals (refine zX.gY rfl rfl (by decide) rfl (by with_reducible rfl) rfl (by decide) (by exact yY (rw1) rfl rfl rfl (by decide)) ?_); all_goals (refine zX.gY rfl rfl (by decide) rfl (by with_reducible rfl) rfl (by decide) (by exact xV rfl rfl (by exact bT (by decide)) rfl (by decide)) ?_); all_goals (refine zX.v rfl rfl (by exact zI rfl rfl (by with_reducible rfl) rfl rfl (by decide)) ?_); all_goals (refine zX.nil ?_)) | (refine zY.isR (id := 3) ?_; refine zY.zQ [0, 2, 3] [] (by repeat' first | exact zZ.nil | apply zZ.p rfl) (by repeat' exact zW.nil) ?_; (refine zX.v rfl rfl (zV rfl rfl rfl (by decide)) ?_); (refine zX.v rfl rfl (zK rfl rfl rfl (by decide)) ?_); refine zX.nil ?_) | refine zY.yJ rfl (by with_reducible rfl) ?_ | refine zY.ret ?_) | refine zG.n ?_ | refine zG.r ?_)
      all_goals exact ⟨.inl rfl, gives1 rfl rfl rfl⟩
    case pos =>
      have rw1 := rowsR_fn L (by omega) hok true (by simp [hR])
      have hn := hR.once
      have a1 := anew_fn L (by omega)
      have hAl := anewL_len L
      have a2 := anew_fn (wN L) (by omega)
      rw [anew_twice hn] at a2
      have hat : ∀ {k : Nat} {e : zJ}, L[k]? = some e → (wN L)[k]? = some ⟨e.k, ((k + 1 : Nat) : Int), e.y, wW (xE L) e.u, wW (xE L) e.v, e.x⟩ := fun h => anewL_at hn h
      have s1 := same_fn (wN L) (wN L) (by omega) (by omega) true (by simp)
      have g1 := arcs_fn (wN L) (by omega) (anewL_ok hn (by omega) hok)
      have g2 := arcs_fn L (by omega) hok
      rw [anew_arcs] at g1
      have s2 := sameArc_fn (L.map arcOf) (by rw [List.length_map]; omega)
      generalize wN L = A at *
      generalize L.map arcOf = G at *
      have hlA : (A.map zJ.V).length = A.length := by rw [List.length_map]
      have c2 : (!decide ((((A.map zJ.V).length : Nat) : Int) = (((L.map zJ.V).length : Nat) : Int))) = false := by rw [decide_eq_true (by rw [hlA, hlL, hAl])]; rfl
      have hcA := yG A
      have hcL := yG L
      clear hR hn
      repeat' (first | (refine zY.is ?_; first | refine zY.seq ?_ | (refine zY.isR (id := 0) ?_; refine zY.zQ [0] [] (by repeat' first | exact zZ.nil | apply zZ.p rfl) (by repeat' exact zW.nil) ?_; (refine zX.v rfl rfl (zK rfl rfl rfl (by decide)) ?_); refine zX.nil ?_) | (refine zY.isR (id := 1) ?_; refine zY.zQ [0, 2] [] (by repeat' first | exact zZ.nil | apply zZ.p rfl) (by repeat' exact zW.nil) ?_; (refine zX.v rfl rfl (by exact yY (sh) rfl rfl rfl (by decide)) ?_); (refine zX.v rfl rfl (zK rfl rfl rfl (by decide)) ?_); refine zX.nil ?_) | (refine zY.isR (id := 2) ?_; refine zY.zQ [0, 2, 3] [] (by repeat' first | exact zZ.nil | apply zZ.p rfl) (by repeat' exact zW.nil) ?_; all_goals (refine zX.v rfl rfl (zV rfl rfl rfl (by decide)) ?_); all_goals (refine zX.v rfl rfl (yD rfl rfl rfl (by decide)) ?_); all_goals (refine zX.v rfl rfl (by exact wC rfl rfl rfl (by exact c1) rfl (by decide)) ?_); all_goals (refine zX.v rfl rfl (zV rfl rfl rfl (by decide)) ?_); all_goals (refine zX.gY rfl rfl (by decide) rfl (by with_reducible rfl) rfl (by decide) (zV rfl rfl rfl (by decide)) ?_); all_goals (refine zX.gY rfl rfl (by decide) rfl (by with_reducible rfl) rfl (by decide) (by exact yY (rw1) rfl rfl rfl (by decide)) ?_); all_goals (refine zX.gY rfl rfl (by decide) rfl (by with_reducible rfl) rfl (by decide) (by exact xV rfl rfl (by exact bF (by decide)) rfl (by decide)) ?_); all_goals (refine zX.v rfl rfl (by exact zI rfl rfl (by with_reducible rfl) rfl rfl (by decide)) ?_); all_goals (refine zX.nil ?_)) | (refine zY.isR (id := 4) ?_; refine zY.zQ [0, 2, 3] [] (by repeat' first | exact zZ.nil | apply zZ.p rfl) (by repeat' exact zW.nil) ?_; (refine zX.v rfl rfl (zV rfl rfl rfl (by decide)) ?_); (refine zX.v rfl rfl (by exact yY (a1) rfl rfl rfl (by decide)) ?_); (refine zX.v rfl rfl (zK rfl rfl rfl (by decide)) ?_); refine zX.nil ?_) | (refine zY.isR (id := 5) ?_; refine zY.zQ [0, 2, 3, 4] [] (by repeat' first | exact zZ.nil | apply zZ.p rfl) (by repeat' exact zW.nil) ?_; (refine zX.v rfl rfl (zV rfl rfl rfl (by decide)) ?_); (refine zX.v rfl rfl (by exact yY (a2) rfl rfl rfl (by decide)) ?_); (refine zX.v rfl rfl (zK rfl rfl rfl (by decide)) ?_); refine zX.nil ?_) | (refine zY.isR (id := 6) ?_; refine zY.zQ [0, 2, 3, 4, 5] [] (by repeat' first | exact zZ.nil | apply zZ.p rfl) (by repeat' exact zW.nil) ?_; (refine zX.v rfl rfl (zV rfl rfl rfl (by decide)) ?_); (refine zX.v rfl rfl (yD rfl rfl rfl (by decide)) ?_); (refine zX.v rfl rfl (zV rfl rfl rfl (by decide)) ?_); (refine zX.v rfl rfl (yD rfl rfl rfl (by decide)) ?_); (refine zX.v rfl rfl (by exact wG rfl rfl rfl (by exact c2) rfl (by decide)) ?_); refine zX.nil ?_) | (refine zY.isR (id := 8) ?_; refine zY.zQ [0, 2, 3, 4, 5] [] (by repeat' first | exact zZ.nil | apply zZ.p rfl) (by repeat' exact zW.nil) ?_; (refine zX.v rfl rfl (zK rfl rfl rfl (by decide)) ?_); refine zX.nil ?_) | refine zY.yA rfl (by first | assumption | with_reducible rfl) ?_ | refine zY.skip ?_ | refine zY.block ?_) | refine zG.n ?_)
      refine zY.loop (maS L A A) (fun i => i ≤ L.length) (fun i => L.length - i) 0 ?h0 (Nat.zero_le _) ?rd
      case h0 =>
        unfold maS
        refine zD (is := [0, 3, 4, 5, 6]) (js := []) ?_ ?_
        repeat' first | exact zZ.nil | apply zZ.p rfl | apply zZ.ptr rfl | apply zZ.own rfl | apply zZ.clo rfl | apply zZ.ifp rfl | apply zZ.pt rfl | apply zZ.tup rfl | apply zZ.skip
        repeat' first | exact zW.nil | apply zW.boxP rfl rfl | apply zW.zT rfl | apply zW.some rfl | apply zW.skip
      case rd =>
        intro i hi
        have g3 : IntKind.i64.wrap (((i : Nat) : Int) + 1) = ((i + 1 : Nat) : Int) := by rw [wrap_i64 _ (by omega)]; omega
        have g5 : IntKind.u64.wrap ((i + 1 : Nat) : Int) = ((i + 1 : Nat) : Int) := wrap_u64 _ (by omega)
        unfold maS
        by_cases hlt : i < L.length
        case pos =>
          have l1 : decide (((i : Nat) : Int) < (((A.map zJ.V).length : Nat) : Int)) = true := decide_eq_true (by rw [hlA, hAl]; omega)
          obtain ⟨e, he⟩ : ∃ e, L[i]? = some e := ⟨_, List.getElem?_eq_getElem hlt⟩
          have e1 : (L.map zJ.V)[i]? = some e.V := by rw [List.getElem?_map, he]; rfl
          have ha := hat he
          generalize wW (xE L) e.u = nu at ha
          generalize wW (xE L) e.v = nv at ha
          have e2 : (A.map zJ.V)[i]? = some (zJ.V ⟨e.k, ((i + 1 : Nat) : Int), e.y, nu, nv, e.x⟩) := by rw [List.getElem?_map, ha]; rfl
          clear ha he hat hok
          obtain ⟨ek, es, ey, eu, ev, ex⟩ := e
          have d1 : (!decide (((i + 1 : Nat) : Int) = ((i + 1 : Nat) : Int))) = false := by rw [decide_eq_true rfl]; rfl
          have d2 : (!decide (ey = ey)) = false := by rw [decide_eq_true rfl]; rfl
          have d3 : (!decide (ex = ex)) = false := by rw [decide_eq_true rfl]; rfl
          repeat' (first | (refine zY.is ?_; first | refine zY.seq ?_ | (refine zY.isR (id := 9) ?_; refine zY.zQ [0, 2, 3, 4, 5, 6, 29, 66] [] (by repeat' first | exact zZ.nil | apply zZ.p rfl | apply zZ.skip) (by repeat' exact zW.nil) ?_; (refine zX.v rfl rfl (zV rfl rfl rfl (by decide)) ?_); (refine zX.v rfl rfl (zV rfl rfl rfl (by decide)) ?_); (refine zX.v rfl rfl (yD rfl rfl rfl (by decide)) ?_); (refine zX.v rfl rfl (by exact zS rfl rfl rfl (by exact l1) rfl (by decide)) ?_); refine zX.nil ?_) | (refine zY.isR (id := 11) ?_; refine zY.yH [0, 2, 3, 4, 5, 6, 29, 66] [] (by repeat' first | exact zZ.nil | apply zZ.p rfl | apply zZ.skip) (by repeat' exact zW.nil) (zY.draws ?_); all_goals (refine Draws.v rfl rfl (zV rfl rfl rfl (by decide)) ?_); all_goals (refine Draws.v rfl rfl (zV rfl rfl rfl (by decide)) ?_); all_goals (refine Draws.v rfl rfl (by exact zN rfl rfl rfl (by exact hcA) (by exact e2) rfl (by decide)) ?_); all_goals (refine Draws.v rfl rfl (yI rfl rfl rfl (by decide)) ?_); all_goals (refine Draws.v rfl rfl (z8 rfl rfl rfl rfl (by decide)) ?_); all_goals (refine Draws.v rfl rfl (zV rfl rfl rfl (by decide)) ?_); all_goals (refine Draws.v rfl rfl (by exact yE rfl rfl rfl (by exact g3) rfl (by decide)) ?_); all_goals (refine Draws.v rfl rfl (by exact xZ rfl rfl (by exact g5) rfl (by decide)) ?_); all_goals (refine Draws.v rfl rfl (by exact wG rfl rfl rfl (by exact d1) rfl (by decide)) ?_); all_goals (refine Draws.v rfl rfl (zV rfl rfl rfl (by decide)) ?_); all_goals (refine Draws.gY rfl rfl (by decide) rfl (by with_reducible rfl) rfl (zV rfl rfl rfl (by decide)) ?_); all_goals (refine Draws.gY rfl rfl (by decide) rfl (by with_reducible rfl) rfl (zV rfl rfl rfl (by decide)) ?_); all_goals (refine Draws.gY rfl rfl (by decide) rfl (by with_reducible rfl) rfl (by exact zN rfl rfl rfl (by exact hcA) (by exact e2) rfl (by decide)) ?_); all_goals (refine Draws.gY rfl rfl (by decide) rfl (by with_reducible rfl) rfl (yI rfl rfl rfl (by decide)) ?_); all_goals (refine Draws.gY rfl rfl (by decide) rfl (by with_reducible rfl) rfl (z8 rfl rfl rfl rfl (by decide)) ?_); all_goals (refine Draws.gY rfl rfl (by decide) rfl (by with_reducible rfl) rfl (zV rfl rfl rfl (by decide)) ?_); all_goals (refine Draws.gY rfl rfl (by decide) rfl (by with_reducible rfl) rfl (zV rfl rfl rfl (by decide)) ?_); all_goals (refine Draws.gY rfl rfl (by decide) rfl (by with_reducible rfl) rfl (by exact zN rfl rfl rfl (by exact hcL) (by exact e1) rfl (by decide)) ?_); all_goals (refine Draws.gY rfl rfl (by decide) rfl (by with_reducible rfl) rfl (yI rfl rfl rfl (by decide)) ?_); all_goals (refine Draws.gY rfl rfl (by decide) rfl (by with_reducible rfl) rfl (z8 rfl rfl rfl rfl (by decide)) ?_); all_goals (refine Draws.gY rfl rfl (by decide) rfl (by with_reducible rfl) rfl (by exact wG rfl rfl rfl (by exact d2) rfl (by decide)) ?_); all_goals (refine Draws.v rfl rfl (by exact zI rfl rfl (by with_reducible rfl) rfl rfl (by decide)) ?_); all_goals (refine Draws.v rfl rfl (zV rfl rfl rfl (by decide)) ?_); all_goals (refine Draws.gY rfl rfl (by decide) rfl (by with_reducible rfl) rfl (zV rfl rfl rfl (by decide)) ?_); all_goals (refine Draws.gY rfl rfl (by decide) rfl (by with_reducible rfl) rfl (zV rfl rfl rfl (by decide)) ?_); all_goals (refine Draws.gY rfl rfl (by decide) rfl (by with_reducible rfl) rfl (by exact zN rfl rfl rfl (by exact hcA) (by exact e2) rfl (by decide)) ?_); all_goals (refine Draws.gY rfl rfl (by decide) rfl (by with_reducible rfl) rfl (yI rfl rfl rfl (by decide)) ?_); all_goals (refine Draws.gY rfl rfl (by decide) rfl (by with_reducible rfl) rfl (z8 rfl rfl rfl rfl (by decide)) ?_); all_goals (refine Draws.gY rfl rfl (by decide) rfl (by with_reducible rfl) rfl (zV rfl rfl rfl (by decide)) ?_); all_goals (refine Draws.gY rfl rfl (by decide) rfl (by with_reducible rfl) rfl (zV rfl rfl rfl (by decide)) ?_); all_goals (refine Draws.gY rfl rfl (by decide) rfl (by with_reducible rfl) rfl (by exact zN rfl rfl rfl (by exact hcL) (by exact e1) rfl (by decide)) ?_); all_goals (refine Draws.gY rfl rfl (by decide) rfl (by with_reducible rfl) rfl (yI rfl rfl rfl (by decide)) ?_); all_goals (refine Draws.gY rfl rfl (by decide) rfl (by with_reducible rfl) rfl (z8 rfl rfl rfl rfl (by decide)) ?_); all_goals (refine Draws.gY rfl rfl (by decide) rfl (by with_reducible rfl) rfl (by exact wG rfl rfl rfl (by exact d3) rfl (by decide)) ?_); all_goals (refine Draws.v rfl rfl (by exact zI rfl rfl (by with_reducible rfl) rfl rfl (by decide)) ?_); all_goals ((refine Draws.done (by kernel_rfl) (by kernel_rfl) (by kernel_rfl) ?_; refine zM.nil ?_))) | (refine zY.isR (id := 10) ?_; refine zY.zQ [0, 2, 3, 4, 5, 6, 29, 66] [] (by repeat' first | exact zZ.nil | apply zZ.p rfl | apply zZ.skip) (by repeat' exact zW.nil) ?_; (refine zX.v rfl rfl (zV rfl rfl rfl (by decide)) ?_); (refine zX.v rfl rfl (by exact yE rfl rfl rfl (by exact g3) rfl (by decide)) ?_); (refine zX.v rfl rfl (zK rfl rfl rfl (by decide)) ?_); refine zX.nil ?_) | refine zY.yJ rfl (by first | assumption | with_reducible rfl) ?_ | refine zY.yA rfl (by first | assumption | with_reducible rfl) ?_ | refine zY.skip ?_ | refine zY.block ?_) | refine zG.n ?_ | refine zR.n ?_)
          all_goals
            refine ⟨i + 1, ?_, hlt, by omega⟩
            try unfold maS
            refine zD (is := [0, 3, 4, 5, 6]) (js := []) ?_ ?_
            repeat' first | exact zZ.nil | apply zZ.p rfl | apply zZ.ptr rfl | apply zZ.own rfl | apply zZ.clo rfl | apply zZ.ifp rfl | apply zZ.pt rfl | apply zZ.tup rfl | apply zZ.skip
            repeat' first | exact zW.nil | apply zW.boxP rfl rfl | apply zW.zT rfl | apply zW.some rfl | apply zW.skip
        case neg =>
          have l1 : decide (((i : Nat) : Int) < (((A.map zJ.V).length : Nat) : Int)) = false := decide_eq_false (by rw [hlA, hAl]; omega)
          repeat' (first | (refine zY.is ?_; first | refine zY.seq ?_ | (refine zY.isR (id := 9) ?_; refine zY.zQ [0, 2, 3, 4, 5, 6, 29, 66] [] (by repeat' first | exact zZ.nil | apply zZ.p rfl | apply zZ.skip) (by repeat' exact zW.nil) ?_; (refine zX.v rfl rfl (zV rfl rfl rfl (by decide)) ?_); (refine zX.v rfl rfl (zV rfl rfl rfl (by decide)) ?_); (refine zX.v rfl rfl (yD rfl rfl rfl (by decide)) ?_); (refine zX.v rfl rfl (by exact zS rfl rfl rfl (by exact l1) rfl (by decide)) ?_); refine zX.nil ?_) | (refine zY.isR (id := 13) ?_; refine zY.zQ [0, 2, 3, 4, 5] [] (by repeat' first | exact zZ.nil | apply zZ.p rfl | apply zZ.skip) (by repeat' exact zW.nil) ?_; all_goals (refine zX.v rfl rfl (zV rfl rfl rfl (by decide)) ?_); all_goals (refine zX.v rfl rfl (zV rfl rfl rfl (by decide)) ?_); all_goals (refine zX.gY rfl rfl (by decide) rfl (by with_reducible rfl) rfl (by decide) (zV rfl rfl rfl (by decide)) ?_); all_goals (refine zX.gY rfl rfl (by decide) rfl (by with_reducible rfl) rfl (by decide) (zV rfl rfl rfl (by decide)) ?_); all_goals (refine zX.gY rfl rfl (by decide) rfl (by with_reducible rfl) rfl (by decide) (by exact yY (s1) rfl rfl rfl (by decide)) ?_); all_goals (refine zX.v rfl rfl (by exact zP rfl rfl (by with_reducible rfl) rfl rfl (by decide)) ?_); all_goals (refine zX.v rfl rfl (zV rfl rfl rfl (by decide)) ?_); all_goals (refine zX.gY rfl rfl (by decide) rfl (by with_reducible rfl) rfl (by decide) (zV rfl rfl rfl (by decide)) ?_); all_goals (refine zX.gY rfl rfl (by decide) rfl (by with_reducible rfl) rfl (by decide) (by exact yY (g1) rfl rfl rfl (by decide)) ?_); all_goals (refine zX.gY rfl rfl (by decide) rfl (by with_reducible rfl) rfl (by decide) (zV rfl rfl rfl (by decide)) ?_); all_goals (refine zX.gY rfl rfl (by decide) rfl (by with_reducible rfl) rfl (by decide) (by exact yY (g2) rfl rfl rfl (by decide)) ?_); all_goals (refine zX.gY rfl rfl (by decide) rfl (by with_reducible rfl) rfl (by decide) (by exact yY (s2) rfl rfl rfl (by decide)) ?_); all_goals (refine zX.v rfl rfl (by exact zP rfl rfl (by with_reducible rfl) rfl rfl (by decide)) ?_); all_goals (refine zX.v rfl rfl (zK rfl rfl rfl (by decide)) ?_); all_goals (refine zX.nil ?_)) | refine zY.yA rfl (by first | assumption | with_reducible rfl) ?_ | refine zY.exit ?_ | refine zY.ret ?_) | refine zG.n ?_ | refine zR.eY ?_ | refine zG.e ?_)
          all_goals exact ⟨.inl rfl, gives1 rfl rfl rfl⟩
end Go.Proofs.YtomlhekjgagjaaaDoor
/- Contracts made weaker: nil is an empty slice. Generic over the program. -/
namespace Go.Proofs.YtomlhekjgagjaaaDoor
set_option maxRecDepth 100000
set_option maxHeartbeats 16000000
open Go Go.RowKit
/-- y says no more than x -/
inductive PLe0 : PV → PV → Prop
  | refl (x : PV) : PLe0 x x
  | nil : PLe0 (.val (.slice none 0 0)) (.sl [])
inductive PL0s : List PV → List PV → Prop
  | nil : PL0s [] []
  | cons {x y : PV} {xs ys : List PV} (h : PLe0 x y) (hs : PL0s xs ys) : PL0s (x :: xs) (y :: ys)
inductive PLe1 : PV → PV → Prop
  | refl (x : PV) : PLe1 x x
  | nil : PLe1 (.val (.slice none 0 0)) (.sl [])
  | sl {xs ys : List PV} (hl : xs.length = ys.length) (h : PL0s (flat xs) (flat ys)) : PLe1 (.sl xs) (.sl ys)
inductive PLes : List PV → List PV → Prop
  | nil : PLes [] []
  | cons {x y : PV} {xs ys : List PV} (h : PLe1 x y) (hs : PLes xs ys) : PLes (x :: xs) (y :: ys)
inductive PLe : PV → PV → Prop
  | one {x y : PV} (h : PLe1 x y) : PLe x y
  | agg {xs ys : List PV} (h : PLes xs ys) : PLe (.agg xs) (.agg ys)
inductive PLet : List PV → List PV → Prop
  | nil : PLet [] []
  | cons {x y : PV} {xs ys : List PV} (h : PLe x y) (hs : PLet xs ys) : PLet (x :: xs) (y :: ys)
theorem PLe0.rep {x y : PV} (h : PLe0 x y) {M : Nat → Nat → Prop} {w : World} {v : Value} (hr : Rep M w x v) : Rep M w y v := by
  cases h with
  | refl => exact hr
  | nil => cases hr; exact .nil
theorem PL0s.at_ {xs ys : List PV} (h : PL0s xs ys) : xs.length = ys.length ∧ ∀ (i : Nat) y, ys[i]? = some y → ∃ x, xs[i]? = some x ∧ PLe0 x y := by
  induction h with
  | nil => exact ⟨rfl, fun i y h => by simp at h⟩
  | cons h hs ih =>
    refine ⟨by simp [ih.1], fun i y hy => ?_⟩
    cases i with
    | zero => simp at hy; subst hy; exact ⟨_, rfl, h⟩
    | succ i => exact ih.2 i y hy
theorem PL0s.append {xs ys xs' ys' : List PV} (h : PL0s xs ys) (h' : PL0s xs' ys') : PL0s (xs ++ xs') (ys ++ ys') := by
  induction h with
  | nil => exact h'
  | cons h _ ih => exact .cons h ih
theorem PLe1.rep {x y : PV} (h : PLe1 x y) {M : Nat → Nat → Prop} {w : World} {v : Value} (hr : Rep M w x v) : Rep M w y v := by
  cases h with
  | refl => exact hr
  | nil => cases hr; exact .nil
  | sl hl h =>
    obtain ⟨hfl, hat⟩ := h.at_
    rcases rep_sl hr with ⟨⟨b, rfl⟩, h0⟩ | ⟨g, off, cap, us, rfl, hl2, hcell, hM, hg, hcap, hm⟩
    · subst h0
      have : _ = [] := List.eq_nil_of_length_eq_zero hl.symm
      subst this
      exact .nil
    · rw [hl] at hcap ⊢
      exact .sl _ g off _ cap us rfl (hl2.len.trans hfl) hcell (fun j c y hc hy => by
        obtain ⟨x, hx, hle⟩ := hat j c hc
        exact hle.rep (hl2.each j x y hx hy)) hl2.one hM hg hcap hm
theorem PLes.refl : ∀ xs : List PV, PLes xs xs
  | [] => .nil
  | x :: xs => .cons (.refl x) (PLes.refl xs)
theorem PLes.at_ {xs ys : List PV} (h : PLes xs ys) : xs.length = ys.length ∧ ∀ (i : Nat) y, ys[i]? = some y → ∃ x, xs[i]? = some x ∧ PLe1 x y := by
  induction h with
  | nil => exact ⟨rfl, fun i y h => by simp at h⟩
  | cons h hs ih =>
    refine ⟨by simp [ih.1], fun i y hy => ?_⟩
    cases i with
    | zero => simp at hy; subst hy; exact ⟨_, rfl, h⟩
    | succ i => exact ih.2 i y hy
theorem PLe.rep {x y : PV} (h : PLe x y) {M : Nat → Nat → Prop} {w : World} {v : Value} (hr : Rep M w x v) : Rep M w y v := by
  cases h with
  | one h => exact h.rep hr
  | agg h =>
    obtain ⟨hl, hat⟩ := h.at_
    cases hr with
    | agg cs vs hl2 h2 h1 => exact .agg _ vs (hl2.trans hl) (fun i c u hc hu => by
        obtain ⟨x, hx, hxy⟩ := hat i c hc
        exact hxy.rep (h2 i x u hx hu)) h1
theorem PLet.at_ {xs ys : List PV} (h : PLet xs ys) : xs.length = ys.length ∧ ∀ (i : Nat) y, ys[i]? = some y → ∃ x, xs[i]? = some x ∧ PLe x y := by
  induction h with
  | nil => exact ⟨rfl, fun i y h => by simp at h⟩
  | cons h hs ih =>
    refine ⟨by simp [ih.1], fun i y hy => ?_⟩
    cases i with
    | zero => simp at hy; subst hy; exact ⟨_, rfl, h⟩
    | succ i => exact ih.2 i y hy
theorem PLe.refl (x : PV) : PLe x x := .one (.refl x)
section
variable {P : Program} {f : FuncId}
end
end Go.Proofs.YtomlhekjgagjaaaDoor
/- A law's arguments, as they come in, by their shapes. Generic over the program. -/
namespace Go.Proofs.YtomlhekjgagjaaaDoor
set_option maxRecDepth 100000
set_option maxHeartbeats 16000000
open Go Go.RowKit Go.ChangeShapes Go.WideShapes Go.ChangeAt
def NoM : Nat → Nat → Prop := fun _ _ => False
/-- what a cell may hold -/
inductive Leaf where
  | int (k : IntKind)
  | bool
  | any
deriving DecidableEq
def leafOK : Leaf → Value → Prop
  | .int k, v => ∃ n, v = .int k n ∧ (Lit.int k n).wf = true
  | .bool, v => ∃ b, v = .bool b
  | .any, v => v.oneCell' = true
/-- type t's cells, one behind the other, are of these kinds (any: a slice) -/
def flatB (P : Program) : Nat → TypeId → List Leaf → Bool
  | 0, _, _ => false
  | d + 1, t, ls => match P.underlying t with
    | some (.int k) => decide (ls = [.int k])
    | some .bool => decide (ls = [.bool])
    | some (.slice _) => decide (ls = [.any])
    | some (.struct fs) => (ls.length == P.cellsOf t) && (fs.toList.all fun f => flatB P d f.type ((ls.drop f.offset).take (P.cellsOf f.type)) && (((ls.drop f.offset).take (P.cellsOf f.type)).length == P.cellsOf f.type)) &&
      (List.range ls.length).all fun c => fs.toList.any fun f => decide (f.offset ≤ c) && decide (c < f.offset + P.cellsOf f.type)
    | _ => false
section
variable {H : Type} {enc : TypeId × Value → H} {P : Program} {W : World} {base : Nat} {spare : Nat → Bool} {held : Bool}
theorem flat_trod : ∀ (d : Nat) {t : TypeId} {ls : List Leaf}, flatB P d t ls = true → ∀ {fuel : Nat} {cs : List Value} {x : DataW H × List MemPlace}, DataW.trod enc P W base spare held fuel t cs = some x →
    cs.length = ls.length ∧ ∀ (i : Nat) l v, ls[i]? = some l → cs[i]? = some v → leafOK l v
  | 0, _, _, h, _, _, _, _ => by cases h
  | d + 1, t, ls, h, fuel, cs, x, hx => by
    unfold flatB at h
    cases hu : P.underlying t with
    | none => rw [hu] at h; cases h
    | some ds =>
      rw [hu] at h
      cases ds with
      | int k =>
        obtain rfl : ls = [.int k] := of_decide_eq_true h
        obtain ⟨n, rfl, _, hw⟩ := DataW.trod_int hu hx
        refine ⟨rfl, fun i l v hl hv => ?_⟩
        match i with
        | 0 => simp at hl hv; subst hl hv; exact ⟨n, rfl, hw⟩
        | i + 1 => simp at hl
      | bool =>
        obtain rfl : ls = [.bool] := of_decide_eq_true h
        obtain ⟨b, rfl, _⟩ := DataW.trod_bool hu hx
        refine ⟨rfl, fun i l v hl hv => ?_⟩
        match i with
        | 0 => simp at hl hv; subst hl hv; exact ⟨b, rfl⟩
        | i + 1 => simp at hl
      | slice e =>
        obtain rfl : ls = [.any] := of_decide_eq_true h
        have key : ∀ w : Value, w.oneCell' = true → cs = [w] → cs.length = [Leaf.any].length ∧ ∀ (i : Nat) l v, [Leaf.any][i]? = some l → cs[i]? = some v → leafOK l v := fun w hw e => by
          subst e
          refine ⟨rfl, fun i l v hl hv => ?_⟩
          match i with
          | 0 => simp at hl hv; subst hl hv; exact hw
          | i + 1 => simp at hl
        rcases DataW.trod_slice hu hx with ⟨e, _⟩ | ⟨a, len, cap, _, _, _, _, e, _⟩
        · exact key _ rfl e
        · exact key _ rfl e
      | struct fs =>
        simp only [Bool.and_eq_true, beq_iff_eq, List.all_eq_true, List.mem_range, List.any_eq_true, decide_eq_true_eq] at h
        obtain ⟨⟨hlen, hfs⟩, hcov⟩ := h
        obtain ⟨xs, n, _, _, hcl, hxl, hg⟩ := DataW.trod_struct hu hx
        refine ⟨by omega, fun i l v hl hv => ?_⟩
        have hil : i < ls.length := (List.getElem?_eq_some_iff.1 hl).1
        obtain ⟨f, hf, hf1, hf2⟩ := hcov i hil
        obtain ⟨hfl, hfn⟩ := hfs f hf
        obtain ⟨j, hj, hfj⟩ := List.getElem_of_mem hf
        have hfj2 : fs[j]? = some f := by
          rw [← hfj, Array.getElem_toList]
          exact Array.getElem?_eq_getElem _
        have h2 := hg j f hfj2
        have hjx : j < xs.length := by rw [hxl]; simpa using hj
        rw [List.getElem?_eq_getElem hjx] at h2
        obtain ⟨_, h3⟩ := flat_trod d hfl h2
        refine h3 (i - f.offset) l v ?_ ?_
        · rw [List.getElem?_take_of_lt (by omega), List.getElem?_drop, show f.offset + (i - f.offset) = i by omega]
          exact hl
        · rw [List.getElem?_take_of_lt (by omega), List.getElem?_drop, show f.offset + (i - f.offset) = i by omega]
          exact hv
      | _ => cases h
theorem has_block {r : Reach} {a : Addr} {e : TypeId} {n : Nat} (h : W.has P r base a e n) : a.spot = none ∧ a.block < W.heap.size := by
  obtain ⟨_, h1, row, cells, h2, _⟩ := h
  refine ⟨h1, ?_⟩
  unfold World.shape? at h2
  cases hb : W.heap[a.block]? with
  | none => rw [hb] at h2; cases h2
  | some o => exact (Array.getElem?_eq_some_iff.1 hb).1
theorem cell_slice {t e : TypeId} {a : Addr} {len cap : Nat} (ht : P.underlying t = some (.slice e)) (h : Cell.okWide P W .any base t (.slice (some a) len cap)) : a.spot = none ∧ a.block < W.heap.size ∧ len ≤ cap := by
  simp only [Cell.okWide, ht, Cell.ok] at h
  exact ⟨(has_block h.2.2).1, (has_block h.2.2).2, h.1⟩
theorem wide_slice {t e : TypeId} {a : Addr} {len cap : Nat} (ht : P.underlying t = some (.slice e)) (h : Value.okWide P W .any base t (.slice (some a) len cap)) : a.spot = none ∧ a.block < W.heap.size ∧ len ≤ cap :=
  cell_slice ht (by simpa only [Value.okWide, ht] using h)
theorem leaf_one {l : Leaf} {v : Value} (h : leafOK l v) : v.oneCell' = true := by
  cases l with
  | int k => obtain ⟨n, rfl, _⟩ := h; rfl
  | bool => obtain ⟨b, rfl⟩ := h; rfl
  | any => exact h
theorem flatten_len {n : Nat} : ∀ {rs : List (List Value)}, (∀ r ∈ rs, r.length = n) → rs.flatten.length = rs.length * n
  | [], _ => by simp
  | r :: rs, h => by
    rw [List.flatten_cons, List.length_append, h r (by simp), flatten_len fun x hx => h x (by simp [hx]), List.length_cons, Nat.add_mul]
    omega
theorem flatten_get {n : Nat} : ∀ {rs : List (List Value)}, (∀ r ∈ rs, r.length = n) → ∀ (i c : Nat), c < n → rs.flatten[i * n + c]? = (rs[i]?).bind (·[c]?)
  | [], _, i, c, _ => by simp
  | r :: rs, h, 0, c, hc => by
    rw [List.flatten_cons, Nat.zero_mul, Nat.zero_add, List.getElem?_append_left (by rw [h r (by simp)]; exact hc)]
    rfl
  | r :: rs, h, i + 1, c, hc => by
    have hr := h r (by simp)
    rw [List.flatten_cons, List.getElem?_append_right (by rw [hr, Nat.add_mul]; omega), hr]
    have e : (i + 1) * n + c - n = i * n + c := by rw [Nat.add_mul]; omega
    rw [e, flatten_get (fun x hx => h x (by simp [hx])) i c hc]
    rfl
/-- a slice of plain structs (of slices, as they are) that came in -/
theorem arg_rows {t e : TypeId} {ls : List Leaf} {dep : Nat} {v : Value} {fuel : Nat} {x : DataW H × List MemPlace} (ht : P.underlying t = some (.slice e)) (hfl : flatB P dep e ls = true) (hn : P.cellsOf e = ls.length)
    (hok : ∀ a len cap, v = .slice (some a) len cap → a.spot = none ∧ a.block < W.heap.size) (h : DataW.trod enc P W base (fun _ => true) held fuel t [v] = some x) :
    ∃ rows : List (List Value), (∀ r ∈ rows, r.length = ls.length ∧ ∀ (i : Nat) l u, ls[i]? = some l → r[i]? = some u → leafOK l u) ∧ rows.length ≤ maxLen ∧
      ∀ es : List PV, es.map PV.cells = rows.map (fun r => r.map PV.val) → Rep NoM W (.sl es) v := by
  rcases DataW.trod_slice ht h with ⟨hv, _⟩ | ⟨a, len, cap, elems, rest, n, _, hv, _, hb, hlc, hm, hlen, hel, _⟩
  · simp only [List.cons.injEq, and_true] at hv
    subst hv
    refine ⟨[], fun r hr => by simp at hr, Nat.zero_le _, fun es he => ?_⟩
    have : es = [] := by simpa using he
    subst this
    exact .nil
  · simp only [List.cons.injEq, and_true] at hv
    subst hv
    obtain ⟨hs, hbk⟩ := hok a len cap rfl
    obtain ⟨g, off, spot⟩ := a
    simp only at hs hbk
    subst hs
    have row : ∀ i, i < len → ∃ r : List Value, W.cells? base (Addr.add ⟨g, off, none⟩ (i * P.cellsOf e)) (P.cellsOf e) = some r ∧ r.length = ls.length ∧ ∀ (j : Nat) l u, ls[j]? = some l → r[j]? = some u → leafOK l u := by
      intro i hi
      have h1 := hel i hi
      rw [List.getElem?_eq_getElem (by omega : i < elems.length)] at h1
      obtain ⟨r, hr, h2⟩ := Option.bind_eq_some_iff.1 h1
      obtain ⟨h3, h4⟩ := flat_trod dep hfl h2
      exact ⟨r, hr, h3, h4⟩
    have rows : ∀ m, m ≤ len → ∃ rs : List (List Value), rs.length = m ∧ ∀ (i : Nat) r, rs[i]? = some r → W.cells? base (Addr.add ⟨g, off, none⟩ (i * P.cellsOf e)) (P.cellsOf e) = some r ∧ r.length = ls.length ∧ ∀ (j : Nat) l u, ls[j]? = some l → r[j]? = some u → leafOK l u := by
      intro m
      induction m with
      | zero => exact fun _ => ⟨[], rfl, fun i r h => by simp at h⟩
      | succ m ih =>
        intro hm2
        obtain ⟨rs, h1, h2⟩ := ih (by omega)
        obtain ⟨r, hr⟩ := row m (by omega)
        refine ⟨rs ++ [r], by simp [h1], fun i r' hi => ?_⟩
        rcases Nat.lt_or_ge i rs.length with h3 | h3
        · rw [List.getElem?_append_left h3] at hi
          exact h2 i r' hi
        · rw [List.getElem?_append_right h3] at hi
          have e0 : i - rs.length = 0 := by
            rcases Nat.eq_zero_or_pos (i - rs.length) with h | h
            · exact h
            · rw [List.getElem?_eq_none (by simp; omega)] at hi; cases hi
          rw [e0] at hi
          simp at hi
          subst hi
          rw [show i = m by omega]
          exact hr
    obtain ⟨rs, hrl, hrs⟩ := rows len (Nat.le_refl _)
    refine ⟨rs, fun r hr => ?_, by omega, fun es he => ?_⟩
    · obtain ⟨i, hi, rfl⟩ := List.getElem_of_mem hr
      exact (hrs i _ (List.getElem?_eq_getElem hi)).2
    · have hn0 : P.cellsOf e = ls.length := hn
      have hesl : es.length = rs.length := by simpa using congrArg List.length he
      have hflat : flat es = rs.flatten.map PV.val := by
        show es.flatMap PV.cells = _
        rw [List.flatMap_def, he, List.map_flatten]
      have hrn : ∀ r ∈ rs, r.length = ls.length := fun r hr => by
        obtain ⟨i, hi, rfl⟩ := List.getElem_of_mem hr
        exact (hrs i _ (List.getElem?_eq_getElem hi)).2.1
      have hyl : rs.flatten.length = rs.length * ls.length := flatten_len hrn
      have at_ : ∀ (j : Nat) y, rs.flatten[j]? = some y → ∃ i c r, j = i * ls.length + c ∧ rs[i]? = some r ∧ r[c]? = some y := fun j y hy => by
        have hj : j < rs.length * ls.length := by rw [← hyl]; exact (List.getElem?_eq_some_iff.1 hy).1
        have hpos : 0 < ls.length := by
          rcases Nat.eq_zero_or_pos ls.length with h | h
          · rw [h] at hj; omega
          · exact h
        have e1 : j = (j / ls.length) * ls.length + j % ls.length := by
          have := Nat.div_add_mod j ls.length
          rw [Nat.mul_comm] at this
          omega
        have hi : j / ls.length < rs.length := (Nat.div_lt_iff_lt_mul hpos).2 hj
        have hc : j % ls.length < ls.length := Nat.mod_lt _ hpos
        have h1 := flatten_get hrn (j / ls.length) (j % ls.length) hc
        rw [← e1, hy, List.getElem?_eq_getElem hi] at h1
        exact ⟨_, _, _, e1, List.getElem?_eq_getElem hi, h1.symm⟩
      refine .sl es g off len cap rs.flatten (by omega) (by rw [hflat, List.length_map]) (fun j y hy => ?_) (fun j c y hc hy => ?_) (fun y hy => ?_) (fun _ _ h => h) hbk hlc hm
      · obtain ⟨i, c, r, rfl, hr, hc⟩ := at_ j y hy
        have h1 := World.cells?_some (hrs i r hr).1
        have hcl : c < P.cellsOf e := by
          rw [hn0, ← (hrs i r hr).2.1]
          exact (List.getElem?_eq_some_iff.1 hc).1
        have h2 := h1.2.2 c hcl
        rw [hc, add_lit, add_lit, hn0, Nat.add_assoc] at h2
        exact h2
      · rw [hflat, List.getElem?_map, hy] at hc
        simp only [Option.map_some, Option.some.injEq] at hc
        subst hc
        exact .val _
      · obtain ⟨j, hj, rfl⟩ := List.getElem_of_mem hy
        obtain ⟨i, c, r, _, hr, hc⟩ := at_ j _ (List.getElem?_eq_getElem hj)
        have hcl : c < ls.length := by
          rw [← (hrs i r hr).2.1]
          exact (List.getElem?_eq_some_iff.1 hc).1
        exact leaf_one ((hrs i r hr).2.2 c _ _ (List.getElem?_eq_getElem hcl) hc)
end
end Go.Proofs.YtomlhekjgagjaaaDoor
/- A law's call, by its contract; the table that the row lists; a world that fits. -/
namespace Go.Proofs.YtomlhekjgagjaaaDoor
set_option maxRecDepth 100000
set_option maxHeartbeats 16000000
open Go Go.RowKit Go.ChangeShapes Go.WideShapes Go.ChangeAt
set_option linter.unusedVariables false
theorem ownT : ownKnob Tryd.prog.godebug = none := by kernel_rfl
theorem laidOutT : laidOutB Tryd.prog = true := by kernel_rfl
section
variable {P : Program} {W : World}
/-- A law's call, by its contract. -/
theorem Fn.law {f : FuncId} {args : List PV} (h : Fn P f args (.p (.val (.bool true)))) (hlay : Lays W) {vs : List Value} (hl : vs.length = args.length) (hr : ∀ (i : Nat) x v, args[i]? = some x → vs[i]? = some v → Rep NoM W x v) :
    Calls P f vs.toArray W fun e W' => e = .returned (.bool true) ∧ Below W.heap.size W W' :=
  (h NoM W vs ⟨hlay, fun _ _ _ h => h⟩ (fun _ _ h => h.elim) hl hr).mono fun e W' ⟨v, he, hv, hb⟩ => by
    cases hv
    exact ⟨he, hb⟩
theorem reps1 {M : Nat → Nat → Prop} {x0 : PV} {v0 : Value} (h0 : Rep M W x0 v0) : ∀ (i : Nat) x v, [x0][i]? = some x → [v0][i]? = some v → Rep M W x v := by
  intro i x v hx hv
  match i with
  | 0 => simp at hx hv; subst hx; subst hv; exact h0
  | i + 1 => simp at hx
end
/-! ### The listed table -/
theorem gTbl : Tryd.prog.globalNamed "weald/crc.halves" = some 0 := by kernel_rfl
theorem tTbl : (Tryd.prog.globals[0]?).map (·.type) = some 132 := by kernel_rfl
def laidL : List (String × DataW Unit) := [("weald/crc.halves", Rows.laid_weald_crc_halves)]
theorem lays_of_laid {W : World} (h : laidMetH Tryd.prog laidL W) : Lays W := by
  rw [MakeChecks.laidMetH_plain _ _ _ (by kernel_rfl)] at h
  obtain ⟨ps, ⟨g0, t0, cs0, f0, p0, q0, hg0, ht0, hv0, hd0, _, _⟩, _⟩ := h
  obtain rfl := Option.some.inj (gTbl.symm.trans hg0)
  obtain rfl := Option.some.inj (tTbl.symm.trans ht0)
  have hcell := World.var?_cell hg0 hv0
  obtain ⟨xs, m1, _, hx1, hlen, hn, hel⟩ := DataW.trod_array Tryd.underlying132 hd0
  have c1 : Tryd.prog.cellsOf 109 = 1 := by kernel_rfl
  have c16 : Tryd.prog.cellsOf 132 = 16 := by kernel_rfl
  rw [c16] at hlen
  have hdat : Rows.laid_weald_crc_halves (H := Unit) = .agg (tbl0.map fun p => .lit (.int p.1 p.2)) := by kernel_rfl
  simp only [Prod.mk.injEq] at hx1
  have hxs : xs.map (·.1) = tbl0.map fun p => .lit (.int p.1 p.2) := by
    have := hx1.1
    rw [hdat] at this
    simpa using this.symm
  have hk : ∀ p ∈ tbl0, p.1 = .u32 := by decide +kernel
  intro g ys hg
  have hgy : g = 0 ∧ ys = tbl0 := by
    unfold seatTbl at hg
    split at hg
    · next h => exact ⟨h, (Option.some.inj hg).symm⟩
    · cases hg
  obtain ⟨rfl, rfl⟩ := hgy
  have at_ : ∀ (j : Nat) p, tbl0[j]? = some p → W.cell? ⟨0, j, none⟩ = some (.int p.1 p.2) := by
    intro j p hp
    have hj : j < 16 := (List.getElem?_eq_some_iff.1 hp).1
    have h1 := hel j hj
    have hxj : xs[j]? = some xs[j] := List.getElem?_eq_getElem (by omega)
    rw [hxj, c1, Nat.mul_one] at h1
    obtain ⟨k, e1, e2, _⟩ := DataW.trod_int Tryd.underlying109 h1
    have h3 : (xs.map (·.1))[j]? = some (.lit (.int .u32 k)) := by rw [List.getElem?_map, hxj, e2]; rfl
    rw [hxs, List.getElem?_map, hp] at h3
    simp only [Option.map_some, Option.some.injEq, DataW.lit.injEq, Lit.int.injEq] at h3
    obtain ⟨h4, h5⟩ := h3
    have h6 : cs0[j]? = some (.int .u32 k) := by
      have : (cs0.toList.drop j).take 1 = [cs0.toList[j]'(by rw [hlen]; exact hj)] := by
        rw [List.drop_eq_getElem_cons (by rw [hlen]; exact hj)]
        rfl
      rw [this] at e1
      simp only [List.cons.injEq, and_true] at e1
      rw [← e1]
      simp [Array.getElem?_eq_getElem (show j < cs0.size by simpa using (by rw [hlen]; exact hj : j < cs0.toList.length))]
    rw [hcell j, h6, h4, h5]
  refine ⟨?_, at_⟩
  have h0 := at_ 0 _ rfl
  unfold World.cell? at h0
  cases hh : W.heap[0]? with
  | none => rw [hh] at h0; cases h0
  | some o => exact (Array.getElem?_eq_some_iff.1 hh).1
/-- The door's own heap fits. -/
theorem door_met (os : Os) (args : Array Value) : laidMetH Tryd.prog laidL ((World.doorLaid Tryd.prog 400 os).forCall (fun _ _ => 0) ⟨#[], args, []⟩).memory :=
  laidMetH_of_parts3 (fuel := 8) (laidMet_of_run' 8 (by kernel_rfl) (by kernel_rfl)) (by kernel_rfl) (by kernel_rfl)
end Go.Proofs.YtomlhekjgagjaaaDoor
/- Arguments: rows of truth values, and of bytes. Generic over the program. -/
namespace Go.Proofs.YtomlhekjgagjaaaDoor
set_option maxRecDepth 100000
set_option maxHeartbeats 16000000
open Go Go.RowKit Go.ChangeShapes Go.WideShapes Go.ChangeAt
set_option linter.unusedVariables false
section
variable {P : Program} {W : World} {H : Type} {enc : TypeId × Value → H}
end
end Go.Proofs.YtomlhekjgagjaaaDoor
/- Arguments: rows of entries. -/
namespace Go.Proofs.YtomlhekjgagjaaaDoor
set_option maxRecDepth 100000
set_option maxHeartbeats 16000000
open Go Go.RowKit Go.ChangeShapes Go.WideShapes Go.ChangeAt
set_option linter.unusedVariables false
def entOf (r : List Value) : zJ := match r with
  | [.int _ k, .int _ s, .int _ y, .int _ u, .int _ v, .int _ x] => ⟨k, s, y, u, v, x⟩
  | _ => ⟨0, 0, 0, 0, 0, 0⟩
theorem wfU {n : Int} (h : (Lit.int .u64 n).wf = true) : U n := by
  have h1 := bounds_u64 h
  unfold U
  omega
theorem entOf_cells {r : List Value} (hl : r.length = 6) (h : ∀ (i : Nat) l u, [Leaf.int .i64, .int .u64, .int .u64, .int .u64, .int .u64, .int .u64][i]? = some l → r[i]? = some u → leafOK l u) : (entOf r).V.cells = r.map PV.val ∧ (entOf r).ok := by
  match r, hl with
  | [a, b, c, d, e, f], _ =>
    obtain ⟨n0, rfl, h0⟩ := h 0 _ a rfl rfl
    obtain ⟨n1, rfl, h1⟩ := h 1 _ b rfl rfl
    obtain ⟨n2, rfl, h2⟩ := h 2 _ c rfl rfl
    obtain ⟨n3, rfl, h3⟩ := h 3 _ d rfl rfl
    obtain ⟨n4, rfl, h4⟩ := h 4 _ e rfl rfl
    obtain ⟨n5, rfl, h5⟩ := h 5 _ f rfl rfl
    exact ⟨rfl, wfU h1, wfU h2, wfU h3, wfU h4, wfU h5⟩
theorem arg_ents {H : Type} {enc : TypeId × Value → H} {W : World} {v : Value} {d : DataW H} {p : List MemPlace} {base : Nat} (hv : Value.okWide Tryd.prog W .any base 25 v) (h : DataW.Trod enc Tryd.prog W 0 (fun _ => true) true 25 v d p) :
    ∃ L : List zJ, Rep NoM W (.sl (L.map zJ.V)) v ∧ (∀ e ∈ L, e.ok) ∧ L.length ≤ maxLen := by
  have ht : Tryd.prog.underlying 25 = some (.slice 46) := Tryd.underlying25
  obtain ⟨a, len, cap, rfl⟩ := okWide_slice ht hv
  obtain ⟨fuel, hf⟩ := h
  have hf' : DataW.trod enc Tryd.prog W 0 (fun _ => true) true fuel 25 [Value.slice a len cap] = some (d, p) := hf
  obtain ⟨rows, h1, h2, h3⟩ := arg_rows (ls := [Leaf.int .i64, .int .u64, .int .u64, .int .u64, .int .u64, .int .u64]) (dep := 8) ht (by kernel_rfl) (by kernel_rfl) (fun a' len' cap' e' => by
    injection e' with e1 e2 e3
    subst e1 e2 e3
    have := wide_slice ht hv
    exact ⟨this.1, this.2.1⟩) hf'
  refine ⟨rows.map entOf, h3 _ ?_, fun e he => ?_, by simpa using h2⟩
  · rw [List.map_map, List.map_map]
    exact List.map_congr_left fun r hr => (entOf_cells (h1 r hr).1 (h1 r hr).2).1
  · obtain ⟨r, hr, rfl⟩ := List.mem_map.1 he
    exact (entOf_cells (h1 r hr).1 (h1 r hr).2).2
end Go.Proofs.YtomlhekjgagjaaaDoor
/- For every input MergeAgain returns true, and leaves its arguments as they were; tied: Rows.MergeAgainCardSaid. Conditions: none beyond the given statement's own. -/
namespace Go.Proofs.YtomlhekjgagjaaaDoor
set_option maxRecDepth 100000
set_option maxHeartbeats 16000000
open Go Go.RowKit Go.ChangeShapes Go.WideShapes Go.ChangeAt
set_option linter.unusedVariables false
theorem mergeAgain_lifted (os : Os) (started : os.Started) (H : Type) (enc : TypeId × Value → H) :
    ReturnsInHanded {} Tryd.checked os 7 .any (fun w args => (Rows.mergeAgainSpec.pre enc Tryd.prog Tryd.f7 [] false w args ∧ laidMetH Tryd.prog laidL w) ∧ sizedMet enc Tryd.prog Tryd.f7 (OpenSpec.ofChange Rows.mergeAgainSpec) false w args)
      (Rows.mergeAgainSpec.post enc Tryd.prog Tryd.f7 false true false false) := by
  refine returnsInHanded_of_change_and (C := Tryd.checked) (X := fun w _ => laidMetH Tryd.prog laidL w) (fun _ _ _ hh h => h.of_heap hh) ownT started (by kernel_rfl) Tryd.func7
    (ChangeSpec.witness_shaped (enc := enc) (C := Tryd.checked) (os := os) (X := fun w _ => laidMetH Tryd.prog laidL w) false (World.doorLaid Tryd.prog 400 os) #[.slice none 0 0] 8 rfl (World.shaped_of_RefB (by kernel_rfl) (by kernel_rfl)) (by kernel_rfl) (by kernel_rfl) (by kernel_rfl) (door_met os _)) ?_
  intro W base args ds gs before hval0 hW hcnd hwt hL _
  have hval : ∀ (j : Nat) t v, Tryd.f7.params[j]? = some t → args[j]? = some v → Value.okWide Tryd.prog W .any base t v := hval0
  have hW' := hW
  obtain ⟨p, q, hA0, hV, rfl, hfz, hnd⟩ := hW
  have hA : DataW.TrodAll enc Tryd.prog W 0 (fun _ => true) true Tryd.f7.params.toList args.toList ds p := hA0
  rw [Tryd.params7] at hA hval
  obtain ⟨v0, vs0, d0, ds0, p0, q0, hargs, rfl, rfl, h0, r0⟩ := trodAll_cons hA
  obtain ⟨rfl, rfl, rfl⟩ := trodAll_nil r0
  obtain rfl : args = #[v0] := by cases args; simp_all
  obtain ⟨rfl, rfl⟩ := trodVars_none hV
  have lt0 : ∀ x ∈ p0, x.block < W.heap.size := by obtain ⟨m, hm⟩ := h0; exact DataW.trod_lt m _ _ _ hm
  have o0 := hval 0 25 v0 rfl rfl
  obtain ⟨a0, rp0, g0, l0⟩ := arg_ents o0 h0
  clear hA0 hval0
  refine ((magain_fn a0 g0 l0).law (lays_of_laid hL) (vs := [v0]) rfl (reps1 rp0)).mono fun e W' ⟨he, bel⟩ => ?_
  subst he
  exact ⟨_, rfl, _, _, _, [], _, [], hW', trodAll_mk1 (shut_bool Tryd.underlying4 _), (trodAll_cons_mk (Below.trod laidOutT (by kernel_rfl) (of_decide_eq_true (by kernel_rfl)) h0 bel lt0) trodAll_mk0), rfl, bel.frame _, fun h => by cases h⟩
theorem mergeAgain_holds : Rows.MergeAgainSaid :=
  OpenClaim.holds_of_wide 7 Tryd.f7 rfl rfl rfl rfl rfl rfl rfl ⟨rfl, rfl, rfl, rfl, rfl⟩ rfl rfl rfl rfl rfl (by kernel_rfl) Tryd.func7 (by kernel_rfl)
    (of_decide_eq_true (by kernel_rfl)) (by unfold Func.isWrapper; first | (rw [if_pos (by decide +kernel)]; kernel_rfl) | (rw [if_neg (by decide +kernel)]; exact ⟨rfl, rfl⟩))
    (fun os started H enc _ => mergeAgain_lifted os started H enc)
theorem mergeAgainCard_holds : Rows.MergeAgainCardSaid :=
  Claim7.holds_tied_plain_at .later [] [.data] true _ true
    mergeAgain_holds (fun _ h => by cases h) (by kernel_rfl) (fun _ h => by cases h) mergeAgain_row_tie rfl ⟨rfl, rfl⟩ (by kernel_rfl) rfl
    (fun f fn hf hfn => by
      obtain rfl : f = 7 := Option.some.inj ((show Tryd.prog.funcNamed "weald/wealdlaw22.MergeAgain" = some 7 by kernel_rfl).symm.trans hf) |>.symm
      obtain rfl : fn = Tryd.f7 := (Option.some.inj (Tryd.func7.symm.trans hfn)).symm
      exact ⟨by kernel_rfl, fun j t ht => by
        rw [Tryd.params7] at ht
        have hm : t ∈ [25] := by simpa using Array.mem_of_getElem? ht
        have hall : ([25].all fun u => !Tryd.prog.wantsStandIn u) = true := by kernel_rfl
        exact (show Tryd.prog.wantsStandIn t = false by simpa using List.all_eq_true.1 hall t hm)⟩)
    (by kernel_rfl)
#print axioms mergeAgainCard_holds
end Go.Proofs.YtomlhekjgagjaaaDoor
