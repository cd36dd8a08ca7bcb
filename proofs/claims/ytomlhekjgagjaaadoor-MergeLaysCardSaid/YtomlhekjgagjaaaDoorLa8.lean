/- For every input MergeLays returns true, and leaves its arguments as they were. Conditions: none beyond the given statement. (Part 8 of 9.) -/
import Derived.Test.YtomlhekjgagjaaaDoorLa7
namespace Go.Proofs.YtomlhekjgagjaaaDoor
set_option maxRecDepth 100000
set_option maxHeartbeats 16000000
open Go Go.RowKit
attribute [local irreducible] zY zZ Step zA Sub zN yY Fn
def rpS (L : List zQ) (k s y u v x : Int) (i : Nat) : AS := { t := [(0, .p (.sl (L.map zQ.V))), (3, .ptr 3 0), (5, .own 42), (6, .p (.val (.int .i64 (i : Nat))))], s := [(3, .box 46 ([.val (.int .i64 k), .val (.int .u64 s), .val (.int .u64 y), .val (.int .u64 u), .val (.int .u64 v), .val (.int .u64 x)].map AV.p)), (42, xD 46 6 ((L.take i).map zQ.V))] }
end Go.Proofs.YtomlhekjgagjaaaDoor
namespace Go.Proofs.YtomlhekjgagjaaaDoor
set_option maxRecDepth 100000
set_option maxHeartbeats 16000000
open Go Go.RowKit
attribute [local irreducible] zY zZ Step zA Sub zN yY Fn zF zM
def saG (A : List xH) (i : Nat) : AS := { t := [(0, .p (.sl (A.map xH.V))), (1, .p (.sl (A.map xH.V))), (5, .p (.val (.int .i64 (i : Nat))))], s := [] }
theorem sameArc_fn (A : List xH) (hA : A.length ≤ 1000000) : Fn Tryd.prog 21 [.sl (A.map xH.V), .sl (A.map xH.V)] (.p (.val (.bool true))) := by
 have hlA : (A.map xH.V).length = A.length := by rw [List.length_map]
 have hcA := arcs_cells A
 refine wQ Tryd.func21 rfl Tryd.ntmps21 (Nat.le_of_ble_eq_true rfl) ?_
 have c1 : (!decide ((((A.map xH.V).length : Nat) : Int) = (((A.map xH.V).length : Nat) : Int))) = false := by rw [decide_eq_true rfl]; rfl
 repeat' (first | (refine zZ.is ?_; first | refine zZ.seq ?_ | (refine zZ.isR (id := 0) ?_; refine zZ.zV [0, 1] [] (by repeat' first | exact zX.nil | apply zX.p rfl) (by repeat' exact zW.nil) ?_; refine zY.va rfl rfl rfl rfl (by decide) ?_; refine zY.nil ?_) | (refine zZ.isR (id := 1) ?_; refine zZ.zV [0, 1, 4] [] (by repeat' first | exact zX.nil | apply zX.p rfl) (by repeat' exact zW.nil) ?_; refine zY.vm rfl rfl rfl rfl (by decide) ?_; refine zY.v rfl rfl (yQ rfl rfl rfl (by decide)) ?_; refine zY.vm rfl rfl rfl rfl (by decide) ?_; refine zY.v rfl rfl (yQ rfl rfl rfl (by decide)) ?_; refine zY.v rfl rfl (vK rfl rfl rfl c1 rfl (by decide)) ?_; refine zY.nil ?_) | (refine zZ.isR (id := 3) ?_; refine zZ.zV [0, 1, 4] [] (by repeat' first | exact zX.nil | apply zX.p rfl) (by repeat' exact zW.nil) ?_; refine zY.va rfl rfl rfl rfl (by decide) ?_; refine zY.nil ?_) | refine zZ.yX rfl (by first | assumption | with_reducible rfl) ?_ | refine zZ.skip ?_ | refine zZ.block ?_) | refine zF.n ?_)
 refine zZ.loop (saG A) (fun i => i ≤ A.length) (fun i => A.length - i) 0 ?h0 (Nat.zero_le _) ?rd
 case h0 =>
  unfold saG
  exact zB K_1j []
 case rd =>
  intro i hi
  have g3 : IntKind.i64.wrap (((i : Nat) : Int) + 1) = ((i + 1 : Nat) : Int) := by rw [wrap_i64 _ (by omega)]; omega
  unfold saG
  by_cases hlt : i < A.length
  case pos =>
   have g1 : decide (((i : Nat) : Int) < (((A.map xH.V).length : Nat) : Int)) = true := decide_eq_true (by rw [hlA]; omega)
   obtain ⟨a, ha⟩ : ∃ a, A[i]? = some a := ⟨_, List.getElem?_eq_getElem hlt⟩
   have g2 : (A.map xH.V)[i]? = some a.V := by rw [List.getElem?_map, ha]; rfl
   obtain ⟨au, av, aw⟩ := a
   have c7 : (!decide ([(IntKind.i64, au), (IntKind.i64, av), (IntKind.u64, aw)] = [(IntKind.i64, au), (IntKind.i64, av), (IntKind.u64, aw)])) = false := by rw [decide_eq_true rfl]; rfl
   clear ha
   repeat' (first | (refine zZ.is ?_; first | refine zZ.seq ?_ | (refine zZ.isR (id := 4) ?_; refine zZ.zV [0, 1, 4, 5, 14, 25] [] (by repeat' first | exact zX.nil | apply zX.p rfl | apply zX.skip) (by repeat' exact zW.nil) ?_; refine zY.vm rfl rfl rfl rfl (by decide) ?_; refine zY.vm rfl rfl rfl rfl (by decide) ?_; refine zY.v rfl rfl (yQ rfl rfl rfl (by decide)) ?_; refine zY.v rfl rfl (zR rfl rfl rfl g1 rfl (by decide)) ?_; refine zY.nil ?_) | (refine zZ.isR (id := 6) ?_; refine zZ.xY [0, 1, 4, 5, 14, 25] [] (by repeat' first | exact zX.nil | apply zX.p rfl | apply zX.skip) (by repeat' exact zW.nil) (zZ.draws ?_); all_goals (refine Draws.v rfl rfl (zK rfl rfl rfl (by decide)) ?_); all_goals (refine Draws.v rfl rfl (zK rfl rfl rfl (by decide)) ?_); all_goals (refine Draws.v rfl rfl (zH rfl rfl rfl hcA g2 rfl (by decide)) ?_); all_goals (refine Draws.v rfl rfl (by exact y8 rfl rfl (by exact Nat.le_of_ble_eq_true rfl) rfl (by decide)) ?_); all_goals (refine Draws.v rfl rfl (zK rfl rfl rfl (by decide)) ?_); all_goals (refine Draws.v rfl rfl (zK rfl rfl rfl (by decide)) ?_); all_goals (refine Draws.v rfl rfl (zH rfl rfl rfl hcA g2 rfl (by decide)) ?_); all_goals (refine Draws.v rfl rfl (by exact y8 rfl rfl (by exact Nat.le_of_ble_eq_true rfl) rfl (by decide)) ?_); all_goals (refine Draws.v rfl rfl (r_neqT rfl rfl rfl rfl rfl rfl (by rfl) c7 rfl (by decide)) ?_); all_goals ((refine Draws.done (by kernel_rfl) (by kernel_rfl) (by kernel_rfl) ?_; refine zN.nil ?_))) | (refine zZ.isR (id := 5) ?_; refine zZ.zV [0, 1, 4, 5, 14, 25] [] (by repeat' first | exact zX.nil | apply zX.p rfl | apply zX.skip) (by repeat' exact zW.nil) ?_; refine zY.vm rfl rfl rfl rfl (by decide) ?_; refine zY.v rfl rfl (yD rfl rfl rfl g3 rfl (by decide)) ?_; refine zY.va rfl rfl rfl rfl (by decide) ?_; refine zY.nil ?_) | refine zZ.yV rfl (by first | assumption | with_reducible rfl) ?_ | refine zZ.yX rfl (by first | assumption | with_reducible rfl) ?_ | refine zZ.skip ?_ | refine zZ.block ?_) | refine zF.n ?_ | refine zM.n ?_)
   all_goals
    refine ⟨i + 1, ?_, hlt, by omega⟩
    try unfold saG
    exact zB K_1j []
  case neg =>
   have g1 : decide (((i : Nat) : Int) < (((A.map xH.V).length : Nat) : Int)) = false := decide_eq_false (by rw [hlA]; omega)
   repeat' (first | (refine zZ.is ?_; first | refine zZ.seq ?_ | (refine zZ.isR (id := 4) ?_; refine zZ.zV [0, 1, 4, 5, 14, 25] [] (by repeat' first | exact zX.nil | apply zX.p rfl | apply zX.skip) (by repeat' exact zW.nil) ?_; refine zY.vm rfl rfl rfl rfl (by decide) ?_; refine zY.vm rfl rfl rfl rfl (by decide) ?_; refine zY.v rfl rfl (yQ rfl rfl rfl (by decide)) ?_; refine zY.v rfl rfl (zR rfl rfl rfl g1 rfl (by decide)) ?_; refine zY.nil ?_) | (refine zZ.isR (id := 8) ?_; refine zZ.zV [4] [] (by repeat' first | exact zX.nil | apply zX.skip) (by repeat' exact zW.nil) ?_; refine zY.va rfl rfl rfl rfl (by decide) ?_; refine zY.nil ?_) | refine zZ.yX rfl (by first | assumption | with_reducible rfl) ?_ | refine zZ.exit ?_ | refine zZ.ret ?_) | refine zF.n ?_ | refine zM.eY ?_ | refine zF.e ?_)
   all_goals exact ⟨.inl rfl, gives1 rfl rfl rfl⟩
structure qD (l P : List zQ) : Prop where
  each : ∀ e ∈ P, e.may = true ∧ qC l e = true
  sort : SortY P
  once : (P.map (·.s)).Nodup
def RowsOK (l : List zQ) : Prop := qD l l
theorem qD.nil (l : List zQ) : qD l [] := ⟨(fun e he => by cases he), .nil, .nil⟩
theorem qD.of_take {l P : List zQ} (h : qD l P) (i : Nat) : qD l (P.take i) := by
  refine ⟨fun e he => h.each e (List.mem_of_mem_take he), List.Pairwise.sublist (List.take_sublist _ _) h.sort, ?_⟩
  rw [List.map_take]
  exact List.Pairwise.sublist (List.take_sublist _ _) h.once
theorem qD.last {l P : List zQ} {e : zQ} (h : qD l (P ++ [e])) : (e.may = true ∧ qC l e = true) ∧ (∀ x ∈ P, x.y < e.y) ∧ ∀ x ∈ P, x.s ≠ e.s := by
  refine ⟨h.each e (by simp), fun x hx => ?_, fun x hx => ?_⟩
  · exact (List.pairwise_append.1 h.sort).2.2 x hx e (by simp)
  · have h1 := h.once
    rw [List.map_append] at h1
    exact (List.pairwise_append.1 h1).2.2 x.s (List.mem_map.2 ⟨x, hx, rfl⟩) e.s (by simp)
theorem qD.snoc {l P : List zQ} {e : zQ} (h : qD l P) (hm : e.may = true) (hl : qC l e = true) (hy : ∀ x, P.getLast? = some x → x.y < e.y) (hs : ∀ x ∈ P, x.s ≠ e.s) : qD l (P ++ [e]) := by
  refine ⟨fun d hd => ?_, ?_, ?_⟩
  · rcases List.mem_append.1 hd with hd | hd
    · exact h.each d hd
    · rw [List.mem_singleton] at hd; subst hd; exact ⟨hm, hl⟩
  · refine List.pairwise_append.2 ⟨h.sort, by simp, fun a ha b hb => ?_⟩
    rw [List.mem_singleton] at hb
    subst hb
    cases hg : P.getLast? with
    | none => rw [List.getLast?_eq_none_iff] at hg; subst hg; cases ha
    | some z =>
      have hz := hy z hg
      obtain ⟨Q, rfl⟩ : ∃ Q, P = Q ++ [z] := List.getLast?_eq_some_iff.1 hg
      rcases List.mem_append.1 ha with ha | ha
      · have := (List.pairwise_append.1 h.sort).2.2 a ha z (by simp); omega
      · rw [List.mem_singleton] at ha; subst ha; exact hz
  · rw [List.map_append]
    refine List.pairwise_append.2 ⟨h.once, by simp, fun a ha b hb => ?_⟩
    obtain ⟨x, hx, rfl⟩ := List.mem_map.1 ha
    simp only [List.map_cons, List.map_nil, List.mem_singleton] at hb
    subst hb
    exact hs x hx
def rrO (l : List zQ) (i : Nat) : AS := { t := [(0, .p (.sl (l.map zQ.V))), (3, .p (.val (.int .i64 (i : Nat))))], s := [] }
def rrI (l : List zQ) (i k : Nat) : AS := { t := [(0, .p (.sl (l.map zQ.V))), (3, .p (.val (.int .i64 (i : Nat)))), (5, .p (.val (.int .i64 (k : Nat))))], s := [] }
theorem take_last {l : List zQ} {i : Nat} (h : i < l.length) : (l.take (i + 1)).getLast? = l[i]? := by
  rw [List.take_add_one, List.getElem?_eq_getElem h]
  exact List.getLast?_eq_some_iff.2 ⟨l.take i, rfl⟩
theorem rowsR_fn (l : List zQ) (hl : l.length ≤ 1000000) (hok : ∀ e ∈ l, e.ok) (r : Bool) (hr : r = true ↔ RowsOK l) : Fn Tryd.prog 15 [.sl (l.map zQ.V)] (.p (.val (.bool r))) := by
 have hc := yH l
 have hlen : (l.map zQ.V).length = l.length := by rw [List.length_map]
 have bad : ∀ {i : Nat} {e : zQ}, l[i]? = some e → ¬ qD l (l.take i ++ [e]) → r = false := fun {i e} he hn => Bool.eq_false_iff.2 fun h => hn (by
  have h1 := qD.of_take (hr.1 h) (i + 1)
  rw [List.take_add_one, he] at h1
  exact h1)
 refine wQ Tryd.func15 rfl Tryd.ntmps15 (Nat.le_of_ble_eq_true rfl) ?_
 repeat' (first | (refine zZ.is ?_; first | refine zZ.seq ?_ | (refine zZ.isR (id := 0) ?_; refine zZ.zV [0] [] (by repeat' first | exact zX.nil | apply zX.p rfl) (by repeat' exact zW.nil) ?_; refine zY.va rfl rfl rfl rfl (by decide) ?_; refine zY.nil ?_) | (refine zZ.isR (id := 1) ?_; refine zZ.zV [0, 2] [] (by repeat' first | exact zX.nil | apply zX.p rfl) (by repeat' exact zW.nil) ?_; refine zY.va rfl rfl rfl rfl (by decide) ?_; refine zY.nil ?_) | refine zZ.block ?_) | refine zF.n ?_)
 refine zZ.loop (rrO l) (fun i => i ≤ l.length ∧ qD l (l.take i)) (fun i => l.length - i) 0 ?h0 ⟨Nat.zero_le _, .nil l⟩ ?rd
 case h0 =>
  unfold rrO
  exact zB K_10 []
 case rd =>
  rintro i ⟨hi, hx⟩
  have g3 : IntKind.i64.wrap (((i : Nat) : Int) + 1) = ((i + 1 : Nat) : Int) := by rw [wrap_i64 _ (by omega)]; omega
  unfold rrO
  by_cases hlt : i < l.length
  case pos =>
   have g1 : decide (((i : Nat) : Int) < (((l.map zQ.V).length : Nat) : Int)) = true := decide_eq_true (by rw [hlen]; omega)
   obtain ⟨e, he⟩ : ∃ e, l[i]? = some e := ⟨_, List.getElem?_eq_getElem hlt⟩
   have g2 : (l.map zQ.V)[i]? = some e.V := by rw [List.getElem?_map, he]; rfl
   have ho := hok e (List.mem_of_getElem? he)
   have m1 := mayRef_fn e.k e.s e.y e.u e.v e.x ho.y.1 ho.y.2
   have m1 : Fn Tryd.prog 25 [e.V] (.p (.val (.bool e.may))) := m1
   have l1 := livesR_fn l e hl ho
   have htake := he
   cases hm : e.may
   case false =>
    rw [hm] at m1
    have hr0 := bad he (fun h => by have := h.last.1.1; rw [hm] at this; cases this)
    subst hr0
    clear bad he
    obtain ⟨ek, es, ey, eu, ev, ex⟩ := e
    repeat' (first | (refine zZ.is ?_; first | refine zZ.seq ?_ | (refine zZ.isR (id := 2) ?_; refine zZ.zV [0, 2, 3, 4, 5, 9, 45, 48, 61] [] (by repeat' first | exact zX.nil | apply zX.p rfl | apply zX.skip) (by repeat' exact zW.nil) ?_; refine zY.vm rfl rfl rfl rfl (by decide) ?_; refine zY.vm rfl rfl rfl rfl (by decide) ?_; refine zY.v rfl rfl (yQ rfl rfl rfl (by decide)) ?_; refine zY.v rfl rfl (zR rfl rfl rfl g1 rfl (by decide)) ?_; refine zY.nil ?_) | (refine zZ.isR (id := 4) ?_; refine zZ.zV [0, 2, 3, 4, 5, 9, 45, 48, 61] [] (by repeat' first | exact zX.nil | apply zX.p rfl | apply zX.skip) (by repeat' exact zW.nil) ?_; refine zY.vm rfl rfl rfl rfl (by decide) ?_; refine zY.vm rfl rfl rfl rfl (by decide) ?_; refine zY.v rfl rfl (zH rfl rfl rfl hc g2 rfl (by decide)) ?_; refine zY.v rfl rfl (by exact y8 rfl rfl (by exact Nat.le_of_ble_eq_true rfl) rfl (by decide)) ?_; refine zY.v rfl rfl (by exact zU (m1) rfl rfl rfl (by decide)) ?_; refine zY.va rfl rfl rfl rfl (by decide) ?_; refine zY.nil ?_) | (refine zZ.isR (id := 5) ?_; refine zZ.xY [0, 2, 3, 4, 5, 9, 45, 48, 61] [] (by repeat' first | exact zX.nil | apply zX.p rfl | apply zX.skip) (by repeat' exact zW.nil) (zZ.draws ?_); all_goals (refine Draws.v rfl rfl (zK rfl rfl rfl (by decide)) ?_); all_goals (refine Draws.v rfl rfl (by exact y9 rfl rfl (by exact bT (by decide)) rfl (by decide)) ?_); all_goals (refine Draws.v rfl rfl (zK rfl rfl rfl (by decide)) ?_); all_goals (refine Draws.gNF rfl rfl (by decide) rfl (by rfl) rfl (by decide) ?_); all_goals (refine Draws.gNF rfl rfl (by decide) rfl (by rfl) rfl (by decide) ?_); all_goals (refine Draws.gNF rfl rfl (by decide) rfl (by rfl) rfl (by decide) ?_); all_goals (refine Draws.gNF rfl rfl (by decide) rfl (by rfl) rfl (by decide) ?_); all_goals (refine Draws.gNF rfl rfl (by decide) rfl (by rfl) rfl (by decide) ?_); all_goals (refine Draws.gNF rfl rfl (by decide) rfl (by rfl) rfl (by decide) ?_); all_goals (refine Draws.gNF rfl rfl (by decide) rfl (by rfl) rfl (by decide) ?_); all_goals (refine Draws.v rfl rfl (zL rfl rfl (by rfl) rfl rfl (by decide)) ?_); all_goals (refine Draws.v rfl rfl (zK rfl rfl rfl (by decide)) ?_); all_goals (refine Draws.gNF rfl rfl (by decide) rfl (by rfl) rfl (by decide) ?_); all_goals (refine Draws.gNF rfl rfl (by decide) rfl (by rfl) rfl (by decide) ?_); all_goals (refine Draws.gNF rfl rfl (by decide) rfl (by rfl) rfl (by decide) ?_); all_goals (refine Draws.gU rfl rfl (by decide) (by rfl) rfl (by decide) ?_); all_goals (refine Draws.gU rfl rfl (by decide) (by rfl) rfl (by decide) ?_); all_goals (refine Draws.gU rfl rfl (by decide) (by rfl) rfl (by decide) ?_); all_goals (refine Draws.gU rfl rfl (by decide) (by rfl) rfl (by decide) ?_); all_goals (refine Draws.gU rfl rfl (by decide) (by rfl) rfl (by decide) ?_); all_goals (refine Draws.gU rfl rfl (by decide) (by rfl) rfl (by decide) ?_); all_goals (refine Draws.gU rfl rfl (by decide) (by rfl) rfl (by decide) ?_); all_goals (refine Draws.gU rfl rfl (by decide) (by rfl) rfl (by decide) ?_); all_goals (refine Draws.gU rfl rfl (by decide) (by rfl) rfl (by decide) ?_); all_goals (refine Draws.gU rfl rfl (by decide) (by rfl) rfl (by decide) ?_); all_goals (refine Draws.gU rfl rfl (by decide) (by rfl) rfl (by decide) ?_); all_goals (refine Draws.gU rfl rfl (by decide) (by rfl) rfl (by decide) ?_); all_goals (refine Draws.gNF rfl rfl (by decide) rfl (by rfl) rfl (by decide) ?_); all_goals (refine Draws.v rfl rfl (zL rfl rfl (by rfl) rfl rfl (by decide)) ?_); all_goals ((refine Draws.done (by kernel_rfl) (by kernel_rfl) (by kernel_rfl) ?_; refine zN.nil ?_))) | (refine zZ.isR (id := 6) ?_; refine zZ.zV [0, 2, 3, 4, 5, 9, 45, 48, 61] [] (by repeat' first | exact zX.nil | apply zX.p rfl | apply zX.skip) (by repeat' exact zW.nil) ?_; refine zY.va rfl rfl rfl rfl (by decide) ?_; refine zY.nil ?_) | refine zZ.yV rfl (by first | assumption | with_reducible rfl) ?_ | refine zZ.skip ?_ | refine zZ.block ?_ | refine zZ.ret ?_) | refine zF.n ?_ | refine zF.r ?_ | refine zM.r ?_)
    all_goals exact ⟨.inl rfl, gives1 rfl rfl rfl⟩
   case true =>
    rw [hm] at m1
    cases hv : qC l e
    case false =>
     rw [hv] at l1
     have hr0 := bad he (fun h => by have := h.last.1.2; rw [hv] at this; cases this)
     subst hr0
     clear bad he
     obtain ⟨ek, es, ey, eu, ev, ex⟩ := e
     repeat' (first | (refine zZ.is ?_; first | refine zZ.seq ?_ | (refine zZ.isR (id := 2) ?_; refine zZ.zV [0, 2, 3, 4, 5, 9, 45, 48, 61] [] (by repeat' first | exact zX.nil | apply zX.p rfl | apply zX.skip) (by repeat' exact zW.nil) ?_; refine zY.vm rfl rfl rfl rfl (by decide) ?_; refine zY.vm rfl rfl rfl rfl (by decide) ?_; refine zY.v rfl rfl (yQ rfl rfl rfl (by decide)) ?_; refine zY.v rfl rfl (zR rfl rfl rfl g1 rfl (by decide)) ?_; refine zY.nil ?_) | (refine zZ.isR (id := 4) ?_; refine zZ.zV [0, 2, 3, 4, 5, 9, 45, 48, 61] [] (by repeat' first | exact zX.nil | apply zX.p rfl | apply zX.skip) (by repeat' exact zW.nil) ?_; refine zY.vm rfl rfl rfl rfl (by decide) ?_; refine zY.vm rfl rfl rfl rfl (by decide) ?_; refine zY.v rfl rfl (zH rfl rfl rfl hc g2 rfl (by decide)) ?_; refine zY.v rfl rfl (by exact y8 rfl rfl (by exact Nat.le_of_ble_eq_true rfl) rfl (by decide)) ?_; refine zY.v rfl rfl (by exact zU (m1) rfl rfl rfl (by decide)) ?_; refine zY.va rfl rfl rfl rfl (by decide) ?_; refine zY.nil ?_) | (refine zZ.isR (id := 5) ?_; refine zZ.xY [0, 2, 3, 4, 5, 9, 45, 48, 61] [] (by repeat' first | exact zX.nil | apply zX.p rfl | apply zX.skip) (by repeat' exact zW.nil) (zZ.draws ?_); all_goals (refine Draws.v rfl rfl (zK rfl rfl rfl (by decide)) ?_); all_goals (refine Draws.v rfl rfl (by exact y9 rfl rfl (by exact bF (by decide)) rfl (by decide)) ?_); all_goals (refine Draws.v rfl rfl (zK rfl rfl rfl (by decide)) ?_); all_goals (refine Draws.gY rfl rfl (by decide) rfl (by rfl) rfl (zK rfl rfl rfl (by decide)) ?_); all_goals (refine Draws.gY rfl rfl (by decide) rfl (by rfl) rfl (zK rfl rfl rfl (by decide)) ?_); all_goals (refine Draws.gY rfl rfl (by decide) rfl (by rfl) rfl (zK rfl rfl rfl (by decide)) ?_); all_goals (refine Draws.gY rfl rfl (by decide) rfl (by rfl) rfl (zH rfl rfl rfl hc g2 rfl (by decide)) ?_); all_goals (refine Draws.gY rfl rfl (by decide) rfl (by rfl) rfl (by exact y8 rfl rfl (by exact Nat.le_of_ble_eq_true rfl) rfl (by decide)) ?_); all_goals (refine Draws.gY rfl rfl (by decide) rfl (by rfl) rfl (by exact zU (l1) rfl rfl rfl (by decide)) ?_); all_goals (refine Draws.gY rfl rfl (by decide) rfl (by rfl) rfl (by exact y9 rfl rfl (by exact bT (by decide)) rfl (by decide)) ?_); all_goals (refine Draws.v rfl rfl (zI rfl rfl (by rfl) rfl rfl (by decide)) ?_); all_goals (refine Draws.v rfl rfl (zK rfl rfl rfl (by decide)) ?_); all_goals (refine Draws.gNF rfl rfl (by decide) rfl (by rfl) rfl (by decide) ?_); all_goals (refine Draws.gNF rfl rfl (by decide) rfl (by rfl) rfl (by decide) ?_); all_goals (refine Draws.gNF rfl rfl (by decide) rfl (by rfl) rfl (by decide) ?_); all_goals (refine Draws.gU rfl rfl (by decide) (by rfl) rfl (by decide) ?_); all_goals (refine Draws.gU rfl rfl (by decide) (by rfl) rfl (by decide) ?_); all_goals (refine Draws.gU rfl rfl (by decide) (by rfl) rfl (by decide) ?_); all_goals (refine Draws.gU rfl rfl (by decide) (by rfl) rfl (by decide) ?_); all_goals (refine Draws.gU rfl rfl (by decide) (by rfl) rfl (by decide) ?_); all_goals (refine Draws.gU rfl rfl (by decide) (by rfl) rfl (by decide) ?_); all_goals (refine Draws.gU rfl rfl (by decide) (by rfl) rfl (by decide) ?_); all_goals (refine Draws.gU rfl rfl (by decide) (by rfl) rfl (by decide) ?_); all_goals (refine Draws.gU rfl rfl (by decide) (by rfl) rfl (by decide) ?_); all_goals (refine Draws.gU rfl rfl (by decide) (by rfl) rfl (by decide) ?_); all_goals (refine Draws.gU rfl rfl (by decide) (by rfl) rfl (by decide) ?_); all_goals (refine Draws.gU rfl rfl (by decide) (by rfl) rfl (by decide) ?_); all_goals (refine Draws.gNF rfl rfl (by decide) rfl (by rfl) rfl (by decide) ?_); all_goals (refine Draws.v rfl rfl (zL rfl rfl (by rfl) rfl rfl (by decide)) ?_); all_goals ((refine Draws.done (by kernel_rfl) (by kernel_rfl) (by kernel_rfl) ?_; refine zN.nil ?_))) | (refine zZ.isR (id := 6) ?_; refine zZ.zV [0, 2, 3, 4, 5, 9, 45, 48, 61] [] (by repeat' first | exact zX.nil | apply zX.p rfl | apply zX.skip) (by repeat' exact zW.nil) ?_; refine zY.va rfl rfl rfl rfl (by decide) ?_; refine zY.nil ?_) | refine zZ.yV rfl (by first | assumption | with_reducible rfl) ?_ | refine zZ.skip ?_ | refine zZ.block ?_ | refine zZ.ret ?_) | refine zF.n ?_ | refine zF.r ?_ | refine zM.r ?_)
     all_goals exact ⟨.inl rfl, gives1 rfl rfl rfl⟩
    case true =>
     rw [hv] at l1
     have step : ∀ (hy : ∀ x, (l.take i).getLast? = some x → x.y < e.y) (hs : ∀ x ∈ l.take i, x.s ≠ e.s), qD l (l.take (i + 1)) := fun hy hs => by
      rw [List.take_add_one, he]
      exact hx.snoc hm hv hy hs
     have inner : ∀ (hy : ∀ x, (l.take i).getLast? = some x → x.y < e.y) (K : Exit → AS → Prop), True := fun _ _ => trivial
     by_cases hi0 : i = 0
     case pos =>
      subst hi0
      have k0 : decide (((0 : Nat) : Int) > 0) = false := rfl
      have k1 : decide (((0 : Nat) : Int) < ((0 : Nat) : Int)) = false := rfl
      have hnext := step (fun x hx => by simp at hx) (fun x hx => by simp at hx)
      clear bad he step inner
      obtain ⟨ek, es, ey, eu, ev, ex⟩ := e
      repeat' (first | (refine zZ.is ?_; first | refine zZ.seq ?_ | (refine zZ.isR (id := 2) ?_; refine zZ.zV [0, 2, 3, 4, 5, 9, 45, 48, 61] [] (by repeat' first | exact zX.nil | apply zX.p rfl | apply zX.skip) (by repeat' exact zW.nil) ?_; refine zY.vm rfl rfl rfl rfl (by decide) ?_; refine zY.vm rfl rfl rfl rfl (by decide) ?_; refine zY.v rfl rfl (yQ rfl rfl rfl (by decide)) ?_; refine zY.v rfl rfl (zR rfl rfl rfl g1 rfl (by decide)) ?_; refine zY.nil ?_) | (refine zZ.isR (id := 4) ?_; refine zZ.zV [0, 2, 3, 4, 5, 9, 45, 48, 61] [] (by repeat' first | exact zX.nil | apply zX.p rfl | apply zX.skip) (by repeat' exact zW.nil) ?_; refine zY.vm rfl rfl rfl rfl (by decide) ?_; refine zY.vm rfl rfl rfl rfl (by decide) ?_; refine zY.v rfl rfl (zH rfl rfl rfl hc g2 rfl (by decide)) ?_; refine zY.v rfl rfl (by exact y8 rfl rfl (by exact Nat.le_of_ble_eq_true rfl) rfl (by decide)) ?_; refine zY.v rfl rfl (by exact zU (m1) rfl rfl rfl (by decide)) ?_; refine zY.va rfl rfl rfl rfl (by decide) ?_; refine zY.nil ?_) | (refine zZ.isR (id := 5) ?_; refine zZ.xY [0, 2, 3, 4, 5, 9, 45, 48, 61] [] (by repeat' first | exact zX.nil | apply zX.p rfl | apply zX.skip) (by repeat' exact zW.nil) (zZ.draws ?_); all_goals (refine Draws.v rfl rfl (zK rfl rfl rfl (by decide)) ?_); all_goals (refine Draws.v rfl rfl (y9 rfl rfl k0 rfl (by decide)) ?_); all_goals (refine Draws.v rfl rfl (zK rfl rfl rfl (by decide)) ?_); all_goals (refine Draws.gY rfl rfl (by decide) rfl (by assumption) rfl (zK rfl rfl rfl (by decide)) ?_); all_goals (refine Draws.gY rfl rfl (by decide) rfl (by assumption) rfl (zK rfl rfl rfl (by decide)) ?_); all_goals (refine Draws.gY rfl rfl (by decide) rfl (by assumption) rfl (zK rfl rfl rfl (by decide)) ?_); all_goals (refine Draws.gY rfl rfl (by decide) rfl (by assumption) rfl (zH rfl rfl rfl hc g2 rfl (by decide)) ?_); all_goals (refine Draws.gY rfl rfl (by decide) rfl (by assumption) rfl (by exact y8 rfl rfl (by exact Nat.le_of_ble_eq_true rfl) rfl (by decide)) ?_); all_goals (refine Draws.gY rfl rfl (by decide) rfl (by assumption) rfl (by exact zU (l1) rfl rfl rfl (by decide)) ?_); all_goals (refine Draws.gY rfl rfl (by decide) rfl (by assumption) rfl (y9 rfl rfl k0 rfl (by decide)) ?_); all_goals (refine Draws.v rfl rfl (by exact zI rfl rfl (by assumption) rfl rfl (by decide)) ?_); all_goals (refine Draws.v rfl rfl (zK rfl rfl rfl (by decide)) ?_); all_goals (refine Draws.gY rfl rfl (by decide) rfl (by assumption) rfl (zK rfl rfl rfl (by decide)) ?_); all_goals (refine Draws.gY rfl rfl (by decide) rfl (by assumption) rfl (wW rfl rfl rfl k0 rfl (by decide)) ?_); all_goals (refine Draws.gY rfl rfl (by decide) rfl (by assumption) rfl (zK rfl rfl rfl (by decide)) ?_); all_goals (refine Draws.gNT rfl rfl (by decide) rfl (by assumption) rfl (by decide) ?_); all_goals (refine Draws.gNT rfl rfl (by decide) rfl (by assumption) rfl (by decide) ?_); all_goals (refine Draws.gNT rfl rfl (by decide) rfl (by assumption) rfl (by decide) ?_); all_goals (refine Draws.gNT rfl rfl (by decide) rfl (by assumption) rfl (by decide) ?_); all_goals (refine Draws.gNT rfl rfl (by decide) rfl (by assumption) rfl (by decide) ?_); all_goals (refine Draws.gNT rfl rfl (by decide) rfl (by assumption) rfl (by decide) ?_); all_goals (refine Draws.gNT rfl rfl (by decide) rfl (by assumption) rfl (by decide) ?_); all_goals (refine Draws.gNT rfl rfl (by decide) rfl (by assumption) rfl (by decide) ?_); all_goals (refine Draws.gNT rfl rfl (by decide) rfl (by assumption) rfl (by decide) ?_); all_goals (refine Draws.gNT rfl rfl (by decide) rfl (by assumption) rfl (by decide) ?_); all_goals (refine Draws.gNT rfl rfl (by decide) rfl (by assumption) rfl (by decide) ?_); all_goals (refine Draws.gNT rfl rfl (by decide) rfl (by assumption) rfl (by decide) ?_); all_goals (refine Draws.gY rfl rfl (by decide) rfl (by assumption) rfl (by exact zI rfl rfl (by assumption) rfl rfl (by decide)) ?_); all_goals (refine Draws.v rfl rfl (by exact zI rfl rfl (by assumption) rfl rfl (by decide)) ?_); all_goals ((refine Draws.done (by kernel_rfl) (by kernel_rfl) (by kernel_rfl) ?_; refine zN.nil ?_))) | (refine zZ.isR (id := 7) ?_; refine zZ.zV [0, 2, 3, 4, 5, 9, 45, 48, 61] [] (by repeat' first | exact zX.nil | apply zX.p rfl | apply zX.skip) (by repeat' exact zW.nil) ?_; refine zY.va rfl rfl rfl rfl (by decide) ?_; refine zY.nil ?_) | refine zZ.yV rfl (by first | assumption | with_reducible rfl) ?_ | refine zZ.yX rfl (by assumption) ?_ | refine zZ.skip ?_ | refine zZ.block ?_) | refine zF.n ?_)
      refine zZ.loop (rrI l 0) (fun k => k = 0) (fun k => 0) 0 ?i0 rfl ?ir
      case i0 =>
       unfold rrI
       exact zB K_2p []
      case ir =>
       rintro k rfl
       unfold rrI
       repeat' (first | (refine zZ.is ?_; first | refine zZ.seq ?_ | (refine zZ.isR (id := 8) ?_; refine zZ.zV [0, 2, 3, 4, 5, 9, 45, 48, 61] [] (by repeat' first | exact zX.nil | apply zX.p rfl | apply zX.skip) (by repeat' exact zW.nil) ?_; refine zY.vm rfl rfl rfl rfl (by decide) ?_; refine zY.vm rfl rfl rfl rfl (by decide) ?_; refine zY.v rfl rfl (zR rfl rfl rfl k1 rfl (by decide)) ?_; refine zY.nil ?_) | (refine zZ.isR (id := 3) ?_; refine zZ.zV [0, 2, 3, 4, 5, 9, 45, 48, 61] [] (by repeat' first | exact zX.nil | apply zX.p rfl | apply zX.skip) (by repeat' exact zW.nil) ?_; refine zY.vm rfl rfl rfl rfl (by decide) ?_; refine zY.v rfl rfl (yD rfl rfl rfl g3 rfl (by decide)) ?_; refine zY.va rfl rfl rfl rfl (by decide) ?_; refine zY.nil ?_) | refine zZ.yX rfl (by assumption) ?_ | refine zZ.exit ?_) | refine zF.n ?_ | refine zM.n ?_ | refine zM.eY ?_ | refine zF.e ?_)
       all_goals
        refine ⟨0 + 1, ?_, ⟨hlt, hnext⟩, by omega⟩
        try unfold rrO
        exact zB K_10 []
     case neg =>
      have k0 : decide (((i : Nat) : Int) > 0) = true := decide_eq_true (by omega)
      obtain ⟨p, hp⟩ : ∃ p, l[i - 1]? = some p := ⟨_, List.getElem?_eq_getElem (by omega)⟩
      have k2 : (l.map zQ.V)[i - 1]? = some p.V := by rw [List.getElem?_map, hp]; rfl
      have k3 : IntKind.i64.wrap (((i : Nat) : Int) - 1) = ((i - 1 : Nat) : Int) := by rw [wrap_i64 _ (by omega)]; omega
      have hlast : (l.take i).getLast? = some p := by
       have := take_last (l := l) (i := i - 1) (by omega)
       rw [show i - 1 + 1 = i by omega, hp] at this
       exact this
      cases hyp : decide (e.y ≤ p.y)
      case true =>
       have hr0 := bad he (fun h => by
        have := h.last.2.1 p (List.mem_of_getLast? hlast)
        have h2 := of_decide_eq_true hyp
        omega)
       subst hr0
       clear bad he step inner hp hlast
       obtain ⟨ek, es, ey, eu, ev, ex⟩ := e
       obtain ⟨pk, ps, py, pu, pv, px⟩ := p
       repeat' (first | (refine zZ.is ?_; first | refine zZ.seq ?_ | (refine zZ.isR (id := 2) ?_; refine zZ.zV [0, 2, 3, 4, 5, 9, 45, 48, 61] [] (by repeat' first | exact zX.nil | apply zX.p rfl | apply zX.skip) (by repeat' exact zW.nil) ?_; refine zY.vm rfl rfl rfl rfl (by decide) ?_; refine zY.vm rfl rfl rfl rfl (by decide) ?_; refine zY.v rfl rfl (yQ rfl rfl rfl (by decide)) ?_; refine zY.v rfl rfl (zR rfl rfl rfl g1 rfl (by decide)) ?_; refine zY.nil ?_) | (refine zZ.isR (id := 4) ?_; refine zZ.zV [0, 2, 3, 4, 5, 9, 45, 48, 61] [] (by repeat' first | exact zX.nil | apply zX.p rfl | apply zX.skip) (by repeat' exact zW.nil) ?_; refine zY.vm rfl rfl rfl rfl (by decide) ?_; refine zY.vm rfl rfl rfl rfl (by decide) ?_; refine zY.v rfl rfl (zH rfl rfl rfl hc g2 rfl (by decide)) ?_; refine zY.v rfl rfl (by exact y8 rfl rfl (by exact Nat.le_of_ble_eq_true rfl) rfl (by decide)) ?_; refine zY.v rfl rfl (by exact zU (m1) rfl rfl rfl (by decide)) ?_; refine zY.va rfl rfl rfl rfl (by decide) ?_; refine zY.nil ?_) | (refine zZ.isR (id := 5) ?_; refine zZ.xY [0, 2, 3, 4, 5, 9, 45, 48, 61] [] (by repeat' first | exact zX.nil | apply zX.p rfl | apply zX.skip) (by repeat' exact zW.nil) (zZ.draws ?_); all_goals (refine Draws.v rfl rfl (zK rfl rfl rfl (by decide)) ?_); all_goals (refine Draws.v rfl rfl (by exact y9 rfl rfl (by exact bF (by decide)) rfl (by decide)) ?_); all_goals (refine Draws.v rfl rfl (zK rfl rfl rfl (by decide)) ?_); all_goals (refine Draws.gY rfl rfl (by decide) rfl (by rfl) rfl (zK rfl rfl rfl (by decide)) ?_); all_goals (refine Draws.gY rfl rfl (by decide) rfl (by rfl) rfl (zK rfl rfl rfl (by decide)) ?_); all_goals (refine Draws.gY rfl rfl (by decide) rfl (by rfl) rfl (zK rfl rfl rfl (by decide)) ?_); all_goals (refine Draws.gY rfl rfl (by decide) rfl (by rfl) rfl (zH rfl rfl rfl hc g2 rfl (by decide)) ?_); all_goals (refine Draws.gY rfl rfl (by decide) rfl (by rfl) rfl (by exact y8 rfl rfl (by exact Nat.le_of_ble_eq_true rfl) rfl (by decide)) ?_); all_goals (refine Draws.gY rfl rfl (by decide) rfl (by rfl) rfl (by exact zU (l1) rfl rfl rfl (by decide)) ?_); all_goals (refine Draws.gY rfl rfl (by decide) rfl (by rfl) rfl (by exact y9 rfl rfl (by exact bF (by decide)) rfl (by decide)) ?_); all_goals (refine Draws.v rfl rfl (zI rfl rfl (by rfl) rfl rfl (by decide)) ?_); all_goals (refine Draws.v rfl rfl (zK rfl rfl rfl (by decide)) ?_); all_goals (refine Draws.gY rfl rfl (by decide) rfl (by rfl) rfl (zK rfl rfl rfl (by decide)) ?_); all_goals (refine Draws.gY rfl rfl (by decide) rfl (by rfl) rfl (wW rfl rfl rfl k0 rfl (by decide)) ?_); all_goals (refine Draws.gY rfl rfl (by decide) rfl (by rfl) rfl (zK rfl rfl rfl (by decide)) ?_); all_goals (refine Draws.gY rfl rfl (by decide) rfl (by rfl) rfl (zK rfl rfl rfl (by decide)) ?_); all_goals (refine Draws.gY rfl rfl (by decide) rfl (by rfl) rfl (zK rfl rfl rfl (by decide)) ?_); all_goals (refine Draws.gY rfl rfl (by decide) rfl (by rfl) rfl (zH rfl rfl rfl hc g2 rfl (by decide)) ?_); all_goals (refine Draws.gY rfl rfl (by decide) rfl (by rfl) rfl (yJ rfl rfl rfl (by decide)) ?_); all_goals (refine Draws.gY rfl rfl (by decide) rfl (by rfl) rfl (zT rfl rfl rfl rfl (by decide)) ?_); all_goals (refine Draws.gY rfl rfl (by decide) rfl (by rfl) rfl (zK rfl rfl rfl (by decide)) ?_); all_goals (refine Draws.gY rfl rfl (by decide) rfl (by rfl) rfl (zK rfl rfl rfl (by decide)) ?_); all_goals (refine Draws.gY rfl rfl (by decide) rfl (by rfl) rfl (wY rfl rfl rfl k3 rfl (by decide)) ?_); all_goals (refine Draws.gY rfl rfl (by decide) rfl (by rfl) rfl (zH rfl rfl rfl hc k2 rfl (by decide)) ?_); all_goals (refine Draws.gY rfl rfl (by decide) rfl (by rfl) rfl (yJ rfl rfl rfl (by decide)) ?_); all_goals (refine Draws.gY rfl rfl (by decide) rfl (by rfl) rfl (zT rfl rfl rfl rfl (by decide)) ?_); all_goals (refine Draws.gY rfl rfl (by decide) rfl (by rfl) rfl (r_leq rfl rfl rfl hyp rfl (by decide)) ?_); all_goals (refine Draws.gY rfl rfl (by decide) rfl (by rfl) rfl (zL rfl rfl (by rfl) rfl rfl (by decide)) ?_); all_goals (refine Draws.v rfl rfl (zI rfl rfl (by rfl) rfl rfl (by decide)) ?_); all_goals ((refine Draws.done (by kernel_rfl) (by kernel_rfl) (by kernel_rfl) ?_; refine zN.nil ?_))) | (refine zZ.isR (id := 6) ?_; refine zZ.zV [0, 2, 3, 4, 5, 9, 45, 48, 61] [] (by repeat' first | exact zX.nil | apply zX.p rfl | apply zX.skip) (by repeat' exact zW.nil) ?_; refine zY.va rfl rfl rfl rfl (by decide) ?_; refine zY.nil ?_) | refine zZ.yV rfl (by first | assumption | with_reducible rfl) ?_ | refine zZ.skip ?_ | refine zZ.block ?_ | refine zZ.ret ?_) | refine zF.n ?_ | refine zF.r ?_ | refine zM.r ?_)
       all_goals exact ⟨.inl rfl, gives1 rfl rfl rfl⟩
      case false =>
       have step2 := step (fun x hx => by rw [hlast] at hx; cases hx; have := of_decide_eq_false hyp; omega)
       clear step inner hp hlast
       obtain ⟨ek, es, ey, eu, ev, ex⟩ := e
       obtain ⟨pk, ps, py, pu, pv, px⟩ := p
       repeat' (first | (refine zZ.is ?_; first | refine zZ.seq ?_ | (refine zZ.isR (id := 2) ?_; refine zZ.zV [0, 2, 3, 4, 5, 9, 45, 48, 61] [] (by repeat' first | exact zX.nil | apply zX.p rfl | apply zX.skip) (by repeat' exact zW.nil) ?_; refine zY.vm rfl rfl rfl rfl (by decide) ?_; refine zY.vm rfl rfl rfl rfl (by decide) ?_; refine zY.v rfl rfl (yQ rfl rfl rfl (by decide)) ?_; refine zY.v rfl rfl (zR rfl rfl rfl g1 rfl (by decide)) ?_; refine zY.nil ?_) | (refine zZ.isR (id := 4) ?_; refine zZ.zV [0, 2, 3, 4, 5, 9, 45, 48, 61] [] (by repeat' first | exact zX.nil | apply zX.p rfl | apply zX.skip) (by repeat' exact zW.nil) ?_; refine zY.vm rfl rfl rfl rfl (by decide) ?_; refine zY.vm rfl rfl rfl rfl (by decide) ?_; refine zY.v rfl rfl (zH rfl rfl rfl hc g2 rfl (by decide)) ?_; refine zY.v rfl rfl (by exact y8 rfl rfl (by exact Nat.le_of_ble_eq_true rfl) rfl (by decide)) ?_; refine zY.v rfl rfl (by exact zU (m1) rfl rfl rfl (by decide)) ?_; refine zY.va rfl rfl rfl rfl (by decide) ?_; refine zY.nil ?_) | (refine zZ.isR (id := 5) ?_; refine zZ.xY [0, 2, 3, 4, 5, 9, 45, 48, 61] [] (by repeat' first | exact zX.nil | apply zX.p rfl | apply zX.skip) (by repeat' exact zW.nil) (zZ.draws ?_); all_goals (refine Draws.v rfl rfl (zK rfl rfl rfl (by decide)) ?_); all_goals (refine Draws.v rfl rfl (by exact y9 rfl rfl (by exact bF (by decide)) rfl (by decide)) ?_); all_goals (refine Draws.v rfl rfl (zK rfl rfl rfl (by decide)) ?_); all_goals (refine Draws.gY rfl rfl (by decide) rfl (by rfl) rfl (zK rfl rfl rfl (by decide)) ?_); all_goals (refine Draws.gY rfl rfl (by decide) rfl (by rfl) rfl (zK rfl rfl rfl (by decide)) ?_); all_goals (refine Draws.gY rfl rfl (by decide) rfl (by rfl) rfl (zK rfl rfl rfl (by decide)) ?_); all_goals (refine Draws.gY rfl rfl (by decide) rfl (by rfl) rfl (zH rfl rfl rfl hc g2 rfl (by decide)) ?_); all_goals (refine Draws.gY rfl rfl (by decide) rfl (by rfl) rfl (by exact y8 rfl rfl (by exact Nat.le_of_ble_eq_true rfl) rfl (by decide)) ?_); all_goals (refine Draws.gY rfl rfl (by decide) rfl (by rfl) rfl (by exact zU (l1) rfl rfl rfl (by decide)) ?_); all_goals (refine Draws.gY rfl rfl (by decide) rfl (by rfl) rfl (by exact y9 rfl rfl (by exact bF (by decide)) rfl (by decide)) ?_); all_goals (refine Draws.v rfl rfl (zI rfl rfl (by rfl) rfl rfl (by decide)) ?_); all_goals (refine Draws.v rfl rfl (zK rfl rfl rfl (by decide)) ?_); all_goals (refine Draws.gY rfl rfl (by decide) rfl (by rfl) rfl (zK rfl rfl rfl (by decide)) ?_); all_goals (refine Draws.gY rfl rfl (by decide) rfl (by rfl) rfl (wW rfl rfl rfl k0 rfl (by decide)) ?_); all_goals (refine Draws.gY rfl rfl (by decide) rfl (by rfl) rfl (zK rfl rfl rfl (by decide)) ?_); all_goals (refine Draws.gY rfl rfl (by decide) rfl (by rfl) rfl (zK rfl rfl rfl (by decide)) ?_); all_goals (refine Draws.gY rfl rfl (by decide) rfl (by rfl) rfl (zK rfl rfl rfl (by decide)) ?_); all_goals (refine Draws.gY rfl rfl (by decide) rfl (by rfl) rfl (zH rfl rfl rfl hc g2 rfl (by decide)) ?_); all_goals (refine Draws.gY rfl rfl (by decide) rfl (by rfl) rfl (yJ rfl rfl rfl (by decide)) ?_); all_goals (refine Draws.gY rfl rfl (by decide) rfl (by rfl) rfl (zT rfl rfl rfl rfl (by decide)) ?_); all_goals (refine Draws.gY rfl rfl (by decide) rfl (by rfl) rfl (zK rfl rfl rfl (by decide)) ?_); all_goals (refine Draws.gY rfl rfl (by decide) rfl (by rfl) rfl (zK rfl rfl rfl (by decide)) ?_); all_goals (refine Draws.gY rfl rfl (by decide) rfl (by rfl) rfl (wY rfl rfl rfl k3 rfl (by decide)) ?_); all_goals (refine Draws.gY rfl rfl (by decide) rfl (by rfl) rfl (zH rfl rfl rfl hc k2 rfl (by decide)) ?_); all_goals (refine Draws.gY rfl rfl (by decide) rfl (by rfl) rfl (yJ rfl rfl rfl (by decide)) ?_); all_goals (refine Draws.gY rfl rfl (by decide) rfl (by rfl) rfl (zT rfl rfl rfl rfl (by decide)) ?_); all_goals (refine Draws.gY rfl rfl (by decide) rfl (by rfl) rfl (r_leq rfl rfl rfl hyp rfl (by decide)) ?_); all_goals (refine Draws.gY rfl rfl (by decide) rfl (by rfl) rfl (zL rfl rfl (by rfl) rfl rfl (by decide)) ?_); all_goals (refine Draws.v rfl rfl (zI rfl rfl (by rfl) rfl rfl (by decide)) ?_); all_goals ((refine Draws.done (by kernel_rfl) (by kernel_rfl) (by kernel_rfl) ?_; refine zN.nil ?_))) | (refine zZ.isR (id := 7) ?_; refine zZ.zV [0, 2, 3, 4, 5, 9, 45, 48, 61] [] (by repeat' first | exact zX.nil | apply zX.p rfl | apply zX.skip) (by repeat' exact zW.nil) ?_; refine zY.va rfl rfl rfl rfl (by decide) ?_; refine zY.nil ?_) | refine zZ.yV rfl (by first | assumption | with_reducible rfl) ?_ | refine zZ.yX rfl (by first | assumption | with_reducible rfl) ?_ | refine zZ.skip ?_ | refine zZ.block ?_) | refine zF.n ?_)
       refine zZ.loop (rrI l i) (fun k => k ≤ i ∧ ∀ x ∈ l.take k, x.s ≠ es) (fun k => i - k) 0 ?j0 ⟨Nat.zero_le _, fun x hx => by simp at hx⟩ ?jr
       case j0 =>
        unfold rrI
        exact zB K_2p []
       case jr =>
        rintro k ⟨hk, hks⟩
        have n3 : IntKind.i64.wrap (((k : Nat) : Int) + 1) = ((k + 1 : Nat) : Int) := by rw [wrap_i64 _ (by omega)]; omega
        unfold rrI
        by_cases hki : k < i
        case pos =>
         have n1 : decide (((k : Nat) : Int) < ((i : Nat) : Int)) = true := decide_eq_true (by omega)
         obtain ⟨x, hxk⟩ : ∃ x, l[k]? = some x := ⟨_, List.getElem?_eq_getElem (by omega)⟩
         have n2 : (l.map zQ.V)[k]? = some x.V := by rw [List.getElem?_map, hxk]; rfl
         cases hss : decide (x.s = es)
         case true =>
          have hr0 := bad he (fun h => h.last.2.2 x (by
           refine List.mem_of_getElem? (i := k) ?_
           rw [List.getElem?_take, if_pos hki]
           exact hxk) (of_decide_eq_true hss))
          subst hr0
          clear bad he step2 hxk
          obtain ⟨xk, xs, xy, xu, xv, xx⟩ := x
          repeat' (first | (refine zZ.is ?_; first | refine zZ.seq ?_ | (refine zZ.isR (id := 8) ?_; refine zZ.zV [0, 2, 3, 4, 5, 9, 45, 48, 61] [] (by repeat' first | exact zX.nil | apply zX.p rfl | apply zX.skip) (by repeat' exact zW.nil) ?_; refine zY.vm rfl rfl rfl rfl (by decide) ?_; refine zY.vm rfl rfl rfl rfl (by decide) ?_; refine zY.v rfl rfl (zR rfl rfl rfl n1 rfl (by decide)) ?_; refine zY.nil ?_) | (refine zZ.isR (id := 10) ?_; refine zZ.xY [0, 2, 3, 4, 5, 9, 45, 48, 61] [] (by repeat' first | exact zX.nil | apply zX.p rfl | apply zX.skip) (by repeat' exact zW.nil) (zZ.draws ?_); all_goals (refine Draws.v rfl rfl (zK rfl rfl rfl (by decide)) ?_); all_goals (refine Draws.v rfl rfl (zK rfl rfl rfl (by decide)) ?_); all_goals (refine Draws.v rfl rfl (zH rfl rfl rfl hc n2 rfl (by decide)) ?_); all_goals (refine Draws.v rfl rfl (yJ rfl rfl rfl (by decide)) ?_); all_goals (refine Draws.v rfl rfl (zT rfl rfl rfl rfl (by decide)) ?_); all_goals (refine Draws.v rfl rfl (zK rfl rfl rfl (by decide)) ?_); all_goals (refine Draws.v rfl rfl (zK rfl rfl rfl (by decide)) ?_); all_goals (refine Draws.v rfl rfl (zH rfl rfl rfl hc g2 rfl (by decide)) ?_); all_goals (refine Draws.v rfl rfl (yJ rfl rfl rfl (by decide)) ?_); all_goals (refine Draws.v rfl rfl (zT rfl rfl rfl rfl (by decide)) ?_); all_goals (refine Draws.v rfl rfl (yF rfl rfl rfl hss rfl (by decide)) ?_); all_goals ((refine Draws.done (by kernel_rfl) (by kernel_rfl) (by kernel_rfl) ?_; refine zN.nil ?_))) | (refine zZ.isR (id := 11) ?_; refine zZ.zV [0, 2, 3, 4, 5, 9, 45, 48, 61] [] (by repeat' first | exact zX.nil | apply zX.p rfl | apply zX.skip) (by repeat' exact zW.nil) ?_; refine zY.va rfl rfl rfl rfl (by decide) ?_; refine zY.nil ?_) | refine zZ.yV rfl (by first | assumption | with_reducible rfl) ?_ | refine zZ.skip ?_ | refine zZ.block ?_ | refine zZ.ret ?_) | refine zF.n ?_ | refine zF.r ?_ | refine zM.r ?_)
          all_goals exact ⟨.inl rfl, gives1 rfl rfl rfl⟩
         case false =>
          have hks' : ∀ z ∈ l.take (k + 1), z.s ≠ es := fun z hz => by
           rw [List.take_add_one, hxk] at hz
           rcases List.mem_append.1 hz with hz | hz
           ·exact hks z hz
           ·simp at hz; subst hz; exact of_decide_eq_false hss
          clear bad he step2 hxk hks
          obtain ⟨xk, xs, xy, xu, xv, xx⟩ := x
          repeat' (first | (refine zZ.is ?_; first | refine zZ.seq ?_ | (refine zZ.isR (id := 8) ?_; refine zZ.zV [0, 2, 3, 4, 5, 9, 45, 48, 61] [] (by repeat' first | exact zX.nil | apply zX.p rfl | apply zX.skip) (by repeat' exact zW.nil) ?_; refine zY.vm rfl rfl rfl rfl (by decide) ?_; refine zY.vm rfl rfl rfl rfl (by decide) ?_; refine zY.v rfl rfl (zR rfl rfl rfl n1 rfl (by decide)) ?_; refine zY.nil ?_) | (refine zZ.isR (id := 10) ?_; refine zZ.xY [0, 2, 3, 4, 5, 9, 45, 48, 61] [] (by repeat' first | exact zX.nil | apply zX.p rfl | apply zX.skip) (by repeat' exact zW.nil) (zZ.draws ?_); all_goals (refine Draws.v rfl rfl (zK rfl rfl rfl (by decide)) ?_); all_goals (refine Draws.v rfl rfl (zK rfl rfl rfl (by decide)) ?_); all_goals (refine Draws.v rfl rfl (zH rfl rfl rfl hc n2 rfl (by decide)) ?_); all_goals (refine Draws.v rfl rfl (yJ rfl rfl rfl (by decide)) ?_); all_goals (refine Draws.v rfl rfl (zT rfl rfl rfl rfl (by decide)) ?_); all_goals (refine Draws.v rfl rfl (zK rfl rfl rfl (by decide)) ?_); all_goals (refine Draws.v rfl rfl (zK rfl rfl rfl (by decide)) ?_); all_goals (refine Draws.v rfl rfl (zH rfl rfl rfl hc g2 rfl (by decide)) ?_); all_goals (refine Draws.v rfl rfl (yJ rfl rfl rfl (by decide)) ?_); all_goals (refine Draws.v rfl rfl (zT rfl rfl rfl rfl (by decide)) ?_); all_goals (refine Draws.v rfl rfl (yF rfl rfl rfl hss rfl (by decide)) ?_); all_goals ((refine Draws.done (by kernel_rfl) (by kernel_rfl) (by kernel_rfl) ?_; refine zN.nil ?_))) | (refine zZ.isR (id := 9) ?_; refine zZ.zV [0, 2, 3, 4, 5, 9, 45, 48, 61] [] (by repeat' first | exact zX.nil | apply zX.p rfl | apply zX.skip) (by repeat' exact zW.nil) ?_; refine zY.vm rfl rfl rfl rfl (by decide) ?_; refine zY.v rfl rfl (yD rfl rfl rfl n3 rfl (by decide)) ?_; refine zY.va rfl rfl rfl rfl (by decide) ?_; refine zY.nil ?_) | refine zZ.yV rfl (by first | assumption | with_reducible rfl) ?_ | refine zZ.yX rfl (by first | assumption | with_reducible rfl) ?_ | refine zZ.skip ?_ | refine zZ.block ?_) | refine zF.n ?_ | refine zM.n ?_)
          all_goals
           refine ⟨k + 1, ?_, ⟨hki, hks'⟩, by omega⟩
           try unfold rrI
           exact zB K_2p []
        case neg =>
         have hki : k = i := by omega
         subst hki
         have n1 : decide (((k : Nat) : Int) < ((k : Nat) : Int)) = false := decide_eq_false (by omega)
         have hnext := step2 hks
         clear bad he step2 hks
         repeat' (first | (refine zZ.is ?_; first | refine zZ.seq ?_ | (refine zZ.isR (id := 8) ?_; refine zZ.zV [0, 2, 3, 4, 5, 9, 45, 48, 61] [] (by repeat' first | exact zX.nil | apply zX.p rfl | apply zX.skip) (by repeat' exact zW.nil) ?_; refine zY.vm rfl rfl rfl rfl (by decide) ?_; refine zY.vm rfl rfl rfl rfl (by decide) ?_; refine zY.v rfl rfl (zR rfl rfl rfl n1 rfl (by decide)) ?_; refine zY.nil ?_) | (refine zZ.isR (id := 3) ?_; refine zZ.zV [0, 2, 3, 4, 5, 9, 45, 48, 61] [] (by repeat' first | exact zX.nil | apply zX.p rfl | apply zX.skip) (by repeat' exact zW.nil) ?_; refine zY.vm rfl rfl rfl rfl (by decide) ?_; refine zY.v rfl rfl (yD rfl rfl rfl g3 rfl (by decide)) ?_; refine zY.va rfl rfl rfl rfl (by decide) ?_; refine zY.nil ?_) | refine zZ.yX rfl (by first | assumption | with_reducible rfl) ?_ | refine zZ.exit ?_) | refine zF.n ?_ | refine zM.n ?_ | refine zM.eY ?_ | refine zF.e ?_)
         all_goals
          refine ⟨k + 1, ?_, ⟨hlt, hnext⟩, by omega⟩
          try unfold rrO
          exact zB K_10 []
  case neg =>
   have hie : i = l.length := by omega
   subst hie
   have g1 : decide (((l.length : Nat) : Int) < (((l.map zQ.V).length : Nat) : Int)) = false := decide_eq_false (by rw [hlen]; omega)
   rw [List.take_length] at hx
   have hr1 : r = true := hr.2 hx
   subst hr1
   repeat' (first | (refine zZ.is ?_; first | refine zZ.seq ?_ | (refine zZ.isR (id := 2) ?_; refine zZ.zV [0, 2, 3, 4, 5, 9, 45, 48, 61] [] (by repeat' first | exact zX.nil | apply zX.p rfl | apply zX.skip) (by repeat' exact zW.nil) ?_; refine zY.vm rfl rfl rfl rfl (by decide) ?_; refine zY.vm rfl rfl rfl rfl (by decide) ?_; refine zY.v rfl rfl (yQ rfl rfl rfl (by decide)) ?_; refine zY.v rfl rfl (zR rfl rfl rfl g1 rfl (by decide)) ?_; refine zY.nil ?_) | (refine zZ.isR (id := 12) ?_; refine zZ.zV [2] [] (by repeat' first | exact zX.nil | apply zX.skip) (by repeat' exact zW.nil) ?_; refine zY.va rfl rfl rfl rfl (by decide) ?_; refine zY.nil ?_) | refine zZ.yX rfl (by first | assumption | with_reducible rfl) ?_ | refine zZ.exit ?_ | refine zZ.ret ?_) | refine zF.n ?_ | refine zM.eY ?_ | refine zF.e ?_)
   all_goals exact ⟨.inl rfl, gives1 rfl rfl rfl⟩
end Go.Proofs.YtomlhekjgagjaaaDoor
namespace Go.Proofs.YtomlhekjgagjaaaDoor
set_option maxRecDepth 100000
set_option maxHeartbeats 16000000
open Go Go.RowKit
theorem anewL_len (L : List zQ) : (xV L).length = L.length := by unfold xV; rw [List.length_map]
theorem anew_arcs (L : List zQ) : (xV L).map xS = L.map xS := by
  unfold xV
  rw [List.map_map]
  exact List.map_congr_left fun e _ => rfl
theorem stampsF_get : ∀ (r : List zQ) (d : List (Int × Int)) (i : Nat) (j : Int), (∀ e ∈ r, e.s ≠ j) → dget (stampsF d i r) j = dget d j
  | [], d, i, j, _ => rfl
  | e :: r, d, i, j, h => by
    unfold stampsF
    rw [stampsF_get r _ (i + 1) j fun x hx => h x (by simp [hx]), dget_set, if_neg (h e (by simp))]
theorem stampsF_at : ∀ (r : List zQ) (d : List (Int × Int)) (i k : Nat) (e : zQ), (r.map (·.s)).Nodup → r[k]? = some e → dget (stampsF d i r) e.s = some ((i + k + 1 : Nat) : Int)
  | [], d, i, k, e, _, h => by simp at h
  | x :: r, d, i, 0, e, hn, h => by
    have : x = e := by simpa using h
    subst this
    unfold stampsF
    have hn' := List.nodup_cons.1 (show (x.s :: r.map (·.s)).Nodup from hn)
    rw [stampsF_get r _ (i + 1) x.s (fun y hy e => hn'.1 (by rw [← e]; exact List.mem_map.2 ⟨y, hy, rfl⟩)), dget_set, if_pos rfl]
  | x :: r, d, i, k + 1, e, hn, h => by
    unfold stampsF
    have hn' := List.nodup_cons.1 (show (x.s :: r.map (·.s)).Nodup from hn)
    rw [stampsF_at r _ (i + 1) k e hn'.2 (by simpa using h)]
    congr 2
    omega
theorem stampsL_at {L : List zQ} (hn : (L.map (·.s)).Nodup) {k : Nat} {e : zQ} (h : L[k]? = some e) : xR (xX L) e.s = ((k + 1 : Nat) : Int) := by
  unfold xR xX
  rw [stampsF_at L [] 0 k e hn h]
  show ((0 + k + 1 : Nat) : Int) = _
  omega
theorem stampsL_none {L : List zQ} {j : Int} (h : ∀ e ∈ L, e.s ≠ j) : xR (xX L) j = 0 := by
  unfold xR xX
  rw [stampsF_get L [] 0 j h]
  rfl
theorem newOf_any {L : List zQ} (hn : (L.map (·.s)).Nodup) (j : Int) : xR (xX L) j = 0 ∨ ∃ (k : Nat) (e : zQ), L[k]? = some e ∧ e.s = j ∧ xR (xX L) j = ((k + 1 : Nat) : Int) := by
  by_cases h : ∃ e ∈ L, e.s = j
  · obtain ⟨e, he, rfl⟩ := h
    obtain ⟨k, hk, rfl⟩ := List.mem_iff_getElem.1 he
    exact .inr ⟨k, _, List.getElem?_eq_getElem hk, rfl, stampsL_at hn (List.getElem?_eq_getElem hk)⟩
  · exact .inl (stampsL_none fun e he e2 => h ⟨e, he, e2⟩)
theorem anewL_at {L : List zQ} (hn : (L.map (·.s)).Nodup) {k : Nat} {e : zQ} (h : L[k]? = some e) : (xV L)[k]? = some ⟨e.k, ((k + 1 : Nat) : Int), e.y, xR (xX L) e.u, xR (xX L) e.v, e.x⟩ := by
  unfold xV
  rw [List.getElem?_map, h]
  show some (anewE (xX L) e) = _
  unfold anewE
  rw [stampsL_at hn h]
theorem anewL_s {L : List zQ} (hn : (L.map (·.s)).Nodup) {k : Nat} {e : zQ} (h : (xV L)[k]? = some e) : e.s = ((k + 1 : Nat) : Int) := by
  have hlt : k < L.length := by rw [← anewL_len]; exact (List.getElem?_eq_some_iff.1 h).1
  rw [anewL_at hn (List.getElem?_eq_getElem hlt)] at h
  rw [← Option.some.inj h]
theorem anewL_nodup {L : List zQ} (hn : (L.map (·.s)).Nodup) : ((xV L).map (·.s)).Nodup := by
  refine List.pairwise_iff_getElem.2 fun i j hi hj hij => ?_
  rw [List.getElem_map, List.getElem_map]
  have h1 := anewL_s hn (List.getElem?_eq_getElem (l := xV L) (i := i) (by simpa using hi))
  have h2 := anewL_s hn (List.getElem?_eq_getElem (l := xV L) (i := j) (by simpa using hj))
  rw [h1, h2]
  omega
end Go.Proofs.YtomlhekjgagjaaaDoor
namespace Go.Proofs.YtomlhekjgagjaaaDoor
set_option maxRecDepth 100000
set_option maxHeartbeats 16000000
open Go Go.RowKit
def rowsR (i : Nat) : Nat → Int → List (List Int) → Option (List zQ × Int)
  | _, left, [] => some ([], left)
  | k, left, b :: r => match decE b with
    | none => none
    | some e =>
      bif (decide (e.k = 3) != (decide ((i : Int) = 0) && decide ((k : Int) = 0))) then none
      else bif decide (e.k = 3) then rowsR i (k + 1) e.s r
      else bif decide (left > 0) then (bif decide (e.k = 1) then (rowsR i (k + 1) (left - 1) r).map (fun q => (e :: q.1, q.2)) else none)
      else (rowsR i (k + 1) left r).map (fun q => (e :: q.1, q.2))
def allL : Nat → List (List Int) → Option (List zQ)
  | _, [] => some []
  | i, s :: r => match rowsR i 0 0 (rowsOf s) with
    | none => none
    | some (l, left) => bif decide (left > 0) || (decide ((i : Int) = 0) && decide (((rowsOf s).length : Int) = 0)) then none else (allL (i + 1) r).map (l ++ ·)
def allR (ss : List (List Int)) : Option (List zQ) := if ss.length = 0 then none else allL 0 ss
theorem rowsR_cons (i k : Nat) (left : Int) (b : List Int) (r : List (List Int)) : rowsR i k left (b :: r) = match decE b with
    | none => none
    | some e =>
      bif (decide (e.k = 3) != (decide ((i : Int) = 0) && decide ((k : Int) = 0))) then none
      else bif decide (e.k = 3) then rowsR i (k + 1) e.s r
      else bif decide (left > 0) then (bif decide (e.k = 1) then (rowsR i (k + 1) (left - 1) r).map (fun q => (e :: q.1, q.2)) else none)
      else (rowsR i (k + 1) left r).map (fun q => (e :: q.1, q.2)) := by rw [rowsR]
theorem allL_cons (i : Nat) (s : List Int) (r : List (List Int)) : allL i (s :: r) = match rowsR i 0 0 (rowsOf s) with
    | none => none
    | some (l, left) => bif decide (left > 0) || (decide ((i : Int) = 0) && decide (((rowsOf s).length : Int) = 0)) then none else (allL (i + 1) r).map (l ++ ·) := by rw [allL]
def hadP : List zQ → zQ → Bool
  | [], _ => false
  | x :: r, e => (decide (e.k = 1) && decide (x.k = 1) && decide (x.s = e.s)) || hadP r e
def qW : List zQ → zQ → Bool
  | [], _ => false
  | x :: r, e => (decide (e.k = 1) && decide (x.k = 1) && decide (x.s = e.s) && !decide (x = e)) || qW r e
def refGo (l : List zQ) : List zQ → List zQ → List zQ → Option (List zQ)
  | _, [], out => some out
  | P, e :: r, out => if qW P e then none else refGo l (P ++ [e]) r (if qC l e && !hadP P e then insY e out else out)
def twiceY : List zQ → Bool
  | a :: b :: r => decide (b.y = a.y) || twiceY (b :: r)
  | _ => false
def refL (ss : List (List Int)) (c : Int) : List zQ × Int := match allR ss with
  | none => ([], 8)
  | some l => match refGo l [] l [] with
    | none => ([], 8)
    | some out => if twiceY out || decide ((out.length : Int) > c) then ([], 8) else (out, 0)
end Go.Proofs.YtomlhekjgagjaaaDoor
namespace Go.Proofs.YtomlhekjgagjaaaDoor
set_option maxRecDepth 100000
set_option maxHeartbeats 16000000
open Go Go.RowKit
def no3 (L : List zQ) : Bool := L.all fun e => !decide (e.k = 3)
def all1 (L : List zQ) : Bool := L.all fun e => decide (e.k = 1)
def scanR (i : Nat) : Nat → Int → List zQ → Option (List zQ × Int)
  | _, left, [] => some ([], left)
  | k, left, e :: r =>
      bif (decide (e.k = 3) != (decide ((i : Int) = 0) && decide ((k : Int) = 0))) then none
      else bif decide (e.k = 3) then scanR i (k + 1) e.s r
      else bif decide (left > 0) then (bif decide (e.k = 1) then (scanR i (k + 1) (left - 1) r).map (fun q => (e :: q.1, q.2)) else none)
      else (scanR i (k + 1) left r).map (fun q => (e :: q.1, q.2))
theorem rowsR_scan (i : Nat) : ∀ (rows : List (List Int)) (k : Nat) (left : Int), rowsR i k left rows = if (decs rows).2 = true then scanR i k left (decs rows).1 else none
  | [], k, left => rfl
  | b :: r, k, left => by
    rw [rowsR_cons]
    unfold decs
    cases hd : decE b with
    | none => rfl
    | some e =>
      simp only []
      rw [rowsR_scan i r, rowsR_scan i r, rowsR_scan i r]
      rw [scanR]
      cases (decs r).2
      · simp only [Bool.false_eq_true, if_false, Option.map_none]
        cases (decide (e.k = 3) != (decide ((i : Int) = 0) && decide ((k : Int) = 0))) <;> cases decide (e.k = 3) <;> cases decide (left > 0) <;> cases decide (e.k = 1) <;> rfl
      · simp only [if_true]
theorem scan_tail (i : Nat) : ∀ (L : List zQ) (k : Nat) (left : Int), 0 ≤ left → ¬ (i = 0 ∧ k = 0) → scanR i k left L = if (no3 L && all1 (L.take left.toNat)) = true then some (L, left - (min left.toNat L.length : Nat)) else none
  | [], k, left, h, _ => by simp [scanR, no3, all1]
  | e :: r, k, left, h, hk => by
    have hf : (decide ((i : Int) = 0) && decide ((k : Int) = 0)) = false := by
      rw [Bool.and_eq_false_iff, decide_eq_false_iff_not, decide_eq_false_iff_not]
      omega
    rw [scanR, hf]
    by_cases h3 : e.k = 3
    · rw [decide_eq_true h3]
      simp [no3, h3]
    · rw [decide_eq_false h3]
      simp only [bne_self_eq_false, cond_false]
      by_cases hl : left > 0
      · rw [decide_eq_true hl, cond_true]
        have ht : left.toNat = (left - 1).toNat + 1 := by omega
        by_cases h1 : e.k = 1
        · rw [decide_eq_true h1, cond_true, scan_tail i r (k + 1) (left - 1) (by omega) (by omega), ht, List.take_succ_cons]
          have e1 : no3 (e :: r) = no3 r := by simp [no3, h3]
          have e2 : all1 (e :: r.take (left - 1).toNat) = all1 (r.take (left - 1).toNat) := by simp [all1, h1]
          rw [e1, e2]
          split
          · simp only [Option.map_some, List.length_cons, Option.some.injEq, Prod.mk.injEq, true_and]
            omega
          · rfl
        · rw [decide_eq_false h1, cond_false, ht, List.take_succ_cons]
          have e2 : all1 (e :: r.take (left - 1).toNat) = false := by simp [all1, h1]
          rw [e2, Bool.and_false]
          rfl
      · have h0 : left = 0 := by omega
        subst h0
        rw [decide_eq_false hl, cond_false, scan_tail i r (k + 1) 0 (by omega) (by omega)]
        have e1 : no3 (e :: r) = no3 r := by simp [no3, h3]
        rw [e1]
        simp only [Int.toNat_zero, List.take_zero, Nat.zero_min]
        cases no3 r && all1 [] <;> rfl
def streamR (i : Nat) (s : List Int) : Option (List zQ) := match rowsR i 0 0 (rowsOf s) with
    | none => none
    | some (l, left) => bif decide (left > 0) || (decide ((i : Int) = 0) && decide (((rowsOf s).length : Int) = 0)) then none else some l
theorem allL_stream (i : Nat) (s : List Int) (r : List (List Int)) : allL i (s :: r) = match streamR i s with
    | none => none
    | some l => (allL (i + 1) r).map (l ++ ·) := by
  rw [allL_cons]
  unfold streamR
  rcases rowsR i 0 0 (rowsOf s) with _ | ⟨l, left⟩
  · rfl
  · simp only []
    cases decide (left > 0) || (decide ((i : Int) = 0) && decide (((rowsOf s).length : Int) = 0)) <;> rfl
theorem decs_len : ∀ (rows : List (List Int)), (decs rows).2 = true → (decs rows).1.length = rows.length
  | [], _ => rfl
  | b :: r, h => by
    unfold decs at h ⊢
    cases hd : decE b with
    | none => rw [hd] at h; cases h
    | some e =>
      rw [hd] at h
      simp only [List.length_cons]
      rw [decs_len r h]
theorem stream_eq (i : Nat) {s : List Int} (hb : xP s) : streamR i s = if ((yC i s).2 && no3 (yC i s).1) = true then some (yC i s).1 else none := by
  have hok := entsOf_ok hb
  have hln := decs_len (rowsOf s)
  unfold streamR yC
  rw [rowsR_scan]
  unfold wN at *
  generalize decs (rowsOf s) = D at *
  obtain ⟨L, b⟩ := D
  cases b
  case false =>
    simp
  case true =>
    simp only [if_true] at *
    have hln := hln trivial
    by_cases hi : i = 0
    · subst hi
      simp only [and_true, if_true]
      cases L with
      | nil =>
        rw [← hln]
        rfl
      | cons h r =>
        have h0 : 0 ≤ h.s := (hok.1 h (by simp)).1.s.1
        have hle : decide (((rowsOf s).length : Int) = 0) = false := decide_eq_false (by rw [← hln, List.length_cons]; omega)
        rw [hle]
        have hh : headOf (h :: r) = if h.k = 3 then if (r.length : Int) < h.s then ([], false) else (r, (r.take h.s.toNat).all fun e => decide (e.k = 1)) else ([], false) := rfl
        rw [hh, scanR]
        by_cases h3 : h.k = 3
        · rw [if_pos h3, decide_eq_true h3, scan_tail 0 r 1 h.s h0 (by omega)]
          have e0 : (true != (decide (((0 : Nat) : Int) = 0) && decide (((0 : Nat) : Int) = 0))) = false := rfl
          rw [e0, cond_false, cond_true]
          by_cases hlt : (r.length : Int) < h.s
          · rw [if_pos hlt]
            split
            · rename_i heq
              split at heq
              · cases heq
              · rfl
            · rename_i heq
              split at heq
              · cases heq
                rw [decide_eq_true (by omega)]
                rfl
              · cases heq
          · rw [if_neg hlt]
            show (match (if (no3 r && all1 (r.take h.s.toNat)) = true then some (r, h.s - (min h.s.toNat r.length : Nat)) else none) with | none => none | some (l, left) => _) = if (all1 (r.take h.s.toNat) && no3 r) = true then some r else none
            rw [Bool.and_comm (all1 _)]
            cases no3 r && all1 (r.take h.s.toNat)
            · rfl
            · simp only [if_true]
              rw [decide_eq_false (by omega)]
              rfl
        · rw [if_neg h3, decide_eq_false h3]
          rfl
    · have e3 : (if i = 0 ∧ True then headOf L else (L, true)) = (L, true) := if_neg (fun e => hi e.1)
      rw [e3, scan_tail i L 0 0 (by omega) (by omega)]
      have e1 : decide ((i : Int) = 0) = false := decide_eq_false (by omega)
      rw [e1]
      simp only [Int.toNat_zero, List.take_zero, Nat.zero_min, Bool.true_and]
      have e2 : all1 [] = true := rfl
      rw [e2, Bool.and_true]
      cases no3 L
      · rfl
      · simp
theorem gput_stays {g : GD} (e : zQ) (h : g.bad = true) : (gput g e).bad = true := by
  unfold gput
  split
  · simp [h]
  · split
    · exact h
    · rfl
theorem gputs_bad : ∀ (L : List zQ) {g : GD}, g.bad = true → (L.foldl gput g).bad = true
  | [], g, h => h
  | e :: r, g, h => gputs_bad r (gput_stays e h)
theorem gputs_three : ∀ (L : List zQ) (g : GD), no3 L = false → (L.foldl gput g).bad = true
  | [], g, h => by cases h
  | e :: r, g, h => by
    by_cases h3 : e.k = 3
    · refine gputs_bad r ?_
      unfold gput
      rw [if_neg (by omega), if_neg (by omega)]
    · refine gputs_three r _ ?_
      simpa [no3, h3] using h
theorem gfrom_bad : ∀ (ss : List (List Int)) {g : GD} (i : Nat), g.bad = true → (gfrom g i ss).bad = true
  | [], g, i, h => h
  | s :: r, g, i, h => gfrom_bad r (i + 1) (gputs_bad _ (by simp [h]))
theorem gfrom_all : ∀ (ss : List (List Int)) (g : GD) (i : Nat), (∀ s ∈ ss, xP s) → match allL i ss with
    | none => (gfrom g i ss).bad = true
    | some l => gfrom g i ss = l.foldl gput g ∨ ((gfrom g i ss).bad = true ∧ (l.foldl gput g).bad = true)
  | [], g, i, _ => .inl rfl
  | s :: r, g, i, hb => by
    rw [allL_stream, stream_eq i (hb s (by simp))]
    unfold gfrom
    have ih := fun g' => gfrom_all r g' (i + 1) fun c hc => hb c (by simp [hc])
    unfold gstep
    obtain ⟨L, b⟩ := yC i s
    cases b
    · exact gfrom_bad r _ (gputs_bad _ (by simp))
    · cases h3 : no3 L
      · exact gfrom_bad r _ (gputs_three _ _ h3)
      · simp only [Bool.true_and, if_true]
        have e1 : ({ g with bad := g.bad || !true } : GD) = g := by simp
        rw [e1]
        have h := ih (L.foldl gput g)
        generalize allL (i + 1) r = A at h ⊢
        cases A with
        | none => exact h
        | some l =>
          show _ ∨ _
          rw [List.foldl_append]
          exact h
def G0 : GD := ⟨[], [], false⟩
theorem gather_all (ss : List (List Int)) (hb : ∀ s ∈ ss, xP s) : match allR ss with
    | none => (xU ss).bad = true
    | some l => xU ss = l.foldl gput G0 ∨ ((xU ss).bad = true ∧ (l.foldl gput G0).bad = true) := by
  unfold xU allR
  by_cases hz : ss.length = 0
  · rw [if_pos hz]
    exact gfrom_bad ss 0 (by simp [hz])
  · rw [if_neg hz]
    have e1 : (⟨[], [], decide (ss.length = 0)⟩ : GD) = G0 := by rw [decide_eq_false hz]; rfl
    rw [e1]
    exact gfrom_all ss G0 0 hb
theorem bget_put (e : zQ) : ∀ (B : List zQ), bget B e.s = some e → bput B e = B
  | [], h => by cases h
  | x :: r, h => by
    unfold bget at h
    unfold bput
    split
    · rename_i hs
      rw [if_pos hs] at h
      rw [Option.some.inj h]
    · rename_i hs
      rw [if_neg hs] at h
      rw [bget_put e r h]
theorem bget_new (e : zQ) : ∀ (B : List zQ), bget B e.s = none → bput B e = B ++ [e]
  | [], h => rfl
  | x :: r, h => by
    unfold bget at h
    unfold bput
    split
    · rename_i hs
      rw [if_pos hs] at h
      cases h
    · rename_i hs
      rw [if_neg hs] at h
      rw [bget_new e r h]
      rfl
theorem bget_append : ∀ (A B : List zQ) (j : Int), bget (A ++ B) j = (bget A j).or (bget B j)
  | [], B, j => by simp [bget]
  | x :: r, B, j => by
    simp only [List.cons_append, bget]
    split
    · rfl
    · exact bget_append r B j
theorem hadP_append : ∀ (A B : List zQ) (e : zQ), hadP (A ++ B) e = (hadP A e || hadP B e)
  | [], B, e => by simp [hadP]
  | x :: r, B, e => by simp only [List.cons_append, hadP]; rw [hadP_append r B e, Bool.or_assoc]
theorem clashP_append : ∀ (A B : List zQ) (e : zQ), qW (A ++ B) e = (qW A e || qW B e)
  | [], B, e => by simp [qW]
  | x :: r, B, e => by simp only [List.cons_append, qW]; rw [clashP_append r B e, Bool.or_assoc]
theorem deadR_append : ∀ (A B : List zQ) (j : Int), w9 (A ++ B) j = (w9 A j || w9 B j)
  | [], B, e => by simp [w9]
  | x :: r, B, e => by simp only [List.cons_append, w9]; rw [deadR_append r B e, Bool.or_assoc]
theorem vfind_append : ∀ (A B : List zQ) (j w : Int), vfind (A ++ B) j w = (vfind A j w || vfind B j w)
  | [], B, j, w => by simp [vfind]
  | x :: r, B, j, w => by simp only [List.cons_append, vfind]; rw [vfind_append r B j w, Bool.or_assoc]
structure Knows (P : List zQ) (g : GD) : Prop where
  had : ∀ e : zQ, e.k = 1 → hadP P e = (bget g.born e.s).isSome
  clash : ∀ e : zQ, e.k = 1 → qW P e = g.clash e
  dead : ∀ j, 0 ≤ (dget g.dead j).getD 0 ∧ (w9 P j = decide ((dget g.dead j).getD 0 > 0))
  vert : ∀ j w, vfind P j w = match bget g.born j with
    | some x => decide (x.y = w)
    | none => false
  one : ∀ e ∈ g.born, e.k = 1
theorem Knows.start : Knows [] G0 := ⟨fun e _ => rfl, fun e _ => rfl, fun j => ⟨Int.le_refl 0, rfl⟩, fun j w => rfl, fun e he => by cases he⟩
theorem hadP_one (x e : zQ) (hk : e.k = 1) (hx : x.k = 1) : hadP [x] e = decide (x.s = e.s) := by
  simp [hadP, hk, hx]
theorem clashP_one (x e : zQ) (hk : e.k = 1) (hx : x.k = 1) : qW [x] e = (decide (x.s = e.s) && !decide (x = e)) := by
  simp [qW, hk, hx]
theorem Knows.birth {P : List zQ} {g : GD} (h : Knows P g) {e : zQ} (hk : e.k = 1) (hc : qW P e = false) : Knows (P ++ [e]) (gput g e) ∧ (gput g e).bad = g.bad ∧ (gput g e).born = if hadP P e = true then g.born else g.born ++ [e] := by
  have hgc := h.clash e hk
  rw [hc] at hgc
  have hb : (gput g e).bad = g.bad := by unfold gput; rw [if_pos hk]; simp [← hgc]
  have hd : (gput g e).dead = g.dead := by unfold gput; rw [if_pos hk]
  have hbo : (gput g e).born = if hadP P e = true then g.born else g.born ++ [e] := by
    unfold gput
    rw [if_pos hk, h.had e hk]
    unfold GD.clash at hgc
    cases hbg : bget g.born e.s with
    | none => simpa using bget_new e _ hbg
    | some x =>
      rw [hbg] at hgc
      simp only [Bool.false_eq, Bool.not_eq_false', decide_eq_true_eq] at hgc
      subst hgc
      simpa using bget_put x _ hbg
  have hget : ∀ j, bget (gput g e).born j = (bget g.born j).or (if e.s = j then some e else none) := fun j => by
    rw [hbo, h.had e hk]
    cases hbg : bget g.born e.s with
    | none =>
      simp only [Option.isSome_none, Bool.false_eq_true, if_false]
      rw [bget_append]
      rfl
    | some x =>
      simp only [Option.isSome_some, if_true]
      by_cases hj : e.s = j
      · subst hj
        rw [hbg]
        rfl
      · rw [if_neg hj, Option.or_none]
  refine ⟨⟨fun d hdk => ?_, fun d hdk => ?_, fun j => ?_, fun j w => ?_, ?_⟩, hb, hbo⟩
  · rw [hadP_append, h.had d hdk, hget, hadP_one e d hdk hk]
    by_cases hs : e.s = d.s
    · rw [if_pos hs, decide_eq_true hs]; cases bget g.born d.s <;> rfl
    · rw [if_neg hs, decide_eq_false hs]; cases bget g.born d.s <;> rfl
  · rw [clashP_append, h.clash d hdk, clashP_one e d hdk hk]
    unfold GD.clash
    rw [hget]
    by_cases hs : e.s = d.s
    · rw [if_pos hs, decide_eq_true hs]
      have hge := hgc
      unfold GD.clash at hge
      rw [hs] at hge
      cases hbg : bget g.born d.s with
      | none => simp
      | some x =>
        rw [hbg] at hge
        simp only [Bool.false_eq, Bool.not_eq_false', decide_eq_true_eq] at hge
        subst hge
        simp
    · rw [if_neg hs, decide_eq_false hs]; cases bget g.born d.s <;> simp
  · rw [hd, deadR_append]
    refine ⟨(h.dead j).1, ?_⟩
    rw [(h.dead j).2]
    simp [w9, hk]
  · rw [vfind_append, h.vert j w, hget]
    have hv1 : vfind [e] j w = (decide (e.s = j) && decide (e.y = w)) := by simp [vfind, hk]
    rw [hv1]
    by_cases hs : e.s = j
    · rw [if_pos hs, decide_eq_true hs]
      have hge := hgc
      unfold GD.clash at hge
      rw [hs] at hge
      cases hbg : bget g.born j with
      | none => simp
      | some x =>
        rw [hbg] at hge
        simp only [Bool.false_eq, Bool.not_eq_false', decide_eq_true_eq] at hge
        subst hge
        simp
    · rw [if_neg hs, decide_eq_false hs]; cases bget g.born j <;> simp
  · rw [hbo]
    intro d hd'
    split at hd'
    · exact h.one d hd'
    · rcases List.mem_append.1 hd' with hd' | hd'
      · exact h.one d hd'
      · rw [List.mem_singleton] at hd'; subst hd'; exact hk
theorem Knows.death {P : List zQ} {g : GD} (h : Knows P g) {e : zQ} (hk : e.k = 2) : Knows (P ++ [e]) (gput g e) ∧ (gput g e).bad = g.bad ∧ (gput g e).born = g.born := by
  have hn1 : ¬ e.k = 1 := by omega
  have hg : gput g e = { g with dead := dset g.dead e.s ((dget g.dead e.s).getD 0 + 1) } := by unfold gput; rw [if_neg hn1, if_pos hk]
  rw [hg]
  refine ⟨⟨fun d hdk => ?_, fun d hdk => ?_, fun j => ?_, fun j w => ?_, h.one⟩, rfl, rfl⟩
  · rw [hadP_append, h.had d hdk]; simp [hadP, hn1]
  · rw [clashP_append, h.clash d hdk]; simp [qW, hn1, GD.clash]
  · show 0 ≤ (dget (dset g.dead e.s ((dget g.dead e.s).getD 0 + 1)) j).getD 0 ∧ w9 (P ++ [e]) j = decide ((dget (dset g.dead e.s ((dget g.dead e.s).getD 0 + 1)) j).getD 0 > 0)
    have hj := h.dead j
    have hs := h.dead e.s
    rw [dget_set, deadR_append]
    have hd1 : w9 [e] j = decide (e.s = j) := by simp [w9, hk]
    rw [hd1]
    by_cases hsj : e.s = j
    · rw [if_pos hsj, decide_eq_true hsj, Bool.or_true]
      refine ⟨?_, ?_⟩
      · show 0 ≤ (dget g.dead e.s).getD 0 + 1
        omega
      · show true = decide ((dget g.dead e.s).getD 0 + 1 > 0)
        rw [decide_eq_true (by omega)]
    · rw [if_neg hsj, decide_eq_false hsj, Bool.or_false]
      exact hj
  · rw [vfind_append, h.vert j w]; simp [vfind, hn1]
theorem lives_eq {l : List zQ} {g : GD} (h : Knows l g) {e : zQ} (he : e.k = 1) : qC l e = g.live e := by
  have hv : ∀ j u, vertR l j u = g.vert j u := fun j u => by
    unfold vertR GD.vert
    rw [h.vert j, (h.dead j).2]
    have h0 := (h.dead j).1
    cases bget g.born j with
    | none => simp
    | some x =>
      simp only []
      congr 1
      by_cases hz : (dget g.dead j).getD 0 = 0
      · rw [decide_eq_true hz, decide_eq_false (by omega)]; rfl
      · rw [decide_eq_false hz, decide_eq_true (by omega)]; rfl
  unfold qC GD.live
  rw [hv, hv, (h.dead e.s).2, decide_eq_true he, Bool.true_and]
end Go.Proofs.YtomlhekjgagjaaaDoor
namespace Go.Proofs.YtomlhekjgagjaaaDoor
set_option maxRecDepth 100000
set_option maxHeartbeats 16000000
open Go Go.RowKit
attribute [local irreducible] zY zZ Step zA Sub zN yY Fn
def strsW (ss : List (List Int)) : PV := .sl (ss.map fun s => .sl (byts s))
def fewL (ss : List (List Int)) : Bool := decide (ss.length ≤ 8) && decide (total ss ≤ 3000)
def fwS (ss : List (List Int)) (i : Nat) : AS := { t := [(0, .p (strsW ss)), (3, .p (.val (.int .i64 (total (ss.take i) : Nat)))), (4, .p (.val (.int .i64 (i : Nat))))], s := [] }
def smS (A B : List zQ) (i : Nat) : AS := { t := [(0, .p (.sl (A.map zQ.V))), (1, .p (.sl (B.map zQ.V))), (5, .p (.val (.int .i64 (i : Nat))))], s := [] }
theorem entV_inj {a b : zQ} (h : a.V = b.V) : a = b := by
  obtain ⟨k, s, y, u, v, x⟩ := a
  obtain ⟨k', s', y', u', v', x'⟩ := b
  simp only [zQ.V, entV, PV.agg.injEq, List.cons.injEq, PV.val.injEq, Value.int.injEq, true_and, and_true] at h
  simp [h]
theorem same_fn (A B : List zQ) (hA : A.length ≤ 1000000) (hB : B.length ≤ 1000000) (r : Bool) (hr : r = true ↔ A = B) : Fn Tryd.prog 14 [.sl (A.map zQ.V), .sl (B.map zQ.V)] (.p (.val (.bool r))) := by
 have hlA : (A.map zQ.V).length = A.length := by rw [List.length_map]
 have hlB : (B.map zQ.V).length = B.length := by rw [List.length_map]
 have hcA := yH A
 have hcB := yH B
 refine wQ Tryd.func14 rfl Tryd.ntmps14 (Nat.le_of_ble_eq_true rfl) ?_
 by_cases hl : A.length = B.length
 case neg =>
  have c1 : (!decide ((((A.map zQ.V).length : Nat) : Int) = (((B.map zQ.V).length : Nat) : Int))) = true := by rw [decide_eq_false (by rw [hlA, hlB]; omega)]; rfl
  have hr' : r = false := Bool.eq_false_iff.2 fun h => hl (by rw [hr.1 h])
  subst hr'
  repeat' (first | (refine zZ.is ?_; first | refine zZ.seq ?_ | (refine zZ.isR (id := 0) ?_; refine zZ.zV [0, 1] [] (by repeat' first | exact zX.nil | apply zX.p rfl) (by repeat' exact zW.nil) ?_; refine zY.va rfl rfl rfl rfl (by decide) ?_; refine zY.nil ?_) | (refine zZ.isR (id := 1) ?_; refine zZ.zV [0, 1, 4] [] (by repeat' first | exact zX.nil | apply zX.p rfl) (by repeat' exact zW.nil) ?_; refine zY.vm rfl rfl rfl rfl (by decide) ?_; refine zY.v rfl rfl (yQ rfl rfl rfl (by decide)) ?_; refine zY.vm rfl rfl rfl rfl (by decide) ?_; refine zY.v rfl rfl (yQ rfl rfl rfl (by decide)) ?_; refine zY.v rfl rfl (vK rfl rfl rfl c1 rfl (by decide)) ?_; refine zY.nil ?_) | (refine zZ.isR (id := 2) ?_; refine zZ.zV [0, 1, 4] [] (by repeat' first | exact zX.nil | apply zX.p rfl) (by repeat' exact zW.nil) ?_; refine zY.va rfl rfl rfl rfl (by decide) ?_; refine zY.nil ?_) | refine zZ.yV rfl (by first | assumption | with_reducible rfl) ?_ | refine zZ.ret ?_) | refine zF.r ?_)
  all_goals exact ⟨.inl rfl, gives1 rfl rfl rfl⟩
 case pos =>
  have c1 : (!decide ((((A.map zQ.V).length : Nat) : Int) = (((B.map zQ.V).length : Nat) : Int))) = false := by rw [decide_eq_true (by rw [hlA, hlB]; omega)]; rfl
  repeat' ((refine zZ.is ?_; first | refine zZ.seq ?_ | (refine zZ.isR (id := 0) ?_; refine zZ.zV [0, 1] [] (by repeat' first | exact zX.nil | apply zX.p rfl) (by repeat' exact zW.nil) ?_; refine zY.va rfl rfl rfl rfl (by decide) ?_; refine zY.nil ?_) | (refine zZ.isR (id := 1) ?_; refine zZ.zV [0, 1, 4] [] (by repeat' first | exact zX.nil | apply zX.p rfl) (by repeat' exact zW.nil) ?_; refine zY.vm rfl rfl rfl rfl (by decide) ?_; refine zY.v rfl rfl (yQ rfl rfl rfl (by decide)) ?_; refine zY.vm rfl rfl rfl rfl (by decide) ?_; refine zY.v rfl rfl (yQ rfl rfl rfl (by decide)) ?_; refine zY.v rfl rfl (vK rfl rfl rfl c1 rfl (by decide)) ?_; refine zY.nil ?_) | (refine zZ.isR (id := 3) ?_; refine zZ.zV [0, 1, 4] [] (by repeat' first | exact zX.nil | apply zX.p rfl) (by repeat' exact zW.nil) ?_; refine zY.va rfl rfl rfl rfl (by decide) ?_; refine zY.nil ?_) | refine zZ.yX rfl (by first | assumption | with_reducible rfl) ?_ | refine zZ.skip ?_ | refine zZ.block ?_))
  refine zZ.loop (smS A B) (fun i => i ≤ A.length ∧ A.take i = B.take i) (fun i => A.length - i) 0 ?h0 ⟨Nat.zero_le _, rfl⟩ ?rd
  case h0 =>
   unfold smS
   exact zB K_1j []
  case rd =>
   intro i ⟨hi, htk⟩
   have g3 : IntKind.i64.wrap (((i : Nat) : Int) + 1) = ((i + 1 : Nat) : Int) := by rw [wrap_i64 _ (by omega)]; omega
   unfold smS
   by_cases hlt : i < A.length
   case pos =>
    have g1 : decide (((i : Nat) : Int) < (((A.map zQ.V).length : Nat) : Int)) = true := decide_eq_true (by rw [hlA]; omega)
    obtain ⟨a, ha⟩ : ∃ a, A[i]? = some a := ⟨_, List.getElem?_eq_getElem hlt⟩
    obtain ⟨b, hb⟩ : ∃ b, B[i]? = some b := ⟨_, List.getElem?_eq_getElem (by omega)⟩
    have g2 : (A.map zQ.V)[i]? = some a.V := by rw [List.getElem?_map, ha]; rfl
    have g4 : (B.map zQ.V)[i]? = some b.V := by rw [List.getElem?_map, hb]; rfl
    obtain ⟨ak, as', ay, au, av, ax⟩ := a
    obtain ⟨bk', bs, by', bu, bv, bx⟩ := b
    by_cases hab : (⟨ak, as', ay, au, av, ax⟩ : zQ) = ⟨bk', bs, by', bu, bv, bx⟩
    case pos =>
     have htk' : A.take (i + 1) = B.take (i + 1) := by rw [List.take_add_one, List.take_add_one, ha, hb, htk, hab]
     clear ha hb
     cases hab
     have c7 : (!decide ([(IntKind.i64, ak), (IntKind.u64, as'), (IntKind.u64, ay), (IntKind.u64, au), (IntKind.u64, av), (IntKind.u64, ax)] = [(IntKind.i64, ak), (IntKind.u64, as'), (IntKind.u64, ay), (IntKind.u64, au), (IntKind.u64, av), (IntKind.u64, ax)])) = false := by rw [decide_eq_true rfl]; rfl
     repeat' (first | (refine zZ.is ?_; first | refine zZ.seq ?_ | (refine zZ.isR (id := 4) ?_; refine zZ.zV [0, 1, 4, 5, 14, 25] [] (by repeat' first | exact zX.nil | apply zX.p rfl | apply zX.skip) (by repeat' exact zW.nil) ?_; refine zY.vm rfl rfl rfl rfl (by decide) ?_; refine zY.vm rfl rfl rfl rfl (by decide) ?_; refine zY.v rfl rfl (yQ rfl rfl rfl (by decide)) ?_; refine zY.v rfl rfl (zR rfl rfl rfl g1 rfl (by decide)) ?_; refine zY.nil ?_) | (refine zZ.isR (id := 6) ?_; refine zZ.xY [0, 1, 4, 5, 14, 25] [] (by repeat' first | exact zX.nil | apply zX.p rfl | apply zX.skip) (by repeat' exact zW.nil) (zZ.draws ?_); all_goals (refine Draws.v rfl rfl (zK rfl rfl rfl (by decide)) ?_); all_goals (refine Draws.v rfl rfl (zK rfl rfl rfl (by decide)) ?_); all_goals (refine Draws.v rfl rfl (zH rfl rfl rfl hcA g2 rfl (by decide)) ?_); all_goals (refine Draws.v rfl rfl (by exact y8 rfl rfl (by exact Nat.le_of_ble_eq_true rfl) rfl (by decide)) ?_); all_goals (refine Draws.v rfl rfl (zK rfl rfl rfl (by decide)) ?_); all_goals (refine Draws.v rfl rfl (zK rfl rfl rfl (by decide)) ?_); all_goals (refine Draws.v rfl rfl (zH rfl rfl rfl hcB g4 rfl (by decide)) ?_); all_goals (refine Draws.v rfl rfl (by exact y8 rfl rfl (by exact Nat.le_of_ble_eq_true rfl) rfl (by decide)) ?_); all_goals (refine Draws.v rfl rfl (r_neqT rfl rfl rfl rfl rfl rfl (by rfl) c7 rfl (by decide)) ?_); all_goals ((refine Draws.done (by kernel_rfl) (by kernel_rfl) (by kernel_rfl) ?_; refine zN.nil ?_))) | (refine zZ.isR (id := 5) ?_; refine zZ.zV [0, 1, 4, 5, 14, 25] [] (by repeat' first | exact zX.nil | apply zX.p rfl | apply zX.skip) (by repeat' exact zW.nil) ?_; refine zY.vm rfl rfl rfl rfl (by decide) ?_; refine zY.v rfl rfl (yD rfl rfl rfl g3 rfl (by decide)) ?_; refine zY.va rfl rfl rfl rfl (by decide) ?_; refine zY.nil ?_) | refine zZ.yV rfl (by first | assumption | with_reducible rfl) ?_ | refine zZ.yX rfl (by first | assumption | with_reducible rfl) ?_ | refine zZ.skip ?_ | refine zZ.block ?_) | refine zF.n ?_)
     all_goals
      refine ⟨i + 1, ?_, ⟨hlt, htk'⟩, by omega⟩
      try unfold smS
      exact zB K_1j []
    case neg =>
     have c7 : (!decide ([(IntKind.i64, ak), (IntKind.u64, as'), (IntKind.u64, ay), (IntKind.u64, au), (IntKind.u64, av), (IntKind.u64, ax)] = [(IntKind.i64, bk'), (IntKind.u64, bs), (IntKind.u64, by'), (IntKind.u64, bu), (IntKind.u64, bv), (IntKind.u64, bx)])) = true := by
      rw [decide_eq_false (fun h => hab (by simp only [List.cons.injEq, Prod.mk.injEq, true_and, and_true] at h; simp only [zQ.mk.injEq]; exact h))]; rfl
     have hr' : r = false := Bool.eq_false_iff.2 fun h => hab (by
      have e := hr.1 h
      subst e
      rw [ha] at hb
      exact Option.some.inj hb)
     subst hr'
     repeat' (first | (refine zZ.is ?_; first | refine zZ.seq ?_ | (refine zZ.isR (id := 4) ?_; refine zZ.zV [0, 1, 4, 5, 14, 25] [] (by repeat' first | exact zX.nil | apply zX.p rfl | apply zX.skip) (by repeat' exact zW.nil) ?_; refine zY.vm rfl rfl rfl rfl (by decide) ?_; refine zY.vm rfl rfl rfl rfl (by decide) ?_; refine zY.v rfl rfl (yQ rfl rfl rfl (by decide)) ?_; refine zY.v rfl rfl (zR rfl rfl rfl g1 rfl (by decide)) ?_; refine zY.nil ?_) | (refine zZ.isR (id := 6) ?_; refine zZ.xY [0, 1, 4, 5, 14, 25] [] (by repeat' first | exact zX.nil | apply zX.p rfl | apply zX.skip) (by repeat' exact zW.nil) (zZ.draws ?_); all_goals (refine Draws.v rfl rfl (zK rfl rfl rfl (by decide)) ?_); all_goals (refine Draws.v rfl rfl (zK rfl rfl rfl (by decide)) ?_); all_goals (refine Draws.v rfl rfl (zH rfl rfl rfl hcA g2 rfl (by decide)) ?_); all_goals (refine Draws.v rfl rfl (by exact y8 rfl rfl (by exact Nat.le_of_ble_eq_true rfl) rfl (by decide)) ?_); all_goals (refine Draws.v rfl rfl (zK rfl rfl rfl (by decide)) ?_); all_goals (refine Draws.v rfl rfl (zK rfl rfl rfl (by decide)) ?_); all_goals (refine Draws.v rfl rfl (zH rfl rfl rfl hcB g4 rfl (by decide)) ?_); all_goals (refine Draws.v rfl rfl (by exact y8 rfl rfl (by exact Nat.le_of_ble_eq_true rfl) rfl (by decide)) ?_); all_goals (refine Draws.v rfl rfl (r_neqT rfl rfl rfl rfl rfl rfl (by rfl) c7 rfl (by decide)) ?_); all_goals ((refine Draws.done (by kernel_rfl) (by kernel_rfl) (by kernel_rfl) ?_; refine zN.nil ?_))) | (refine zZ.isR (id := 7) ?_; refine zZ.zV [0, 1, 4, 5, 14, 25] [] (by repeat' first | exact zX.nil | apply zX.p rfl | apply zX.skip) (by repeat' exact zW.nil) ?_; refine zY.va rfl rfl rfl rfl (by decide) ?_; refine zY.nil ?_) | refine zZ.yV rfl (by first | assumption | with_reducible rfl) ?_ | refine zZ.skip ?_ | refine zZ.block ?_ | refine zZ.ret ?_) | refine zF.r ?_ | refine zM.r ?_)
     all_goals exact ⟨.inl rfl, gives1 rfl rfl rfl⟩
   case neg =>
    have g1 : decide (((i : Nat) : Int) < (((A.map zQ.V).length : Nat) : Int)) = false := decide_eq_false (by rw [hlA]; omega)
    have hr' : r = true := hr.2 (by rw [List.take_of_length_le (by omega), List.take_of_length_le (by omega)] at htk; exact htk)
    subst hr'
    repeat' ((refine zZ.is ?_; first | refine zZ.seq ?_ | (refine zZ.isR (id := 4) ?_; refine zZ.zV [0, 1, 4, 5, 14, 25] [] (by repeat' first | exact zX.nil | apply zX.p rfl | apply zX.skip) (by repeat' exact zW.nil) ?_; refine zY.vm rfl rfl rfl rfl (by decide) ?_; refine zY.vm rfl rfl rfl rfl (by decide) ?_; refine zY.v rfl rfl (yQ rfl rfl rfl (by decide)) ?_; refine zY.v rfl rfl (zR rfl rfl rfl g1 rfl (by decide)) ?_; refine zY.nil ?_) | (refine zZ.isR (id := 8) ?_; refine zZ.zV [4] [] (by repeat' first | exact zX.nil | apply zX.skip) (by repeat' exact zW.nil) ?_; refine zY.va rfl rfl rfl rfl (by decide) ?_; refine zY.nil ?_) | refine zZ.yX rfl (by first | assumption | with_reducible rfl) ?_ | refine zZ.exit ?_ | refine zZ.ret ?_))
    all_goals exact ⟨.inl rfl, gives1 rfl rfl rfl⟩
end Go.Proofs.YtomlhekjgagjaaaDoor
namespace Go.Proofs.YtomlhekjgagjaaaDoor
set_option maxRecDepth 100000
set_option maxHeartbeats 16000000
open Go Go.RowKit
theorem decE_enc {e : zQ} (ho : e.ok) (hm : e.may = true) : decE e.enc = some e := by
  have h := dec_enc ho.s.1 ho.s.2 ho.y.1 ho.y.2 ho.u.1 ho.u.2 ho.v.1 ho.v.2 ho.x.1 ho.x.2 hm
  have h : decR e.enc = [e.V, .val (.int .i64 0)] := h
  cases hd : decE e.enc with
  | none =>
    rw [decR_none hd] at h
    unfold decBad at h
    simp at h
  | some x =>
    rw [decR_some hd] at h
    have h1 : x.V = e.V := by
      injection h
    rw [entV_inj h1]
theorem rowsOf_cat (bs : List (List Int)) (h : ∀ b ∈ bs, putOk b) : rowsOf (catF bs) = bs := by
  unfold rowsOf
  rw [framesOf_cat bs h, endsF_rows]
theorem catE_may : ∀ (L : List zQ), (∀ e ∈ L, e.may = true) → wE L = catF (L.map zQ.enc)
  | [], _ => rfl
  | e :: r, h => by
    rw [catE_cons, List.map_cons, catF_cons, catE_may r fun x hx => h x (by simp [hx]), entF_may, if_pos (h e (by simp))]
theorem decs_enc : ∀ (L : List zQ), (∀ e ∈ L, e.ok ∧ e.may = true) → decs (L.map zQ.enc) = (L, true)
  | [], _ => rfl
  | e :: r, h => by
    have h1 := h e (by simp)
    rw [List.map_cons]
    unfold decs
    rw [decE_enc h1.1 h1.2]
    simp only []
    rw [decs_enc r fun x hx => h x (by simp [hx])]
theorem enc_put (e : zQ) : putOk e.enc := by
  have := enc_len e
  constructor <;> (rw [this]; split <;> omega)
theorem entsOf_cat (L : List zQ) (h : ∀ e ∈ L, e.ok ∧ e.may = true) : wN (wE L) = (L, true) := by
  unfold wN
  rw [catE_may L fun e he => (h e he).2, rowsOf_cat _ (fun b hb => by obtain ⟨e, _, rfl⟩ := List.mem_map.1 hb; exact enc_put e), decs_enc L h]
theorem stream0 (L : List zQ) (h : ∀ e ∈ L, e.ok ∧ e.may = true) : yC 0 (wE L) = headOf L := by
  unfold yC
  rw [entsOf_cat L h]
  rfl
theorem streamN (i : Nat) (L : List zQ) (h : ∀ e ∈ L, e.ok ∧ e.may = true) : yC (i + 1) (wE L) = (L, true) := by
  unfold yC
  rw [entsOf_cat L h, if_neg (fun e => by have := e.1; omega)]
theorem catE_range {L : List zQ} (h : ∀ e ∈ L, e.ok) : xP (wE L) := fun x hx => by
  obtain ⟨e, he, hx⟩ := List.mem_flatMap.1 hx
  rw [entF_may] at hx
  split at hx
  · exact putF_range (enc_bytes (h e he)) x hx
  · cases hx
def leads : List zQ → Nat
  | [] => 0
  | e :: r => if e.k = 1 then leads r + 1 else 0
end Go.Proofs.YtomlhekjgagjaaaDoor
namespace Go.Proofs.YtomlhekjgagjaaaDoor
set_option maxRecDepth 100000
set_option maxHeartbeats 16000000
open Go Go.RowKit
theorem hadP_iff : ∀ (P : List zQ) (e : zQ), hadP P e = true ↔ e.k = 1 ∧ ∃ x ∈ P, x.k = 1 ∧ x.s = e.s
  | [], e => by simp [hadP]
  | x :: r, e => by
    unfold hadP
    rw [Bool.or_eq_true, hadP_iff r e]
    simp only [Bool.and_eq_true, decide_eq_true_eq, List.mem_cons, exists_eq_or_imp]
    constructor
    · rintro (⟨⟨a, b⟩, c⟩ | ⟨a, b⟩)
      · exact ⟨a, .inl ⟨b, c⟩⟩
      · exact ⟨a, .inr b⟩
    · rintro ⟨a, b | b⟩
      · exact .inl ⟨⟨a, b.1⟩, b.2⟩
      · exact .inr ⟨a, b⟩
theorem clashP_iff : ∀ (P : List zQ) (e : zQ), qW P e = true ↔ e.k = 1 ∧ ∃ x ∈ P, x.k = 1 ∧ x.s = e.s ∧ x ≠ e
  | [], e => by simp [qW]
  | x :: r, e => by
    unfold qW
    rw [Bool.or_eq_true, clashP_iff r e]
    simp only [Bool.and_eq_true, decide_eq_true_eq, List.mem_cons, exists_eq_or_imp, Bool.not_eq_true', decide_eq_false_iff_not]
    constructor
    · rintro (⟨⟨⟨a, b⟩, c⟩, d⟩ | ⟨a, b⟩)
      · exact ⟨a, .inl ⟨b, c, d⟩⟩
      · exact ⟨a, .inr b⟩
    · rintro ⟨a, b | b⟩
      · exact .inl ⟨⟨⟨a, b.1⟩, b.2.1⟩, b.2.2⟩
      · exact .inr ⟨a, b⟩
theorem deadR_iff : ∀ (P : List zQ) (j : Int), w9 P j = true ↔ ∃ x ∈ P, x.k = 2 ∧ x.s = j
  | [], j => by simp [w9]
  | x :: r, j => by
    unfold w9
    rw [Bool.or_eq_true, deadR_iff r j]
    simp only [Bool.and_eq_true, decide_eq_true_eq, List.mem_cons, exists_eq_or_imp]
theorem vfind_iff : ∀ (P : List zQ) (j w : Int), vfind P j w = true ↔ ∃ x ∈ P, x.k = 1 ∧ x.s = j ∧ x.y = w
  | [], j, w => by simp [vfind]
  | x :: r, j, w => by
    unfold vfind
    rw [Bool.or_eq_true, vfind_iff r j w]
    simp only [Bool.and_eq_true, decide_eq_true_eq, List.mem_cons, exists_eq_or_imp, and_assoc]
def NoClash (P : List zQ) : Prop := ∀ a ∈ P, ∀ b ∈ P, a.k = 1 → b.k = 1 → a.s = b.s → a = b
structure Births (P B : List zQ) : Prop where
  mem : ∀ e, e ∈ B ↔ e ∈ P ∧ e.k = 1
  once : (B.map (·.s)).Nodup
theorem Births.start : Births [] [] := ⟨by simp, by simp⟩
theorem says_way : ∀ (r P : List zQ) (g : GD), Knows P g → Births P g.born → NoClash P → g.bad = false → (∀ e ∈ r, e.k = 1 ∨ e.k = 2) →
    ((r.foldl gput g).bad = false → Knows (P ++ r) (r.foldl gput g) ∧ Births (P ++ r) (r.foldl gput g).born ∧ NoClash (P ++ r)) ∧ ((r.foldl gput g).bad = true → ¬ NoClash (P ++ r))
  | [], P, g, h, hB, hN, hb, _ => by
    rw [List.append_nil]
    exact ⟨fun _ => ⟨h, hB, hN⟩, fun h2 => by rw [List.foldl_nil, hb] at h2; cases h2⟩
  | e :: r, P, g, h, hB, hN, hb, hk => by
    have hk2 : ∀ d ∈ r, d.k = 1 ∨ d.k = 2 := fun d hd => hk d (by simp [hd])
    have e0 : P ++ e :: r = (P ++ [e]) ++ r := by simp
    rw [List.foldl_cons, e0]
    rcases hk e (by simp) with h1 | h2
    · cases hc : qW P e
      · obtain ⟨hk', hb', hbo⟩ := h.birth h1 hc
        have hnc : ∀ x ∈ P, x.k = 1 → x.s = e.s → x = e := fun x hx hx1 hxs => Classical.byContradiction fun hne => by
          have := (clashP_iff P e).2 ⟨h1, x, hx, hx1, hxs, hne⟩
          rw [hc] at this
          cases this
        refine says_way r (P ++ [e]) (gput g e) hk' ?_ ?_ (by rw [hb', hb]) hk2
        · rw [hbo]
          cases hh : hadP P e
          · have hno : ∀ x ∈ P, x.k = 1 → x.s ≠ e.s := fun x hx hx1 hxs => by
              have := (hadP_iff P e).2 ⟨h1, x, hx, hx1, hxs⟩
              rw [hh] at this
              cases this
            rw [if_neg (by decide)]
            refine ⟨fun d => ?_, ?_⟩
            · rw [List.mem_append, List.mem_append, hB.mem d, List.mem_singleton]
              constructor
              · rintro (h | rfl)
                · exact ⟨.inl h.1, h.2⟩
                · exact ⟨.inr rfl, h1⟩
              · rintro ⟨h | h, hd⟩
                · exact .inl ⟨h, hd⟩
                · exact .inr h
            · rw [List.map_append]
              refine List.pairwise_append.2 ⟨hB.once, by simp, fun a ha b hb2 => ?_⟩
              obtain ⟨x, hx, rfl⟩ := List.mem_map.1 ha
              simp only [List.map_cons, List.map_nil, List.mem_singleton] at hb2
              subst hb2
              have hx2 := (hB.mem x).1 hx
              exact hno x hx2.1 hx2.2
          · obtain ⟨_, x, hx, hx1, hxs⟩ := (hadP_iff P e).1 hh
            have hxe := hnc x hx hx1 hxs
            subst hxe
            rw [if_pos rfl]
            refine ⟨fun d => ?_, hB.once⟩
            rw [hB.mem d, List.mem_append, List.mem_singleton]
            constructor
            · exact fun h => ⟨.inl h.1, h.2⟩
            · rintro ⟨h | rfl, hd⟩
              · exact ⟨h, hd⟩
              · exact ⟨hx, hd⟩
        · intro a ha b hb2 ha1 hb1 hs
          rcases List.mem_append.1 ha with ha' | ha' <;> rcases List.mem_append.1 hb2 with hb' | hb'
          · exact hN a ha' b hb' ha1 hb1 hs
          · have := List.mem_singleton.1 hb'
            rw [this] at hs ⊢
            exact hnc a ha' ha1 hs
          · have := List.mem_singleton.1 ha'
            rw [this] at hs ⊢
            exact (hnc b hb' hb1 hs.symm).symm
          · rw [List.mem_singleton.1 ha', List.mem_singleton.1 hb']
      · have hgc := h.clash e h1
        rw [hc] at hgc
        have hbad : (gput g e).bad = true := by unfold gput; rw [if_pos h1]; simp [← hgc]
        rw [gputs_bad r hbad]
        refine ⟨fun h => (by cases h), fun _ hno => ?_⟩
        obtain ⟨_, x, hx, hx1, hxs, hne⟩ := (clashP_iff P e).1 hc
        exact hne (hno x (by simp [hx]) e (by simp) hx1 h1 hxs)
    · obtain ⟨hk', hb', hbo⟩ := h.death h2
      refine says_way r (P ++ [e]) (gput g e) hk' ?_ ?_ (by rw [hb', hb]) hk2
      · rw [hbo]
        refine ⟨fun d => ?_, hB.once⟩
        rw [hB.mem d, List.mem_append, List.mem_singleton]
        constructor
        · exact fun h => ⟨.inl h.1, h.2⟩
        · rintro ⟨h | rfl, hd⟩
          · exact ⟨h, hd⟩
          · omega
      · intro a ha b hb2 ha1 hb1 hs
        rcases List.mem_append.1 ha with ha' | ha' <;> rcases List.mem_append.1 hb2 with hb' | hb'
        · exact hN a ha' b hb' ha1 hb1 hs
        · have := List.mem_singleton.1 hb'
          rw [this] at hb1
          omega
        · have := List.mem_singleton.1 ha'
          rw [this] at ha1
          omega
        · have := List.mem_singleton.1 ha'
          rw [this] at ha1
          omega
def liveM (l : List zQ) (c : Int) : List zQ × Int := if (l.foldl gput G0).bad = true then ([], 8) else qO (l.foldl gput G0).lives c
theorem liveL_all {ss : List (List Int)} {l : List zQ} (c : Int) (hb : ∀ s ∈ ss, xP s) (h : allR ss = some l) : liveL ss c = liveM l c := by
  have hg := gather_all ss hb
  rw [h] at hg
  unfold liveL liveM
  rcases hg with hg | ⟨h1, h2⟩
  · rw [hg]
  · rw [h1, h2, if_pos rfl, if_pos rfl]
theorem liveF_perm {F F' : List zQ} (h : F.Perm F') (c : Int) : qO F c = qO F' c := by
  have hn : (F.map (·.y)).Nodup ↔ (F'.map (·.y)).Nodup := (h.map (·.y)).nodup_iff
  unfold qO
  by_cases hc : 0 ≤ c ∧ (F.length : Int) ≤ c ∧ (F.map (·.y)).Nodup
  · rw [if_pos hc, if_pos ⟨hc.1, by rw [← h.length_eq]; exact hc.2.1, hn.1 hc.2.2⟩]
    have hs : SortY (isort F) := by
      have h1 := List.pairwise_map.1 (((isort_perm F).symm.map (·.y)).nodup hc.2.2)
      exact (h1.and (isort_sorted F)).imp fun h => by have := h.1; have := h.2; omega
    rw [sort_uniq hs ((isort_perm F).trans h)]
  · rw [if_neg hc, if_neg (fun h2 => hc ⟨h2.1, by rw [h.length_eq]; exact h2.2.1, hn.2 h2.2.2⟩)]
theorem liveM_spec {l : List zQ} (hk : ∀ e ∈ l, e.k = 1 ∨ e.k = 2) (hN : NoClash l) (c : Int) : ∃ B, Births l B ∧ liveM l c = qO (B.filter (qC l)) c := by
  have hw := says_way l [] G0 .start .start (fun a ha => by cases ha) rfl hk
  rw [List.nil_append] at hw
  cases hb : (l.foldl gput G0).bad
  · obtain ⟨hK, hB, _⟩ := hw.1 hb
    refine ⟨_, hB, ?_⟩
    unfold liveM GD.lives
    rw [hb, if_neg (by decide)]
    congr 1
    exact List.filter_congr fun e he => (lives_eq hK ((hB.mem e).1 he).2).symm
  · exact absurd hN (hw.2 hb)
end Go.Proofs.YtomlhekjgagjaaaDoor
namespace Go.Proofs.YtomlhekjgagjaaaDoor
set_option maxRecDepth 100000
set_option maxHeartbeats 16000000
open Go Go.RowKit
def BD (L : List zQ) : Prop := ∀ e ∈ L, e.ok ∧ e.may = true ∧ ¬ e.k = 3
theorem BD.no3 {L : List zQ} (h : BD L) : no3 L = true := List.all_eq_true.2 fun e he => by simp [(h e he).2.2]
theorem BD.may {L : List zQ} (h : BD L) : ∀ e ∈ L, e.ok ∧ e.may = true := fun e he => ⟨(h e he).1, (h e he).2.1⟩
theorem may_kind {e : zQ} (h : e.may = true) : e.k = 1 ∨ e.k = 2 ∨ e.k = 3 := by
  unfold zQ.may vW at h
  by_cases h1 : e.k = 1
  · exact .inl h1
  · by_cases h2 : e.k = 2
    · exact .inr (.inl h2)
    · by_cases h3 : e.k = 3
      · exact .inr (.inr h3)
      · rw [if_neg h1, if_neg h2, if_neg h3] at h
        cases h
theorem BD.kinds {L : List zQ} (h : BD L) : ∀ e ∈ L, e.k = 1 ∨ e.k = 2 := fun e he => by
  have h1 := h e he
  rcases may_kind h1.2.1 with h2 | h2 | h2
  · exact .inl h2
  · exact .inr h2
  · exact absurd h2 h1.2.2
theorem BD.bytes {L : List zQ} (h : BD L) : xP (wE L) := catE_range fun e he => (h e he).1
theorem stream_one {L : List zQ} (i : Nat) (h : BD L) : streamR (i + 1) (wE L) = some L := by
  rw [stream_eq _ h.bytes, streamN i L h.may, h.no3]
  rfl
end Go.Proofs.YtomlhekjgagjaaaDoor
namespace Go.Proofs.YtomlhekjgagjaaaDoor
set_option maxRecDepth 100000
set_option maxHeartbeats 16000000
open Go Go.RowKit
attribute [local irreducible] zY zZ Step zA Sub zN yY Fn zF zM
def vD : Nat → List zQ → Int → Int
  | _, [], _ => 0
  | i, e :: r, s => if e.s = s then ((i + 1 : Nat) : Int) else vD (i + 1) r s
def plS (L : List zQ) (s : Int) (i : Nat) : AS := { t := [(0, .p (.sl (L.map zQ.V))), (1, .p (.val (.int .u64 s))), (5, .p (.val (.int .i64 (i : Nat))))], s := [] }
theorem place_fn (L : List zQ) (s : Int) (hl : L.length ≤ 1000000) : Fn Tryd.prog 41 [.sl (L.map zQ.V), .val (.int .u64 s)] (.p (.val (.int .u64 (vD 0 L s)))) := by
 have hc := yH L
 have hlen : (L.map zQ.V).length = L.length := by rw [List.length_map]
 refine wQ Tryd.func41 rfl Tryd.ntmps41 (Nat.le_of_ble_eq_true rfl) ?_
 repeat' (first | (refine zZ.is ?_; first | refine zZ.seq ?_ | (refine zZ.isR (id := 0) ?_; refine zZ.zV [0, 1] [] (by repeat' first | exact zX.nil | apply zX.p rfl) (by repeat' exact zW.nil) ?_; refine zY.va rfl rfl rfl rfl (by decide) ?_; refine zY.nil ?_) | (refine zZ.isR (id := 1) ?_; refine zZ.zV [0, 1, 4] [] (by repeat' first | exact zX.nil | apply zX.p rfl) (by repeat' exact zW.nil) ?_; refine zY.va rfl rfl rfl rfl (by decide) ?_; refine zY.nil ?_) | refine zZ.block ?_) | refine zF.n ?_)
 refine zZ.loop (plS L s) (fun i => i ≤ L.length ∧ vD 0 L s = vD i (L.drop i) s) (fun i => L.length - i) 0 ?h0 ⟨Nat.zero_le _, rfl⟩ ?rd
 case h0 =>
  unfold plS
  exact zB K_1j []
 case rd =>
  rintro i ⟨hi, hp⟩
  have g3 : IntKind.i64.wrap (((i : Nat) : Int) + 1) = ((i + 1 : Nat) : Int) := by rw [wrap_i64 _ (by omega)]; omega
  have g4 : IntKind.u64.wrap ((i + 1 : Nat) : Int) = ((i + 1 : Nat) : Int) := wrap_u64 _ (by omega)
  unfold plS
  by_cases hlt : i < L.length
  case pos =>
   have g1 : decide (((i : Nat) : Int) < (((L.map zQ.V).length : Nat) : Int)) = true := decide_eq_true (by rw [hlen]; omega)
   obtain ⟨e, he⟩ : ∃ e, L[i]? = some e := ⟨_, List.getElem?_eq_getElem hlt⟩
   have g2 : (L.map zQ.V)[i]? = some e.V := by rw [List.getElem?_map, he]; rfl
   have hd : L.drop i = e :: L.drop (i + 1) := by
    rw [List.drop_eq_getElem_cons hlt]
    rw [List.getElem?_eq_getElem hlt] at he
    rw [Option.some.inj he]
   rw [hd, vD] at hp
   obtain ⟨ek, es, ey, eu, ev, ex⟩ := e
   dsimp only at hp
   cases c1 : decide (es = s)
   case true =>
    rw [if_pos (of_decide_eq_true c1)] at hp
    rw [hp]
    repeat' (first | (refine zZ.is ?_; first | refine zZ.seq ?_ | (refine zZ.isR (id := 2) ?_; refine zZ.zV [0, 1, 4, 5, 9, 18] [] (by repeat' first | exact zX.nil | apply zX.p rfl | apply zX.skip) (by repeat' exact zW.nil) ?_; refine zY.vm rfl rfl rfl rfl (by decide) ?_; refine zY.vm rfl rfl rfl rfl (by decide) ?_; refine zY.v rfl rfl (yQ rfl rfl rfl (by decide)) ?_; refine zY.v rfl rfl (zR rfl rfl rfl g1 rfl (by decide)) ?_; refine zY.nil ?_) | (refine zZ.isR (id := 4) ?_; refine zZ.zV [0, 1, 4, 5, 9, 18] [] (by repeat' first | exact zX.nil | apply zX.p rfl | apply zX.skip) (by repeat' exact zW.nil) ?_; refine zY.vm rfl rfl rfl rfl (by decide) ?_; refine zY.vm rfl rfl rfl rfl (by decide) ?_; refine zY.v rfl rfl (zH rfl rfl rfl hc g2 rfl (by decide)) ?_; refine zY.v rfl rfl (yJ rfl rfl rfl (by decide)) ?_; refine zY.v rfl rfl (zT rfl rfl rfl rfl (by decide)) ?_; refine zY.vm rfl rfl rfl rfl (by decide) ?_; refine zY.v rfl rfl (yF rfl rfl rfl c1 rfl (by decide)) ?_; refine zY.nil ?_) | (refine zZ.isR (id := 5) ?_; refine zZ.zV [0, 1, 4, 5, 9, 18] [] (by repeat' first | exact zX.nil | apply zX.p rfl | apply zX.skip) (by repeat' exact zW.nil) ?_; refine zY.vm rfl rfl rfl rfl (by decide) ?_; refine zY.v rfl rfl (yD rfl rfl rfl g3 rfl (by decide)) ?_; refine zY.v rfl rfl (yO rfl rfl g4 rfl (by decide)) ?_; refine zY.va rfl rfl rfl rfl (by decide) ?_; refine zY.nil ?_) | refine zZ.yV rfl (by first | assumption | with_reducible rfl) ?_ | refine zZ.skip ?_ | refine zZ.block ?_ | refine zZ.ret ?_) | refine zF.n ?_ | refine zF.r ?_ | refine zM.r ?_)
    all_goals exact ⟨.inl rfl, gives1 rfl rfl rfl⟩
   case false =>
    rw [if_neg (of_decide_eq_false c1)] at hp
    repeat' (first | (refine zZ.is ?_; first | refine zZ.seq ?_ | (refine zZ.isR (id := 2) ?_; refine zZ.zV [0, 1, 4, 5, 9, 18] [] (by repeat' first | exact zX.nil | apply zX.p rfl | apply zX.skip) (by repeat' exact zW.nil) ?_; refine zY.vm rfl rfl rfl rfl (by decide) ?_; refine zY.vm rfl rfl rfl rfl (by decide) ?_; refine zY.v rfl rfl (yQ rfl rfl rfl (by decide)) ?_; refine zY.v rfl rfl (zR rfl rfl rfl g1 rfl (by decide)) ?_; refine zY.nil ?_) | (refine zZ.isR (id := 4) ?_; refine zZ.zV [0, 1, 4, 5, 9, 18] [] (by repeat' first | exact zX.nil | apply zX.p rfl | apply zX.skip) (by repeat' exact zW.nil) ?_; refine zY.vm rfl rfl rfl rfl (by decide) ?_; refine zY.vm rfl rfl rfl rfl (by decide) ?_; refine zY.v rfl rfl (zH rfl rfl rfl hc g2 rfl (by decide)) ?_; refine zY.v rfl rfl (yJ rfl rfl rfl (by decide)) ?_; refine zY.v rfl rfl (zT rfl rfl rfl rfl (by decide)) ?_; refine zY.vm rfl rfl rfl rfl (by decide) ?_; refine zY.v rfl rfl (yF rfl rfl rfl c1 rfl (by decide)) ?_; refine zY.nil ?_) | (refine zZ.isR (id := 3) ?_; refine zZ.zV [0, 1, 4, 5, 9, 18] [] (by repeat' first | exact zX.nil | apply zX.p rfl | apply zX.skip) (by repeat' exact zW.nil) ?_; refine zY.vm rfl rfl rfl rfl (by decide) ?_; refine zY.v rfl rfl (yD rfl rfl rfl g3 rfl (by decide)) ?_; refine zY.va rfl rfl rfl rfl (by decide) ?_; refine zY.nil ?_) | refine zZ.yV rfl (by first | assumption | with_reducible rfl) ?_ | refine zZ.yX rfl (by first | assumption | with_reducible rfl) ?_ | refine zZ.skip ?_ | refine zZ.block ?_) | refine zF.n ?_ | refine zM.n ?_)
    all_goals
     refine ⟨i + 1, ?_, ⟨hlt, hp⟩, by omega⟩
     try unfold plS
     exact zB K_1j []
  case neg =>
   have hie : i = L.length := by omega
   subst hie
   have g1 : decide (((L.length : Nat) : Int) < (((L.map zQ.V).length : Nat) : Int)) = false := decide_eq_false (by rw [hlen]; omega)
   rw [List.drop_length, vD] at hp
   rw [hp]
   repeat' (first | (refine zZ.is ?_; first | refine zZ.seq ?_ | (refine zZ.isR (id := 2) ?_; refine zZ.zV [0, 1, 4, 5, 9, 18] [] (by repeat' first | exact zX.nil | apply zX.p rfl | apply zX.skip) (by repeat' exact zW.nil) ?_; refine zY.vm rfl rfl rfl rfl (by decide) ?_; refine zY.vm rfl rfl rfl rfl (by decide) ?_; refine zY.v rfl rfl (yQ rfl rfl rfl (by decide)) ?_; refine zY.v rfl rfl (zR rfl rfl rfl g1 rfl (by decide)) ?_; refine zY.nil ?_) | (refine zZ.isR (id := 6) ?_; refine zZ.zV [4] [] (by repeat' first | exact zX.nil | apply zX.skip) (by repeat' exact zW.nil) ?_; refine zY.va rfl rfl rfl rfl (by decide) ?_; refine zY.nil ?_) | refine zZ.yX rfl (by first | assumption | with_reducible rfl) ?_ | refine zZ.exit ?_ | refine zZ.ret ?_) | refine zF.n ?_ | refine zM.eY ?_ | refine zF.e ?_)
   all_goals exact ⟨.inl rfl, gives1 rfl rfl rfl⟩
def aRef (L : List zQ) (i : Nat) (e : zQ) : zQ := ⟨e.k, ((i + 1 : Nat) : Int), e.y, if e.u > 0 then vD 0 L e.u else e.u, if e.u > 0 then vD 0 L e.v else e.v, e.x⟩
def laS (L N : List zQ) (i : Nat) : AS := { t := [(0, .p (.sl (L.map zQ.V))), (3, .own 42), (4, .p (.val (.int .i64 (i : Nat))))], s := [(42, xD 46 6 ((N.take i).map zQ.V))] }
theorem anewR_fn (L N : List zQ) (hl : L.length ≤ 1000000) (hN : N.length = L.length) (hA : ∀ i e, L[i]? = some e → N[i]? = some (aRef L i e)) : Fn Tryd.prog 19 [.sl (L.map zQ.V)] (.p (.sl (N.map zQ.V))) := by
  have hc := yH L
  have hlen : (L.map zQ.V).length = L.length := by rw [List.length_map]
  refine wJ Tryd.func19 rfl Tryd.ntmps19 (Nat.le_of_ble_eq_true rfl) ?_
  repeat' (first | (refine zZ.is ?_; first | refine zZ.seq ?_ | (refine zZ.iq 0 ?_; refine zZ.rqa _ K_2 K_d ?_; refine zY.va rfl rfl rfl rfl (by decide) ?_; refine zY.nil ?_) | (refine zZ.iq 1 ?_; refine zZ.rqa _ K_c K_d ?_; refine zY.va rfl rfl rfl rfl (by decide) ?_; refine zY.nil ?_) | (refine zZ.iq 2 ?_; refine zZ.rqa _ K_3 K_d ?_; refine zY.va rfl rfl rfl rfl (by decide) ?_; refine zY.nil ?_) | refine zZ.block ?_) | refine zF.n ?_)
  refine zZ.loop (laS L N) (fun i => i ≤ L.length) (fun i => L.length - i) 0 ?h0 (Nat.zero_le _) ?rd
  case h0 =>
    refine (qB (d := 3) (id := 42) (ty := 46) (sz := 6) (by decide) rfl).trans ?_
    unfold laS
    exact zB K_e K_q
  case rd =>
    intro i hi
    have g3 : IntKind.i64.wrap (((i : Nat) : Int) + 1) = ((i + 1 : Nat) : Int) := by rw [wrap_i64 _ (by omega)]; omega
    have g4 : IntKind.u64.wrap ((i + 1 : Nat) : Int) = ((i + 1 : Nat) : Int) := wrap_u64 _ (by omega)
    unfold laS
    by_cases hlt : i < L.length
    case pos =>
      have g1 : decide (((i : Nat) : Int) < (((L.map zQ.V).length : Nat) : Int)) = true := decide_eq_true (by rw [hlen]; omega)
      obtain ⟨e, he⟩ : ∃ e, L[i]? = some e := ⟨_, List.getElem?_eq_getElem hlt⟩
      have g2 : (L.map zQ.V)[i]? = some e.V := by rw [List.getElem?_map, he]; rfl
      have hn := hA i e he
      have htake : (N.take (i + 1)).map zQ.V = (N.take i).map zQ.V ++ [(aRef L i e).V] := by rw [List.take_add_one, hn]; simp
      have q6 : ∀ z ∈ [(aRef L i e).V], z.cells.length = 6 := fun z hz => by simp at hz; subst hz; rfl
      have q7 : ([(aRef L i e).V] : List PV).length * 48 ≤ 140737488355328 ∧ ([(aRef L i e).V] : List PV).length ≤ maxLen := by simp [maxLen]
      have q8 : (((N.take i).map zQ.V).length + ([(aRef L i e).V] : List PV).length) * 48 ≤ 140737488355328 ∧ ((N.take i).map zQ.V).length + ([(aRef L i e).V] : List PV).length ≤ maxLen := by simp [maxLen]; omega
      obtain ⟨ek, es, ey, eu, ev, ex⟩ := e
      have p1 := place_fn L eu hl
      have p2 := place_fn L ev hl
      have hv : (aRef L i ⟨ek, es, ey, eu, ev, ex⟩).V = .agg [.val (.int .i64 ek), .val (.int .u64 ((i + 1 : Nat) : Int)), .val (.int .u64 ey), .val (.int .u64 (if eu > 0 then vD 0 L eu else eu)), .val (.int .u64 (if eu > 0 then vD 0 L ev else ev)), .val (.int .u64 ex)] := rfl
      rw [hv] at htake q6 q7 q8
      clear hv hn he
      cases c1 : decide (eu > 0)
      case true =>
        rw [if_pos (of_decide_eq_true c1), if_pos (of_decide_eq_true c1)] at htake q6 q7 q8
        generalize vD 0 L eu = pu at *
        generalize vD 0 L ev = pv at *
        repeat' (first | (refine zZ.is ?_; first | refine zZ.seq ?_ | (refine zZ.iq 3 ?_; refine zZ.rqd _ K_n K_d ?_; refine zY.vm rfl rfl rfl rfl (by decide) ?_; refine zY.vm rfl rfl rfl rfl (by decide) ?_; refine zY.v rfl rfl (yQ rfl rfl rfl (by decide)) ?_; refine zY.v rfl rfl (zR rfl rfl rfl g1 rfl (by decide)) ?_; refine zY.nil ?_) | (refine zZ.iq 5 ?_; refine zZ.rqd _ K_n K_d ?_; refine zY.vm rfl rfl rfl rfl (by decide) ?_; refine zY.vm rfl rfl rfl rfl (by decide) ?_; refine zY.v rfl rfl (zH rfl rfl rfl hc g2 rfl (by decide)) ?_; refine zY.v rfl rfl (by exact y8 rfl rfl (by exact Nat.le_of_ble_eq_true rfl) rfl (by decide)) ?_; refine zY.m rfl rfl (yN rfl (by decide) rfl (by decide)) ?_; refine zY.w rfl (by exact yZ rfl rfl rfl rfl rfl (by rfl) (by exact Nat.le_of_ble_eq_true rfl) rfl rfl) ?_; refine zY.nil ?_) | (refine zZ.iq 6 ?_; refine zZ.rqb _ K_n K_d ?_; refine zY.vm rfl rfl rfl rfl (by decide) ?_; refine zY.v rfl rfl (yD rfl rfl rfl g3 rfl (by decide)) ?_; refine zY.v rfl rfl (yO rfl rfl g4 rfl (by decide)) ?_; refine zY.v rfl rfl (zJ rfl rfl rfl (by decide)) ?_; refine zY.w rfl (by exact yZ rfl rfl rfl rfl rfl (by rfl) (by exact Nat.le_of_ble_eq_true rfl) rfl rfl) ?_; refine zY.nil ?_) | (refine zZ.iq 7 ?_; refine zZ.rqb _ K_n K_d ?_; refine zY.v rfl rfl (zJ rfl rfl rfl (by decide)) ?_; refine zY.v rfl rfl (zC rfl rfl rfl (by rfl) rfl (by decide)) ?_; refine zY.v rfl rfl (wW rfl rfl rfl c1 rfl (by decide)) ?_; refine zY.nil ?_) | (refine zZ.iq 8 ?_; refine zZ.rqb _ K_n K_d ?_; refine zY.vm rfl rfl rfl rfl (by decide) ?_; refine zY.vm rfl rfl rfl rfl (by decide) ?_; refine zY.vm rfl rfl rfl rfl (by decide) ?_; refine zY.v rfl rfl (zH rfl rfl rfl hc g2 rfl (by decide)) ?_; refine zY.v rfl rfl (yJ rfl rfl rfl (by decide)) ?_; refine zY.v rfl rfl (zT rfl rfl rfl rfl (by decide)) ?_; refine zY.v rfl rfl (by exact zU (p1) rfl rfl rfl (by decide)) ?_; refine zY.v rfl rfl (zJ rfl rfl rfl (by decide)) ?_; refine zY.w rfl (by exact yZ rfl rfl rfl rfl rfl (by rfl) (by exact Nat.le_of_ble_eq_true rfl) rfl rfl) ?_; refine zY.nil ?_) | (refine zZ.iq 9 ?_; refine zZ.rqb _ K_n K_d ?_; refine zY.vm rfl rfl rfl rfl (by decide) ?_; refine zY.vm rfl rfl rfl rfl (by decide) ?_; refine zY.vm rfl rfl rfl rfl (by decide) ?_; refine zY.v rfl rfl (zH rfl rfl rfl hc g2 rfl (by decide)) ?_; refine zY.v rfl rfl (yJ rfl rfl rfl (by decide)) ?_; refine zY.v rfl rfl (zT rfl rfl rfl rfl (by decide)) ?_; refine zY.v rfl rfl (by exact zU (p2) rfl rfl rfl (by decide)) ?_; refine zY.v rfl rfl (zJ rfl rfl rfl (by decide)) ?_; refine zY.w rfl (by exact yZ rfl rfl rfl rfl rfl (by rfl) (by exact Nat.le_of_ble_eq_true rfl) rfl rfl) ?_; refine zY.nil ?_) | (refine zZ.iq 10 ?_; refine zZ.rqb _ K_n K_d ?_; refine zY.v rfl rfl (yA rfl rfl rfl (by decide)) ?_; refine zY.v rfl rfl (yL rfl rfl rfl (by rfl) (by rfl) rfl (by decide)) ?_; refine zY.v rfl rfl (xJ rfl (by decide) (by decide) (by decide) (by decide) (by rfl) (by rfl) (by rfl) (by rfl) (by rfl) (by rfl) (by rfl) rfl (by decide)) ?_; refine zY.w rfl (qA rfl rfl rfl rfl q6 q8 rfl (by decide) rfl (by decide)) ?_; refine zY.v rfl rfl (zP rfl rfl rfl (by decide)) ?_; refine zY.nil ?_) | (refine zZ.iq 4 ?_; refine zZ.rqb _ K_n K_d ?_; refine zY.vm rfl rfl rfl rfl (by decide) ?_; refine zY.v rfl rfl (yD rfl rfl rfl g3 rfl (by decide)) ?_; refine zY.va rfl rfl rfl rfl (by decide) ?_; refine zY.nil ?_) | refine zZ.yV rfl (by first | assumption | with_reducible rfl) ?_ | refine zZ.skip ?_ | refine zZ.block ?_) | refine zF.n ?_ | refine zM.n ?_)
        all_goals
          refine ⟨i + 1, ?_, hlt, by omega⟩
          try unfold laS
          rw [htake]
          exact zB K_e K_q
      case false =>
        rw [if_neg (of_decide_eq_false c1), if_neg (of_decide_eq_false c1)] at htake q6 q7 q8
        repeat' (first | (refine zZ.is ?_; first | refine zZ.seq ?_ | (refine zZ.iq 3 ?_; refine zZ.rqd _ K_n K_d ?_; refine zY.vm rfl rfl rfl rfl (by decide) ?_; refine zY.vm rfl rfl rfl rfl (by decide) ?_; refine zY.v rfl rfl (yQ rfl rfl rfl (by decide)) ?_; refine zY.v rfl rfl (zR rfl rfl rfl g1 rfl (by decide)) ?_; refine zY.nil ?_) | (refine zZ.iq 5 ?_; refine zZ.rqd _ K_n K_d ?_; refine zY.vm rfl rfl rfl rfl (by decide) ?_; refine zY.vm rfl rfl rfl rfl (by decide) ?_; refine zY.v rfl rfl (zH rfl rfl rfl hc g2 rfl (by decide)) ?_; refine zY.v rfl rfl (by exact y8 rfl rfl (by exact Nat.le_of_ble_eq_true rfl) rfl (by decide)) ?_; refine zY.m rfl rfl (yN rfl (by decide) rfl (by decide)) ?_; refine zY.w rfl (by exact yZ rfl rfl rfl rfl rfl (by rfl) (by exact Nat.le_of_ble_eq_true rfl) rfl rfl) ?_; refine zY.nil ?_) | (refine zZ.iq 6 ?_; refine zZ.rqb _ K_n K_d ?_; refine zY.vm rfl rfl rfl rfl (by decide) ?_; refine zY.v rfl rfl (yD rfl rfl rfl g3 rfl (by decide)) ?_; refine zY.v rfl rfl (yO rfl rfl g4 rfl (by decide)) ?_; refine zY.v rfl rfl (zJ rfl rfl rfl (by decide)) ?_; refine zY.w rfl (by exact yZ rfl rfl rfl rfl rfl (by rfl) (by exact Nat.le_of_ble_eq_true rfl) rfl rfl) ?_; refine zY.nil ?_) | (refine zZ.iq 7 ?_; refine zZ.rqb _ K_n K_d ?_; refine zY.v rfl rfl (zJ rfl rfl rfl (by decide)) ?_; refine zY.v rfl rfl (zC rfl rfl rfl (by rfl) rfl (by decide)) ?_; refine zY.v rfl rfl (wW rfl rfl rfl c1 rfl (by decide)) ?_; refine zY.nil ?_) | (refine zZ.iq 10 ?_; refine zZ.rqb _ K_n K_d ?_; refine zY.v rfl rfl (yA rfl rfl rfl (by decide)) ?_; refine zY.v rfl rfl (yL rfl rfl rfl (by rfl) (by rfl) rfl (by decide)) ?_; refine zY.v rfl rfl (xJ rfl (by decide) (by decide) (by decide) (by decide) (by rfl) (by rfl) (by rfl) (by rfl) (by rfl) (by rfl) (by rfl) rfl (by decide)) ?_; refine zY.w rfl (qA rfl rfl rfl rfl q6 q8 rfl (by decide) rfl (by decide)) ?_; refine zY.v rfl rfl (zP rfl rfl rfl (by decide)) ?_; refine zY.nil ?_) | (refine zZ.iq 4 ?_; refine zZ.rqb _ K_n K_d ?_; refine zY.vm rfl rfl rfl rfl (by decide) ?_; refine zY.v rfl rfl (yD rfl rfl rfl g3 rfl (by decide)) ?_; refine zY.va rfl rfl rfl rfl (by decide) ?_; refine zY.nil ?_) | refine zZ.yV rfl (by first | assumption | with_reducible rfl) ?_ | refine zZ.yX rfl (by first | assumption | with_reducible rfl) ?_ | refine zZ.skip ?_ | refine zZ.block ?_) | refine zF.n ?_ | refine zM.n ?_)
        all_goals
          refine ⟨i + 1, ?_, hlt, by omega⟩
          try unfold laS
          rw [htake]
          exact zB K_e K_q
    case neg =>
      have hie : i = L.length := by omega
      subst hie
      have g1 : decide (((L.length : Nat) : Int) < (((L.map zQ.V).length : Nat) : Int)) = false := decide_eq_false (by rw [hlen]; omega)
      rw [← hN, List.take_length]
      rw [← hN] at g1
      repeat' (first | (refine zZ.is ?_; first | refine zZ.seq ?_ | (refine zZ.iq 3 ?_; refine zZ.rqd _ K_n K_d ?_; refine zY.vm rfl rfl rfl rfl (by decide) ?_; refine zY.vm rfl rfl rfl rfl (by decide) ?_; refine zY.v rfl rfl (yQ rfl rfl rfl (by decide)) ?_; refine zY.v rfl rfl (zR rfl rfl rfl g1 rfl (by decide)) ?_; refine zY.nil ?_) | (refine zZ.iq 11 ?_; refine zZ.rqw _ K_1l K_d ?_; refine zY.v rfl rfl (yA rfl rfl rfl (by decide)) ?_; refine zY.v rfl rfl (zP rfl rfl rfl (by decide)) ?_; refine zY.nil ?_) | refine zZ.yX rfl (by first | assumption | with_reducible rfl) ?_ | refine zZ.exit ?_ | refine zZ.ret ?_) | refine zF.n ?_ | refine zM.eY ?_ | refine zF.e ?_)
      all_goals exact ⟨.inl rfl, _, sub_frzE 42 46 6 _ rfl, xC.p rfl (.tmp rfl)⟩
end Go.Proofs.YtomlhekjgagjaaaDoor
namespace Go.Proofs.YtomlhekjgagjaaaDoor
set_option maxRecDepth 100000
set_option maxHeartbeats 16000000
open Go Go.RowKit
attribute [local irreducible] zY zZ Step zA Sub zN yY Fn zF zM
def hasG : List xH → Int → Int → Int × Bool
  | [], _, _ => (0, false)
  | a :: r, u, v => if a.u = u ∧ a.v = v then (a.w, true) else hasG r u v
def haS (G : List xH) (u v : Int) (i : Nat) : AS := { t := [(0, .p (.sl (G.map xH.V))), (1, .p (.val (.int .i64 u))), (2, .p (.val (.int .i64 v))), (8, .p (.val (.int .i64 (i : Nat))))], s := [] }
theorem has_arc (G : List xH) (u v : Int) (hl : G.length ≤ 1000000) : Fn Tryd.prog 62 [.sl (G.map xH.V), .val (.int .i64 u), .val (.int .i64 v)] (.tup [.val (.int .u64 (hasG G u v).1), .val (.bool (hasG G u v).2)]) := by
 have hc := arcs_cells G
 have hlen : (G.map xH.V).length = G.length := by rw [List.length_map]
 refine wJ Tryd.func62 rfl Tryd.ntmps62 (Nat.le_of_ble_eq_true rfl) ?_
 repeat' (first | (refine zZ.is ?_; first | refine zZ.seq ?_ | (refine zZ.isR (id := 0) ?_; refine zZ.zV [0, 1, 2] [] (by repeat' first | exact zX.nil | apply zX.p rfl) (by repeat' exact zW.nil) ?_; refine zY.va rfl rfl rfl rfl (by decide) ?_; refine zY.va rfl rfl rfl rfl (by decide) ?_; refine zY.nil ?_) | (refine zZ.isR (id := 1) ?_; refine zZ.zV [0, 1, 2, 6, 7] [] (by repeat' first | exact zX.nil | apply zX.p rfl) (by repeat' exact zW.nil) ?_; refine zY.va rfl rfl rfl rfl (by decide) ?_; refine zY.nil ?_) | refine zZ.block ?_) | refine zF.n ?_)
 refine zZ.loop (haS G u v) (fun i => i ≤ G.length ∧ hasG G u v = hasG (G.drop i) u v) (fun i => G.length - i) 0 ?h0 ⟨Nat.zero_le _, rfl⟩ ?rd
 case h0 =>
  unfold haS
  exact zB K_2q []
 case rd =>
  rintro i ⟨hi, hp⟩
  have g3 : IntKind.i64.wrap (((i : Nat) : Int) + 1) = ((i + 1 : Nat) : Int) := by rw [wrap_i64 _ (by omega)]; omega
  unfold haS
  by_cases hlt : i < G.length
  case pos =>
   have g1 : decide (((i : Nat) : Int) < (((G.map xH.V).length : Nat) : Int)) = true := decide_eq_true (by rw [hlen]; omega)
   obtain ⟨a, ha⟩ : ∃ a, G[i]? = some a := ⟨_, List.getElem?_eq_getElem hlt⟩
   have g2 : (G.map xH.V)[i]? = some a.V := by rw [List.getElem?_map, ha]; rfl
   have hd : G.drop i = a :: G.drop (i + 1) := by
    rw [List.drop_eq_getElem_cons hlt]
    rw [List.getElem?_eq_getElem hlt] at ha
    rw [Option.some.inj ha]
   rw [hd, hasG] at hp
   obtain ⟨au, av, aw⟩ := a
   dsimp only at hp
   cases c1 : decide (au = u)
   case false =>
    rw [if_neg (fun h => of_decide_eq_false c1 h.1)] at hp
    repeat' (first | (refine zZ.is ?_; first | refine zZ.seq ?_ | (refine zZ.isR (id := 2) ?_; refine zZ.zV [0, 1, 2, 6, 7, 8, 12, 30] [] (by repeat' first | exact zX.nil | apply zX.p rfl | apply zX.skip) (by repeat' exact zW.nil) ?_; refine zY.vm rfl rfl rfl rfl (by decide) ?_; refine zY.vm rfl rfl rfl rfl (by decide) ?_; refine zY.v rfl rfl (yQ rfl rfl rfl (by decide)) ?_; refine zY.v rfl rfl (zR rfl rfl rfl g1 rfl (by decide)) ?_; refine zY.nil ?_) | (refine zZ.isR (id := 4) ?_; refine zZ.zV [0, 1, 2, 6, 7, 8, 12, 30] [] (by repeat' first | exact zX.nil | apply zX.p rfl | apply zX.skip) (by repeat' exact zW.nil) ?_; all_goals (refine zY.vm rfl rfl rfl rfl (by decide) ?_); all_goals (refine zY.vm rfl rfl rfl rfl (by decide) ?_); all_goals (refine zY.v rfl rfl (zH rfl rfl rfl hc g2 rfl (by decide)) ?_); all_goals (refine zY.v rfl rfl (yJ rfl rfl rfl (by decide)) ?_); all_goals (refine zY.v rfl rfl (zT rfl rfl rfl rfl (by decide)) ?_); all_goals (refine zY.vm rfl rfl rfl rfl (by decide) ?_); all_goals (refine zY.v rfl rfl (yF rfl rfl rfl c1 rfl (by decide)) ?_); all_goals (refine zY.vm rfl rfl rfl rfl (by decide) ?_); all_goals (refine zY.gnT rfl rfl (by decide) rfl (by rfl) rfl (by decide) ?_); all_goals (refine zY.gnT rfl rfl (by decide) rfl (by rfl) rfl (by decide) ?_); all_goals (refine zY.gnT rfl rfl (by decide) rfl (by rfl) rfl (by decide) ?_); all_goals (refine zY.gnT rfl rfl (by decide) rfl (by rfl) rfl (by decide) ?_); all_goals (refine zY.gnT rfl rfl (by decide) rfl (by rfl) rfl (by decide) ?_); all_goals (refine zY.gnT rfl rfl (by decide) rfl (by rfl) rfl (by decide) ?_); all_goals (refine zY.gnT rfl rfl (by decide) rfl (by rfl) rfl (by decide) ?_); all_goals (refine zY.v rfl rfl (zI rfl rfl (by rfl) rfl rfl (by decide)) ?_); all_goals (refine zY.nil ?_)) | (refine zZ.isR (id := 3) ?_; refine zZ.zV [0, 1, 2, 6, 7, 8, 12, 30] [] (by repeat' first | exact zX.nil | apply zX.p rfl | apply zX.skip) (by repeat' exact zW.nil) ?_; refine zY.vm rfl rfl rfl rfl (by decide) ?_; refine zY.v rfl rfl (yD rfl rfl rfl g3 rfl (by decide)) ?_; refine zY.va rfl rfl rfl rfl (by decide) ?_; refine zY.nil ?_) | refine zZ.yV rfl (by first | assumption | with_reducible rfl) ?_ | refine zZ.yX rfl (by first | assumption | with_reducible rfl) ?_ | refine zZ.skip ?_ | refine zZ.block ?_) | refine zF.n ?_ | refine zM.n ?_)
    all_goals
     refine ⟨i + 1, ?_, ⟨hlt, hp⟩, by omega⟩
     try unfold haS
     exact zB K_2q []
   case true =>
    cases c2 : decide (av = v)
    case false =>
     rw [if_neg (fun h => of_decide_eq_false c2 h.2)] at hp
     repeat' (first | (refine zZ.is ?_; first | refine zZ.seq ?_ | (refine zZ.isR (id := 2) ?_; refine zZ.zV [0, 1, 2, 6, 7, 8, 12, 30] [] (by repeat' first | exact zX.nil | apply zX.p rfl | apply zX.skip) (by repeat' exact zW.nil) ?_; refine zY.vm rfl rfl rfl rfl (by decide) ?_; refine zY.vm rfl rfl rfl rfl (by decide) ?_; refine zY.v rfl rfl (yQ rfl rfl rfl (by decide)) ?_; refine zY.v rfl rfl (zR rfl rfl rfl g1 rfl (by decide)) ?_; refine zY.nil ?_) | (refine zZ.isR (id := 4) ?_; refine zZ.zV [0, 1, 2, 6, 7, 8, 12, 30] [] (by repeat' first | exact zX.nil | apply zX.p rfl | apply zX.skip) (by repeat' exact zW.nil) ?_; all_goals (refine zY.vm rfl rfl rfl rfl (by decide) ?_); all_goals (refine zY.vm rfl rfl rfl rfl (by decide) ?_); all_goals (refine zY.v rfl rfl (zH rfl rfl rfl hc g2 rfl (by decide)) ?_); all_goals (refine zY.v rfl rfl (yJ rfl rfl rfl (by decide)) ?_); all_goals (refine zY.v rfl rfl (zT rfl rfl rfl rfl (by decide)) ?_); all_goals (refine zY.vm rfl rfl rfl rfl (by decide) ?_); all_goals (refine zY.v rfl rfl (yF rfl rfl rfl c1 rfl (by decide)) ?_); all_goals (refine zY.vm rfl rfl rfl rfl (by decide) ?_); all_goals (refine zY.gY rfl rfl (by decide) rfl (by rfl) rfl (by decide) (zK rfl rfl rfl (by decide)) ?_); all_goals (refine zY.gY rfl rfl (by decide) rfl (by rfl) rfl (by decide) (zK rfl rfl rfl (by decide)) ?_); all_goals (refine zY.gY rfl rfl (by decide) rfl (by rfl) rfl (by decide) (zH rfl rfl rfl hc g2 rfl (by decide)) ?_); all_goals (refine zY.gY rfl rfl (by decide) rfl (by rfl) rfl (by decide) (yJ rfl rfl rfl (by decide)) ?_); all_goals (refine zY.gY rfl rfl (by decide) rfl (by rfl) rfl (by decide) (zT rfl rfl rfl rfl (by decide)) ?_); all_goals (refine zY.gY rfl rfl (by decide) rfl (by rfl) rfl (by decide) (zK rfl rfl rfl (by decide)) ?_); all_goals (refine zY.gY rfl rfl (by decide) rfl (by rfl) rfl (by decide) (yF rfl rfl rfl c2 rfl (by decide)) ?_); all_goals (refine zY.v rfl rfl (zL rfl rfl (by rfl) rfl rfl (by decide)) ?_); all_goals (refine zY.nil ?_)) | (refine zZ.isR (id := 3) ?_; refine zZ.zV [0, 1, 2, 6, 7, 8, 12, 30] [] (by repeat' first | exact zX.nil | apply zX.p rfl | apply zX.skip) (by repeat' exact zW.nil) ?_; refine zY.vm rfl rfl rfl rfl (by decide) ?_; refine zY.v rfl rfl (yD rfl rfl rfl g3 rfl (by decide)) ?_; refine zY.va rfl rfl rfl rfl (by decide) ?_; refine zY.nil ?_) | refine zZ.yV rfl (by first | assumption | with_reducible rfl) ?_ | refine zZ.yX rfl (by first | assumption | with_reducible rfl) ?_ | refine zZ.skip ?_ | refine zZ.block ?_) | refine zF.n ?_ | refine zM.n ?_)
     all_goals
      refine ⟨i + 1, ?_, ⟨hlt, hp⟩, by omega⟩
      try unfold haS
      exact zB K_2q []
    case true =>
     rw [if_pos ⟨of_decide_eq_true c1, of_decide_eq_true c2⟩] at hp
     rw [hp]
     repeat' (first | (refine zZ.is ?_; first | refine zZ.seq ?_ | (refine zZ.isR (id := 2) ?_; refine zZ.zV [0, 1, 2, 6, 7, 8, 12, 30] [] (by repeat' first | exact zX.nil | apply zX.p rfl | apply zX.skip) (by repeat' exact zW.nil) ?_; refine zY.vm rfl rfl rfl rfl (by decide) ?_; refine zY.vm rfl rfl rfl rfl (by decide) ?_; refine zY.v rfl rfl (yQ rfl rfl rfl (by decide)) ?_; refine zY.v rfl rfl (zR rfl rfl rfl g1 rfl (by decide)) ?_; refine zY.nil ?_) | (refine zZ.isR (id := 4) ?_; refine zZ.zV [0, 1, 2, 6, 7, 8, 12, 30] [] (by repeat' first | exact zX.nil | apply zX.p rfl | apply zX.skip) (by repeat' exact zW.nil) ?_; all_goals (refine zY.vm rfl rfl rfl rfl (by decide) ?_); all_goals (refine zY.vm rfl rfl rfl rfl (by decide) ?_); all_goals (refine zY.v rfl rfl (zH rfl rfl rfl hc g2 rfl (by decide)) ?_); all_goals (refine zY.v rfl rfl (yJ rfl rfl rfl (by decide)) ?_); all_goals (refine zY.v rfl rfl (zT rfl rfl rfl rfl (by decide)) ?_); all_goals (refine zY.vm rfl rfl rfl rfl (by decide) ?_); all_goals (refine zY.v rfl rfl (yF rfl rfl rfl c1 rfl (by decide)) ?_); all_goals (refine zY.vm rfl rfl rfl rfl (by decide) ?_); all_goals (refine zY.gY rfl rfl (by decide) rfl (by rfl) rfl (by decide) (zK rfl rfl rfl (by decide)) ?_); all_goals (refine zY.gY rfl rfl (by decide) rfl (by rfl) rfl (by decide) (zK rfl rfl rfl (by decide)) ?_); all_goals (refine zY.gY rfl rfl (by decide) rfl (by rfl) rfl (by decide) (zH rfl rfl rfl hc g2 rfl (by decide)) ?_); all_goals (refine zY.gY rfl rfl (by decide) rfl (by rfl) rfl (by decide) (yJ rfl rfl rfl (by decide)) ?_); all_goals (refine zY.gY rfl rfl (by decide) rfl (by rfl) rfl (by decide) (zT rfl rfl rfl rfl (by decide)) ?_); all_goals (refine zY.gY rfl rfl (by decide) rfl (by rfl) rfl (by decide) (zK rfl rfl rfl (by decide)) ?_); all_goals (refine zY.gY rfl rfl (by decide) rfl (by rfl) rfl (by decide) (yF rfl rfl rfl c2 rfl (by decide)) ?_); all_goals (refine zY.v rfl rfl (zL rfl rfl (by rfl) rfl rfl (by decide)) ?_); all_goals (refine zY.nil ?_)) | (refine zZ.isR (id := 5) ?_; refine zZ.zV [0, 1, 2, 6, 7, 8, 12, 30] [] (by repeat' first | exact zX.nil | apply zX.p rfl | apply zX.skip) (by repeat' exact zW.nil) ?_; refine zY.vm rfl rfl rfl rfl (by decide) ?_; refine zY.vm rfl rfl rfl rfl (by decide) ?_; refine zY.v rfl rfl (zH rfl rfl rfl hc g2 rfl (by decide)) ?_; refine zY.v rfl rfl (yJ rfl rfl rfl (by decide)) ?_; refine zY.v rfl rfl (zT rfl rfl rfl rfl (by decide)) ?_; refine zY.va rfl rfl rfl rfl (by decide) ?_; refine zY.va rfl rfl rfl rfl (by decide) ?_; refine zY.nil ?_) | refine zZ.yV rfl (by first | assumption | with_reducible rfl) ?_ | refine zZ.skip ?_ | refine zZ.block ?_ | refine zZ.ret ?_) | refine zF.n ?_ | refine zF.r ?_ | refine zM.r ?_)
     all_goals exact ⟨.inl rfl, _, Sub.refl _, xC.tupE (rs := [.tmp 6, .tmp 7]) rfl (by decide) (.cons (.tmp rfl) (.cons (.tmp rfl) .nil)) rfl⟩
  case neg =>
   have hie : i = G.length := by omega
   subst hie
   have g1 : decide (((G.length : Nat) : Int) < (((G.map xH.V).length : Nat) : Int)) = false := decide_eq_false (by rw [hlen]; omega)
   rw [List.drop_length, hasG] at hp
   rw [hp]
   repeat' (first | (refine zZ.is ?_; first | refine zZ.seq ?_ | (refine zZ.isR (id := 2) ?_; refine zZ.zV [0, 1, 2, 6, 7, 8, 12, 30] [] (by repeat' first | exact zX.nil | apply zX.p rfl | apply zX.skip) (by repeat' exact zW.nil) ?_; refine zY.vm rfl rfl rfl rfl (by decide) ?_; refine zY.vm rfl rfl rfl rfl (by decide) ?_; refine zY.v rfl rfl (yQ rfl rfl rfl (by decide)) ?_; refine zY.v rfl rfl (zR rfl rfl rfl g1 rfl (by decide)) ?_; refine zY.nil ?_) | (refine zZ.isR (id := 6) ?_; refine zZ.zV [6, 7] [] (by repeat' first | exact zX.nil | apply zX.skip) (by repeat' exact zW.nil) ?_; refine zY.va rfl rfl rfl rfl (by decide) ?_; refine zY.va rfl rfl rfl rfl (by decide) ?_; refine zY.nil ?_) | refine zZ.yX rfl (by first | assumption | with_reducible rfl) ?_ | refine zZ.exit ?_ | refine zZ.ret ?_) | refine zF.n ?_ | refine zM.eY ?_ | refine zF.e ?_)
   all_goals exact ⟨.inl rfl, _, Sub.refl _, xC.tupE (rs := [.tmp 6, .tmp 7]) rfl (by decide) (.cons (.tmp rfl) (.cons (.tmp rfl) .nil)) rfl⟩
theorem inG_fn (G : List xH) (u : Int) (hl : G.length ≤ 1000000) : Fn Tryd.prog 43 [.sl (G.map xH.V), .val (.int .i64 u)] (.p (.val (.bool (hasG G u (-1)).2))) := by
 have c := has_arc G u (-1) hl
 refine wQ Tryd.func43 rfl Tryd.ntmps43 (Nat.le_of_ble_eq_true rfl) ?_
 repeat' (first | (refine zZ.is ?_; first | refine zZ.seq ?_ | (refine zZ.isR (id := 0) ?_; refine zZ.zV [0, 1] [] (by repeat' first | exact zX.nil | apply zX.p rfl) (by repeat' exact zW.nil) ?_; refine zY.va rfl rfl rfl rfl (by decide) ?_; refine zY.nil ?_) | (refine zZ.isR (id := 1) ?_; refine zZ.zV [0, 1, 4] [] (by repeat' first | exact zX.nil | apply zX.p rfl) (by repeat' exact zW.nil) ?_; refine zY.vm rfl rfl rfl rfl (by decide) ?_; refine zY.vm rfl rfl rfl rfl (by decide) ?_; refine zY.v rfl rfl (by exact yU (c) rfl rfl rfl (by decide)) ?_; refine zY.v rfl rfl (yG rfl rfl rfl (by decide)) ?_; refine zY.v rfl rfl (zD rfl rfl rfl rfl (by decide)) ?_; refine zY.v rfl rfl (zD rfl rfl rfl rfl (by decide)) ?_; refine zY.va rfl rfl rfl rfl (by decide) ?_; refine zY.va rfl rfl rfl rfl (by decide) ?_; refine zY.nil ?_) | (refine zZ.isR (id := 2) ?_; refine zZ.zV [4, 6] [] (by repeat' first | exact zX.nil | apply zX.p rfl) (by repeat' exact zW.nil) ?_; refine zY.vm rfl rfl rfl rfl (by decide) ?_; refine zY.va rfl rfl rfl rfl (by decide) ?_; refine zY.nil ?_) | refine zZ.ret ?_) | refine zF.n ?_)
 all_goals exact ⟨.inl rfl, gives1 rfl rfl rfl⟩
structure GOK (G : List xH) : Prop where
  sort : ∀ (i : Nat) p a, G[i]? = some p → G[i + 1]? = some a → ¬ p.u > a.u ∧ ¬ (p.u = a.u ∧ p.v ≥ a.v)
  each : ∀ a ∈ G, isKey a.u = true ∧ (hasG G a.u (-1)).2 = true ∧ (a.v = -1 ∧ a.w = 0 ∨ a.v ≠ -1 ∧ isKey a.v = true ∧ (hasG G a.v (-1)).2 = true)
def riS (G : List xH) (i : Nat) : AS := { t := [(0, .p (.sl (G.map xH.V))), (3, .p (.val (.int .i64 (i : Nat))))], s := [] }
theorem right_arc (G : List xH) (hl : G.length ≤ 1000000) (hG : GOK G) : Fn Tryd.prog 23 [.sl (G.map xH.V)] (.p (.val (.bool true))) := by
 have hc := arcs_cells G
 have hlen : (G.map xH.V).length = G.length := by rw [List.length_map]
 refine wQ Tryd.func23 rfl Tryd.ntmps23 (Nat.le_of_ble_eq_true rfl) ?_
 repeat' (first | (refine zZ.is ?_; first | refine zZ.seq ?_ | (refine zZ.iq 0 ?_; refine zZ.rqa _ K_2 K_12 ?_; refine zY.va rfl rfl rfl rfl (by decide) ?_; refine zY.nil ?_) | (refine zZ.iq 1 ?_; refine zZ.rqa _ K_c K_12 ?_; refine zY.va rfl rfl rfl rfl (by decide) ?_; refine zY.nil ?_) | refine zZ.block ?_) | refine zF.n ?_)
 refine zZ.loop (riS G) (fun i => i ≤ G.length) (fun i => G.length - i) 0 ?h0 (Nat.zero_le _) ?rd
 case h0 =>
  unfold riS
  exact zB K_10 []
 case rd =>
  intro i hi
  have g3 : IntKind.i64.wrap (((i : Nat) : Int) + 1) = ((i + 1 : Nat) : Int) := by rw [wrap_i64 _ (by omega)]; omega
  unfold riS
  by_cases hlt : i < G.length
  case pos =>
   have g1 : decide (((i : Nat) : Int) < (((G.map xH.V).length : Nat) : Int)) = true := decide_eq_true (by rw [hlen]; omega)
   obtain ⟨a, ha⟩ : ∃ a, G[i]? = some a := ⟨_, List.getElem?_eq_getElem hlt⟩
   have g2 : (G.map xH.V)[i]? = some a.V := by rw [List.getElem?_map, ha]; rfl
   obtain ⟨hu, hiu, hv⟩ := hG.each a (List.mem_of_getElem? ha)
   have s1 := isRef_fn a.u
   have s2 := isRef_fn a.v
   have n1 := inG_fn G a.u hl
   have n2 := inG_fn G a.v hl
   rw [hu] at s1
   rw [hiu] at n1
   have hprev : i = 0 ∨ ∃ p, G[i - 1]? = some p ∧ 0 < i ∧ ¬ p.u > a.u ∧ ¬ (p.u = a.u ∧ p.v ≥ a.v) := by
    rcases Nat.eq_zero_or_pos i with h | h
    ·exact .inl h
    ·obtain ⟨p, hp⟩ : ∃ p, G[i - 1]? = some p := ⟨_, List.getElem?_eq_getElem (by omega)⟩
     exact .inr ⟨p, hp, h, hG.sort (i - 1) p a hp (by rw [show i - 1 + 1 = i by omega]; exact ha)⟩
   clear ha hu hiu
   obtain ⟨au, av, aw⟩ := a
   dsimp only at hv s1 s2 n1 n2 hprev
   have k6 : decide (av = -1) = true ∧ (!decide (av = -1)) = false ∧ Fn Tryd.prog 42 [.val (.int .i64 av)] (.p (.val (.bool false))) ∧ (!decide (aw = 0)) = false ∨ decide (av = -1) = false ∧ (!decide (av = -1)) = true ∧ Fn Tryd.prog 42 [.val (.int .i64 av)] (.p (.val (.bool true))) ∧ (hasG G av (-1)).2 = true := by
    rcases hv with ⟨h1, h2⟩ | ⟨h1, h2, h3⟩
    ·left
     subst h1
     rw [isKey_no (.inl (by decide))] at s2
     exact ⟨rfl, rfl, s2, by rw [decide_eq_true h2]; rfl⟩
    ·right
     rw [h2] at s2
     exact ⟨decide_eq_false h1, by rw [decide_eq_false h1]; rfl, s2, h3⟩
   obtain ⟨pu, pv, pw, hq⟩ : ∃ pu pv pw : Int, (i = 0 ∨ ((G.map xH.V)[i - 1]? = some (xH.V ⟨pu, pv, pw⟩) ∧ 0 < i ∧ ¬ pu > au ∧ ¬ (pu = au ∧ pv ≥ av))) := by
    rcases hprev with h | ⟨p, hp, h1, h2⟩
    ·exact ⟨0, 0, 0, .inl h⟩
    ·exact ⟨p.u, p.v, p.w, .inr ⟨by rw [List.getElem?_map, hp]; rfl, h1, h2⟩⟩
   have k7 : (decide (((i : Nat) : Int) > 0) = false ∧ True ∧ True ∧ True ∧ True ∧ True ∧ True) ∨
     (decide (((i : Nat) : Int) > 0) = true ∧ IntKind.i64.wrap (((i : Nat) : Int) - 1) = ((i - 1 : Nat) : Int) ∧ (G.map xH.V)[i - 1]? = some (xH.V ⟨pu, pv, pw⟩) ∧ ((0 : Int) ≤ ((i - 1 : Nat) : Int) ∧ ((i - 1 : Nat) : Int) < (((G.map xH.V).length : Nat) : Int)) ∧ decide (pu > au) = false ∧ decide (pu = au) = false ∧ True) ∨
     (decide (((i : Nat) : Int) > 0) = true ∧ IntKind.i64.wrap (((i : Nat) : Int) - 1) = ((i - 1 : Nat) : Int) ∧ (G.map xH.V)[i - 1]? = some (xH.V ⟨pu, pv, pw⟩) ∧ ((0 : Int) ≤ ((i - 1 : Nat) : Int) ∧ ((i - 1 : Nat) : Int) < (((G.map xH.V).length : Nat) : Int)) ∧ decide (pu > au) = false ∧ decide (pu = au) = true ∧ decide (pv ≥ av) = false) := by
    rcases hq with h | ⟨hp, h0, h1, h2⟩
    ·exact .inl ⟨decide_eq_false (by omega), trivial, trivial, trivial, trivial, trivial, trivial⟩
    ·have g4 : IntKind.i64.wrap (((i : Nat) : Int) - 1) = ((i - 1 : Nat) : Int) := by rw [wrap_i64 _ (by omega)]; omega
     have j5 : (0 : Int) ≤ ((i - 1 : Nat) : Int) ∧ ((i - 1 : Nat) : Int) < (((G.map xH.V).length : Nat) : Int) := by rw [hlen]; omega
     by_cases h : pu = au
     ·exact .inr (.inr ⟨decide_eq_true (by omega), g4, hp, j5, decide_eq_false h1, decide_eq_true h, decide_eq_false fun h3 => h2 ⟨h, h3⟩⟩)
     ·exact .inr (.inl ⟨decide_eq_true (by omega), g4, hp, j5, decide_eq_false h1, decide_eq_false h, trivial⟩)
   clear hq hprev hv
   rcases k6 with ⟨k1, k2, s3, k3⟩ | ⟨k1, k2, s3, k3⟩ <;> rcases k7 with ⟨k0, g4, g5, j5, k4, k5, k8⟩ | ⟨k0, g4, g5, j5, k4, k5, k8⟩ | ⟨k0, g4, g5, j5, k4, k5, k8⟩
   all_goals try rw [k3] at n2
   all_goals
    repeat' (first | (refine zZ.is ?_; first | refine zZ.seq ?_ | (refine zZ.iq 2 ?_; refine zZ.rqj _ K_1a K_12 ?_; refine zY.vm rfl rfl rfl rfl (by decide) ?_; refine zY.vm rfl rfl rfl rfl (by decide) ?_; refine zY.v rfl rfl (yQ rfl rfl rfl (by decide)) ?_; refine zY.v rfl rfl (zR rfl rfl rfl g1 rfl (by decide)) ?_; refine zY.nil ?_) | (refine zZ.iq 4 ?_; refine zZ.rqj _ K_1a K_12 ?_; refine zY.vm rfl rfl rfl rfl (by decide) ?_; refine zY.vm rfl rfl rfl rfl (by decide) ?_; refine zY.v rfl rfl (zH rfl rfl rfl hc g2 rfl (by decide)) ?_; refine zY.v rfl rfl (by exact y8 rfl rfl (by exact Nat.le_of_ble_eq_true rfl) rfl (by decide)) ?_; refine zY.m rfl rfl (yN rfl (by decide) rfl (by decide)) ?_; refine zY.w rfl (by exact yZ rfl rfl rfl rfl rfl (by rfl) (by exact Nat.le_of_ble_eq_true rfl) rfl rfl) ?_; refine zY.nil ?_) | (refine zZ.isR (id := 5) ?_; refine zZ.xY [0, 2, 3, 4, 5, 6, 7, 8, 12, 53, 80, 99] [4] (by repeat' first | exact zX.nil | apply zX.p rfl | apply zX.ptr rfl | apply zX.skip) (by repeat' first | exact zW.nil | apply zW.boxP rfl rfl) (zZ.draws ?_); all_goals (refine Draws.v rfl rfl (zK rfl rfl rfl (by decide)) ?_); all_goals (refine Draws.v rfl rfl (wW rfl rfl rfl k0 rfl (by decide)) ?_); all_goals (refine Draws.v rfl rfl (zK rfl rfl rfl (by decide)) ?_); all_goals (first | refine Draws.gY rfl rfl (by decide) rfl (by rfl) rfl (zK rfl rfl rfl (by decide)) ?_ | refine Draws.gNT rfl rfl (by decide) rfl (by rfl) rfl (by decide) ?_); all_goals (first | refine Draws.gY rfl rfl (by decide) rfl (by rfl) rfl (zK rfl rfl rfl (by decide)) ?_ | refine Draws.gNT rfl rfl (by decide) rfl (by rfl) rfl (by decide) ?_); all_goals (first | refine Draws.gY rfl rfl (by decide) rfl (by rfl) rfl (wY rfl rfl rfl g4 rfl (by decide)) ?_ | refine Draws.gNT rfl rfl (by decide) rfl (by rfl) rfl (by decide) ?_); all_goals (first | refine Draws.gY rfl rfl (by decide) rfl (by rfl) rfl (zH rfl rfl rfl hc g5 rfl (by decide)) ?_ | refine Draws.gNT rfl rfl (by decide) rfl (by rfl) rfl (by decide) ?_); all_goals (first | refine Draws.gY rfl rfl (by decide) rfl (by rfl) rfl (yJ rfl rfl rfl (by decide)) ?_ | refine Draws.gNT rfl rfl (by decide) rfl (by rfl) rfl (by decide) ?_); all_goals (first | refine Draws.gY rfl rfl (by decide) rfl (by rfl) rfl (zT rfl rfl rfl rfl (by decide)) ?_ | refine Draws.gNT rfl rfl (by decide) rfl (by rfl) rfl (by decide) ?_); all_goals (first | refine Draws.gY rfl rfl (by decide) rfl (by rfl) rfl (zJ rfl rfl rfl (by decide)) ?_ | refine Draws.gNT rfl rfl (by decide) rfl (by rfl) rfl (by decide) ?_); all_goals (first | refine Draws.gY rfl rfl (by decide) rfl (by rfl) rfl (zC rfl rfl rfl (by rfl) rfl (by decide)) ?_ | refine Draws.gNT rfl rfl (by decide) rfl (by rfl) rfl (by decide) ?_); all_goals (first | refine Draws.gY rfl rfl (by decide) rfl (by rfl) rfl (wW rfl rfl rfl k4 rfl (by decide)) ?_ | refine Draws.gNT rfl rfl (by decide) rfl (by rfl) rfl (by decide) ?_); all_goals (first | refine Draws.gY rfl rfl (by decide) rfl (by rfl) rfl (zK rfl rfl rfl (by decide)) ?_ | refine Draws.gNT rfl rfl (by decide) rfl (by rfl) rfl (by decide) ?_); all_goals (first | refine Draws.gU rfl rfl (by decide) (by rfl) rfl (by decide) ?_ | refine Draws.gY rfl rfl (by decide) rfl (by rfl) rfl (zK rfl rfl rfl (by decide)) ?_); all_goals (first | refine Draws.gU rfl rfl (by decide) (by rfl) rfl (by decide) ?_ | refine Draws.gY rfl rfl (by decide) rfl (by rfl) rfl (zK rfl rfl rfl (by decide)) ?_); all_goals (first | refine Draws.gU rfl rfl (by decide) (by rfl) rfl (by decide) ?_ | refine Draws.gY rfl rfl (by decide) rfl (by rfl) rfl (wY rfl rfl rfl g4 rfl (by decide)) ?_); all_goals (first | refine Draws.gU rfl rfl (by decide) (by rfl) rfl (by decide) ?_ | refine Draws.gY rfl rfl (by decide) rfl (by rfl) rfl (zH rfl rfl rfl hc g5 rfl (by decide)) ?_); all_goals (first | refine Draws.gU rfl rfl (by decide) (by rfl) rfl (by decide) ?_ | refine Draws.gY rfl rfl (by decide) rfl (by rfl) rfl (yJ rfl rfl rfl (by decide)) ?_); all_goals (first | refine Draws.gU rfl rfl (by decide) (by rfl) rfl (by decide) ?_ | refine Draws.gY rfl rfl (by decide) rfl (by rfl) rfl (zT rfl rfl rfl rfl (by decide)) ?_); all_goals (first | refine Draws.gU rfl rfl (by decide) (by rfl) rfl (by decide) ?_ | refine Draws.gY rfl rfl (by decide) rfl (by rfl) rfl (zJ rfl rfl rfl (by decide)) ?_); all_goals (first | refine Draws.gU rfl rfl (by decide) (by rfl) rfl (by decide) ?_ | refine Draws.gY rfl rfl (by decide) rfl (by rfl) rfl (zC rfl rfl rfl (by rfl) rfl (by decide)) ?_); all_goals (first | refine Draws.gU rfl rfl (by decide) (by rfl) rfl (by decide) ?_ | refine Draws.gY rfl rfl (by decide) rfl (by rfl) rfl (yF rfl rfl rfl k5 rfl (by decide)) ?_); all_goals (first | refine Draws.gU rfl rfl (by decide) (by rfl) rfl (by decide) ?_ | refine Draws.gY rfl rfl (by decide) rfl (by rfl) rfl (zK rfl rfl rfl (by decide)) ?_); all_goals (first | refine Draws.gU rfl rfl (by decide) (by rfl) rfl (by decide) ?_ | refine Draws.gY rfl rfl (by decide) rfl (by rfl) rfl (zK rfl rfl rfl (by decide)) ?_ | refine Draws.gNT rfl rfl (by decide) rfl (by rfl) rfl (by decide) ?_); all_goals (first | refine Draws.gU rfl rfl (by decide) (by rfl) rfl (by decide) ?_ | refine Draws.gY rfl rfl (by decide) rfl (by rfl) rfl (zK rfl rfl rfl (by decide)) ?_ | refine Draws.gNT rfl rfl (by decide) rfl (by rfl) rfl (by decide) ?_); all_goals (first | refine Draws.gU rfl rfl (by decide) (by rfl) rfl (by decide) ?_ | refine Draws.gY rfl rfl (by decide) rfl (by rfl) rfl (wY rfl rfl rfl g4 rfl (by decide)) ?_ | refine Draws.gNT rfl rfl (by decide) rfl (by rfl) rfl (by decide) ?_); all_goals (first | refine Draws.gU rfl rfl (by decide) (by rfl) rfl (by decide) ?_ | refine Draws.gY rfl rfl (by decide) rfl (by rfl) rfl (zH rfl rfl rfl hc g5 rfl (by decide)) ?_ | refine Draws.gNT rfl rfl (by decide) rfl (by rfl) rfl (by decide) ?_); all_goals (first | refine Draws.gU rfl rfl (by decide) (by rfl) rfl (by decide) ?_ | refine Draws.gY rfl rfl (by decide) rfl (by rfl) rfl (yJ rfl rfl rfl (by decide)) ?_ | refine Draws.gNT rfl rfl (by decide) rfl (by rfl) rfl (by decide) ?_); all_goals (first | refine Draws.gU rfl rfl (by decide) (by rfl) rfl (by decide) ?_ | refine Draws.gY rfl rfl (by decide) rfl (by rfl) rfl (zT rfl rfl rfl rfl (by decide)) ?_ | refine Draws.gNT rfl rfl (by decide) rfl (by rfl) rfl (by decide) ?_); all_goals (first | refine Draws.gU rfl rfl (by decide) (by rfl) rfl (by decide) ?_ | refine Draws.gY rfl rfl (by decide) rfl (by rfl) rfl (zJ rfl rfl rfl (by decide)) ?_ | refine Draws.gNT rfl rfl (by decide) rfl (by rfl) rfl (by decide) ?_); all_goals (first | refine Draws.gU rfl rfl (by decide) (by rfl) rfl (by decide) ?_ | refine Draws.gY rfl rfl (by decide) rfl (by rfl) rfl (zC rfl rfl rfl (by rfl) rfl (by decide)) ?_ | refine Draws.gNT rfl rfl (by decide) rfl (by rfl) rfl (by decide) ?_); all_goals (first | refine Draws.gU rfl rfl (by decide) (by rfl) rfl (by decide) ?_ | refine Draws.gY rfl rfl (by decide) rfl (by rfl) rfl (vJ rfl rfl rfl k8 rfl (by decide)) ?_ | refine Draws.gNT rfl rfl (by decide) rfl (by rfl) rfl (by decide) ?_); all_goals (first | refine Draws.gU rfl rfl (by decide) (by rfl) rfl (by decide) ?_ | refine Draws.gY rfl rfl (by decide) rfl (by rfl) rfl (by first | exact zL rfl rfl (by rfl) rfl rfl (by decide) | exact zI rfl rfl (by rfl) rfl rfl (by decide)) ?_); all_goals (first | refine Draws.gY rfl rfl (by decide) rfl (by rfl) rfl (zI rfl rfl (by rfl) rfl rfl (by decide)) ?_ | refine Draws.gNT rfl rfl (by decide) rfl (by rfl) rfl (by decide) ?_); all_goals (refine Draws.v rfl rfl (by first | exact zL rfl rfl (by rfl) rfl rfl (by decide) | exact zI rfl rfl (by rfl) rfl rfl (by decide)) ?_); all_goals ((refine Draws.done (by kernel_rfl) (by kernel_rfl) (by kernel_rfl) ?_; refine zN.nil ?_))) | (refine zZ.iq 7 ?_; refine zZ.rqu _ K_1a K_12 ?_; refine zY.v rfl rfl (zJ rfl rfl rfl (by decide)) ?_; refine zY.v rfl rfl (zC rfl rfl rfl (by rfl) rfl (by decide)) ?_; refine zY.v rfl rfl (by exact zU (s1) rfl rfl rfl (by decide)) ?_; refine zY.va rfl rfl rfl rfl (by decide) ?_; refine zY.nil ?_) | (refine zZ.iq 8 ?_; refine zZ.rqu _ K_1a K_12 ?_; refine zY.v rfl rfl (zJ rfl rfl rfl (by decide)) ?_; refine zY.v rfl rfl (zC rfl rfl rfl (by rfl) rfl (by decide)) ?_; refine zY.v rfl rfl (by exact zU (s3) rfl rfl rfl (by decide)) ?_; refine zY.va rfl rfl rfl rfl (by decide) ?_; refine zY.nil ?_) | (refine zZ.iq 9 ?_; refine zZ.rqu _ K_1a K_12 ?_; all_goals (refine zY.vm rfl rfl rfl rfl (by decide) ?_); all_goals (refine zY.v rfl rfl (by exact y9 rfl rfl (by exact bF (by decide)) rfl (by decide)) ?_); all_goals (refine zY.vm rfl rfl rfl rfl (by decide) ?_); all_goals (refine zY.gY rfl rfl (by decide) rfl (by rfl) rfl (by decide) (zJ rfl rfl rfl (by decide)) ?_); all_goals (refine zY.gY rfl rfl (by decide) rfl (by rfl) rfl (by decide) (zC rfl rfl rfl (by rfl) rfl (by decide)) ?_); all_goals (refine zY.gY rfl rfl (by decide) rfl (by rfl) rfl (by decide) (yF rfl rfl rfl k1 rfl (by decide)) ?_); all_goals (refine zY.gY rfl rfl (by decide) rfl (by rfl) rfl (by decide) (zK rfl rfl rfl (by decide)) ?_); all_goals (first | refine zY.gY rfl rfl (by decide) rfl (by rfl) rfl (by decide) (zJ rfl rfl rfl (by decide)) ?_ | refine zY.gnT rfl rfl (by decide) rfl (by rfl) rfl (by decide) ?_); all_goals (first | refine zY.gY rfl rfl (by decide) rfl (by rfl) rfl (by decide) (zC rfl rfl rfl (by rfl) rfl (by decide)) ?_ | refine zY.gnT rfl rfl (by decide) rfl (by rfl) rfl (by decide) ?_); all_goals (first | refine zY.gY rfl rfl (by decide) rfl (by rfl) rfl (by decide) (vK rfl rfl rfl k3 rfl (by decide)) ?_ | refine zY.gnT rfl rfl (by decide) rfl (by rfl) rfl (by decide) ?_); all_goals (refine zY.gY rfl rfl (by decide) rfl (by rfl) rfl (by decide) (by first | exact zL rfl rfl (by rfl) rfl rfl (by decide) | exact zI rfl rfl (by rfl) rfl rfl (by decide)) ?_); all_goals (refine zY.v rfl rfl (zI rfl rfl (by rfl) rfl rfl (by decide)) ?_); all_goals (refine zY.vm rfl rfl rfl rfl (by decide) ?_); all_goals (refine zY.gY rfl rfl (by decide) rfl (by rfl) rfl (by decide) (zJ rfl rfl rfl (by decide)) ?_); all_goals (refine zY.gY rfl rfl (by decide) rfl (by rfl) rfl (by decide) (zC rfl rfl rfl (by rfl) rfl (by decide)) ?_); all_goals (refine zY.gY rfl rfl (by decide) rfl (by rfl) rfl (by decide) (vK rfl rfl rfl k2 rfl (by decide)) ?_); all_goals (refine zY.gY rfl rfl (by decide) rfl (by rfl) rfl (by decide) (zK rfl rfl rfl (by decide)) ?_); all_goals (first | refine zY.gY rfl rfl (by decide) rfl (by rfl) rfl (by decide) (zK rfl rfl rfl (by decide)) ?_ | refine zY.gnT rfl rfl (by decide) rfl (by rfl) rfl (by decide) ?_); all_goals (first | refine zY.gY rfl rfl (by decide) rfl (by rfl) rfl (by decide) (by exact y9 rfl rfl (by exact bF (by decide)) rfl (by decide)) ?_ | refine zY.gnT rfl rfl (by decide) rfl (by rfl) rfl (by decide) ?_); all_goals (refine zY.gY rfl rfl (by decide) rfl (by rfl) rfl (by decide) (by first | exact zL rfl rfl (by rfl) rfl rfl (by decide) | exact zI rfl rfl (by rfl) rfl rfl (by decide)) ?_); all_goals (refine zY.v rfl rfl (zI rfl rfl (by rfl) rfl rfl (by decide)) ?_); all_goals (refine zY.nil ?_)) | (refine zZ.iq 11 ?_; refine zZ.rqu _ K_1a K_12 ?_; refine zY.vm rfl rfl rfl rfl (by decide) ?_; refine zY.v rfl rfl (zJ rfl rfl rfl (by decide)) ?_; refine zY.v rfl rfl (zC rfl rfl rfl (by rfl) rfl (by decide)) ?_; refine zY.v rfl rfl (by exact zU (n1) rfl rfl rfl (by decide)) ?_; refine zY.va rfl rfl rfl rfl (by decide) ?_; refine zY.nil ?_) | (refine zZ.iq 12 ?_; refine zZ.rqu _ K_1a K_12 ?_; all_goals (refine zY.v rfl rfl (zJ rfl rfl rfl (by decide)) ?_); all_goals (refine zY.v rfl rfl (zC rfl rfl rfl (by rfl) rfl (by decide)) ?_); all_goals (refine zY.v rfl rfl (yF rfl rfl rfl k1 rfl (by decide)) ?_); all_goals (refine zY.vm rfl rfl rfl rfl (by decide) ?_); all_goals (first | refine zY.gY rfl rfl (by decide) rfl (by rfl) rfl (by decide) (zK rfl rfl rfl (by decide)) ?_ | refine zY.gnF rfl rfl (by decide) rfl (by rfl) rfl (by decide) ?_); all_goals (first | refine zY.gY rfl rfl (by decide) rfl (by rfl) rfl (by decide) (zJ rfl rfl rfl (by decide)) ?_ | refine zY.gnF rfl rfl (by decide) rfl (by rfl) rfl (by decide) ?_); all_goals (first | refine zY.gY rfl rfl (by decide) rfl (by rfl) rfl (by decide) (zC rfl rfl rfl (by rfl) rfl (by decide)) ?_ | refine zY.gnF rfl rfl (by decide) rfl (by rfl) rfl (by decide) ?_); all_goals (first | refine zY.gY rfl rfl (by decide) rfl (by rfl) rfl (by decide) (by exact zU (n2) rfl rfl rfl (by decide)) ?_ | refine zY.gnF rfl rfl (by decide) rfl (by rfl) rfl (by decide) ?_); all_goals (refine zY.v rfl rfl (by first | exact zL rfl rfl (by rfl) rfl rfl (by decide) | exact zI rfl rfl (by rfl) rfl rfl (by decide)) ?_); all_goals (refine zY.va rfl rfl rfl rfl (by decide) ?_); all_goals (refine zY.nil ?_)) | (refine zZ.iq 13 ?_; refine zZ.rqu _ K_1a K_12 ?_; all_goals (refine zY.vm rfl rfl rfl rfl (by decide) ?_); all_goals (refine zY.v rfl rfl (by exact y9 rfl rfl (by exact bF (by decide)) rfl (by decide)) ?_); all_goals (refine zY.vm rfl rfl rfl rfl (by decide) ?_); all_goals (refine zY.gY rfl rfl (by decide) rfl (by rfl) rfl (by decide) (zK rfl rfl rfl (by decide)) ?_); all_goals (refine zY.gY rfl rfl (by decide) rfl (by rfl) rfl (by decide) (by exact y9 rfl rfl (by exact bF (by decide)) rfl (by decide)) ?_); all_goals (refine zY.v rfl rfl (zI rfl rfl (by rfl) rfl rfl (by decide)) ?_); all_goals (refine zY.nil ?_)) | (refine zZ.iq 3 ?_; refine zZ.rqu _ K_1a K_12 ?_; refine zY.vm rfl rfl rfl rfl (by decide) ?_; refine zY.v rfl rfl (yD rfl rfl rfl g3 rfl (by decide)) ?_; refine zY.va rfl rfl rfl rfl (by decide) ?_; refine zY.nil ?_) | refine zZ.yV rfl (by first | assumption | with_reducible rfl) ?_ | refine zZ.yX rfl (by first | assumption | with_reducible rfl) ?_ | refine zZ.skip ?_ | refine zZ.block ?_) | refine zF.n ?_ | refine zM.n ?_)
   all_goals
    refine ⟨i + 1, ?_, hlt, by omega⟩
    try unfold riS
    exact zB K_10 []
  case neg =>
   have g1 : decide (((i : Nat) : Int) < (((G.map xH.V).length : Nat) : Int)) = false := decide_eq_false (by rw [hlen]; omega)
   repeat' (first | (refine zZ.is ?_; first | refine zZ.seq ?_ | (refine zZ.iq 2 ?_; refine zZ.rqj _ K_1a K_12 ?_; refine zY.vm rfl rfl rfl rfl (by decide) ?_; refine zY.vm rfl rfl rfl rfl (by decide) ?_; refine zY.v rfl rfl (yQ rfl rfl rfl (by decide)) ?_; refine zY.v rfl rfl (zR rfl rfl rfl g1 rfl (by decide)) ?_; refine zY.nil ?_) | (refine zZ.isR (id := 15) ?_; refine zZ.zV [2] [4] (by repeat' first | exact zX.nil | apply zX.skip) (by repeat' first | exact zW.nil | apply zW.skip) ?_; refine zY.va rfl rfl rfl rfl (by decide) ?_; refine zY.nil ?_) | refine zZ.yX rfl (by first | assumption | with_reducible rfl) ?_ | refine zZ.exit ?_ | refine zZ.ret ?_) | refine zF.n ?_ | refine zM.eY ?_ | refine zF.e ?_)
   all_goals exact ⟨.inl rfl, gives1 rfl rfl rfl⟩
end Go.Proofs.YtomlhekjgagjaaaDoor
