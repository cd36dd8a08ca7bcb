/- For every input MergeTells returns true, and leaves its arguments as they were. Conditions: none beyond the given statement. (Part 9 of 9.) -/
import Derived.Test.YtomlhekjgagjaaaDoorMt8
import Derived.ProofKit
import Derived.OpenShut
import Derived.Below
import Derived.LaidMore
import Derived.Deep.Fields
import Derived.Deep.Slices
import Derived.Test.YtomlhekjgagjaaaDoorRows
import Derived.LaidLaws
import Derived.ChangeSame
import Derived.ChangeVars
import Derived.JoinedOf
import Derived.Stop.Joined
import Derived.RowKitTokens
import Derived.Test.YtomlhekjgagjaaaDoorCards
import Derived.Test.YtomlhekjgagjaaaDoorTie
import Derived.SevenTiedAt
namespace Go.Proofs.YtomlhekjgagjaaaDoor
set_option maxRecDepth 100000
set_option maxHeartbeats 16000000
open Go Go.RowKit
attribute [local irreducible] zY zZ Step zA Sub zI yV Fn zF zO
theorem at_drop {α : Type} {L : List α} {i : Nat} {e : α} (h : L[i]? = some e) : L.drop i = e :: L.drop (i + 1) := by
  have hlt : i < L.length := (List.getElem?_eq_some_iff.1 h).1
  rw [List.drop_eq_getElem_cons hlt]
  rw [List.getElem?_eq_getElem hlt] at h
  rw [Option.some.inj h]
theorem at_take {α : Type} {L : List α} {i : Nat} {e : α} (h : L[i]? = some e) : L.take (i + 1) = L.take i ++ [e] := by rw [List.take_add_one, h]; rfl
theorem hadP_app : ∀ (A B : List zQ) (e : zQ), qW (A ++ B) e = (qW A e || qW B e)
  | [], B, e => by simp [qW]
  | x :: r, B, e => by simp only [List.cons_append, qW]; rw [hadP_app r B e, Bool.or_assoc]
theorem clashP_app : ∀ (A B : List zQ) (e : zQ), y9 (A ++ B) e = (y9 A e || y9 B e)
  | [], B, e => by simp [y9]
  | x :: r, B, e => by simp only [List.cons_append, y9]; rw [clashP_app r B e, Bool.or_assoc]
def rlO (l : List zQ) (c : Int) (p : Nat × List zQ) : AS := { t := [(1, .p (.val (.int .i64 c))), (6, .p (.sl (l.map zQ.V))), (8, .p (.sl (p.2.map zQ.V))), (9, .p (.val (.int .i64 (p.1 : Nat))))], s := [] }
def rlI (l : List zQ) (c : Int) (i : Nat) (out : List zQ) (q : Nat × Bool) : AS := { t := [(1, .p (.val (.int .i64 c))), (6, .p (.sl (l.map zQ.V))), (8, .p (.sl (out.map zQ.V))), (9, .p (.val (.int .i64 (i : Nat)))), (10, .p (.val (.bool q.2))), (11, .p (.val (.int .i64 (q.1 : Nat))))], s := [] }
def rlT (c : Int) (out : List zQ) (j : Nat) : AS := { t := [(1, .p (.val (.int .i64 c))), (8, .p (.sl (out.map zQ.V))), (13, .p (.val (.int .i64 ((j + 1 : Nat) : Int))))], s := [] }
theorem insY_length (e : zQ) (L : List zQ) : (insY e L).length = L.length + 1 := by rw [(insY_perm e L).length_eq]; rfl
theorem twiceY_at {O : List zQ} {j : Nat} {a b : zQ} (ha : O[j]? = some a) (hb : O[j + 1]? = some b) : vK (O.drop j) = (decide (b.y = a.y) || vK (O.drop (j + 1))) := by
  rw [at_drop ha, at_drop hb]
  rfl
theorem twiceY_short {O : List zQ} (h : O.length ≤ 1) : vK O = false := by
  match O, h with
  | [], _ => rfl
  | [a], _ => rfl
theorem liveR_fn (ss : List (List Int)) (c : Int) (hb : ∀ s ∈ ss, xW s) (hn : ss.length ≤ 1000000) (ht : total ss ≤ 1000000) (hl : ∀ l, allR ss = some l → l.length ≤ 1000000 ∧ ∀ e ∈ l, e.ok) : Fn Tryd.prog 13 [wN ss, .val (.int .i64 c)] (.tup [.sl ((refL ss c).1.map zQ.V), .val (.int .i64 (refL ss c).2)]) := by
  have a1 := all_fn ss hb hn ht
  refine wK Tryd.func13 rfl Tryd.ntmps13 (Nat.le_of_ble_eq_true rfl) ?_
  unfold refL
  cases hA : allR ss with
  | none =>
    rw [hA] at a1
    have a1 : Fn Tryd.prog 33 [wN ss] (.tup [.sl [], .val (.bool false)]) := a1
    repeat' (first | (refine zZ.is ?_; first | refine zZ.seq ?_ | (refine zZ.iq 0 ?_; refine zZ.rqa _ K_i K_2 ?_; refine zY.va rfl rfl rfl rfl (by decide) ?_; refine zY.va rfl rfl rfl rfl (by decide) ?_; refine zY.nil ?_) | (refine zZ.iq 1 ?_; refine zZ.rqa _ K_2b K_2 ?_; refine zY.vm rfl rfl rfl rfl (by decide) ?_; refine zY.v rfl rfl (by exact yL (a1) rfl rfl rfl (by decide)) ?_; refine zY.v rfl rfl (yE rfl rfl rfl (by decide)) ?_; refine zY.v rfl rfl (zC rfl rfl rfl rfl (by decide)) ?_; refine zY.v rfl rfl (zC rfl rfl rfl rfl (by decide)) ?_; refine zY.va rfl rfl rfl rfl (by decide) ?_; refine zY.va rfl rfl rfl rfl (by decide) ?_; refine zY.nil ?_) | (refine zZ.iq 2 ?_; refine zZ.rqa _ K_1n K_2 ?_; refine zY.vm rfl rfl rfl rfl (by decide) ?_; refine zY.v rfl rfl (by exact xI rfl rfl (by exact bT (by decide)) rfl (by decide)) ?_; refine zY.nil ?_) | (refine zZ.iq 3 ?_; refine zZ.rqa _ K_1c K_2 ?_; refine zY.va rfl rfl rfl rfl (by decide) ?_; refine zY.va rfl rfl rfl rfl (by decide) ?_; refine zY.nil ?_) | refine zZ.yZ rfl (by rfl) ?_ | refine zZ.ret ?_) | refine zF.n ?_ | refine zF.r ?_)
    all_goals exact ⟨.inl rfl, _, xM (d := 4) rfl, yR.qV (rs := [.tmp 4, .tmp 5]) rfl (by decide) (.cons (.tmp rfl) (.cons (.tmp rfl) .nil)) rfl⟩
  | some l =>
    rw [hA] at a1
    have a1 : Fn Tryd.prog 33 [wN ss] (.tup [.sl (l.map zQ.V), .val (.bool true)]) := a1
    obtain ⟨hln, hok⟩ := hl l hA
    have hlen : (l.map zQ.V).length = l.length := by rw [List.length_map]
    have hcl := yN l
    dsimp only
    generalize hRR : refGo l [] l [] = R
    repeat' (first | (refine zZ.is ?_; first | refine zZ.seq ?_ | (refine zZ.iq 0 ?_; refine zZ.rqa _ K_i K_2 ?_; refine zY.va rfl rfl rfl rfl (by decide) ?_; refine zY.va rfl rfl rfl rfl (by decide) ?_; refine zY.nil ?_) | (refine zZ.iq 1 ?_; refine zZ.rqa _ K_2b K_2 ?_; refine zY.vm rfl rfl rfl rfl (by decide) ?_; refine zY.v rfl rfl (by exact yL (a1) rfl rfl rfl (by decide)) ?_; refine zY.v rfl rfl (yE rfl rfl rfl (by decide)) ?_; refine zY.v rfl rfl (zC rfl rfl rfl rfl (by decide)) ?_; refine zY.v rfl rfl (zC rfl rfl rfl rfl (by decide)) ?_; refine zY.va rfl rfl rfl rfl (by decide) ?_; refine zY.va rfl rfl rfl rfl (by decide) ?_; refine zY.nil ?_) | (refine zZ.iq 2 ?_; refine zZ.rqa _ K_1n K_2 ?_; refine zY.vm rfl rfl rfl rfl (by decide) ?_; refine zY.v rfl rfl (by exact xI rfl rfl (by exact bF (by decide)) rfl (by decide)) ?_; refine zY.nil ?_) | (refine zZ.iq 4 ?_; refine zZ.rqa _ K_1c K_2 ?_; refine zY.va rfl rfl rfl rfl (by decide) ?_; refine zY.nil ?_) | (refine zZ.iq 5 ?_; refine zZ.rqa _ K_42 K_2 ?_; refine zY.va rfl rfl rfl rfl (by decide) ?_; refine zY.nil ?_) | refine zZ.yX rfl (by rfl) ?_ | refine zZ.skip ?_ | refine zZ.block ?_) | refine zF.n ?_)
    refine zZ.loop (rlO l c) (fun p => p.1 ≤ l.length ∧ R = refGo l (l.take p.1) (l.drop p.1) p.2 ∧ p.2.length ≤ p.1) (fun p => l.length - p.1) (0, []) ?h0 ⟨Nat.zero_le _, hRR.symm, Nat.le_refl _⟩ ?rd
    case h0 =>
      refine (xM (d := 8) rfl).trans ?_
      unfold rlO
      exact zB K_2f []
    case rd =>
      clear hb hn ht hl hA a1 hRR
      rintro ⟨i, out⟩ ⟨hi, hx, ho⟩
      simp only at hi hx ho
      have g3 : IntKind.i64.wrap (((i : Nat) : Int) + 1) = ((i + 1 : Nat) : Int) := by rw [wrap_i64 _ (by omega)]; omega
      unfold rlO
      dsimp only
      by_cases hlt : i < l.length
      case pos =>
        have g1 : decide (((i : Nat) : Int) < (((l.map zQ.V).length : Nat) : Int)) = true := decide_eq_true (by rw [hlen]; omega)
        obtain ⟨e, he⟩ : ∃ e, l[i]? = some e := ⟨_, List.getElem?_eq_getElem hlt⟩
        have g2 : (l.map zQ.V)[i]? = some e.V := by rw [List.getElem?_map, he]; rfl
        have heo := hok e (List.mem_of_getElem? he)
        rw [at_drop he] at hx
        unfold refGo at hx
        rw [← at_take he] at hx
        repeat' (first | (refine zZ.is ?_; first | refine zZ.seq ?_ | (refine zZ.iq 6 ?_; refine zZ.rqd _ K_7 K_2 ?_; refine zY.vm rfl rfl rfl rfl (by decide) ?_; refine zY.vm rfl rfl rfl rfl (by decide) ?_; refine zY.v rfl rfl (yJ rfl rfl rfl (by decide)) ?_; refine zY.v rfl rfl (zR rfl rfl rfl g1 rfl (by decide)) ?_; refine zY.nil ?_) | (refine zZ.iq 8 ?_; refine zZ.rqd _ K_7 K_2 ?_; refine zY.va rfl rfl rfl rfl (by decide) ?_; refine zY.nil ?_) | (refine zZ.iq 9 ?_; refine zZ.rqd _ K_7 K_2 ?_; refine zY.va rfl rfl rfl rfl (by decide) ?_; refine zY.nil ?_) | refine zZ.yZ rfl (by first | assumption | with_reducible rfl) ?_ | refine zZ.skip ?_ | refine zZ.block ?_) | refine zF.n ?_)
        refine zZ.loop (rlI l c i out) (fun q => q.1 ≤ i ∧ q.2 = qW (l.take q.1) e ∧ y9 (l.take q.1) e = false) (fun q => i - q.1) (0, false) ?i0 ⟨Nat.zero_le _, rfl, rfl⟩ ?ir
        case i0 =>
          unfold rlI
          exact zB K_22 []
        case ir =>
          rintro ⟨k, had⟩ ⟨hk, hh, hcl0⟩
          simp only at hk hh hcl0
          have k3 : IntKind.i64.wrap (((k : Nat) : Int) + 1) = ((k + 1 : Nat) : Int) := by rw [wrap_i64 _ (by omega)]; omega
          unfold rlI
          dsimp only
          by_cases hki : k < i
          case pos =>
            have k1 : decide (((k : Nat) : Int) < ((i : Nat) : Int)) = true := decide_eq_true (by omega)
            obtain ⟨x, hxk⟩ : ∃ x, l[k]? = some x := ⟨_, List.getElem?_eq_getElem (by omega)⟩
            have k2 : (l.map zQ.V)[k]? = some x.V := by rw [List.getElem?_map, hxk]; rfl
            have htk := at_take hxk
            have hh1 : qW (l.take (k + 1)) e = (had || qW [x] e) := by rw [htk, hadP_app, ← hh]
            have hc1 : y9 (l.take (k + 1)) e = y9 [x] e := by rw [htk, clashP_app, hcl0, Bool.false_or]
            have hcx : y9 [x] e = true → R = none := fun hc => by
              have h1 : y9 (l.take i) e = true := by
                have : l.take i = l.take (k + 1) ++ (l.take i).drop (k + 1) := by
                  conv => lhs; rw [← List.take_append_drop (k + 1) (l.take i)]
                  rw [List.take_take, Nat.min_eq_left (by omega)]
                rw [this, clashP_app, hc1, hc, Bool.true_or]
              rw [hx, h1]
              rfl
            clear hx htk hcl0 hh
            have nxt : ∀ {h' : Bool} (hhd : h' = qW (l.take (k + 1)) e) (hcc : y9 (l.take (k + 1)) e = false), k + 1 ≤ i ∧ h' = qW (l.take (k + 1)) e ∧ y9 (l.take (k + 1)) e = false := fun a b => ⟨hki, a, b⟩
            clear he hxk heo
            obtain ⟨ek, es, ey, eu, ev, ex⟩ := e
            obtain ⟨xk, xs, xy, xu, xv, xx⟩ := x
            cases c1 : decide (ek = 1)
            case false =>
              have e1 : qW [(⟨xk, xs, xy, xu, xv, xx⟩ : zQ)] ⟨ek, es, ey, eu, ev, ex⟩ = false := by simp [qW, of_decide_eq_false c1]
              have e2 : y9 [(⟨xk, xs, xy, xu, xv, xx⟩ : zQ)] ⟨ek, es, ey, eu, ev, ex⟩ = false := by simp [y9, of_decide_eq_false c1]
              rw [e1, Bool.or_false] at hh1
              rw [e2] at hc1
              clear hcx e1 e2
              repeat' (first | (refine zZ.is ?_; first | refine zZ.seq ?_ | (refine zZ.iq 10 ?_; refine zZ.rqd _ K_7 K_2 ?_; refine zY.vm rfl rfl rfl rfl (by decide) ?_; refine zY.vm rfl rfl rfl rfl (by decide) ?_; refine zY.v rfl rfl (zR rfl rfl rfl k1 rfl (by decide)) ?_; refine zY.nil ?_) | (refine zZ.iq 12 ?_; refine zZ.rqm _ K_7 K_2 (zZ.draws ?_); all_goals (refine Draws.v rfl rfl (zV rfl rfl rfl (by decide)) ?_); all_goals (refine Draws.v rfl rfl (zV rfl rfl rfl (by decide)) ?_); all_goals (refine Draws.v rfl rfl (zH rfl rfl rfl hcl g2 rfl (by decide)) ?_); all_goals (refine Draws.v rfl rfl (yD rfl rfl rfl (by decide)) ?_); all_goals (refine Draws.v rfl rfl (zM rfl rfl rfl rfl (by decide)) ?_); all_goals (refine Draws.v rfl rfl (zU rfl rfl rfl c1 rfl (by decide)) ?_); all_goals (refine Draws.v rfl rfl (zV rfl rfl rfl (by decide)) ?_); all_goals (refine Draws.gNT rfl rfl (by decide) rfl (by rfl) rfl (by decide) ?_); all_goals (refine Draws.gNT rfl rfl (by decide) rfl (by rfl) rfl (by decide) ?_); all_goals (refine Draws.gNT rfl rfl (by decide) rfl (by rfl) rfl (by decide) ?_); all_goals (refine Draws.gNT rfl rfl (by decide) rfl (by rfl) rfl (by decide) ?_); all_goals (refine Draws.gNT rfl rfl (by decide) rfl (by rfl) rfl (by decide) ?_); all_goals (refine Draws.gNT rfl rfl (by decide) rfl (by rfl) rfl (by decide) ?_); all_goals (refine Draws.v rfl rfl (zL rfl rfl (by rfl) rfl rfl (by decide)) ?_); all_goals (refine Draws.v rfl rfl (zV rfl rfl rfl (by decide)) ?_); all_goals (refine Draws.gNT rfl rfl (by decide) rfl (by rfl) rfl (by decide) ?_); all_goals (refine Draws.gNT rfl rfl (by decide) rfl (by rfl) rfl (by decide) ?_); all_goals (refine Draws.gNT rfl rfl (by decide) rfl (by rfl) rfl (by decide) ?_); all_goals (refine Draws.gNT rfl rfl (by decide) rfl (by rfl) rfl (by decide) ?_); all_goals (refine Draws.gNT rfl rfl (by decide) rfl (by rfl) rfl (by decide) ?_); all_goals (refine Draws.gNT rfl rfl (by decide) rfl (by rfl) rfl (by decide) ?_); all_goals (refine Draws.gNT rfl rfl (by decide) rfl (by rfl) rfl (by decide) ?_); all_goals (refine Draws.gNT rfl rfl (by decide) rfl (by rfl) rfl (by decide) ?_); all_goals (refine Draws.gNT rfl rfl (by decide) rfl (by rfl) rfl (by decide) ?_); all_goals (refine Draws.gNT rfl rfl (by decide) rfl (by rfl) rfl (by decide) ?_); all_goals (refine Draws.gNT rfl rfl (by decide) rfl (by rfl) rfl (by decide) ?_); all_goals (refine Draws.v rfl rfl (zL rfl rfl (by rfl) rfl rfl (by decide)) ?_); all_goals ((refine Draws.done (by kernel_rfl) (by kernel_rfl) (by kernel_rfl) ?_; refine zI.nil ?_))) | (refine zZ.iq 11 ?_; refine zZ.rqd _ K_7 K_2 ?_; refine zY.vm rfl rfl rfl rfl (by decide) ?_; refine zY.v rfl rfl (yY rfl rfl rfl k3 rfl (by decide)) ?_; refine zY.va rfl rfl rfl rfl (by decide) ?_; refine zY.nil ?_) | refine zZ.yZ rfl (by first | assumption | with_reducible rfl) ?_ | refine zZ.yX rfl (by first | assumption | with_reducible rfl) ?_ | refine zZ.skip ?_ | refine zZ.block ?_) | refine zF.n ?_ | refine zO.n ?_)
              all_goals
                refine ⟨(k + 1, had), ?_, nxt hh1.symm hc1, by show i - (k + 1) < i - k; omega⟩
                try unfold rlI
                exact zB K_22 []
            case true =>
              cases c2 : decide (xk = 1)
              case false =>
                have e1 : qW [(⟨xk, xs, xy, xu, xv, xx⟩ : zQ)] ⟨ek, es, ey, eu, ev, ex⟩ = false := by simp [qW, of_decide_eq_false c2]
                have e2 : y9 [(⟨xk, xs, xy, xu, xv, xx⟩ : zQ)] ⟨ek, es, ey, eu, ev, ex⟩ = false := by simp [y9, of_decide_eq_false c2]
                rw [e1, Bool.or_false] at hh1
                rw [e2] at hc1
                clear hcx e1 e2
                repeat' (first | (refine zZ.is ?_; first | refine zZ.seq ?_ | (refine zZ.iq 10 ?_; refine zZ.rqd _ K_7 K_2 ?_; refine zY.vm rfl rfl rfl rfl (by decide) ?_; refine zY.vm rfl rfl rfl rfl (by decide) ?_; refine zY.v rfl rfl (zR rfl rfl rfl k1 rfl (by decide)) ?_; refine zY.nil ?_) | (refine zZ.iq 12 ?_; refine zZ.rqm _ K_7 K_2 (zZ.draws ?_); all_goals (refine Draws.v rfl rfl (zV rfl rfl rfl (by decide)) ?_); all_goals (refine Draws.v rfl rfl (zV rfl rfl rfl (by decide)) ?_); all_goals (refine Draws.v rfl rfl (zH rfl rfl rfl hcl g2 rfl (by decide)) ?_); all_goals (refine Draws.v rfl rfl (yD rfl rfl rfl (by decide)) ?_); all_goals (refine Draws.v rfl rfl (zM rfl rfl rfl rfl (by decide)) ?_); all_goals (refine Draws.v rfl rfl (zU rfl rfl rfl c1 rfl (by decide)) ?_); all_goals (refine Draws.v rfl rfl (zV rfl rfl rfl (by decide)) ?_); all_goals (refine Draws.gY rfl rfl (by decide) rfl (by rfl) rfl (zV rfl rfl rfl (by decide)) ?_); all_goals (refine Draws.gY rfl rfl (by decide) rfl (by rfl) rfl (zV rfl rfl rfl (by decide)) ?_); all_goals (refine Draws.gY rfl rfl (by decide) rfl (by rfl) rfl (zH rfl rfl rfl hcl k2 rfl (by decide)) ?_); all_goals (refine Draws.gY rfl rfl (by decide) rfl (by rfl) rfl (yD rfl rfl rfl (by decide)) ?_); all_goals (refine Draws.gY rfl rfl (by decide) rfl (by rfl) rfl (zM rfl rfl rfl rfl (by decide)) ?_); all_goals (refine Draws.gY rfl rfl (by decide) rfl (by rfl) rfl (zU rfl rfl rfl c2 rfl (by decide)) ?_); all_goals (refine Draws.v rfl rfl (zN rfl rfl (by rfl) rfl rfl (by decide)) ?_); all_goals (refine Draws.v rfl rfl (zV rfl rfl rfl (by decide)) ?_); all_goals (refine Draws.gNT rfl rfl (by decide) rfl (by rfl) rfl (by decide) ?_); all_goals (refine Draws.gNT rfl rfl (by decide) rfl (by rfl) rfl (by decide) ?_); all_goals (refine Draws.gNT rfl rfl (by decide) rfl (by rfl) rfl (by decide) ?_); all_goals (refine Draws.gNT rfl rfl (by decide) rfl (by rfl) rfl (by decide) ?_); all_goals (refine Draws.gNT rfl rfl (by decide) rfl (by rfl) rfl (by decide) ?_); all_goals (refine Draws.gNT rfl rfl (by decide) rfl (by rfl) rfl (by decide) ?_); all_goals (refine Draws.gNT rfl rfl (by decide) rfl (by rfl) rfl (by decide) ?_); all_goals (refine Draws.gNT rfl rfl (by decide) rfl (by rfl) rfl (by decide) ?_); all_goals (refine Draws.gNT rfl rfl (by decide) rfl (by rfl) rfl (by decide) ?_); all_goals (refine Draws.gNT rfl rfl (by decide) rfl (by rfl) rfl (by decide) ?_); all_goals (refine Draws.gNT rfl rfl (by decide) rfl (by rfl) rfl (by decide) ?_); all_goals (refine Draws.v rfl rfl (zL rfl rfl (by rfl) rfl rfl (by decide)) ?_); all_goals ((refine Draws.done (by kernel_rfl) (by kernel_rfl) (by kernel_rfl) ?_; refine zI.nil ?_))) | (refine zZ.iq 11 ?_; refine zZ.rqd _ K_7 K_2 ?_; refine zY.vm rfl rfl rfl rfl (by decide) ?_; refine zY.v rfl rfl (yY rfl rfl rfl k3 rfl (by decide)) ?_; refine zY.va rfl rfl rfl rfl (by decide) ?_; refine zY.nil ?_) | refine zZ.yZ rfl (by first | assumption | with_reducible rfl) ?_ | refine zZ.yX rfl (by first | assumption | with_reducible rfl) ?_ | refine zZ.skip ?_ | refine zZ.block ?_) | refine zF.n ?_ | refine zO.n ?_)
                all_goals
                  refine ⟨(k + 1, had), ?_, nxt hh1.symm hc1, by show i - (k + 1) < i - k; omega⟩
                  try unfold rlI
                  exact zB K_22 []
              case true =>
                cases c4 : decide (xs = es)
                case false =>
                  have e1 : qW [(⟨xk, xs, xy, xu, xv, xx⟩ : zQ)] ⟨ek, es, ey, eu, ev, ex⟩ = false := by simp [qW, of_decide_eq_false c4]
                  have e2 : y9 [(⟨xk, xs, xy, xu, xv, xx⟩ : zQ)] ⟨ek, es, ey, eu, ev, ex⟩ = false := by simp [y9, of_decide_eq_false c4]
                  rw [e1, Bool.or_false] at hh1
                  rw [e2] at hc1
                  clear hcx e1 e2
                  repeat' (first | (refine zZ.is ?_; first | refine zZ.seq ?_ | (refine zZ.iq 10 ?_; refine zZ.rqd _ K_7 K_2 ?_; refine zY.vm rfl rfl rfl rfl (by decide) ?_; refine zY.vm rfl rfl rfl rfl (by decide) ?_; refine zY.v rfl rfl (zR rfl rfl rfl k1 rfl (by decide)) ?_; refine zY.nil ?_) | (refine zZ.iq 12 ?_; refine zZ.rqm _ K_7 K_2 (zZ.draws ?_); all_goals (refine Draws.v rfl rfl (zV rfl rfl rfl (by decide)) ?_); all_goals (refine Draws.v rfl rfl (zV rfl rfl rfl (by decide)) ?_); all_goals (refine Draws.v rfl rfl (zH rfl rfl rfl hcl g2 rfl (by decide)) ?_); all_goals (refine Draws.v rfl rfl (yD rfl rfl rfl (by decide)) ?_); all_goals (refine Draws.v rfl rfl (zM rfl rfl rfl rfl (by decide)) ?_); all_goals (refine Draws.v rfl rfl (zU rfl rfl rfl c1 rfl (by decide)) ?_); all_goals (refine Draws.v rfl rfl (zV rfl rfl rfl (by decide)) ?_); all_goals (refine Draws.gY rfl rfl (by decide) rfl (by rfl) rfl (zV rfl rfl rfl (by decide)) ?_); all_goals (refine Draws.gY rfl rfl (by decide) rfl (by rfl) rfl (zV rfl rfl rfl (by decide)) ?_); all_goals (refine Draws.gY rfl rfl (by decide) rfl (by rfl) rfl (zH rfl rfl rfl hcl k2 rfl (by decide)) ?_); all_goals (refine Draws.gY rfl rfl (by decide) rfl (by rfl) rfl (yD rfl rfl rfl (by decide)) ?_); all_goals (refine Draws.gY rfl rfl (by decide) rfl (by rfl) rfl (zM rfl rfl rfl rfl (by decide)) ?_); all_goals (refine Draws.gY rfl rfl (by decide) rfl (by rfl) rfl (zU rfl rfl rfl c2 rfl (by decide)) ?_); all_goals (refine Draws.v rfl rfl (zN rfl rfl (by rfl) rfl rfl (by decide)) ?_); all_goals (refine Draws.v rfl rfl (zV rfl rfl rfl (by decide)) ?_); all_goals (refine Draws.gY rfl rfl (by decide) rfl (by rfl) rfl (zV rfl rfl rfl (by decide)) ?_); all_goals (refine Draws.gY rfl rfl (by decide) rfl (by rfl) rfl (zV rfl rfl rfl (by decide)) ?_); all_goals (refine Draws.gY rfl rfl (by decide) rfl (by rfl) rfl (zH rfl rfl rfl hcl k2 rfl (by decide)) ?_); all_goals (refine Draws.gY rfl rfl (by decide) rfl (by rfl) rfl (yD rfl rfl rfl (by decide)) ?_); all_goals (refine Draws.gY rfl rfl (by decide) rfl (by rfl) rfl (zM rfl rfl rfl rfl (by decide)) ?_); all_goals (refine Draws.gY rfl rfl (by decide) rfl (by rfl) rfl (zV rfl rfl rfl (by decide)) ?_); all_goals (refine Draws.gY rfl rfl (by decide) rfl (by rfl) rfl (zV rfl rfl rfl (by decide)) ?_); all_goals (refine Draws.gY rfl rfl (by decide) rfl (by rfl) rfl (zH rfl rfl rfl hcl g2 rfl (by decide)) ?_); all_goals (refine Draws.gY rfl rfl (by decide) rfl (by rfl) rfl (yD rfl rfl rfl (by decide)) ?_); all_goals (refine Draws.gY rfl rfl (by decide) rfl (by rfl) rfl (zM rfl rfl rfl rfl (by decide)) ?_); all_goals (refine Draws.gY rfl rfl (by decide) rfl (by rfl) rfl (zU rfl rfl rfl c4 rfl (by decide)) ?_); all_goals (refine Draws.v rfl rfl (zN rfl rfl (by rfl) rfl rfl (by decide)) ?_); all_goals ((refine Draws.done (by kernel_rfl) (by kernel_rfl) (by kernel_rfl) ?_; refine zI.nil ?_))) | (refine zZ.iq 11 ?_; refine zZ.rqd _ K_7 K_2 ?_; refine zY.vm rfl rfl rfl rfl (by decide) ?_; refine zY.v rfl rfl (yY rfl rfl rfl k3 rfl (by decide)) ?_; refine zY.va rfl rfl rfl rfl (by decide) ?_; refine zY.nil ?_) | refine zZ.yZ rfl (by first | assumption | with_reducible rfl) ?_ | refine zZ.yX rfl (by first | assumption | with_reducible rfl) ?_ | refine zZ.skip ?_ | refine zZ.block ?_) | refine zF.n ?_ | refine zO.n ?_)
                  all_goals
                    refine ⟨(k + 1, had), ?_, nxt hh1.symm hc1, by show i - (k + 1) < i - k; omega⟩
                    try unfold rlI
                    exact zB K_22 []
                case true =>
                  by_cases hxe : (⟨xk, xs, xy, xu, xv, xx⟩ : zQ) = ⟨ek, es, ey, eu, ev, ex⟩
                  case pos =>
                    have e1 : qW [(⟨xk, xs, xy, xu, xv, xx⟩ : zQ)] ⟨ek, es, ey, eu, ev, ex⟩ = true := by simp [qW, of_decide_eq_true c1, of_decide_eq_true c2, of_decide_eq_true c4]
                    have e2 : y9 [(⟨xk, xs, xy, xu, xv, xx⟩ : zQ)] ⟨ek, es, ey, eu, ev, ex⟩ = false := by simp [y9, hxe]
                    rw [e1, Bool.or_true] at hh1
                    rw [e2] at hc1
                    clear hcx e1 e2
                    cases hxe
                    have c7 : (!decide ([(IntKind.i64, ek), (IntKind.u64, es), (IntKind.u64, ey), (IntKind.u64, eu), (IntKind.u64, ev), (IntKind.u64, ex)] = [(IntKind.i64, ek), (IntKind.u64, es), (IntKind.u64, ey), (IntKind.u64, eu), (IntKind.u64, ev), (IntKind.u64, ex)])) = false := by rw [decide_eq_true rfl]; rfl
                    repeat' (first | (refine zZ.is ?_; first | refine zZ.seq ?_ | (refine zZ.iq 10 ?_; refine zZ.rqd _ K_7 K_2 ?_; refine zY.vm rfl rfl rfl rfl (by decide) ?_; refine zY.vm rfl rfl rfl rfl (by decide) ?_; refine zY.v rfl rfl (zR rfl rfl rfl k1 rfl (by decide)) ?_; refine zY.nil ?_) | (refine zZ.iq 12 ?_; refine zZ.rqm _ K_7 K_2 (zZ.draws ?_); all_goals (refine Draws.v rfl rfl (zV rfl rfl rfl (by decide)) ?_); all_goals (refine Draws.v rfl rfl (zV rfl rfl rfl (by decide)) ?_); all_goals (refine Draws.v rfl rfl (zH rfl rfl rfl hcl g2 rfl (by decide)) ?_); all_goals (refine Draws.v rfl rfl (yD rfl rfl rfl (by decide)) ?_); all_goals (refine Draws.v rfl rfl (zM rfl rfl rfl rfl (by decide)) ?_); all_goals (refine Draws.v rfl rfl (zU rfl rfl rfl c1 rfl (by decide)) ?_); all_goals (refine Draws.v rfl rfl (zV rfl rfl rfl (by decide)) ?_); all_goals (refine Draws.gY rfl rfl (by decide) rfl (by rfl) rfl (zV rfl rfl rfl (by decide)) ?_); all_goals (refine Draws.gY rfl rfl (by decide) rfl (by rfl) rfl (zV rfl rfl rfl (by decide)) ?_); all_goals (refine Draws.gY rfl rfl (by decide) rfl (by rfl) rfl (zH rfl rfl rfl hcl k2 rfl (by decide)) ?_); all_goals (refine Draws.gY rfl rfl (by decide) rfl (by rfl) rfl (yD rfl rfl rfl (by decide)) ?_); all_goals (refine Draws.gY rfl rfl (by decide) rfl (by rfl) rfl (zM rfl rfl rfl rfl (by decide)) ?_); all_goals (refine Draws.gY rfl rfl (by decide) rfl (by rfl) rfl (zU rfl rfl rfl c1 rfl (by decide)) ?_); all_goals (refine Draws.v rfl rfl (zN rfl rfl (by rfl) rfl rfl (by decide)) ?_); all_goals (refine Draws.v rfl rfl (zV rfl rfl rfl (by decide)) ?_); all_goals (refine Draws.gY rfl rfl (by decide) rfl (by rfl) rfl (zV rfl rfl rfl (by decide)) ?_); all_goals (refine Draws.gY rfl rfl (by decide) rfl (by rfl) rfl (zV rfl rfl rfl (by decide)) ?_); all_goals (refine Draws.gY rfl rfl (by decide) rfl (by rfl) rfl (zH rfl rfl rfl hcl k2 rfl (by decide)) ?_); all_goals (refine Draws.gY rfl rfl (by decide) rfl (by rfl) rfl (yD rfl rfl rfl (by decide)) ?_); all_goals (refine Draws.gY rfl rfl (by decide) rfl (by rfl) rfl (zM rfl rfl rfl rfl (by decide)) ?_); all_goals (refine Draws.gY rfl rfl (by decide) rfl (by rfl) rfl (zV rfl rfl rfl (by decide)) ?_); all_goals (refine Draws.gY rfl rfl (by decide) rfl (by rfl) rfl (zV rfl rfl rfl (by decide)) ?_); all_goals (refine Draws.gY rfl rfl (by decide) rfl (by rfl) rfl (zH rfl rfl rfl hcl g2 rfl (by decide)) ?_); all_goals (refine Draws.gY rfl rfl (by decide) rfl (by rfl) rfl (yD rfl rfl rfl (by decide)) ?_); all_goals (refine Draws.gY rfl rfl (by decide) rfl (by rfl) rfl (zM rfl rfl rfl rfl (by decide)) ?_); all_goals (refine Draws.gY rfl rfl (by decide) rfl (by rfl) rfl (zU rfl rfl rfl c4 rfl (by decide)) ?_); all_goals (refine Draws.v rfl rfl (zN rfl rfl (by rfl) rfl rfl (by decide)) ?_); all_goals ((refine Draws.done (by kernel_rfl) (by kernel_rfl) (by kernel_rfl) ?_; refine zI.nil ?_))) | (refine zZ.iq 13 ?_; refine zZ.rqd _ K_7 K_2 ?_; refine zY.va rfl rfl rfl rfl (by decide) ?_; refine zY.nil ?_) | (refine zZ.iq 14 ?_; refine zZ.rqm _ K_7 K_2 (zZ.draws ?_); all_goals (refine Draws.v rfl rfl (zV rfl rfl rfl (by decide)) ?_); all_goals (refine Draws.v rfl rfl (zV rfl rfl rfl (by decide)) ?_); all_goals (refine Draws.v rfl rfl (zH rfl rfl rfl hcl k2 rfl (by decide)) ?_); all_goals (refine Draws.v rfl rfl (by exact xD rfl rfl (by exact Nat.le_of_ble_eq_true rfl) rfl (by decide)) ?_); all_goals (refine Draws.v rfl rfl (zV rfl rfl rfl (by decide)) ?_); all_goals (refine Draws.v rfl rfl (zV rfl rfl rfl (by decide)) ?_); all_goals (refine Draws.v rfl rfl (zH rfl rfl rfl hcl g2 rfl (by decide)) ?_); all_goals (refine Draws.v rfl rfl (by exact xD rfl rfl (by exact Nat.le_of_ble_eq_true rfl) rfl (by decide)) ?_); all_goals (refine Draws.v rfl rfl (r_neqT rfl rfl rfl rfl rfl rfl (by rfl) c7 rfl (by decide)) ?_); all_goals ((refine Draws.done (by kernel_rfl) (by kernel_rfl) (by kernel_rfl) ?_; refine zI.nil ?_))) | (refine zZ.iq 11 ?_; refine zZ.rqd _ K_7 K_2 ?_; refine zY.vm rfl rfl rfl rfl (by decide) ?_; refine zY.v rfl rfl (yY rfl rfl rfl k3 rfl (by decide)) ?_; refine zY.va rfl rfl rfl rfl (by decide) ?_; refine zY.nil ?_) | refine zZ.yZ rfl (by first | assumption | with_reducible rfl) ?_ | refine zZ.yX rfl (by first | assumption | with_reducible rfl) ?_ | refine zZ.skip ?_ | refine zZ.block ?_) | refine zF.n ?_ | refine zO.n ?_)
                    all_goals
                      refine ⟨(k + 1, true), ?_, nxt hh1.symm hc1, by show i - (k + 1) < i - k; omega⟩
                      try unfold rlI
                      exact zB K_22 []
                  case neg =>
                    have hR : R = none := hcx (by
                      have hd : decide ((⟨xk, xs, xy, xu, xv, xx⟩ : zQ) = ⟨ek, es, ey, eu, ev, ex⟩) = false := decide_eq_false hxe
                      unfold y9
                      rw [c1, c2, c4, hd]
                      rfl)
                    have c7 : (!decide ([(IntKind.i64, xk), (IntKind.u64, xs), (IntKind.u64, xy), (IntKind.u64, xu), (IntKind.u64, xv), (IntKind.u64, xx)] = [(IntKind.i64, ek), (IntKind.u64, es), (IntKind.u64, ey), (IntKind.u64, eu), (IntKind.u64, ev), (IntKind.u64, ex)])) = true := by
                      rw [decide_eq_false (fun e => hxe (by simp at e; simp [e]))]
                      rfl
                    rw [hR]
                    clear hh1 hc1 hcx nxt
                    repeat' (first | (refine zZ.is ?_; first | refine zZ.seq ?_ | (refine zZ.iq 10 ?_; refine zZ.rqd _ K_7 K_2 ?_; refine zY.vm rfl rfl rfl rfl (by decide) ?_; refine zY.vm rfl rfl rfl rfl (by decide) ?_; refine zY.v rfl rfl (zR rfl rfl rfl k1 rfl (by decide)) ?_; refine zY.nil ?_) | (refine zZ.iq 12 ?_; refine zZ.rqm _ K_7 K_2 (zZ.draws ?_); all_goals (refine Draws.v rfl rfl (zV rfl rfl rfl (by decide)) ?_); all_goals (refine Draws.v rfl rfl (zV rfl rfl rfl (by decide)) ?_); all_goals (refine Draws.v rfl rfl (zH rfl rfl rfl hcl g2 rfl (by decide)) ?_); all_goals (refine Draws.v rfl rfl (yD rfl rfl rfl (by decide)) ?_); all_goals (refine Draws.v rfl rfl (zM rfl rfl rfl rfl (by decide)) ?_); all_goals (refine Draws.v rfl rfl (zU rfl rfl rfl c1 rfl (by decide)) ?_); all_goals (refine Draws.v rfl rfl (zV rfl rfl rfl (by decide)) ?_); all_goals (refine Draws.gY rfl rfl (by decide) rfl (by rfl) rfl (zV rfl rfl rfl (by decide)) ?_); all_goals (refine Draws.gY rfl rfl (by decide) rfl (by rfl) rfl (zV rfl rfl rfl (by decide)) ?_); all_goals (refine Draws.gY rfl rfl (by decide) rfl (by rfl) rfl (zH rfl rfl rfl hcl k2 rfl (by decide)) ?_); all_goals (refine Draws.gY rfl rfl (by decide) rfl (by rfl) rfl (yD rfl rfl rfl (by decide)) ?_); all_goals (refine Draws.gY rfl rfl (by decide) rfl (by rfl) rfl (zM rfl rfl rfl rfl (by decide)) ?_); all_goals (refine Draws.gY rfl rfl (by decide) rfl (by rfl) rfl (zU rfl rfl rfl c2 rfl (by decide)) ?_); all_goals (refine Draws.v rfl rfl (zN rfl rfl (by rfl) rfl rfl (by decide)) ?_); all_goals (refine Draws.v rfl rfl (zV rfl rfl rfl (by decide)) ?_); all_goals (refine Draws.gY rfl rfl (by decide) rfl (by rfl) rfl (zV rfl rfl rfl (by decide)) ?_); all_goals (refine Draws.gY rfl rfl (by decide) rfl (by rfl) rfl (zV rfl rfl rfl (by decide)) ?_); all_goals (refine Draws.gY rfl rfl (by decide) rfl (by rfl) rfl (zH rfl rfl rfl hcl k2 rfl (by decide)) ?_); all_goals (refine Draws.gY rfl rfl (by decide) rfl (by rfl) rfl (yD rfl rfl rfl (by decide)) ?_); all_goals (refine Draws.gY rfl rfl (by decide) rfl (by rfl) rfl (zM rfl rfl rfl rfl (by decide)) ?_); all_goals (refine Draws.gY rfl rfl (by decide) rfl (by rfl) rfl (zV rfl rfl rfl (by decide)) ?_); all_goals (refine Draws.gY rfl rfl (by decide) rfl (by rfl) rfl (zV rfl rfl rfl (by decide)) ?_); all_goals (refine Draws.gY rfl rfl (by decide) rfl (by rfl) rfl (zH rfl rfl rfl hcl g2 rfl (by decide)) ?_); all_goals (refine Draws.gY rfl rfl (by decide) rfl (by rfl) rfl (yD rfl rfl rfl (by decide)) ?_); all_goals (refine Draws.gY rfl rfl (by decide) rfl (by rfl) rfl (zM rfl rfl rfl rfl (by decide)) ?_); all_goals (refine Draws.gY rfl rfl (by decide) rfl (by rfl) rfl (zU rfl rfl rfl c4 rfl (by decide)) ?_); all_goals (refine Draws.v rfl rfl (zN rfl rfl (by rfl) rfl rfl (by decide)) ?_); all_goals ((refine Draws.done (by kernel_rfl) (by kernel_rfl) (by kernel_rfl) ?_; refine zI.nil ?_))) | (refine zZ.iq 13 ?_; refine zZ.rqd _ K_7 K_2 ?_; refine zY.va rfl rfl rfl rfl (by decide) ?_; refine zY.nil ?_) | (refine zZ.iq 14 ?_; refine zZ.rqm _ K_7 K_2 (zZ.draws ?_); all_goals (refine Draws.v rfl rfl (zV rfl rfl rfl (by decide)) ?_); all_goals (refine Draws.v rfl rfl (zV rfl rfl rfl (by decide)) ?_); all_goals (refine Draws.v rfl rfl (zH rfl rfl rfl hcl k2 rfl (by decide)) ?_); all_goals (refine Draws.v rfl rfl (by exact xD rfl rfl (by exact Nat.le_of_ble_eq_true rfl) rfl (by decide)) ?_); all_goals (refine Draws.v rfl rfl (zV rfl rfl rfl (by decide)) ?_); all_goals (refine Draws.v rfl rfl (zV rfl rfl rfl (by decide)) ?_); all_goals (refine Draws.v rfl rfl (zH rfl rfl rfl hcl g2 rfl (by decide)) ?_); all_goals (refine Draws.v rfl rfl (by exact xD rfl rfl (by exact Nat.le_of_ble_eq_true rfl) rfl (by decide)) ?_); all_goals (refine Draws.v rfl rfl (r_neqT rfl rfl rfl rfl rfl rfl (by rfl) c7 rfl (by decide)) ?_); all_goals ((refine Draws.done (by kernel_rfl) (by kernel_rfl) (by kernel_rfl) ?_; refine zI.nil ?_))) | (refine zZ.iq 15 ?_; refine zZ.rqd _ K_7 K_2 ?_; refine zY.va rfl rfl rfl rfl (by decide) ?_; refine zY.va rfl rfl rfl rfl (by decide) ?_; refine zY.nil ?_) | refine zZ.yZ rfl (by first | assumption | with_reducible rfl) ?_ | refine zZ.skip ?_ | refine zZ.block ?_ | refine zZ.ret ?_) | refine zF.n ?_ | refine zF.r ?_ | refine zO.r ?_)
                    all_goals exact ⟨.inl rfl, _, xM (d := 4) rfl, yR.qV (rs := [.tmp 4, .tmp 5]) rfl (by decide) (.cons (.tmp rfl) (.cons (.tmp rfl) .nil)) rfl⟩
          case neg =>
            have hki : k = i := by omega
            subst hki
            have k1 : decide (((k : Nat) : Int) < ((k : Nat) : Int)) = false := decide_eq_false (by omega)
            have l1 := livesR_fn l e hln heo
            have p1 := putR_fn out e (by omega)
            rw [hcl0, ← hh, if_neg (by decide)] at hx
            clear hh hcl0
            have hil := insY_length e out
            cases hlv : livesR l e
            case false =>
              rw [hlv] at l1 hx
              have hx : R = refGo l (l.take (k + 1)) (l.drop (k + 1)) out := hx
              obtain ⟨ek, es, ey, eu, ev, ex⟩ := e
              repeat' (first | (refine zZ.is ?_; first | refine zZ.seq ?_ | (refine zZ.iq 10 ?_; refine zZ.rqd _ K_7 K_2 ?_; refine zY.vm rfl rfl rfl rfl (by decide) ?_; refine zY.vm rfl rfl rfl rfl (by decide) ?_; refine zY.v rfl rfl (zR rfl rfl rfl k1 rfl (by decide)) ?_; refine zY.nil ?_) | (refine zZ.iq 16 ?_; refine zZ.rqd _ K_7 K_2 ?_; refine zY.vm rfl rfl rfl rfl (by decide) ?_; refine zY.vm rfl rfl rfl rfl (by decide) ?_; refine zY.vm rfl rfl rfl rfl (by decide) ?_; refine zY.v rfl rfl (zH rfl rfl rfl hcl g2 rfl (by decide)) ?_; refine zY.v rfl rfl (by exact xD rfl rfl (by exact Nat.le_of_ble_eq_true rfl) rfl (by decide)) ?_; refine zY.v rfl rfl (by exact yB (l1) rfl rfl rfl (by decide)) ?_; refine zY.va rfl rfl rfl rfl (by decide) ?_; refine zY.nil ?_) | (refine zZ.iq 17 ?_; refine zZ.rqd _ K_7 K_2 ?_; all_goals (refine zY.vm rfl rfl rfl rfl (by decide) ?_); all_goals (refine zY.vm rfl rfl rfl rfl (by decide) ?_); all_goals (refine zY.gnT rfl rfl (by decide) rfl (by rfl) rfl (by decide) ?_); all_goals (refine zY.gnT rfl rfl (by decide) rfl (by rfl) rfl (by decide) ?_); all_goals (refine zY.v rfl rfl (zL rfl rfl (by rfl) rfl rfl (by decide)) ?_); all_goals (refine zY.nil ?_)) | (refine zZ.iq 7 ?_; refine zZ.rqd _ K_7 K_2 ?_; refine zY.vm rfl rfl rfl rfl (by decide) ?_; refine zY.v rfl rfl (yY rfl rfl rfl g3 rfl (by decide)) ?_; refine zY.va rfl rfl rfl rfl (by decide) ?_; refine zY.nil ?_) | refine zZ.yX rfl (by first | assumption | with_reducible rfl) ?_ | refine zZ.skip ?_ | refine zZ.exit ?_) | refine zF.n ?_ | refine zO.n ?_ | refine zO.eY ?_ | refine zF.e ?_)
              all_goals
                refine ⟨(k + 1, out), ?_, ⟨hlt, hx, by show out.length ≤ k + 1; omega⟩, by show l.length - (k + 1) < l.length - k; omega⟩
                try unfold rlO
                exact zB K_2f []
            case true =>
              rw [hlv] at l1 hx
              cases had
              case true =>
                have hx : R = refGo l (l.take (k + 1)) (l.drop (k + 1)) out := hx
                obtain ⟨ek, es, ey, eu, ev, ex⟩ := e
                repeat' (first | (refine zZ.is ?_; first | refine zZ.seq ?_ | (refine zZ.iq 10 ?_; refine zZ.rqd _ K_7 K_2 ?_; refine zY.vm rfl rfl rfl rfl (by decide) ?_; refine zY.vm rfl rfl rfl rfl (by decide) ?_; refine zY.v rfl rfl (zR rfl rfl rfl k1 rfl (by decide)) ?_; refine zY.nil ?_) | (refine zZ.iq 16 ?_; refine zZ.rqd _ K_7 K_2 ?_; refine zY.vm rfl rfl rfl rfl (by decide) ?_; refine zY.vm rfl rfl rfl rfl (by decide) ?_; refine zY.vm rfl rfl rfl rfl (by decide) ?_; refine zY.v rfl rfl (zH rfl rfl rfl hcl g2 rfl (by decide)) ?_; refine zY.v rfl rfl (by exact xD rfl rfl (by exact Nat.le_of_ble_eq_true rfl) rfl (by decide)) ?_; refine zY.v rfl rfl (by exact yB (l1) rfl rfl rfl (by decide)) ?_; refine zY.va rfl rfl rfl rfl (by decide) ?_; refine zY.nil ?_) | (refine zZ.iq 17 ?_; refine zZ.rqd _ K_7 K_2 ?_; all_goals (refine zY.vm rfl rfl rfl rfl (by decide) ?_); all_goals (refine zY.vm rfl rfl rfl rfl (by decide) ?_); all_goals (refine zY.gY rfl rfl (by decide) rfl (by rfl) rfl (by decide) (zV rfl rfl rfl (by decide)) ?_); all_goals (refine zY.gY rfl rfl (by decide) rfl (by rfl) rfl (by decide) (by exact xI rfl rfl (by exact bF (by decide)) rfl (by decide)) ?_); all_goals (refine zY.v rfl rfl (zN rfl rfl (by rfl) rfl rfl (by decide)) ?_); all_goals (refine zY.nil ?_)) | (refine zZ.iq 7 ?_; refine zZ.rqd _ K_7 K_2 ?_; refine zY.vm rfl rfl rfl rfl (by decide) ?_; refine zY.v rfl rfl (yY rfl rfl rfl g3 rfl (by decide)) ?_; refine zY.va rfl rfl rfl rfl (by decide) ?_; refine zY.nil ?_) | refine zZ.yX rfl (by first | assumption | with_reducible rfl) ?_ | refine zZ.skip ?_ | refine zZ.exit ?_) | refine zF.n ?_ | refine zO.n ?_ | refine zO.eY ?_ | refine zF.e ?_)
                all_goals
                  refine ⟨(k + 1, out), ?_, ⟨hlt, hx, by show out.length ≤ k + 1; omega⟩, by show l.length - (k + 1) < l.length - k; omega⟩
                  try unfold rlO
                  exact zB K_2f []
              case false =>
                have hx : R = refGo l (l.take (k + 1)) (l.drop (k + 1)) (insY e out) := hx
                generalize insY e out = out' at *
                obtain ⟨ek, es, ey, eu, ev, ex⟩ := e
                repeat' (first | (refine zZ.is ?_; first | refine zZ.seq ?_ | (refine zZ.iq 10 ?_; refine zZ.rqd _ K_7 K_2 ?_; refine zY.vm rfl rfl rfl rfl (by decide) ?_; refine zY.vm rfl rfl rfl rfl (by decide) ?_; refine zY.v rfl rfl (zR rfl rfl rfl k1 rfl (by decide)) ?_; refine zY.nil ?_) | (refine zZ.iq 16 ?_; refine zZ.rqd _ K_7 K_2 ?_; refine zY.vm rfl rfl rfl rfl (by decide) ?_; refine zY.vm rfl rfl rfl rfl (by decide) ?_; refine zY.vm rfl rfl rfl rfl (by decide) ?_; refine zY.v rfl rfl (zH rfl rfl rfl hcl g2 rfl (by decide)) ?_; refine zY.v rfl rfl (by exact xD rfl rfl (by exact Nat.le_of_ble_eq_true rfl) rfl (by decide)) ?_; refine zY.v rfl rfl (by exact yB (l1) rfl rfl rfl (by decide)) ?_; refine zY.va rfl rfl rfl rfl (by decide) ?_; refine zY.nil ?_) | (refine zZ.iq 17 ?_; refine zZ.rqd _ K_7 K_2 ?_; all_goals (refine zY.vm rfl rfl rfl rfl (by decide) ?_); all_goals (refine zY.vm rfl rfl rfl rfl (by decide) ?_); all_goals (refine zY.gY rfl rfl (by decide) rfl (by rfl) rfl (by decide) (zV rfl rfl rfl (by decide)) ?_); all_goals (refine zY.gY rfl rfl (by decide) rfl (by rfl) rfl (by decide) (by exact xI rfl rfl (by exact bT (by decide)) rfl (by decide)) ?_); all_goals (refine zY.v rfl rfl (zN rfl rfl (by rfl) rfl rfl (by decide)) ?_); all_goals (refine zY.nil ?_)) | (refine zZ.iq 18 ?_; refine zZ.rqd _ K_7 K_2 ?_; refine zY.vm rfl rfl rfl rfl (by decide) ?_; refine zY.vm rfl rfl rfl rfl (by decide) ?_; refine zY.vm rfl rfl rfl rfl (by decide) ?_; refine zY.v rfl rfl (zH rfl rfl rfl hcl g2 rfl (by decide)) ?_; refine zY.v rfl rfl (by exact xD rfl rfl (by exact Nat.le_of_ble_eq_true rfl) rfl (by decide)) ?_; refine zY.v rfl rfl (by exact yB (p1) rfl rfl rfl (by decide)) ?_; refine zY.va rfl rfl rfl rfl (by decide) ?_; refine zY.nil ?_) | (refine zZ.iq 7 ?_; refine zZ.rqd _ K_7 K_2 ?_; refine zY.vm rfl rfl rfl rfl (by decide) ?_; refine zY.v rfl rfl (yY rfl rfl rfl g3 rfl (by decide)) ?_; refine zY.va rfl rfl rfl rfl (by decide) ?_; refine zY.nil ?_) | refine zZ.yZ rfl (by first | assumption | with_reducible rfl) ?_ | refine zZ.yX rfl (by first | assumption | with_reducible rfl) ?_ | refine zZ.exit ?_) | refine zF.n ?_ | refine zO.n ?_ | refine zO.eY ?_ | refine zF.e ?_)
                all_goals
                  refine ⟨(k + 1, out'), ?_, ⟨hlt, hx, by show out'.length ≤ k + 1; omega⟩, by show l.length - (k + 1) < l.length - k; omega⟩
                  try unfold rlO
                  exact zB K_2f []
      case neg =>
        have hie : i = l.length := by omega
        subst hie
        have g1 : decide (((l.length : Nat) : Int) < (((l.map zQ.V).length : Nat) : Int)) = false := decide_eq_false (by rw [hlen]; omega)
        rw [List.drop_length] at hx
        have hx : R = some out := hx
        rw [hx]
        dsimp only
        have hco := yN out
        have holn : (out.map zQ.V).length = out.length := by rw [List.length_map]
        clear hx hlt hi hcl hok
        repeat' (first | (refine zZ.is ?_; first | refine zZ.seq ?_ | (refine zZ.iq 6 ?_; refine zZ.rqd _ K_7 K_2 ?_; refine zY.vm rfl rfl rfl rfl (by decide) ?_; refine zY.vm rfl rfl rfl rfl (by decide) ?_; refine zY.v rfl rfl (yJ rfl rfl rfl (by decide)) ?_; refine zY.v rfl rfl (zR rfl rfl rfl g1 rfl (by decide)) ?_; refine zY.nil ?_) | (refine zZ.iq 19 ?_; refine zZ.rqd _ K_2r K_2 ?_; refine zY.va rfl rfl rfl rfl (by decide) ?_; refine zY.nil ?_) | refine zZ.yX rfl (by first | assumption | with_reducible rfl) ?_ | refine zZ.block ?_ | refine zZ.exit ?_) | refine zF.n ?_ | refine zO.eY ?_ | refine zF.e ?_)
        refine zZ.loop (rlT c out) (fun j => (j = 0 ∨ j + 1 ≤ out.length) ∧ vK out = vK (out.drop j)) (fun j => out.length - j) 0 ?t0 ⟨.inl rfl, rfl⟩ ?tr
        case t0 =>
          unfold rlT
          exact zB K_3e []
        case tr =>
          rintro j ⟨hj, hty⟩
          have j3 : IntKind.i64.wrap (((j + 1 : Nat) : Int) + 1) = ((j + 1 + 1 : Nat) : Int) := by rw [wrap_i64 _ (by omega)]; omega
          have j4 : IntKind.i64.wrap (((j + 1 : Nat) : Int) - 1) = ((j : Nat) : Int) := by rw [wrap_i64 _ (by omega)]; omega
          unfold rlT
          by_cases hjl : j + 1 < out.length
          case pos =>
            have j1 : decide (((j + 1 : Nat) : Int) < (((out.map zQ.V).length : Nat) : Int)) = true := decide_eq_true (by rw [holn]; omega)
            obtain ⟨a, ha⟩ : ∃ a, out[j]? = some a := ⟨_, List.getElem?_eq_getElem (by omega)⟩
            obtain ⟨b, hb⟩ : ∃ b, out[j + 1]? = some b := ⟨_, List.getElem?_eq_getElem hjl⟩
            have j5 : (out.map zQ.V)[j]? = some a.V := by rw [List.getElem?_map, ha]; rfl
            have j6 : (out.map zQ.V)[j + 1]? = some b.V := by rw [List.getElem?_map, hb]; rfl
            rw [twiceY_at ha hb] at hty
            clear ha hb
            obtain ⟨ak, as', ay, au, av, ax⟩ := a
            obtain ⟨bk', bs, by', bu, bv, bx⟩ := b
            cases c1 : decide (by' = ay)
            case true =>
              have hty : vK out = true := by rw [hty, c1]; rfl
              rw [hty]
              repeat' (first | (refine zZ.is ?_; first | refine zZ.seq ?_ | (refine zZ.iq 20 ?_; refine zZ.rqd _ K_1j K_2 ?_; refine zY.vm rfl rfl rfl rfl (by decide) ?_; refine zY.vm rfl rfl rfl rfl (by decide) ?_; refine zY.v rfl rfl (yJ rfl rfl rfl (by decide)) ?_; refine zY.v rfl rfl (zR rfl rfl rfl j1 rfl (by decide)) ?_; refine zY.nil ?_) | (refine zZ.iq 22 ?_; refine zZ.rqm _ K_1j K_2 (zZ.draws ?_); all_goals (refine Draws.v rfl rfl (zV rfl rfl rfl (by decide)) ?_); all_goals (refine Draws.v rfl rfl (zV rfl rfl rfl (by decide)) ?_); all_goals (refine Draws.v rfl rfl (zH rfl rfl rfl hco j6 rfl (by decide)) ?_); all_goals (refine Draws.v rfl rfl (yD rfl rfl rfl (by decide)) ?_); all_goals (refine Draws.v rfl rfl (zM rfl rfl rfl rfl (by decide)) ?_); all_goals (refine Draws.v rfl rfl (zV rfl rfl rfl (by decide)) ?_); all_goals (refine Draws.v rfl rfl (zV rfl rfl rfl (by decide)) ?_); all_goals (refine Draws.v rfl rfl (wB rfl rfl rfl j4 rfl (by decide)) ?_); all_goals (refine Draws.v rfl rfl (zH rfl rfl rfl hco j5 rfl (by decide)) ?_); all_goals (refine Draws.v rfl rfl (yD rfl rfl rfl (by decide)) ?_); all_goals (refine Draws.v rfl rfl (zM rfl rfl rfl rfl (by decide)) ?_); all_goals (refine Draws.v rfl rfl (zU rfl rfl rfl c1 rfl (by decide)) ?_); all_goals ((refine Draws.done (by kernel_rfl) (by kernel_rfl) (by kernel_rfl) ?_; refine zI.nil ?_))) | (refine zZ.iq 23 ?_; refine zZ.rqd _ K_1j K_2 ?_; refine zY.va rfl rfl rfl rfl (by decide) ?_; refine zY.va rfl rfl rfl rfl (by decide) ?_; refine zY.nil ?_) | refine zZ.yZ rfl (by first | assumption | with_reducible rfl) ?_ | refine zZ.skip ?_ | refine zZ.block ?_ | refine zZ.ret ?_) | refine zF.n ?_ | refine zF.r ?_ | refine zO.r ?_)
              all_goals exact ⟨.inl rfl, _, xM (d := 4) rfl, yR.qV (rs := [.tmp 4, .tmp 5]) rfl (by decide) (.cons (.tmp rfl) (.cons (.tmp rfl) .nil)) rfl⟩
            case false =>
              have hty : vK out = vK (out.drop (j + 1)) := by rw [hty, c1, Bool.false_or]
              repeat' (first | (refine zZ.is ?_; first | refine zZ.seq ?_ | (refine zZ.iq 20 ?_; refine zZ.rqd _ K_1j K_2 ?_; refine zY.vm rfl rfl rfl rfl (by decide) ?_; refine zY.vm rfl rfl rfl rfl (by decide) ?_; refine zY.v rfl rfl (yJ rfl rfl rfl (by decide)) ?_; refine zY.v rfl rfl (zR rfl rfl rfl j1 rfl (by decide)) ?_; refine zY.nil ?_) | (refine zZ.iq 22 ?_; refine zZ.rqm _ K_1j K_2 (zZ.draws ?_); all_goals (refine Draws.v rfl rfl (zV rfl rfl rfl (by decide)) ?_); all_goals (refine Draws.v rfl rfl (zV rfl rfl rfl (by decide)) ?_); all_goals (refine Draws.v rfl rfl (zH rfl rfl rfl hco j6 rfl (by decide)) ?_); all_goals (refine Draws.v rfl rfl (yD rfl rfl rfl (by decide)) ?_); all_goals (refine Draws.v rfl rfl (zM rfl rfl rfl rfl (by decide)) ?_); all_goals (refine Draws.v rfl rfl (zV rfl rfl rfl (by decide)) ?_); all_goals (refine Draws.v rfl rfl (zV rfl rfl rfl (by decide)) ?_); all_goals (refine Draws.v rfl rfl (wB rfl rfl rfl j4 rfl (by decide)) ?_); all_goals (refine Draws.v rfl rfl (zH rfl rfl rfl hco j5 rfl (by decide)) ?_); all_goals (refine Draws.v rfl rfl (yD rfl rfl rfl (by decide)) ?_); all_goals (refine Draws.v rfl rfl (zM rfl rfl rfl rfl (by decide)) ?_); all_goals (refine Draws.v rfl rfl (zU rfl rfl rfl c1 rfl (by decide)) ?_); all_goals ((refine Draws.done (by kernel_rfl) (by kernel_rfl) (by kernel_rfl) ?_; refine zI.nil ?_))) | (refine zZ.iq 21 ?_; refine zZ.rqd _ K_1j K_2 ?_; refine zY.vm rfl rfl rfl rfl (by decide) ?_; refine zY.v rfl rfl (yY rfl rfl rfl j3 rfl (by decide)) ?_; refine zY.va rfl rfl rfl rfl (by decide) ?_; refine zY.nil ?_) | refine zZ.yZ rfl (by first | assumption | with_reducible rfl) ?_ | refine zZ.yX rfl (by first | assumption | with_reducible rfl) ?_ | refine zZ.skip ?_ | refine zZ.block ?_) | refine zF.n ?_ | refine zO.n ?_)
              all_goals
                refine ⟨j + 1, ?_, ⟨.inr (by omega), hty⟩, by omega⟩
                try unfold rlT
                exact zB K_3e []
          case neg =>
            have j1 : decide (((j + 1 : Nat) : Int) < (((out.map zQ.V).length : Nat) : Int)) = false := decide_eq_false (by rw [holn]; omega)
            have hty : vK out = false := by rw [hty]; exact twiceY_short (by rw [List.length_drop]; omega)
            rw [hty]
            cases c1 : decide ((out.length : Int) > c)
            all_goals rw [← holn] at c1
            case true =>
              repeat' (first | (refine zZ.is ?_; first | refine zZ.seq ?_ | (refine zZ.iq 20 ?_; refine zZ.rqd _ K_1j K_2 ?_; refine zY.vm rfl rfl rfl rfl (by decide) ?_; refine zY.vm rfl rfl rfl rfl (by decide) ?_; refine zY.v rfl rfl (yJ rfl rfl rfl (by decide)) ?_; refine zY.v rfl rfl (zR rfl rfl rfl j1 rfl (by decide)) ?_; refine zY.nil ?_) | (refine zZ.iq 24 ?_; refine zZ.rqd _ K_2r K_2 ?_; refine zY.vm rfl rfl rfl rfl (by decide) ?_; refine zY.v rfl rfl (yJ rfl rfl rfl (by decide)) ?_; refine zY.vm rfl rfl rfl rfl (by decide) ?_; refine zY.v rfl rfl (wC rfl rfl rfl c1 rfl (by decide)) ?_; refine zY.nil ?_) | (refine zZ.iq 25 ?_; refine zZ.rqd _ K_3f K_2 ?_; refine zY.va rfl rfl rfl rfl (by decide) ?_; refine zY.va rfl rfl rfl rfl (by decide) ?_; refine zY.nil ?_) | refine zZ.yZ rfl (by first | assumption | with_reducible rfl) ?_ | refine zZ.yX rfl (by first | assumption | with_reducible rfl) ?_ | refine zZ.exit ?_ | refine zZ.ret ?_) | refine zF.n ?_ | refine zF.r ?_ | refine zO.eY ?_ | refine zF.e ?_)
              all_goals exact ⟨.inl rfl, _, xM (d := 4) rfl, yR.qV (rs := [.tmp 4, .tmp 5]) rfl (by decide) (.cons (.tmp rfl) (.cons (.tmp rfl) .nil)) rfl⟩
            case false =>
              repeat' (first | (refine zZ.is ?_; first | refine zZ.seq ?_ | (refine zZ.iq 20 ?_; refine zZ.rqd _ K_1j K_2 ?_; refine zY.vm rfl rfl rfl rfl (by decide) ?_; refine zY.vm rfl rfl rfl rfl (by decide) ?_; refine zY.v rfl rfl (yJ rfl rfl rfl (by decide)) ?_; refine zY.v rfl rfl (zR rfl rfl rfl j1 rfl (by decide)) ?_; refine zY.nil ?_) | (refine zZ.iq 24 ?_; refine zZ.rqd _ K_2r K_2 ?_; refine zY.vm rfl rfl rfl rfl (by decide) ?_; refine zY.v rfl rfl (yJ rfl rfl rfl (by decide)) ?_; refine zY.vm rfl rfl rfl rfl (by decide) ?_; refine zY.v rfl rfl (wC rfl rfl rfl c1 rfl (by decide)) ?_; refine zY.nil ?_) | (refine zZ.iq 26 ?_; refine zZ.rqd _ K_3f K_2 ?_; refine zY.vm rfl rfl rfl rfl (by decide) ?_; refine zY.va rfl rfl rfl rfl (by decide) ?_; refine zY.va rfl rfl rfl rfl (by decide) ?_; refine zY.nil ?_) | refine zZ.yX rfl (by first | assumption | with_reducible rfl) ?_ | refine zZ.skip ?_ | refine zZ.exit ?_ | refine zZ.ret ?_) | refine zF.n ?_ | refine zO.eY ?_ | refine zF.e ?_)
              all_goals exact ⟨.inl rfl, _, Sub.refl _, yR.qV (rs := [.tmp 4, .tmp 5]) rfl (by decide) (.cons (.tmp rfl) (.cons (.tmp rfl) .nil)) rfl⟩
end Go.Proofs.YtomlhekjgagjaaaDoor
namespace Go.Proofs.YtomlhekjgagjaaaDoor
set_option maxRecDepth 100000
set_option maxHeartbeats 16000000
open Go Go.RowKit
def no3 (L : List zQ) : Bool := L.all fun e => !decide (e.k = 3)
def all1 (L : List zQ) : Bool := L.all fun e => decide (e.k = 1)
def scanR (i : Nat) : Nat → Int → List zQ → Option (List zQ × Int)
  | _, left, [] => some ([], left)
  | k, left, e :: r =>
      bif (decide (e.k = 3) != (decide ((i : Int) = 0) && decide ((k : Int) = 0))) then none
      else bif decide (e.k = 3) then scanR i (k + 1) e.s r
      else bif decide (left > 0) then (bif decide (e.k = 1) then (scanR i (k + 1) (left - 1) r).map (fun q => (e :: q.1, q.2)) else none)
      else (scanR i (k + 1) left r).map (fun q => (e :: q.1, q.2))
theorem rowsR_scan (i : Nat) : ∀ (rows : List (List Int)) (k : Nat) (left : Int), vN i k left rows = if (decs rows).2 = true then scanR i k left (decs rows).1 else none
  | [], k, left => rfl
  | b :: r, k, left => by
    rw [rowsR_cons]
    unfold decs
    cases hd : decE b with
    | none => rfl
    | some e =>
      simp only []
      rw [rowsR_scan i r, rowsR_scan i r, rowsR_scan i r]
      rw [scanR]
      cases (decs r).2
      · simp only [Bool.false_eq_true, if_false, Option.map_none]
        cases (decide (e.k = 3) != (decide ((i : Int) = 0) && decide ((k : Int) = 0))) <;> cases decide (e.k = 3) <;> cases decide (left > 0) <;> cases decide (e.k = 1) <;> rfl
      · simp only [if_true]
theorem scan_tail (i : Nat) : ∀ (L : List zQ) (k : Nat) (left : Int), 0 ≤ left → ¬ (i = 0 ∧ k = 0) → scanR i k left L = if (no3 L && all1 (L.take left.toNat)) = true then some (L, left - (min left.toNat L.length : Nat)) else none
  | [], k, left, h, _ => by simp [scanR, no3, all1]
  | e :: r, k, left, h, hk => by
    have hf : (decide ((i : Int) = 0) && decide ((k : Int) = 0)) = false := by
      rw [Bool.and_eq_false_iff, decide_eq_false_iff_not, decide_eq_false_iff_not]
      omega
    rw [scanR, hf]
    by_cases h3 : e.k = 3
    · rw [decide_eq_true h3]
      simp [no3, h3]
    · rw [decide_eq_false h3]
      simp only [bne_self_eq_false, cond_false]
      by_cases hl : left > 0
      · rw [decide_eq_true hl, cond_true]
        have ht : left.toNat = (left - 1).toNat + 1 := by omega
        by_cases h1 : e.k = 1
        · rw [decide_eq_true h1, cond_true, scan_tail i r (k + 1) (left - 1) (by omega) (by omega), ht, List.take_succ_cons]
          have e1 : no3 (e :: r) = no3 r := by simp [no3, h3]
          have e2 : all1 (e :: r.take (left - 1).toNat) = all1 (r.take (left - 1).toNat) := by simp [all1, h1]
          rw [e1, e2]
          split
          · simp only [Option.map_some, List.length_cons, Option.some.injEq, Prod.mk.injEq, true_and]
            omega
          · rfl
        · rw [decide_eq_false h1, cond_false, ht, List.take_succ_cons]
          have e2 : all1 (e :: r.take (left - 1).toNat) = false := by simp [all1, h1]
          rw [e2, Bool.and_false]
          rfl
      · have h0 : left = 0 := by omega
        subst h0
        rw [decide_eq_false hl, cond_false, scan_tail i r (k + 1) 0 (by omega) (by omega)]
        have e1 : no3 (e :: r) = no3 r := by simp [no3, h3]
        rw [e1]
        simp only [Int.toNat_zero, List.take_zero, Nat.zero_min]
        cases no3 r && all1 [] <;> rfl
def streamR (i : Nat) (s : List Int) : Option (List zQ) := match vN i 0 0 (rowsOf s) with
    | none => none
    | some (l, left) => bif decide (left > 0) || (decide ((i : Int) = 0) && decide (((rowsOf s).length : Int) = 0)) then none else some l
theorem allL_stream (i : Nat) (s : List Int) (r : List (List Int)) : allL i (s :: r) = match streamR i s with
    | none => none
    | some l => (allL (i + 1) r).map (l ++ ·) := by
  rw [allL_cons]
  unfold streamR
  rcases vN i 0 0 (rowsOf s) with _ | ⟨l, left⟩
  · rfl
  · simp only []
    cases decide (left > 0) || (decide ((i : Int) = 0) && decide (((rowsOf s).length : Int) = 0)) <;> rfl
theorem decs_len : ∀ (rows : List (List Int)), (decs rows).2 = true → (decs rows).1.length = rows.length
  | [], _ => rfl
  | b :: r, h => by
    unfold decs at h ⊢
    cases hd : decE b with
    | none => rw [hd] at h; cases h
    | some e =>
      rw [hd] at h
      simp only [List.length_cons]
      rw [decs_len r h]
theorem stream_eq (i : Nat) {s : List Int} (hb : xW s) : streamR i s = if ((yG i s).2 && no3 (yG i s).1) = true then some (yG i s).1 else none := by
  have hok := entsOf_ok hb
  have hln := decs_len (rowsOf s)
  unfold streamR yG
  rw [rowsR_scan]
  unfold vY at *
  generalize decs (rowsOf s) = D at *
  obtain ⟨L, b⟩ := D
  cases b
  case false =>
    simp
  case true =>
    simp only [if_true] at *
    have hln := hln trivial
    by_cases hi : i = 0
    · subst hi
      simp only [and_true, if_true]
      cases L with
      | nil =>
        rw [← hln]
        rfl
      | cons h r =>
        have h0 : 0 ≤ h.s := (hok.1 h (by simp)).1.s.1
        have hle : decide (((rowsOf s).length : Int) = 0) = false := decide_eq_false (by rw [← hln, List.length_cons]; omega)
        rw [hle]
        have hh : headOf (h :: r) = if h.k = 3 then if (r.length : Int) < h.s then ([], false) else (r, (r.take h.s.toNat).all fun e => decide (e.k = 1)) else ([], false) := rfl
        rw [hh, scanR]
        by_cases h3 : h.k = 3
        · rw [if_pos h3, decide_eq_true h3, scan_tail 0 r 1 h.s h0 (by omega)]
          have e0 : (true != (decide (((0 : Nat) : Int) = 0) && decide (((0 : Nat) : Int) = 0))) = false := rfl
          rw [e0, cond_false, cond_true]
          by_cases hlt : (r.length : Int) < h.s
          · rw [if_pos hlt]
            split
            · rename_i heq
              split at heq
              · cases heq
              · rfl
            · rename_i heq
              split at heq
              · cases heq
                rw [decide_eq_true (by omega)]
                rfl
              · cases heq
          · rw [if_neg hlt]
            show (match (if (no3 r && all1 (r.take h.s.toNat)) = true then some (r, h.s - (min h.s.toNat r.length : Nat)) else none) with | none => none | some (l, left) => _) = if (all1 (r.take h.s.toNat) && no3 r) = true then some r else none
            rw [Bool.and_comm (all1 _)]
            cases no3 r && all1 (r.take h.s.toNat)
            · rfl
            · simp only [if_true]
              rw [decide_eq_false (by omega)]
              rfl
        · rw [if_neg h3, decide_eq_false h3]
          rfl
    · have e3 : (if i = 0 ∧ True then headOf L else (L, true)) = (L, true) := if_neg (fun e => hi e.1)
      rw [e3, scan_tail i L 0 0 (by omega) (by omega)]
      have e1 : decide ((i : Int) = 0) = false := decide_eq_false (by omega)
      rw [e1]
      simp only [Int.toNat_zero, List.take_zero, Nat.zero_min, Bool.true_and]
      have e2 : all1 [] = true := rfl
      rw [e2, Bool.and_true]
      cases no3 L
      · rfl
      · simp
theorem gput_stays {g : GD} (e : zQ) (h : g.bad = true) : (gput g e).bad = true := by
  unfold gput
  split
  · simp [h]
  · split
    · exact h
    · rfl
theorem gputs_bad : ∀ (L : List zQ) {g : GD}, g.bad = true → (L.foldl gput g).bad = true
  | [], g, h => h
  | e :: r, g, h => gputs_bad r (gput_stays e h)
theorem gputs_three : ∀ (L : List zQ) (g : GD), no3 L = false → (L.foldl gput g).bad = true
  | [], g, h => by cases h
  | e :: r, g, h => by
    by_cases h3 : e.k = 3
    · refine gputs_bad r ?_
      unfold gput
      rw [if_neg (by omega), if_neg (by omega)]
    · refine gputs_three r _ ?_
      simpa [no3, h3] using h
theorem gfrom_bad : ∀ (ss : List (List Int)) {g : GD} (i : Nat), g.bad = true → (gfrom g i ss).bad = true
  | [], g, i, h => h
  | s :: r, g, i, h => gfrom_bad r (i + 1) (gputs_bad _ (by simp [h]))
theorem gfrom_all : ∀ (ss : List (List Int)) (g : GD) (i : Nat), (∀ s ∈ ss, xW s) → match allL i ss with
    | none => (gfrom g i ss).bad = true
    | some l => gfrom g i ss = l.foldl gput g ∨ ((gfrom g i ss).bad = true ∧ (l.foldl gput g).bad = true)
  | [], g, i, _ => .inl rfl
  | s :: r, g, i, hb => by
    rw [allL_stream, stream_eq i (hb s (by simp))]
    unfold gfrom
    have ih := fun g' => gfrom_all r g' (i + 1) fun c hc => hb c (by simp [hc])
    unfold gstep
    obtain ⟨L, b⟩ := yG i s
    cases b
    · exact gfrom_bad r _ (gputs_bad _ (by simp))
    · cases h3 : no3 L
      · exact gfrom_bad r _ (gputs_three _ _ h3)
      · simp only [Bool.true_and, if_true]
        have e1 : ({ g with bad := g.bad || !true } : GD) = g := by simp
        rw [e1]
        have h := ih (L.foldl gput g)
        generalize allL (i + 1) r = A at h ⊢
        cases A with
        | none => exact h
        | some l =>
          show _ ∨ _
          rw [List.foldl_append]
          exact h
def G0 : GD := ⟨[], [], false⟩
theorem gather_all (ss : List (List Int)) (hb : ∀ s ∈ ss, xW s) : match allR ss with
    | none => (xA ss).bad = true
    | some l => xA ss = l.foldl gput G0 ∨ ((xA ss).bad = true ∧ (l.foldl gput G0).bad = true) := by
  unfold xA allR
  by_cases hz : ss.length = 0
  · rw [if_pos hz]
    exact gfrom_bad ss 0 (by simp [hz])
  · rw [if_neg hz]
    have e1 : (⟨[], [], decide (ss.length = 0)⟩ : GD) = G0 := by rw [decide_eq_false hz]; rfl
    rw [e1]
    exact gfrom_all ss G0 0 hb
theorem bget_put (e : zQ) : ∀ (B : List zQ), bget B e.s = some e → bput B e = B
  | [], h => by cases h
  | x :: r, h => by
    unfold bget at h
    unfold bput
    split
    · rename_i hs
      rw [if_pos hs] at h
      rw [Option.some.inj h]
    · rename_i hs
      rw [if_neg hs] at h
      rw [bget_put e r h]
theorem bget_new (e : zQ) : ∀ (B : List zQ), bget B e.s = none → bput B e = B ++ [e]
  | [], h => rfl
  | x :: r, h => by
    unfold bget at h
    unfold bput
    split
    · rename_i hs
      rw [if_pos hs] at h
      cases h
    · rename_i hs
      rw [if_neg hs] at h
      rw [bget_new e r h]
      rfl
theorem bget_append : ∀ (A B : List zQ) (j : Int), bget (A ++ B) j = (bget A j).or (bget B j)
  | [], B, j => by simp [bget]
  | x :: r, B, j => by
    simp only [List.cons_append, bget]
    split
    · rfl
    · exact bget_append r B j
theorem hadP_append : ∀ (A B : List zQ) (e : zQ), qW (A ++ B) e = (qW A e || qW B e)
  | [], B, e => by simp [qW]
  | x :: r, B, e => by simp only [List.cons_append, qW]; rw [hadP_append r B e, Bool.or_assoc]
theorem clashP_append : ∀ (A B : List zQ) (e : zQ), y9 (A ++ B) e = (y9 A e || y9 B e)
  | [], B, e => by simp [y9]
  | x :: r, B, e => by simp only [List.cons_append, y9]; rw [clashP_append r B e, Bool.or_assoc]
theorem deadR_append : ∀ (A B : List zQ) (j : Int), qX (A ++ B) j = (qX A j || qX B j)
  | [], B, e => by simp [qX]
  | x :: r, B, e => by simp only [List.cons_append, qX]; rw [deadR_append r B e, Bool.or_assoc]
theorem vfind_append : ∀ (A B : List zQ) (j w : Int), vfind (A ++ B) j w = (vfind A j w || vfind B j w)
  | [], B, j, w => by simp [vfind]
  | x :: r, B, j, w => by simp only [List.cons_append, vfind]; rw [vfind_append r B j w, Bool.or_assoc]
structure Knows (P : List zQ) (g : GD) : Prop where
  had : ∀ e : zQ, e.k = 1 → qW P e = (bget g.born e.s).isSome
  clash : ∀ e : zQ, e.k = 1 → y9 P e = g.clash e
  dead : ∀ j, 0 ≤ (dget g.dead j).getD 0 ∧ (qX P j = decide ((dget g.dead j).getD 0 > 0))
  vert : ∀ j w, vfind P j w = match bget g.born j with
    | some x => decide (x.y = w)
    | none => false
  one : ∀ e ∈ g.born, e.k = 1
theorem Knows.start : Knows [] G0 := ⟨fun e _ => rfl, fun e _ => rfl, fun j => ⟨Int.le_refl 0, rfl⟩, fun j w => rfl, fun e he => by cases he⟩
theorem hadP_one (x e : zQ) (hk : e.k = 1) (hx : x.k = 1) : qW [x] e = decide (x.s = e.s) := by
  simp [qW, hk, hx]
theorem clashP_one (x e : zQ) (hk : e.k = 1) (hx : x.k = 1) : y9 [x] e = (decide (x.s = e.s) && !decide (x = e)) := by
  simp [y9, hk, hx]
theorem Knows.birth {P : List zQ} {g : GD} (h : Knows P g) {e : zQ} (hk : e.k = 1) (hc : y9 P e = false) : Knows (P ++ [e]) (gput g e) ∧ (gput g e).bad = g.bad ∧ (gput g e).born = if qW P e = true then g.born else g.born ++ [e] := by
  have hgc := h.clash e hk
  rw [hc] at hgc
  have hb : (gput g e).bad = g.bad := by unfold gput; rw [if_pos hk]; simp [← hgc]
  have hd : (gput g e).dead = g.dead := by unfold gput; rw [if_pos hk]
  have hbo : (gput g e).born = if qW P e = true then g.born else g.born ++ [e] := by
    unfold gput
    rw [if_pos hk, h.had e hk]
    unfold GD.clash at hgc
    cases hbg : bget g.born e.s with
    | none => simpa using bget_new e _ hbg
    | some x =>
      rw [hbg] at hgc
      simp only [Bool.false_eq, Bool.not_eq_false', decide_eq_true_eq] at hgc
      subst hgc
      simpa using bget_put x _ hbg
  have hget : ∀ j, bget (gput g e).born j = (bget g.born j).or (if e.s = j then some e else none) := fun j => by
    rw [hbo, h.had e hk]
    cases hbg : bget g.born e.s with
    | none =>
      simp only [Option.isSome_none, Bool.false_eq_true, if_false]
      rw [bget_append]
      rfl
    | some x =>
      simp only [Option.isSome_some, if_true]
      by_cases hj : e.s = j
      · subst hj
        rw [hbg]
        rfl
      · rw [if_neg hj, Option.or_none]
  refine ⟨⟨fun d hdk => ?_, fun d hdk => ?_, fun j => ?_, fun j w => ?_, ?_⟩, hb, hbo⟩
  · rw [hadP_append, h.had d hdk, hget, hadP_one e d hdk hk]
    by_cases hs : e.s = d.s
    · rw [if_pos hs, decide_eq_true hs]; cases bget g.born d.s <;> rfl
    · rw [if_neg hs, decide_eq_false hs]; cases bget g.born d.s <;> rfl
  · rw [clashP_append, h.clash d hdk, clashP_one e d hdk hk]
    unfold GD.clash
    rw [hget]
    by_cases hs : e.s = d.s
    · rw [if_pos hs, decide_eq_true hs]
      have hge := hgc
      unfold GD.clash at hge
      rw [hs] at hge
      cases hbg : bget g.born d.s with
      | none => simp
      | some x =>
        rw [hbg] at hge
        simp only [Bool.false_eq, Bool.not_eq_false', decide_eq_true_eq] at hge
        subst hge
        simp
    · rw [if_neg hs, decide_eq_false hs]; cases bget g.born d.s <;> simp
  · rw [hd, deadR_append]
    refine ⟨(h.dead j).1, ?_⟩
    rw [(h.dead j).2]
    simp [qX, hk]
  · rw [vfind_append, h.vert j w, hget]
    have hv1 : vfind [e] j w = (decide (e.s = j) && decide (e.y = w)) := by simp [vfind, hk]
    rw [hv1]
    by_cases hs : e.s = j
    · rw [if_pos hs, decide_eq_true hs]
      have hge := hgc
      unfold GD.clash at hge
      rw [hs] at hge
      cases hbg : bget g.born j with
      | none => simp
      | some x =>
        rw [hbg] at hge
        simp only [Bool.false_eq, Bool.not_eq_false', decide_eq_true_eq] at hge
        subst hge
        simp
    · rw [if_neg hs, decide_eq_false hs]; cases bget g.born j <;> simp
  · rw [hbo]
    intro d hd'
    split at hd'
    · exact h.one d hd'
    · rcases List.mem_append.1 hd' with hd' | hd'
      · exact h.one d hd'
      · rw [List.mem_singleton] at hd'; subst hd'; exact hk
theorem Knows.death {P : List zQ} {g : GD} (h : Knows P g) {e : zQ} (hk : e.k = 2) : Knows (P ++ [e]) (gput g e) ∧ (gput g e).bad = g.bad ∧ (gput g e).born = g.born := by
  have hn1 : ¬ e.k = 1 := by omega
  have hg : gput g e = { g with dead := dset g.dead e.s ((dget g.dead e.s).getD 0 + 1) } := by unfold gput; rw [if_neg hn1, if_pos hk]
  rw [hg]
  refine ⟨⟨fun d hdk => ?_, fun d hdk => ?_, fun j => ?_, fun j w => ?_, h.one⟩, rfl, rfl⟩
  · rw [hadP_append, h.had d hdk]; simp [qW, hn1]
  · rw [clashP_append, h.clash d hdk]; simp [y9, hn1, GD.clash]
  · show 0 ≤ (dget (dset g.dead e.s ((dget g.dead e.s).getD 0 + 1)) j).getD 0 ∧ qX (P ++ [e]) j = decide ((dget (dset g.dead e.s ((dget g.dead e.s).getD 0 + 1)) j).getD 0 > 0)
    have hj := h.dead j
    have hs := h.dead e.s
    rw [dget_set, deadR_append]
    have hd1 : qX [e] j = decide (e.s = j) := by simp [qX, hk]
    rw [hd1]
    by_cases hsj : e.s = j
    · rw [if_pos hsj, decide_eq_true hsj, Bool.or_true]
      refine ⟨?_, ?_⟩
      · show 0 ≤ (dget g.dead e.s).getD 0 + 1
        omega
      · show true = decide ((dget g.dead e.s).getD 0 + 1 > 0)
        rw [decide_eq_true (by omega)]
    · rw [if_neg hsj, decide_eq_false hsj, Bool.or_false]
      exact hj
  · rw [vfind_append, h.vert j w]; simp [vfind, hn1]
theorem ref_way (l : List zQ) : ∀ (r P : List zQ) (g : GD), Knows P g → g.bad = false → (∀ e ∈ r, e.k = 1 ∨ e.k = 2) →
    refGo l P r ((g.born.filter (livesR l)).foldl (fun o e => insY e o) []) = (if (r.foldl gput g).bad = true then none else some (((r.foldl gput g).born.filter (livesR l)).foldl (fun o e => insY e o) []))
      ∧ ((r.foldl gput g).bad = false → Knows (P ++ r) (r.foldl gput g))
  | [], P, g, h, hb, _ => by
    refine ⟨?_, fun _ => by rw [List.append_nil]; exact h⟩
    show some _ = if g.bad = true then none else some _
    rw [if_neg (by rw [hb]; decide)]
    rfl
  | e :: r, P, g, h, hb, hk => by
    have hk2 : ∀ d ∈ r, d.k = 1 ∨ d.k = 2 := fun d hd => hk d (by simp [hd])
    rw [List.foldl_cons]
    unfold refGo
    rcases hk e (by simp) with h1 | h2
    · cases hc : y9 P e
      · obtain ⟨hk', hb', hbo⟩ := h.birth h1 hc
        have ih := ref_way l r (P ++ [e]) (gput g e) hk' (by rw [hb', hb]) hk2
        rw [List.append_assoc] at ih
        refine ⟨?_, ih.2⟩
        rw [← ih.1, if_neg (by decide), hbo]
        congr 1
        cases hh : qW P e
        · simp only [Bool.not_false, Bool.and_true, Bool.false_eq_true, if_false, List.filter_append, List.foldl_append, List.filter_cons, List.filter_nil]
          cases livesR l e <;> rfl
        · simp
      · have hgc := h.clash e h1
        rw [hc] at hgc
        have : (gput g e).bad = true := by unfold gput; rw [if_pos h1]; simp [← hgc]
        rw [gputs_bad r this]
        exact ⟨rfl, fun h => by cases h⟩
    · obtain ⟨hk', hb', hbo⟩ := h.death h2
      have ih := ref_way l r (P ++ [e]) (gput g e) hk' (by rw [hb', hb]) hk2
      rw [List.append_assoc] at ih
      refine ⟨?_, ih.2⟩
      have hn1 : ¬ e.k = 1 := by omega
      have hnc : y9 P e = false := by
        have : ∀ P : List zQ, y9 P e = false := by
          intro P
          induction P with
          | nil => rfl
          | cons x r ih => unfold y9; rw [ih, decide_eq_false hn1]; rfl
        exact this P
      have hnl : livesR l e = false := by unfold livesR; rw [decide_eq_false hn1]; rfl
      rw [hnc, hnl, ← ih.1, hbo]
      rfl
theorem lives_eq {l : List zQ} {g : GD} (h : Knows l g) {e : zQ} (he : e.k = 1) : livesR l e = g.live e := by
  have hv : ∀ j u, vertR l j u = g.vert j u := fun j u => by
    unfold vertR GD.vert
    rw [h.vert j, (h.dead j).2]
    have h0 := (h.dead j).1
    cases bget g.born j with
    | none => simp
    | some x =>
      simp only []
      congr 1
      by_cases hz : (dget g.dead j).getD 0 = 0
      · rw [decide_eq_true hz, decide_eq_false (by omega)]; rfl
      · rw [decide_eq_false hz, decide_eq_true (by omega)]; rfl
  unfold livesR GD.live
  rw [hv, hv, (h.dead e.s).2, decide_eq_true he, Bool.true_and]
theorem twiceY_sorted : ∀ (O : List zQ), O.Pairwise (fun a b => a.y ≤ b.y) → (vK O = false ↔ SortY O)
  | [], _ => by simp [vK, SortY]
  | [a], _ => by simp [vK, SortY]
  | a :: b :: r, h => by
    have h1 := List.pairwise_cons.1 h
    have ih := twiceY_sorted (b :: r) h1.2
    have hab := h1.1 b (by simp)
    unfold vK
    rw [Bool.or_eq_false_iff, ih, decide_eq_false_iff_not]
    constructor
    · rintro ⟨hne, hs⟩
      refine List.pairwise_cons.2 ⟨fun c hc => ?_, hs⟩
      rcases List.mem_cons.1 hc with rfl | hc
      · omega
      · have := (List.pairwise_cons.1 h1.2).1 c hc; omega
    · intro hs
      have h2 := List.pairwise_cons.1 hs
      exact ⟨fun e => by have := h2.1 b (by simp); omega, h2.2⟩
theorem foldl_ins : ∀ (F o : List zQ), o.Pairwise (fun a b => a.y ≤ b.y) → (F.foldl (fun o e => insY e o) o).Pairwise (fun a b => a.y ≤ b.y) ∧ (F.foldl (fun o e => insY e o) o).Perm (F ++ o)
  | [], o, h => ⟨h, .refl _⟩
  | e :: r, o, h => by
    have ih := foldl_ins r (insY e o) (insY_sorted e o h)
    refine ⟨ih.1, ih.2.trans ?_⟩
    exact ((insY_perm e o).append_left r).trans List.perm_middle
theorem live_ref (F : List zQ) (c : Int) : (if (vK (F.foldl (fun o e => insY e o) []) || decide (((F.foldl (fun o e => insY e o) []).length : Int) > c)) = true then (([] : List zQ), (8 : Int)) else (F.foldl (fun o e => insY e o) [], 0)) = liveF F c := by
  have h := foldl_ins F [] .nil
  rw [List.append_nil] at h
  generalize F.foldl (fun o e => insY e o) [] = O at h ⊢
  obtain ⟨hs, hp⟩ := h
  have ht := twiceY_sorted O hs
  have hn : (F.map (·.y)).Nodup ↔ SortY O := by
    constructor
    · intro hF
      have hO : (O.map (·.y)).Nodup := (hp.symm.map (·.y)).nodup hF
      have h1 := List.pairwise_map.1 hO
      exact (h1.and hs).imp fun h => by have := h.1; have := h.2; omega
    · intro hO
      exact (hp.map (·.y)).nodup hO.nodup
  have hF : (F.map (·.y)).Nodup ↔ vK O = false := hn.trans ht.symm
  have hlen := hp.length_eq
  unfold liveF
  cases htw : vK O
  · rw [Bool.false_or]
    by_cases hc : (O.length : Int) > c
    · rw [if_pos (decide_eq_true hc), if_neg (fun e => by have := e.2.1; omega)]
    · rw [if_neg (by rw [decide_eq_true_eq]; exact hc), if_pos ⟨by omega, by omega, hF.2 htw⟩, sort_uniq (ht.1 htw) hp]
  · rw [Bool.true_or, if_pos rfl, if_neg (fun e => by have := hF.1 e.2.2; rw [htw] at this; cases this)]
theorem all_kinds : ∀ (ss : List (List Int)) (i : Nat) (l : List zQ), (∀ s ∈ ss, xW s) → allL i ss = some l → (∀ e ∈ l, (e.k = 1 ∨ e.k = 2) ∧ e.ok ∧ e.may = true) ∧ l.length ≤ total ss
  | [], i, l, _, h => by
    obtain rfl := Option.some.inj (show some [] = some l from h)
    exact ⟨fun e he => (by cases he), Nat.zero_le _⟩
  | s :: r, i, l, hb, h => by
    rw [allL_stream, stream_eq i (hb s (by simp))] at h
    have hs := streamEnts_ok (i := i) (hb s (by simp))
    generalize yG i s = E at *
    obtain ⟨L, b⟩ := E
    cases b
    · cases h
    · cases h3 : no3 L
      · rw [h3] at h; cases h
      · rw [h3] at h
        simp only [Bool.and_self, if_true] at h
        cases hA : allL (i + 1) r with
        | none => rw [hA] at h; cases h
        | some m =>
          rw [hA] at h
          obtain rfl := Option.some.inj (show some (L ++ m) = some l from h)
          have ih := all_kinds r (i + 1) m (fun c hc => hb c (by simp [hc])) hA
          refine ⟨fun e he => ?_, ?_⟩
          · rcases List.mem_append.1 he with he | he
            · have h1 := hs.1 e he
              refine ⟨?_, h1⟩
              have h4 : ¬ e.k = 3 := by
                have := List.all_eq_true.1 h3 e he
                simpa using this
              have h5 := h1.2
              unfold zQ.may mayB at h5
              by_cases k1 : e.k = 1
              · exact .inl k1
              · by_cases k2 : e.k = 2
                · exact .inr k2
                · exfalso
                  simp [k1, k2, h4] at h5
            · exact ih.1 e he
          · have h6 := hs.2
            have h7 := ih.2
            simp only [total, List.map_cons, List.sum_cons, List.length_append] at *
            omega
theorem ref_live (ss : List (List Int)) (c : Int) (hb : ∀ s ∈ ss, xW s) : refL ss c = liveL ss c := by
  have hg := gather_all ss hb
  unfold refL liveL
  cases hA : allR ss with
  | none =>
    rw [hA] at hg
    rw [if_pos hg]
  | some l =>
    rw [hA] at hg
    have hkd : ∀ e ∈ l, e.k = 1 ∨ e.k = 2 := by
      unfold allR at hA
      split at hA
      · cases hA
      · exact fun e he => ((all_kinds ss 0 l hb hA).1 e he).1
    have hw := ref_way l l [] G0 .start rfl hkd
    have e0 : (G0.born.filter (livesR l)).foldl (fun o e => insY e o) [] = [] := rfl
    rw [e0, List.nil_append] at hw
    simp only []
    rw [hw.1]
    have hg' : (l.foldl gput G0).bad = (xA ss).bad ∧ ((l.foldl gput G0).bad = false → xA ss = l.foldl gput G0) := by
      rcases hg with hg | ⟨h1, h2⟩
      · rw [hg]; exact ⟨rfl, fun _ => rfl⟩
      · rw [h1, h2]; exact ⟨rfl, fun h => by cases h⟩
    rw [← hg'.1]
    cases hbad : (l.foldl gput G0).bad
    · have hk := hw.2 hbad
      rw [hg'.2 hbad, if_neg (by decide), if_neg (by decide)]
      have hF : (l.foldl gput G0).born.filter (livesR l) = (l.foldl gput G0).lives := by
        unfold GD.lives
        exact List.filter_congr fun e he => lives_eq hk (hk.one e he)
      rw [hF]
      exact live_ref _ c
    · rw [if_pos rfl, if_pos rfl]
end Go.Proofs.YtomlhekjgagjaaaDoor
namespace Go.Proofs.YtomlhekjgagjaaaDoor
set_option maxRecDepth 100000
set_option maxHeartbeats 16000000
open Go Go.RowKit
attribute [local irreducible] zY zZ Step zA Sub zI yV Fn zF zO
def fbS (ss : List (List Int)) (p : Nat × Int) : AS := { t := [(0, .p (wN ss)), (3, .p (.val (.int .i64 p.2))), (4, .p (.val (.int .i64 (p.1 : Nat))))], s := [] }
theorem few_big_fn (ss : List (List Int)) (h8 : 8 < ss.length) (hn : ss.length ≤ 10000000000000) : Fn Tryd.prog 11 [wN ss] (.p (.val (.bool false))) := by
 have hlen : (ss.map fun s => PV.sl (byts s)).length = ss.length := by rw [List.length_map]
 have hcells : ∀ e ∈ ss.map (fun s => PV.sl (byts s)), e.cells.length = 1 := fun e he => by
  obtain ⟨b, _, rfl⟩ := List.mem_map.1 he
  rfl
 refine wL Tryd.func11 rfl Tryd.ntmps11 (Nat.le_of_ble_eq_true rfl) ?_
 unfold wN
 repeat' (first | (refine zZ.is ?_; first | refine zZ.seq ?_ | (refine zZ.isR (id := 0) ?_; refine zZ.zK [0] [] (by repeat' first | exact zX.nil | apply zX.p rfl) (by repeat' exact zW.nil) ?_; refine zY.va rfl rfl rfl rfl (by decide) ?_; refine zY.nil ?_) | (refine zZ.isR (id := 1) ?_; refine zZ.zK [0, 2] [] (by repeat' first | exact zX.nil | apply zX.p rfl) (by repeat' exact zW.nil) ?_; refine zY.va rfl rfl rfl rfl (by decide) ?_; refine zY.nil ?_) | (refine zZ.isR (id := 2) ?_; refine zZ.zK [0, 2, 3] [] (by repeat' first | exact zX.nil | apply zX.p rfl) (by repeat' exact zW.nil) ?_; refine zY.va rfl rfl rfl rfl (by decide) ?_; refine zY.nil ?_) | refine zZ.block ?_) | refine zF.n ?_)
 refine zZ.loop (fbS ss) (fun p => p.1 ≤ ss.length) (fun p => ss.length - p.1) (0, 0) ?h0 (Nat.zero_le _) ?rd
 case h0 =>
  unfold fbS wN
  exact zB K_w []
 case rd =>
  rintro ⟨i, n⟩ hi
  simp only at hi
  have g3 : IntKind.i64.wrap (((i : Nat) : Int) + 1) = ((i + 1 : Nat) : Int) := by rw [wrap_i64 _ (by omega)]; omega
  unfold fbS wN
  dsimp only
  by_cases hlt : i < ss.length
  case pos =>
   have g1 : decide (((i : Nat) : Int) < (((ss.map fun s => PV.sl (byts s)).length : Nat) : Int)) = true := decide_eq_true (by rw [hlen]; omega)
   obtain ⟨b, hbi⟩ : ∃ b, ss[i]? = some b := ⟨_, List.getElem?_eq_getElem hlt⟩
   have g2 : (ss.map fun b => PV.sl (byts b))[i]? = some (.sl (byts b)) := by rw [List.getElem?_map, hbi]; rfl
   obtain ⟨m, g4⟩ : ∃ m, IntKind.i64.wrap (n + (b.length : Nat)) = m := ⟨_, rfl⟩
   repeat' (first | (refine zZ.is ?_; first | refine zZ.seq ?_ | (refine zZ.isR (id := 3) ?_; refine zZ.zK [0, 2, 3, 4, 8] [] (by repeat' first | exact zX.nil | apply zX.p rfl | apply zX.skip) (by repeat' exact zW.nil) ?_; refine zY.vm rfl rfl rfl rfl (by decide) ?_; refine zY.vm rfl rfl rfl rfl (by decide) ?_; refine zY.v rfl rfl (yJ rfl rfl rfl (by decide)) ?_; refine zY.v rfl rfl (zR rfl rfl rfl g1 rfl (by decide)) ?_; refine zY.nil ?_) | (refine zZ.isR (id := 5) ?_; refine zZ.zK [0, 2, 3, 4, 8] [] (by repeat' first | exact zX.nil | apply zX.p rfl | apply zX.skip) (by repeat' exact zW.nil) ?_; refine zY.vm rfl rfl rfl rfl (by decide) ?_; refine zY.vm rfl rfl rfl rfl (by decide) ?_; refine zY.vm rfl rfl rfl rfl (by decide) ?_; refine zY.v rfl rfl (zH rfl rfl rfl hcells g2 rfl (by decide)) ?_; refine zY.v rfl rfl (zM rfl rfl rfl rfl (by decide)) ?_; refine zY.v rfl rfl (xB rfl rfl rfl (by decide)) ?_; refine zY.v rfl rfl (yY rfl rfl rfl g4 rfl (by decide)) ?_; refine zY.va rfl rfl rfl rfl (by decide) ?_; refine zY.nil ?_) | (refine zZ.isR (id := 4) ?_; refine zZ.zK [0, 2, 3, 4, 8] [] (by repeat' first | exact zX.nil | apply zX.p rfl | apply zX.skip) (by repeat' exact zW.nil) ?_; refine zY.vm rfl rfl rfl rfl (by decide) ?_; refine zY.v rfl rfl (yY rfl rfl rfl g3 rfl (by decide)) ?_; refine zY.va rfl rfl rfl rfl (by decide) ?_; refine zY.nil ?_) | refine zZ.yZ rfl (by first | assumption | with_reducible rfl) ?_ | refine zZ.skip ?_ | refine zZ.block ?_) | refine zF.n ?_ | refine zO.n ?_)
   all_goals
    refine ⟨(i + 1, m), ?_, hlt, by show ss.length - (i + 1) < ss.length - i; omega⟩
    try unfold fbS wN
    exact zB K_w []
  case neg =>
   have hie : i = ss.length := by omega
   subst hie
   have g1 : decide (((ss.length : Nat) : Int) < (((ss.map fun s => PV.sl (byts s)).length : Nat) : Int)) = false := decide_eq_false (by rw [hlen]; omega)
   have k1 : decide ((((ss.map fun s => PV.sl (byts s)).length : Nat) : Int) ≤ 8) = false := decide_eq_false (by rw [hlen]; omega)
   repeat' (first | (refine zZ.is ?_; first | refine zZ.seq ?_ | (refine zZ.isR (id := 3) ?_; refine zZ.zK [0, 2, 3, 4, 8] [] (by repeat' first | exact zX.nil | apply zX.p rfl | apply zX.skip) (by repeat' exact zW.nil) ?_; refine zY.vm rfl rfl rfl rfl (by decide) ?_; refine zY.vm rfl rfl rfl rfl (by decide) ?_; refine zY.v rfl rfl (yJ rfl rfl rfl (by decide)) ?_; refine zY.v rfl rfl (zR rfl rfl rfl g1 rfl (by decide)) ?_; refine zY.nil ?_) | (refine zZ.isR (id := 6) ?_; refine zZ.zK [0, 2, 3] [] (by repeat' first | exact zX.nil | apply zX.p rfl | apply zX.skip) (by repeat' exact zW.nil) ?_; all_goals (refine zY.vm rfl rfl rfl rfl (by decide) ?_); all_goals (refine zY.v rfl rfl (yJ rfl rfl rfl (by decide)) ?_); all_goals (refine zY.v rfl rfl (r_leq rfl rfl rfl k1 rfl (by decide)) ?_); all_goals (refine zY.vm rfl rfl rfl rfl (by decide) ?_); all_goals (refine zY.gnT rfl rfl (by decide) rfl (by rfl) rfl (by decide) ?_); all_goals (refine zY.gnT rfl rfl (by decide) rfl (by rfl) rfl (by decide) ?_); all_goals (refine zY.v rfl rfl (zL rfl rfl (by rfl) rfl rfl (by decide)) ?_); all_goals (refine zY.va rfl rfl rfl rfl (by decide) ?_); all_goals (refine zY.nil ?_)) | refine zZ.yX rfl (by first | assumption | with_reducible rfl) ?_ | refine zZ.exit ?_ | refine zZ.ret ?_) | refine zF.n ?_ | refine zO.eY ?_ | refine zF.e ?_)
   all_goals exact ⟨.inl rfl, gives1 rfl rfl rfl⟩
end Go.Proofs.YtomlhekjgagjaaaDoor
namespace Go.Proofs.YtomlhekjgagjaaaDoor
set_option maxRecDepth 100000
set_option maxHeartbeats 16000000
open Go Go.RowKit
attribute [local irreducible] zY zZ Step zA Sub zI yV Fn zF zO
theorem total_of : ∀ (ss : List (List Int)) (R : Nat), (∀ s ∈ ss, s.length ≤ R) → total ss ≤ ss.length * R
  | [], R, _ => by simp [total]
  | s :: r, R, h => by
    have h1 := h s (by simp)
    have h2 := total_of r R fun c hc => h c (by simp [hc])
    simp only [total, List.map_cons, List.sum_cons, List.length_cons] at *
    rw [Nat.add_mul]
    omega
theorem liveL_len (ss : List (List Int)) (c : Int) (hb : ∀ s ∈ ss, xW s) : (liveL ss c).1.length ≤ total ss := by
  have hk := (born_ok ss hb).1
  have hf : (xA ss).lives.length ≤ (xA ss).born.length := List.length_filter_le _ _
  unfold liveL
  split
  · exact Nat.zero_le _
  · unfold liveF
    split
    · rw [(isort_perm _).length_eq]
      omega
    · exact Nat.zero_le _
theorem few_any (ss : List (List Int)) (hb : ∀ s ∈ ss, xW s ∧ s.length ≤ 140737488351232) (hn : ss.length * 24 ≤ 140737488351232) : Fn Tryd.prog 11 [wN ss] (.p (.val (.bool (fewL ss)))) := by
  by_cases h8 : 8 < ss.length
  · have hf : fewL ss = false := by unfold fewL; rw [decide_eq_false (by omega)]; rfl
    rw [hf]
    exact few_big_fn ss h8 (by omega)
  · have ht := total_of ss 140737488351232 fun s hs => (hb s hs).2
    have h9 : ss.length * 140737488351232 ≤ 8 * 140737488351232 := Nat.mul_le_mul_right _ (by omega)
    exact few_fn ss (by omega) (by omega)
theorem mtells_fn (ss : List (List Int)) (c : Int) (hb : ∀ s ∈ ss, xW s ∧ s.length ≤ 140737488351232) (hn : ss.length * 24 ≤ 140737488351232) : Fn Tryd.prog 3 [wN ss, .val (.int .i64 c)] (.p (.val (.bool true))) := by
 have sh := shown22_fn
 have fw := few_any ss hb hn
 cases hf : fewL ss
 case false =>
  rw [hf] at fw
  refine wL Tryd.func3 rfl Tryd.ntmps3 (Nat.le_of_ble_eq_true rfl) ?_
  repeat' (first | (refine zZ.is ?_; first | refine zZ.seq ?_ | (refine zZ.isR (id := 0) ?_; refine zZ.zK [0, 1] [] (by repeat' first | exact zX.nil | apply zX.p rfl) (by repeat' exact zW.nil) ?_; refine zY.va rfl rfl rfl rfl (by decide) ?_; refine zY.nil ?_) | (refine zZ.isR (id := 1) ?_; refine zZ.zK [0, 1, 4] [] (by repeat' first | exact zX.nil | apply zX.p rfl) (by repeat' exact zW.nil) ?_; refine zY.v rfl rfl (by exact yB (sh) rfl rfl rfl (by decide)) ?_; refine zY.va rfl rfl rfl rfl (by decide) ?_; refine zY.nil ?_) | (refine zZ.isR (id := 2) ?_; refine zZ.zK [0, 1, 4, 5] [] (by repeat' first | exact zX.nil | apply zX.p rfl) (by repeat' exact zW.nil) ?_; refine zY.vm rfl rfl rfl rfl (by decide) ?_; refine zY.v rfl rfl (by exact yB (fw) rfl rfl rfl (by decide)) ?_; refine zY.v rfl rfl (by exact xI rfl rfl (by exact bT (by decide)) rfl (by decide)) ?_; refine zY.nil ?_) | (refine zZ.isR (id := 3) ?_; refine zZ.zK [0, 1, 4, 5] [] (by repeat' first | exact zX.nil | apply zX.p rfl) (by repeat' exact zW.nil) ?_; refine zY.vm rfl rfl rfl rfl (by decide) ?_; refine zY.va rfl rfl rfl rfl (by decide) ?_; refine zY.nil ?_) | refine zZ.yZ rfl (by rfl) ?_ | refine zZ.ret ?_) | refine zF.n ?_ | refine zF.r ?_)
  all_goals exact ⟨.inl rfl, gives1 rfl rfl rfl⟩
 case true =>
  rw [hf] at fw
  unfold fewL at hf
  rw [Bool.and_eq_true, decide_eq_true_eq, decide_eq_true_eq] at hf
  have hb1 : ∀ s ∈ ss, xW s := fun s hs => (hb s hs).1
  have a1 := mLive_fn ss c hb1 (by omega) (by omega)
  have b1 := liveR_fn ss c hb1 (by omega) (by omega) (fun l hl => by
   unfold allR at hl
   split at hl
   ·cases hl
   ·have h := all_kinds ss 0 l hb1 hl
    exact ⟨by have := h.2; omega, fun e he => (h.1 e he).2.1⟩)
  rw [ref_live ss c hb1] at b1
  have hlen := liveL_len ss c hb1
  have s1 := same_fn (liveL ss c).1 (liveL ss c).1 (by omega) (by omega) true (by simp)
  have a1 : Fn Tryd.prog 12 [wN ss, .val (.int .i64 c)] (.tup [.sl ((liveL ss c).1.map zQ.V), .val (.int .i64 (liveL ss c).2)]) := a1
  generalize (liveL ss c).1 = L at *
  generalize (liveL ss c).2 = e at *
  have c1 : decide (e = e) = true := decide_eq_true rfl
  clear hlen hf hb hb1 hn
  refine wL Tryd.func3 rfl Tryd.ntmps3 (Nat.le_of_ble_eq_true rfl) ?_
  repeat' (first | (refine zZ.is ?_; first | refine zZ.seq ?_ | (refine zZ.isR (id := 0) ?_; refine zZ.zK [0, 1] [] (by repeat' first | exact zX.nil | apply zX.p rfl) (by repeat' exact zW.nil) ?_; refine zY.va rfl rfl rfl rfl (by decide) ?_; refine zY.nil ?_) | (refine zZ.isR (id := 1) ?_; refine zZ.zK [0, 1, 4] [] (by repeat' first | exact zX.nil | apply zX.p rfl) (by repeat' exact zW.nil) ?_; refine zY.v rfl rfl (by exact yB (sh) rfl rfl rfl (by decide)) ?_; refine zY.va rfl rfl rfl rfl (by decide) ?_; refine zY.nil ?_) | (refine zZ.isR (id := 2) ?_; refine zZ.zK [0, 1, 4, 5] [] (by repeat' first | exact zX.nil | apply zX.p rfl) (by repeat' exact zW.nil) ?_; refine zY.vm rfl rfl rfl rfl (by decide) ?_; refine zY.v rfl rfl (by exact yB (fw) rfl rfl rfl (by decide)) ?_; refine zY.v rfl rfl (by exact xI rfl rfl (by exact bF (by decide)) rfl (by decide)) ?_; refine zY.nil ?_) | (refine zZ.isR (id := 4) ?_; refine zZ.zK [0, 1, 4, 5] [] (by repeat' first | exact zX.nil | apply zX.p rfl) (by repeat' exact zW.nil) ?_; refine zY.vm rfl rfl rfl rfl (by decide) ?_; refine zY.vm rfl rfl rfl rfl (by decide) ?_; refine zY.v rfl rfl (by exact yL (a1) rfl rfl rfl (by decide)) ?_; refine zY.v rfl rfl (yE rfl rfl rfl (by decide)) ?_; refine zY.v rfl rfl (zC rfl rfl rfl rfl (by decide)) ?_; refine zY.v rfl rfl (zC rfl rfl rfl rfl (by decide)) ?_; refine zY.va rfl rfl rfl rfl (by decide) ?_; refine zY.va rfl rfl rfl rfl (by decide) ?_; refine zY.nil ?_) | (refine zZ.isR (id := 5) ?_; refine zZ.zK [0, 1, 4, 5, 6, 7] [] (by repeat' first | exact zX.nil | apply zX.p rfl) (by repeat' exact zW.nil) ?_; refine zY.vm rfl rfl rfl rfl (by decide) ?_; refine zY.vm rfl rfl rfl rfl (by decide) ?_; refine zY.v rfl rfl (by exact yL (b1) rfl rfl rfl (by decide)) ?_; refine zY.v rfl rfl (yE rfl rfl rfl (by decide)) ?_; refine zY.v rfl rfl (zC rfl rfl rfl rfl (by decide)) ?_; refine zY.v rfl rfl (zC rfl rfl rfl rfl (by decide)) ?_; refine zY.va rfl rfl rfl rfl (by decide) ?_; refine zY.va rfl rfl rfl rfl (by decide) ?_; refine zY.nil ?_) | (refine zZ.isR (id := 6) ?_; refine zZ.zK [4, 5, 6, 7, 8, 9] [] (by repeat' first | exact zX.nil | apply zX.p rfl) (by repeat' exact zW.nil) ?_; all_goals (refine zY.vm rfl rfl rfl rfl (by decide) ?_); all_goals (refine zY.vm rfl rfl rfl rfl (by decide) ?_); all_goals (refine zY.gY rfl rfl (by decide) rfl (by rfl) rfl (by decide) (zV rfl rfl rfl (by decide)) ?_); all_goals (refine zY.gY rfl rfl (by decide) rfl (by rfl) rfl (by decide) (zV rfl rfl rfl (by decide)) ?_); all_goals (refine zY.gY rfl rfl (by decide) rfl (by rfl) rfl (by decide) (by exact yB (s1) rfl rfl rfl (by decide)) ?_); all_goals (refine zY.v rfl rfl (zN rfl rfl (by rfl) rfl rfl (by decide)) ?_); all_goals (refine zY.vm rfl rfl rfl rfl (by decide) ?_); all_goals (refine zY.gY rfl rfl (by decide) rfl (by rfl) rfl (by decide) (zV rfl rfl rfl (by decide)) ?_); all_goals (refine zY.gY rfl rfl (by decide) rfl (by rfl) rfl (by decide) (zV rfl rfl rfl (by decide)) ?_); all_goals (refine zY.gY rfl rfl (by decide) rfl (by rfl) rfl (by decide) (zU rfl rfl rfl c1 rfl (by decide)) ?_); all_goals (refine zY.v rfl rfl (zN rfl rfl (by rfl) rfl rfl (by decide)) ?_); all_goals (refine zY.va rfl rfl rfl rfl (by decide) ?_); all_goals (refine zY.nil ?_)) | refine zZ.yX rfl (by rfl) ?_ | refine zZ.skip ?_ | refine zZ.ret ?_) | refine zF.n ?_)
  all_goals exact ⟨.inl rfl, gives1 rfl rfl rfl⟩
end Go.Proofs.YtomlhekjgagjaaaDoor
namespace Go.Proofs.YtomlhekjgagjaaaDoor
set_option maxRecDepth 100000
set_option maxHeartbeats 16000000
open Go Go.RowKit
inductive PLe0 : PV → PV → Prop
  | refl (x : PV) : PLe0 x x
  | nil : PLe0 (.val (.slice none 0 0)) (.sl [])
inductive PL0s : List PV → List PV → Prop
  | nil : PL0s [] []
  | cons {x y : PV} {xs ys : List PV} (h : PLe0 x y) (hs : PL0s xs ys) : PL0s (x :: xs) (y :: ys)
inductive PLe1 : PV → PV → Prop
  | refl (x : PV) : PLe1 x x
  | nil : PLe1 (.val (.slice none 0 0)) (.sl [])
  | sl {xs ys : List PV} (hl : xs.length = ys.length) (h : PL0s (flat xs) (flat ys)) : PLe1 (.sl xs) (.sl ys)
inductive PLes : List PV → List PV → Prop
  | nil : PLes [] []
  | cons {x y : PV} {xs ys : List PV} (h : PLe1 x y) (hs : PLes xs ys) : PLes (x :: xs) (y :: ys)
inductive PLe : PV → PV → Prop
  | one {x y : PV} (h : PLe1 x y) : PLe x y
  | agg {xs ys : List PV} (h : PLes xs ys) : PLe (.agg xs) (.agg ys)
inductive PLet : List PV → List PV → Prop
  | nil : PLet [] []
  | cons {x y : PV} {xs ys : List PV} (h : PLe x y) (hs : PLet xs ys) : PLet (x :: xs) (y :: ys)
theorem PLe0.rep {x y : PV} (h : PLe0 x y) {M : Nat → Nat → Prop} {w : World} {v : Value} (hr : Rep M w x v) : Rep M w y v := by
  cases h with
  | refl => exact hr
  | nil => cases hr; exact .nil
theorem PL0s.at_ {xs ys : List PV} (h : PL0s xs ys) : xs.length = ys.length ∧ ∀ (i : Nat) y, ys[i]? = some y → ∃ x, xs[i]? = some x ∧ PLe0 x y := by
  induction h with
  | nil => exact ⟨rfl, fun i y h => by simp at h⟩
  | cons h hs ih =>
    refine ⟨by simp [ih.1], fun i y hy => ?_⟩
    cases i with
    | zero => simp at hy; subst hy; exact ⟨_, rfl, h⟩
    | succ i => exact ih.2 i y hy
theorem PL0s.append {xs ys xs' ys' : List PV} (h : PL0s xs ys) (h' : PL0s xs' ys') : PL0s (xs ++ xs') (ys ++ ys') := by
  induction h with
  | nil => exact h'
  | cons h _ ih => exact .cons h ih
theorem PLe1.rep {x y : PV} (h : PLe1 x y) {M : Nat → Nat → Prop} {w : World} {v : Value} (hr : Rep M w x v) : Rep M w y v := by
  cases h with
  | refl => exact hr
  | nil => cases hr; exact .nil
  | sl hl h =>
    obtain ⟨hfl, hat⟩ := h.at_
    rcases rep_sl hr with ⟨⟨b, rfl⟩, h0⟩ | ⟨g, off, cap, us, rfl, hl2, hcell, hM, hg, hcap, hm⟩
    · subst h0
      have : _ = [] := List.eq_nil_of_length_eq_zero hl.symm
      subst this
      exact .nil
    · rw [hl] at hcap ⊢
      exact .sl _ g off _ cap us rfl (hl2.len.trans hfl) hcell (fun j c y hc hy => by
        obtain ⟨x, hx, hle⟩ := hat j c hc
        exact hle.rep (hl2.each j x y hx hy)) hl2.one hM hg hcap hm
theorem PLes.refl : ∀ xs : List PV, PLes xs xs
  | [] => .nil
  | x :: xs => .cons (.refl x) (PLes.refl xs)
theorem PLes.at_ {xs ys : List PV} (h : PLes xs ys) : xs.length = ys.length ∧ ∀ (i : Nat) y, ys[i]? = some y → ∃ x, xs[i]? = some x ∧ PLe1 x y := by
  induction h with
  | nil => exact ⟨rfl, fun i y h => by simp at h⟩
  | cons h hs ih =>
    refine ⟨by simp [ih.1], fun i y hy => ?_⟩
    cases i with
    | zero => simp at hy; subst hy; exact ⟨_, rfl, h⟩
    | succ i => exact ih.2 i y hy
theorem PLe.rep {x y : PV} (h : PLe x y) {M : Nat → Nat → Prop} {w : World} {v : Value} (hr : Rep M w x v) : Rep M w y v := by
  cases h with
  | one h => exact h.rep hr
  | agg h =>
    obtain ⟨hl, hat⟩ := h.at_
    cases hr with
    | agg cs vs hl2 h2 h1 => exact .agg _ vs (hl2.trans hl) (fun i c u hc hu => by
        obtain ⟨x, hx, hxy⟩ := hat i c hc
        exact hxy.rep (h2 i x u hx hu)) h1
theorem PLet.at_ {xs ys : List PV} (h : PLet xs ys) : xs.length = ys.length ∧ ∀ (i : Nat) y, ys[i]? = some y → ∃ x, xs[i]? = some x ∧ PLe x y := by
  induction h with
  | nil => exact ⟨rfl, fun i y h => by simp at h⟩
  | cons h hs ih =>
    refine ⟨by simp [ih.1], fun i y hy => ?_⟩
    cases i with
    | zero => simp at hy; subst hy; exact ⟨_, rfl, h⟩
    | succ i => exact ih.2 i y hy
theorem PLe.refl (x : PV) : PLe x x := .one (.refl x)
section
variable {P : Program} {f : FuncId}
end
end Go.Proofs.YtomlhekjgagjaaaDoor
namespace Go.Proofs.YtomlhekjgagjaaaDoor
set_option maxRecDepth 100000
set_option maxHeartbeats 16000000
open Go Go.RowKit Go.ChangeShapes Go.WideShapes Go.ChangeAt
def NoM : Nat → Nat → Prop := fun _ _ => False
inductive Leaf where
  | int (k : IntKind)
  | bool
  | any
deriving DecidableEq
def leafOK : Leaf → Value → Prop
  | .int k, v => ∃ n, v = .int k n ∧ (Lit.int k n).wf = true
  | .bool, v => ∃ b, v = .bool b
  | .any, v => v.oneCell' = true
def flatB (P : Program) : Nat → TypeId → List Leaf → Bool
  | 0, _, _ => false
  | d + 1, t, ls => match P.underlying t with
    | some (.int k) => decide (ls = [.int k])
    | some .bool => decide (ls = [.bool])
    | some (.slice _) => decide (ls = [.any])
    | some (.struct fs) => (ls.length == P.cellsOf t) && (fs.toList.all fun f => flatB P d f.type ((ls.drop f.offset).take (P.cellsOf f.type)) && (((ls.drop f.offset).take (P.cellsOf f.type)).length == P.cellsOf f.type)) &&
      (List.range ls.length).all fun c => fs.toList.any fun f => decide (f.offset ≤ c) && decide (c < f.offset + P.cellsOf f.type)
    | _ => false
section
variable {H : Type} {enc : TypeId × Value → H} {P : Program} {W : World} {base : Nat} {spare : Nat → Bool} {held : Bool}
theorem flat_trod : ∀ (d : Nat) {t : TypeId} {ls : List Leaf}, flatB P d t ls = true → ∀ {fuel : Nat} {cs : List Value} {x : DataW H × List MemPlace}, DataW.trod enc P W base spare held fuel t cs = some x →
    cs.length = ls.length ∧ ∀ (i : Nat) l v, ls[i]? = some l → cs[i]? = some v → leafOK l v
  | 0, _, _, h, _, _, _, _ => by cases h
  | d + 1, t, ls, h, fuel, cs, x, hx => by
    unfold flatB at h
    cases hu : P.underlying t with
    | none => rw [hu] at h; cases h
    | some ds =>
      rw [hu] at h
      cases ds with
      | int k =>
        obtain rfl : ls = [.int k] := of_decide_eq_true h
        obtain ⟨n, rfl, _, hw⟩ := DataW.trod_int hu hx
        refine ⟨rfl, fun i l v hl hv => ?_⟩
        match i with
        | 0 => simp at hl hv; subst hl hv; exact ⟨n, rfl, hw⟩
        | i + 1 => simp at hl
      | bool =>
        obtain rfl : ls = [.bool] := of_decide_eq_true h
        obtain ⟨b, rfl, _⟩ := DataW.trod_bool hu hx
        refine ⟨rfl, fun i l v hl hv => ?_⟩
        match i with
        | 0 => simp at hl hv; subst hl hv; exact ⟨b, rfl⟩
        | i + 1 => simp at hl
      | slice e =>
        obtain rfl : ls = [.any] := of_decide_eq_true h
        have key : ∀ w : Value, w.oneCell' = true → cs = [w] → cs.length = [Leaf.any].length ∧ ∀ (i : Nat) l v, [Leaf.any][i]? = some l → cs[i]? = some v → leafOK l v := fun w hw e => by
          subst e
          refine ⟨rfl, fun i l v hl hv => ?_⟩
          match i with
          | 0 => simp at hl hv; subst hl hv; exact hw
          | i + 1 => simp at hl
        rcases DataW.trod_slice hu hx with ⟨e, _⟩ | ⟨a, len, cap, _, _, _, _, e, _⟩
        · exact key _ rfl e
        · exact key _ rfl e
      | struct fs =>
        simp only [Bool.and_eq_true, beq_iff_eq, List.all_eq_true, List.mem_range, List.any_eq_true, decide_eq_true_eq] at h
        obtain ⟨⟨hlen, hfs⟩, hcov⟩ := h
        obtain ⟨xs, n, _, _, hcl, hxl, hg⟩ := DataW.trod_struct hu hx
        refine ⟨by omega, fun i l v hl hv => ?_⟩
        have hil : i < ls.length := (List.getElem?_eq_some_iff.1 hl).1
        obtain ⟨f, hf, hf1, hf2⟩ := hcov i hil
        obtain ⟨hfl, hfn⟩ := hfs f hf
        obtain ⟨j, hj, hfj⟩ := List.getElem_of_mem hf
        have hfj2 : fs[j]? = some f := by
          rw [← hfj, Array.getElem_toList]
          exact Array.getElem?_eq_getElem _
        have h2 := hg j f hfj2
        have hjx : j < xs.length := by rw [hxl]; simpa using hj
        rw [List.getElem?_eq_getElem hjx] at h2
        obtain ⟨_, h3⟩ := flat_trod d hfl h2
        refine h3 (i - f.offset) l v ?_ ?_
        · rw [List.getElem?_take_of_lt (by omega), List.getElem?_drop, show f.offset + (i - f.offset) = i by omega]
          exact hl
        · rw [List.getElem?_take_of_lt (by omega), List.getElem?_drop, show f.offset + (i - f.offset) = i by omega]
          exact hv
      | _ => cases h
theorem has_block {r : Reach} {a : Addr} {e : TypeId} {n : Nat} (h : W.has P r base a e n) : a.spot = none ∧ a.block < W.heap.size := by
  obtain ⟨_, h1, row, cells, h2, _⟩ := h
  refine ⟨h1, ?_⟩
  unfold World.shape? at h2
  cases hb : W.heap[a.block]? with
  | none => rw [hb] at h2; cases h2
  | some o => exact (Array.getElem?_eq_some_iff.1 hb).1
theorem cell_slice {t e : TypeId} {a : Addr} {len cap : Nat} (ht : P.underlying t = some (.slice e)) (h : Cell.okWide P W .any base t (.slice (some a) len cap)) : a.spot = none ∧ a.block < W.heap.size ∧ len ≤ cap := by
  simp only [Cell.okWide, ht, Cell.ok] at h
  exact ⟨(has_block h.2.2).1, (has_block h.2.2).2, h.1⟩
theorem wide_slice {t e : TypeId} {a : Addr} {len cap : Nat} (ht : P.underlying t = some (.slice e)) (h : Value.okWide P W .any base t (.slice (some a) len cap)) : a.spot = none ∧ a.block < W.heap.size ∧ len ≤ cap :=
  cell_slice ht (by simpa only [Value.okWide, ht] using h)
theorem leaf_one {l : Leaf} {v : Value} (h : leafOK l v) : v.oneCell' = true := by
  cases l with
  | int k => obtain ⟨n, rfl, _⟩ := h; rfl
  | bool => obtain ⟨b, rfl⟩ := h; rfl
  | any => exact h
theorem flatten_len {n : Nat} : ∀ {rs : List (List Value)}, (∀ r ∈ rs, r.length = n) → rs.flatten.length = rs.length * n
  | [], _ => by simp
  | r :: rs, h => by
    rw [List.flatten_cons, List.length_append, h r (by simp), flatten_len fun x hx => h x (by simp [hx]), List.length_cons, Nat.add_mul]
    omega
theorem flatten_get {n : Nat} : ∀ {rs : List (List Value)}, (∀ r ∈ rs, r.length = n) → ∀ (i c : Nat), c < n → rs.flatten[i * n + c]? = (rs[i]?).bind (·[c]?)
  | [], _, i, c, _ => by simp
  | r :: rs, h, 0, c, hc => by
    rw [List.flatten_cons, Nat.zero_mul, Nat.zero_add, List.getElem?_append_left (by rw [h r (by simp)]; exact hc)]
    rfl
  | r :: rs, h, i + 1, c, hc => by
    have hr := h r (by simp)
    rw [List.flatten_cons, List.getElem?_append_right (by rw [hr, Nat.add_mul]; omega), hr]
    have e : (i + 1) * n + c - n = i * n + c := by rw [Nat.add_mul]; omega
    rw [e, flatten_get (fun x hx => h x (by simp [hx])) i c hc]
    rfl
theorem arg_rows {t e : TypeId} {ls : List Leaf} {dep : Nat} {v : Value} {fuel : Nat} {x : DataW H × List MemPlace} (ht : P.underlying t = some (.slice e)) (hfl : flatB P dep e ls = true) (hn : P.cellsOf e = ls.length)
    (hok : ∀ a len cap, v = .slice (some a) len cap → a.spot = none ∧ a.block < W.heap.size) (h : DataW.trod enc P W base (fun _ => true) held fuel t [v] = some x) :
    ∃ rows : List (List Value), (∀ r ∈ rows, r.length = ls.length ∧ ∀ (i : Nat) l u, ls[i]? = some l → r[i]? = some u → leafOK l u) ∧ rows.length ≤ maxLen ∧
      ∀ es : List PV, es.map PV.cells = rows.map (fun r => r.map PV.val) → Rep NoM W (.sl es) v := by
  rcases DataW.trod_slice ht h with ⟨hv, _⟩ | ⟨a, len, cap, elems, rest, n, _, hv, _, hb, hlc, hm, hlen, hel, _⟩
  · simp only [List.cons.injEq, and_true] at hv
    subst hv
    refine ⟨[], fun r hr => by simp at hr, Nat.zero_le _, fun es he => ?_⟩
    have : es = [] := by simpa using he
    subst this
    exact .nil
  · simp only [List.cons.injEq, and_true] at hv
    subst hv
    obtain ⟨hs, hbk⟩ := hok a len cap rfl
    obtain ⟨g, off, spot⟩ := a
    simp only at hs hbk
    subst hs
    have row : ∀ i, i < len → ∃ r : List Value, W.cells? base (Addr.add ⟨g, off, none⟩ (i * P.cellsOf e)) (P.cellsOf e) = some r ∧ r.length = ls.length ∧ ∀ (j : Nat) l u, ls[j]? = some l → r[j]? = some u → leafOK l u := by
      intro i hi
      have h1 := hel i hi
      rw [List.getElem?_eq_getElem (by omega : i < elems.length)] at h1
      obtain ⟨r, hr, h2⟩ := Option.bind_eq_some_iff.1 h1
      obtain ⟨h3, h4⟩ := flat_trod dep hfl h2
      exact ⟨r, hr, h3, h4⟩
    have rows : ∀ m, m ≤ len → ∃ rs : List (List Value), rs.length = m ∧ ∀ (i : Nat) r, rs[i]? = some r → W.cells? base (Addr.add ⟨g, off, none⟩ (i * P.cellsOf e)) (P.cellsOf e) = some r ∧ r.length = ls.length ∧ ∀ (j : Nat) l u, ls[j]? = some l → r[j]? = some u → leafOK l u := by
      intro m
      induction m with
      | zero => exact fun _ => ⟨[], rfl, fun i r h => by simp at h⟩
      | succ m ih =>
        intro hm2
        obtain ⟨rs, h1, h2⟩ := ih (by omega)
        obtain ⟨r, hr⟩ := row m (by omega)
        refine ⟨rs ++ [r], by simp [h1], fun i r' hi => ?_⟩
        rcases Nat.lt_or_ge i rs.length with h3 | h3
        · rw [List.getElem?_append_left h3] at hi
          exact h2 i r' hi
        · rw [List.getElem?_append_right h3] at hi
          have e0 : i - rs.length = 0 := by
            rcases Nat.eq_zero_or_pos (i - rs.length) with h | h
            · exact h
            · rw [List.getElem?_eq_none (by simp; omega)] at hi; cases hi
          rw [e0] at hi
          simp at hi
          subst hi
          rw [show i = m by omega]
          exact hr
    obtain ⟨rs, hrl, hrs⟩ := rows len (Nat.le_refl _)
    refine ⟨rs, fun r hr => ?_, by omega, fun es he => ?_⟩
    · obtain ⟨i, hi, rfl⟩ := List.getElem_of_mem hr
      exact (hrs i _ (List.getElem?_eq_getElem hi)).2
    · have hn0 : P.cellsOf e = ls.length := hn
      have hesl : es.length = rs.length := by simpa using congrArg List.length he
      have hflat : flat es = rs.flatten.map PV.val := by
        show es.flatMap PV.cells = _
        rw [List.flatMap_def, he, List.map_flatten]
      have hrn : ∀ r ∈ rs, r.length = ls.length := fun r hr => by
        obtain ⟨i, hi, rfl⟩ := List.getElem_of_mem hr
        exact (hrs i _ (List.getElem?_eq_getElem hi)).2.1
      have hyl : rs.flatten.length = rs.length * ls.length := flatten_len hrn
      have at_ : ∀ (j : Nat) y, rs.flatten[j]? = some y → ∃ i c r, j = i * ls.length + c ∧ rs[i]? = some r ∧ r[c]? = some y := fun j y hy => by
        have hj : j < rs.length * ls.length := by rw [← hyl]; exact (List.getElem?_eq_some_iff.1 hy).1
        have hpos : 0 < ls.length := by
          rcases Nat.eq_zero_or_pos ls.length with h | h
          · rw [h] at hj; omega
          · exact h
        have e1 : j = (j / ls.length) * ls.length + j % ls.length := by
          have := Nat.div_add_mod j ls.length
          rw [Nat.mul_comm] at this
          omega
        have hi : j / ls.length < rs.length := (Nat.div_lt_iff_lt_mul hpos).2 hj
        have hc : j % ls.length < ls.length := Nat.mod_lt _ hpos
        have h1 := flatten_get hrn (j / ls.length) (j % ls.length) hc
        rw [← e1, hy, List.getElem?_eq_getElem hi] at h1
        exact ⟨_, _, _, e1, List.getElem?_eq_getElem hi, h1.symm⟩
      refine .sl es g off len cap rs.flatten (by omega) (by rw [hflat, List.length_map]) (fun j y hy => ?_) (fun j c y hc hy => ?_) (fun y hy => ?_) (fun _ _ h => h) hbk hlc hm
      · obtain ⟨i, c, r, rfl, hr, hc⟩ := at_ j y hy
        have h1 := World.cells?_some (hrs i r hr).1
        have hcl : c < P.cellsOf e := by
          rw [hn0, ← (hrs i r hr).2.1]
          exact (List.getElem?_eq_some_iff.1 hc).1
        have h2 := h1.2.2 c hcl
        rw [hc, add_lit, add_lit, hn0, Nat.add_assoc] at h2
        exact h2
      · rw [hflat, List.getElem?_map, hy] at hc
        simp only [Option.map_some, Option.some.injEq] at hc
        subst hc
        exact .val _
      · obtain ⟨j, hj, rfl⟩ := List.getElem_of_mem hy
        obtain ⟨i, c, r, _, hr, hc⟩ := at_ j _ (List.getElem?_eq_getElem hj)
        have hcl : c < ls.length := by
          rw [← (hrs i r hr).2.1]
          exact (List.getElem?_eq_some_iff.1 hc).1
        exact leaf_one ((hrs i r hr).2.2 c _ _ (List.getElem?_eq_getElem hcl) hc)
end
end Go.Proofs.YtomlhekjgagjaaaDoor
namespace Go.Proofs.YtomlhekjgagjaaaDoor
set_option maxRecDepth 100000
set_option maxHeartbeats 16000000
open Go Go.RowKit Go.ChangeShapes Go.WideShapes Go.ChangeAt
theorem ownT : ownKnob Tryd.prog.godebug = none := by kernel_rfl
theorem laidOutT : laidOutB Tryd.prog = true := by kernel_rfl
section
variable {P : Program} {W : World}
theorem Fn.law {f : FuncId} {args : List PV} (h : Fn P f args (.p (.val (.bool true)))) (hlay : Lays W) {vs : List Value} (hl : vs.length = args.length) (hr : ∀ (i : Nat) x v, args[i]? = some x → vs[i]? = some v → Rep NoM W x v) :
    Calls P f vs.toArray W fun e W' => e = .returned (.bool true) ∧ Below W.heap.size W W' :=
  (h NoM W vs ⟨hlay, fun _ _ _ h => h⟩ (fun _ _ h => h.elim) hl hr).mono fun e W' ⟨v, he, hv, hb⟩ => by
    cases hv
    exact ⟨he, hb⟩
theorem reps1 {M : Nat → Nat → Prop} {x0 : PV} {v0 : Value} (h0 : Rep M W x0 v0) : ∀ (i : Nat) x v, [x0][i]? = some x → [v0][i]? = some v → Rep M W x v := by
  intro i x v hx hv
  match i with
  | 0 => simp at hx hv; subst hx; subst hv; exact h0
  | i + 1 => simp at hx
theorem repsC {M : Nat → Nat → Prop} {x0 : PV} {v0 : Value} {xs : List PV} {vs : List Value} (h0 : Rep M W x0 v0) (h : ∀ (i : Nat) x v, xs[i]? = some x → vs[i]? = some v → Rep M W x v) : ∀ (i : Nat) x v, (x0 :: xs)[i]? = some x → (v0 :: vs)[i]? = some v → Rep M W x v := by
  intro i x v hx hv
  match i with
  | 0 => simp at hx hv; subst hx; subst hv; exact h0
  | i + 1 => exact h i x v (by simpa using hx) (by simpa using hv)
end
theorem gTbl : Tryd.prog.globalNamed "weald/crc.halves" = some 0 := by kernel_rfl
theorem tTbl : (Tryd.prog.globals[0]?).map (·.type) = some 132 := by kernel_rfl
def laidL : List (String × DataW Unit) := [("weald/crc.halves", Rows.laid_weald_crc_halves)]
theorem lays_of_laid {W : World} (h : laidMetH Tryd.prog laidL W) : Lays W := by
  rw [MakeChecks.laidMetH_plain _ _ _ (by kernel_rfl)] at h
  obtain ⟨ps, ⟨g0, t0, cs0, f0, p0, q0, hg0, ht0, hv0, hd0, _, _⟩, _⟩ := h
  obtain rfl := Option.some.inj (gTbl.symm.trans hg0)
  obtain rfl := Option.some.inj (tTbl.symm.trans ht0)
  have hcell := World.var?_cell hg0 hv0
  obtain ⟨xs, m1, _, hx1, hlen, hn, hel⟩ := DataW.trod_array Tryd.underlying132 hd0
  have c1 : Tryd.prog.cellsOf 109 = 1 := by kernel_rfl
  have c16 : Tryd.prog.cellsOf 132 = 16 := by kernel_rfl
  rw [c16] at hlen
  have hdat : Rows.laid_weald_crc_halves (H := Unit) = .agg (tbl0.map fun p => .lit (.int p.1 p.2)) := by kernel_rfl
  simp only [Prod.mk.injEq] at hx1
  have hxs : xs.map (·.1) = tbl0.map fun p => .lit (.int p.1 p.2) := by
    have := hx1.1
    rw [hdat] at this
    simpa using this.symm
  have hk : ∀ p ∈ tbl0, p.1 = .u32 := by decide +kernel
  intro g ys hg
  have hgy : g = 0 ∧ ys = tbl0 := by
    unfold seatTbl at hg
    split at hg
    · next h => exact ⟨h, (Option.some.inj hg).symm⟩
    · cases hg
  obtain ⟨rfl, rfl⟩ := hgy
  have at_ : ∀ (j : Nat) p, tbl0[j]? = some p → W.cell? ⟨0, j, none⟩ = some (.int p.1 p.2) := by
    intro j p hp
    have hj : j < 16 := (List.getElem?_eq_some_iff.1 hp).1
    have h1 := hel j hj
    have hxj : xs[j]? = some xs[j] := List.getElem?_eq_getElem (by omega)
    rw [hxj, c1, Nat.mul_one] at h1
    obtain ⟨k, e1, e2, _⟩ := DataW.trod_int Tryd.underlying109 h1
    have h3 : (xs.map (·.1))[j]? = some (.lit (.int .u32 k)) := by rw [List.getElem?_map, hxj, e2]; rfl
    rw [hxs, List.getElem?_map, hp] at h3
    simp only [Option.map_some, Option.some.injEq, DataW.lit.injEq, Lit.int.injEq] at h3
    obtain ⟨h4, h5⟩ := h3
    have h6 : cs0[j]? = some (.int .u32 k) := by
      have : (cs0.toList.drop j).take 1 = [cs0.toList[j]'(by rw [hlen]; exact hj)] := by
        rw [List.drop_eq_getElem_cons (by rw [hlen]; exact hj)]
        rfl
      rw [this] at e1
      simp only [List.cons.injEq, and_true] at e1
      rw [← e1]
      simp [Array.getElem?_eq_getElem (show j < cs0.size by simpa using (by rw [hlen]; exact hj : j < cs0.toList.length))]
    rw [hcell j, h6, h4, h5]
  refine ⟨?_, at_⟩
  have h0 := at_ 0 _ rfl
  unfold World.cell? at h0
  cases hh : W.heap[0]? with
  | none => rw [hh] at h0; cases h0
  | some o => exact (Array.getElem?_eq_some_iff.1 hh).1
theorem door_met (os : Os) (args : Array Value) : laidMetH Tryd.prog laidL ((World.doorLaid Tryd.prog 400 os).forCall (fun _ _ => 0) ⟨#[], args, []⟩).memory :=
  laidMetH_of_parts3 (fuel := 8) (laidMet_of_run' 8 (by kernel_rfl) (by kernel_rfl)) (by kernel_rfl) (by kernel_rfl)
end Go.Proofs.YtomlhekjgagjaaaDoor
namespace Go.Proofs.YtomlhekjgagjaaaDoor
set_option maxRecDepth 100000
set_option maxHeartbeats 16000000
open Go Go.RowKit Go.ChangeShapes Go.WideShapes Go.ChangeAt
section
variable {P : Program} {W : World} {H : Type} {enc : TypeId × Value → H}
end
end Go.Proofs.YtomlhekjgagjaaaDoor
namespace Go.Proofs.YtomlhekjgagjaaaDoor
set_option maxRecDepth 100000
set_option maxHeartbeats 16000000
open Go Go.RowKit Go.ChangeShapes Go.WideShapes Go.ChangeAt
section
variable {P : Program} {W : World} {H : Type} {enc : TypeId × Value → H} {base : Nat} {held : Bool}
theorem cell_block {a : Addr} {v : Value} (h : W.cell? a = some v) : a.spot = none ∧ a.block < W.heap.size := by
  refine ⟨World.cell?_spot h, ?_⟩
  unfold World.cell? at h
  cases hb : W.heap[a.block]? with
  | none => rw [hb] at h; cases h
  | some o => exact (Array.getElem?_eq_some_iff.1 hb).1
theorem rep_len {M : Nat → Nat → Prop} {es : List PV} {a : Addr} {len cap : Nat} (h : Rep M W (.sl es) (.slice (some a) len cap)) : es.length = len := by
  generalize hv : Value.slice (some a) len cap = v at h
  rcases rep_sl h with ⟨⟨b, rfl⟩, rfl⟩ | ⟨g, o, c, ys, rfl, _⟩
  · injection hv with h1 h2 h3
    exact h2.symm
  · injection hv with h1 h2 h3
    exact h2.symm
theorem arg_bytes_in {t e : TypeId} {v : Value} {fuel : Nat} {x : DataW H × List MemPlace} {R : Nat} (ht : P.underlying t = some (.slice e)) (hfl : flatB P 3 e [.int .u8] = true) (hn : P.cellsOf e = 1) (hby : P.bytesOf e = 1)
    (h : DataW.trod enc P W base (fun _ => true) held fuel t [v] = some x) (hw : ∀ y ∈ x.1.weights P t, y ≤ R) : ∃ s : List Int, Rep NoM W (.sl (byts s)) v ∧ xW s ∧ s.length ≤ R ∧ v.oneCell' = true := by
  rcases DataW.trod_slice ht h with ⟨hv, _⟩ | ⟨a, len, cap, elems, rest, n, _, hv, hx, hb, hlc, hm, hlen, hel, hsp, _⟩
  · simp only [List.cons.injEq, and_true] at hv
    subst hv
    exact ⟨[], .nil, (fun y hy => by cases hy), Nat.zero_le _, rfl⟩
  · simp only [List.cons.injEq, and_true] at hv
    subst hv
    have hlR : len ≤ R := by
      have h1 := hw ((elems.length + rest.length) * P.bytesOf e) (by
        rw [hx]
        simp [DataW.weights, ht])
      rw [hby, hlen] at h1
      omega
    rcases Nat.eq_zero_or_pos cap with h0 | h0
    · have : len = 0 := by omega
      subst this
      subst h0
      exact ⟨[], .nil, (fun y hy => by cases hy), Nat.zero_le _, rfl⟩
    · have hok : a.spot = none ∧ a.block < W.heap.size := by
        have hc : ∃ cs, W.cells? base (a.add 0) 1 = some cs := by
          rcases Nat.eq_zero_or_pos len with hl | hl
          · subst hl
            have h1 := hsp rfl
            have h2 := h1.2 0 (by omega)
            rw [List.getElem?_eq_getElem (by omega : 0 < rest.length)] at h2
            obtain ⟨cs, h3, _⟩ := Option.bind_eq_some_iff.1 h2
            rw [hn] at h3
            simp only [Nat.zero_add, Nat.zero_mul] at h3
            exact ⟨cs, h3⟩
          · have h2 := hel 0 hl
            rw [List.getElem?_eq_getElem (by omega : 0 < elems.length)] at h2
            obtain ⟨cs, h3, _⟩ := Option.bind_eq_some_iff.1 h2
            rw [hn] at h3
            simp only [Nat.zero_mul] at h3
            exact ⟨cs, h3⟩
        obtain ⟨cs, hc⟩ := hc
        have h3 := World.cells?_some hc
        have h4 := h3.2.2 0 (by omega)
        have h5 : cs[0]? = some (cs[0]'(by omega)) := List.getElem?_eq_getElem _
        rw [h5] at h4
        have h6 : (a.add 0).add 0 = a := by simp [Addr.add]
        rw [h6] at h4
        exact cell_block h4
      obtain ⟨rows, h1, h2, h3⟩ := arg_rows (ls := [.int .u8]) ht hfl hn (fun a' len' cap' e' => by
        injection e' with e1 e2 e3
        injection e1 with e1
        subst e1
        exact hok) h
      have hr : ∀ r ∈ rows, ∃ b, r = [Value.int .u8 b] ∧ 0 ≤ b ∧ b < 256 := fun r hr => by
        obtain ⟨hl, hx⟩ := h1 r hr
        match r, hl with
        | [x], _ =>
          obtain ⟨b, rfl, hb⟩ := hx 0 _ x rfl rfl
          have := bounds_u8 hb
          exact ⟨b, rfl, by omega, by omega⟩
      have hs : ∃ s : List Int, rows = s.map (fun b => [Value.int .u8 b]) ∧ xW s := by
        clear h3 h2 h1 h hel hsp hlen hx hw
        induction rows with
        | nil => exact ⟨[], rfl, fun y hy => by cases hy⟩
        | cons r rs ih =>
          obtain ⟨b, rfl, hb⟩ := hr r (by simp)
          obtain ⟨s, rfl, hs⟩ := ih fun r h => hr r (by simp [h])
          refine ⟨b :: s, rfl, fun y hy => ?_⟩
          rcases List.mem_cons.1 hy with rfl | hy
          · exact hb
          · exact hs y hy
      obtain ⟨s, rfl, hs⟩ := hs
      have hrep := h3 (byts s) (by simp [byts, PV.cells])
      have hle := rep_len hrep
      rw [vE] at hle
      exact ⟨s, hrep, hs, by omega, rfl⟩
theorem arg_streams {t e f : TypeId} {v : Value} {fuel : Nat} {x : DataW H × List MemPlace} {R : Nat} (ht : P.underlying t = some (.slice e)) (he : P.underlying e = some (.slice f)) (hfl : flatB P 3 f [.int .u8] = true) (hn : P.cellsOf f = 1) (hn2 : P.cellsOf e = 1) (hby : P.bytesOf f = 1) (hby2 : P.bytesOf e = 24)
    (hok : ∀ a len cap, v = .slice (some a) len cap → a.spot = none ∧ a.block < W.heap.size)
    (h : DataW.trod enc P W base (fun _ => true) held fuel t [v] = some x) (hw : ∀ y ∈ x.1.weights P t, y ≤ R) : ∃ ss : List (List Int), Rep NoM W (.sl (ss.map fun s => .sl (byts s))) v ∧ (∀ s ∈ ss, xW s ∧ s.length ≤ R) ∧ ss.length * 24 ≤ R := by
  rcases DataW.trod_slice ht h with ⟨hv, _⟩ | ⟨a, len, cap, elems, rest, n, _, hv, hx, hb, hlc, hm, hlen, hel, _, _⟩
  · simp only [List.cons.injEq, and_true] at hv
    subst hv
    exact ⟨[], .nil, (fun y hy => by cases hy), Nat.zero_le _⟩
  · simp only [List.cons.injEq, and_true] at hv
    subst hv
    obtain ⟨hs, hbk⟩ := hok a len cap rfl
    obtain ⟨g, off, spot⟩ := a
    simp only at hs hbk
    subst hs
    have hwt : x.1.weights P t = (elems.length + rest.length) * P.bytesOf e :: (DataW.weightsAll P e (elems.map (·.1)) ++ DataW.weightsAll P e (rest.map (·.1))) := by
      rw [hx]
      simp [DataW.weights, ht]
    have hall : ∀ (l : List (DataW H × List MemPlace)) (y : DataW H × List MemPlace), y ∈ l → ∀ z ∈ y.1.weights P e, z ∈ DataW.weightsAll P e (l.map (·.1)) := by
      intro l
      induction l with
      | nil => intro y hy; cases hy
      | cons c r ih =>
        intro y hy z hz
        rw [List.map_cons, DataW.weightsAll]
        rcases List.mem_cons.1 hy with rfl | hy
        · exact List.mem_append_left _ hz
        · exact List.mem_append_right _ (ih y hy z hz)
    have row : ∀ i, i < len → ∃ (s : List Int) (y : Value), W.cell? ⟨g, off + i, none⟩ = some y ∧ Rep NoM W (.sl (byts s)) y ∧ xW s ∧ s.length ≤ R ∧ y.oneCell' = true := by
      intro i hi
      have h1 := hel i hi
      have hil : i < elems.length := by omega
      rw [List.getElem?_eq_getElem hil] at h1
      obtain ⟨r, hr, h2⟩ := Option.bind_eq_some_iff.1 h1
      rw [hn2, Nat.mul_one] at hr
      have h3 := World.cells?_some hr
      obtain ⟨y, rfl⟩ : ∃ y, r = [y] := by
        match r, h3.2.1 with
        | [y], _ => exact ⟨y, rfl⟩
      have h4 := h3.2.2 0 (by omega)
      obtain ⟨s, p1, p2, p3, p4⟩ := arg_bytes_in he hfl hn hby h2 (R := R) (fun z hz => hw z (by
        rw [hwt]
        exact List.mem_cons_of_mem _ (List.mem_append_left _ (hall elems _ (List.getElem_mem hil) z hz))))
      refine ⟨s, y, ?_, p1, p2, p3, p4⟩
      have e1 : (Addr.add (Addr.add ⟨g, off, none⟩ i) 0) = ⟨g, off + i, none⟩ := by rw [add_lit, add_lit, Nat.add_zero]
      rw [e1] at h4
      exact h4
    have rows : ∀ m, m ≤ len → ∃ (ss : List (List Int)) (ys : List Value), ss.length = m ∧ ys.length = m ∧ ∀ (i : Nat) s y, ss[i]? = some s → ys[i]? = some y → W.cell? ⟨g, off + i, none⟩ = some y ∧ Rep NoM W (.sl (byts s)) y ∧ xW s ∧ s.length ≤ R ∧ y.oneCell' = true := by
      intro m
      induction m with
      | zero => exact fun _ => ⟨[], [], rfl, rfl, fun i s y h => by simp at h⟩
      | succ m ih =>
        intro hm2
        obtain ⟨ss, ys, h1, h2, h3⟩ := ih (by omega)
        obtain ⟨s, y, hsy⟩ := row m (by omega)
        refine ⟨ss ++ [s], ys ++ [y], by simp [h1], by simp [h2], fun i s' y' hi hj => ?_⟩
        rcases Nat.lt_or_ge i m with h4 | h4
        · rw [List.getElem?_append_left (by omega)] at hi hj
          exact h3 i s' y' hi hj
        · have hil : i < m + 1 := by
            have := (List.getElem?_eq_some_iff.1 hi).1
            simp [h1] at this
            omega
          have hie : i = m := by omega
          subst hie
          rw [List.getElem?_append_right (by omega), h1, Nat.sub_self] at hi
          rw [List.getElem?_append_right (by omega), h2, Nat.sub_self] at hj
          simp at hi hj
          subst hi hj
          exact hsy
    obtain ⟨ss, ys, hsl, hyl, hsy⟩ := rows len (Nat.le_refl _)
    have hflat : flat (ss.map fun s => PV.sl (byts s)) = ss.map fun s => PV.sl (byts s) := by
      clear hsy hsl
      induction ss with
      | nil => rfl
      | cons s r ih =>
        show PV.sl (byts s) :: flat (r.map fun s => PV.sl (byts s)) = _
        rw [ih]
        rfl
    refine ⟨ss, .sl _ g off len cap ys (by simp [hsl]) (by rw [hflat, List.length_map, hsl, hyl]) (fun j y hy => ?_) (fun j c y hc hy => ?_) (fun y hy => ?_) (fun _ _ h => h) hbk hlc hm, fun s hs => ?_, ?_⟩
    · have hj : j < ss.length := by rw [hsl, ← hyl]; exact (List.getElem?_eq_some_iff.1 hy).1
      exact (hsy j _ y (List.getElem?_eq_getElem hj) hy).1
    · rw [hflat, List.getElem?_map] at hc
      cases hs : ss[j]? with
      | none => rw [hs] at hc; cases hc
      | some s =>
        rw [hs] at hc
        cases hc
        exact (hsy j s y hs hy).2.1
    · obtain ⟨j, hj, rfl⟩ := List.getElem_of_mem hy
      exact (hsy j _ _ (List.getElem?_eq_getElem (by omega)) (List.getElem?_eq_getElem hj)).2.2.2.2
    · obtain ⟨j, hj, rfl⟩ := List.getElem_of_mem hs
      have := hsy j _ _ (List.getElem?_eq_getElem hj) (List.getElem?_eq_getElem (by omega))
      exact ⟨this.2.2.1, this.2.2.2.1⟩
    · have h1 := hw ((elems.length + rest.length) * P.bytesOf e) (by rw [hwt]; exact List.mem_cons_self)
      rw [hby2, hlen] at h1
      rw [hsl]
      omega
end
end Go.Proofs.YtomlhekjgagjaaaDoor
namespace Go.Proofs.YtomlhekjgagjaaaDoor
set_option maxRecDepth 100000
set_option maxHeartbeats 16000000
open Go Go.RowKit Go.ChangeShapes Go.WideShapes Go.ChangeAt
theorem mergeTells_lifted (os : Os) (started : os.Started) (H : Type) (enc : TypeId × Value → H) :
    ReturnsInHanded {} Tryd.checked os 3 .any (fun w args => (Rows.mergeTellsSpec.pre enc Tryd.prog Tryd.f3 [] false w args ∧ laidMetH Tryd.prog laidL w) ∧ sizedMet enc Tryd.prog Tryd.f3 (OpenSpec.ofChange Rows.mergeTellsSpec) false w args)
      (Rows.mergeTellsSpec.post enc Tryd.prog Tryd.f3 false true false false) := by
  refine returnsInHanded_of_change_and (C := Tryd.checked) (X := fun w _ => laidMetH Tryd.prog laidL w) (fun _ _ _ hh h => h.of_heap hh) ownT started (by kernel_rfl) Tryd.func3
    (ChangeSpec.witness_shaped (enc := enc) (C := Tryd.checked) (os := os) (X := fun w _ => laidMetH Tryd.prog laidL w) false (World.doorLaid Tryd.prog 400 os) #[.slice none 0 0, .int .i64 0] 8 rfl (World.shaped_of_RefB (by kernel_rfl) (by kernel_rfl)) (by kernel_rfl) (by kernel_rfl) (by kernel_rfl) (door_met os _)) ?_
  intro W base args ds gs before hval0 hW hcnd hwt hL _
  have hval : ∀ (j : Nat) t v, Tryd.f3.params[j]? = some t → args[j]? = some v → Value.okWide Tryd.prog W .any base t v := hval0
  have hW' := hW
  obtain ⟨p, q, hA0, hV, rfl, hfz, hnd⟩ := hW
  have hA : DataW.TrodAll enc Tryd.prog W 0 (fun _ => true) true Tryd.f3.params.toList args.toList ds p := hA0
  rw [Tryd.params3] at hA hval
  obtain ⟨v0, vs0, d0, ds0, p0, q0, hargs, rfl, rfl, h0, r0⟩ := trodAll_cons hA
  obtain ⟨v1, vs1, d1, ds1, p1, q1, rfl, rfl, rfl, h1, r1⟩ := trodAll_cons r0
  obtain ⟨rfl, rfl, rfl⟩ := trodAll_nil r1
  obtain rfl : args = #[v0, v1] := by cases args; simp_all
  obtain ⟨rfl, rfl⟩ := trodVars_none hV
  have lt0 : ∀ x ∈ p0, x.block < W.heap.size := by obtain ⟨m, hm⟩ := h0; exact DataW.trod_lt m _ _ _ hm
  have lt1 : ∀ x ∈ p1, x.block < W.heap.size := by obtain ⟨m, hm⟩ := h1; exact DataW.trod_lt m _ _ _ hm
  have o0 := hval 0 22 v0 rfl rfl
  have hw0 : ∀ y ∈ d0.weights Tryd.prog 22, y ≤ 140737488351232 := fun y hy => by
    have hm := List.all_eq_true.1 hwt y (by
      rw [Tryd.params3]
      exact List.mem_append_left _ hy)
    exact of_decide_eq_true hm
  obtain ⟨a0, rp0, g0, l0⟩ : ∃ ss : List (List Int), Rep NoM W (.sl (ss.map fun s => .sl (byts s))) v0 ∧ (∀ s ∈ ss, xW s ∧ s.length ≤ 140737488351232) ∧ ss.length * 24 ≤ 140737488351232 := by
    obtain ⟨ad, len, cap, rfl⟩ := okWide_slice Tryd.underlying22 o0
    obtain ⟨fuel, hf⟩ := h0
    exact arg_streams (t := 22) Tryd.underlying22 Tryd.underlying35 (by kernel_rfl) (by kernel_rfl) (by kernel_rfl) (by kernel_rfl) (by kernel_rfl) (fun a' len' cap' e' => by
      injection e' with e1 e2 e3
      subst e1 e2 e3
      have := wide_slice Tryd.underlying22 o0
      exact ⟨this.1, this.2.1⟩) hf hw0
  have o1 := hval 1 3 v1 rfl rfl
  obtain ⟨a1, e1, _, _, wf1⟩ := open_int Tryd.underlying3 o1 h1
  have rp1 : Rep NoM W (.val (.int .i64 a1)) v1 := e1 ▸ .val _
  clear hA0 hval0
  refine ((mtells_fn a0 a1 g0 l0).law (lays_of_laid hL) (vs := [v0, v1]) rfl (repsC rp0 (reps1 rp1))).mono fun e W' ⟨he, bel⟩ => ?_
  subst he
  exact ⟨_, rfl, _, _, _, [], _, [], hW', trodAll_mk1 (shut_bool Tryd.underlying4 _), (trodAll_cons_mk (Below.trod laidOutT (by kernel_rfl) (of_decide_eq_true (by kernel_rfl)) h0 bel lt0) (trodAll_cons_mk (Below.trod laidOutT (by kernel_rfl) (of_decide_eq_true (by kernel_rfl)) h1 bel lt1) trodAll_mk0)), rfl, bel.frame _, fun h => by cases h⟩
theorem mergeTells_holds : Rows.MergeTellsSaid :=
  OpenClaim.holds_of_wide 3 Tryd.f3 rfl rfl rfl rfl rfl rfl rfl ⟨rfl, rfl, rfl, rfl, rfl⟩ rfl rfl rfl rfl rfl (by kernel_rfl) Tryd.func3 (by kernel_rfl)
    (of_decide_eq_true (by kernel_rfl)) (by unfold Func.isWrapper; first | (rw [if_pos (by decide +kernel)]; kernel_rfl) | (rw [if_neg (by decide +kernel)]; exact ⟨rfl, rfl⟩))
    (fun os started H enc _ => mergeTells_lifted os started H enc)
theorem mergeTellsCard_holds : Rows.MergeTellsCardSaid :=
  Claim7.holds_tied_plain_at .later [] [.data] true _ true
    mergeTells_holds (fun _ h => by cases h) (by kernel_rfl) (fun _ h => by cases h) mergeTells_row_tie rfl ⟨rfl, rfl⟩ (by kernel_rfl) rfl
    (fun f fn hf hfn => by
      obtain rfl : f = 3 := Option.some.inj ((show Tryd.prog.funcNamed "weald/wealdlaw22.MergeTells" = some 3 by kernel_rfl).symm.trans hf) |>.symm
      obtain rfl : fn = Tryd.f3 := (Option.some.inj (Tryd.func3.symm.trans hfn)).symm
      exact ⟨by kernel_rfl, fun j t ht => by
        rw [Tryd.params3] at ht
        have hm : t ∈ [22, 3] := by simpa using Array.mem_of_getElem? ht
        have hall : ([22, 3].all fun u => !Tryd.prog.wantsStandIn u) = true := by kernel_rfl
        exact (show Tryd.prog.wantsStandIn t = false by simpa using List.all_eq_true.1 hall t hm)⟩)
    (by kernel_rfl)
#print axioms mergeTellsCard_holds
end Go.Proofs.YtomlhekjgagjaaaDoor
