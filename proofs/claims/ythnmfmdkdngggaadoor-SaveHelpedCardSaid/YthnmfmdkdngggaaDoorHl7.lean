/- For every input SaveHelped returns true, and leaves its arguments as they were; tied: Rows.SaveHelpedCardSaid. Conditions: none beyond the given statement's own. (Part 7 of 7.) -/
import Derived.Test.YthnmfmdkdngggaaDoorHl6
import Derived.ProofKit
import Derived.OpenShut
import Derived.Below
import Derived.LaidMore
import Derived.Deep.Fields
import Derived.Deep.Slices
import Derived.Test.YthnmfmdkdngggaaDoorRows
import Derived.LaidLaws
import Derived.ChangeSame
import Derived.ChangeVars
import Derived.JoinedOf
import Derived.Stop.Joined
import Derived.RowKitTokens
import Derived.Test.YthnmfmdkdngggaaDoorCards
import Derived.Test.YthnmfmdkdngggaaDoorTie
import Derived.SevenTiedAt
/- The law SaveHelped: its function's contract. -/
namespace Go.Proofs.YthnmfmdkdngggaaDoor
set_option maxRecDepth 100000
set_option maxHeartbeats 16000000
open Go Go.RowKit
set_option linter.unusedSimpArgs false
set_option linter.unusedVariables false
attribute [local irreducible] zX zY Step zD Sub zH zP Fn hWs hA hB askQ hR hS hC hJ
def wM (ps : List Int) (an : Int) (i : Nat) (x : HSt) : AS :=
  { t := [(0, .p (.sl (byts ps))), (1, .p (.val (.int .u8 an))), (5, .p (.val (.bool true))), (9, .ptr 9 0), (10, .ptr 10 0), (11, .own 42), (12, .own 43), (13, .p (.val (.bool (hFr x.c)))), (14, .p (.val (.int .i64 (i : Nat))))],
    s := [(9, .box 33 ((hW x.c x.s0 x.s1).pv.cells.map AV.p)), (10, .box 42 ((opV 21 1 0 1).cells.map AV.p)), (42, .row 58 1 2 [.own 201, .own 202]), (201, vM 60 3 (x.L0.map wI)), (202, vM 60 3 (x.L1.map wI)), (43, vO 4 1 [.val (.bool x.o0), .val (.bool x.o1)])] }
theorem saveHelped_fn (ps : List Int) (an : Int) (hps : ∀ x ∈ ps, 0 ≤ x ∧ x < 256) (hlen : ps.length ≤ maxLen) (han : 0 ≤ an ∧ an < 256) :
    Fn Tryd.prog 4 [.sl (byts ps), .val (.int .u8 an)] (.p (.val (.bool true))) := by
  have c0 : Fn Tryd.prog 8 [.val (.int .i64 3), .val (.int .i64 1)] (.p (newD 3 1).pv) := new10_fn 3 1 (by decide) (by decide) (by decide) (by decide)
  obtain ⟨oA, c1⟩ := hA_al
  generalize newD 3 1 = W0 at c0 c1
  have hmax : maxLen ≤ 9223372036854775807 := by decide
  have hbc : ∀ b1 b2 : Bool, ∀ v ∈ ([.val (.bool b1), .val (.bool b2)] : List PV), v.cells = [v] := fun b1 b2 v hv => by
    simp only [List.mem_cons, List.not_mem_nil, or_false] at hv
    rcases hv with rfl | rfl <;> rfl
  have hbc1 : ∀ b1 b2 : Bool, ∀ v ∈ ([.val (.bool b1), .val (.bool b2)] : List PV), v.cells.length = 1 := fun b1 b2 v hv => by rw [hbc b1 b2 v hv]; rfl
  have t0 : (0 : Int) ≤ 0 ∧ (0 : Int) < 2 := by decide
  have t1 : (0 : Int) ≤ 1 ∧ (1 : Int) < 2 := by decide
  refine yM Tryd.func4 rfl Tryd.ntmps4 (Nat.le_of_ble_eq_true rfl) ?_
  rcases Nat.lt_or_ge 60 ps.length with h60 | h60
  case inl =>
    have g1 : decide ((60 : Int) < ((ps.length : Nat) : Int)) = true := decide_eq_true (by omega)
    -- <<far
    repeat' (first | (refine zY.is ?_; first | refine zY.seq ?_ | (refine zY.isR (id := 0) ?_; refine zY.zV [0, 1] [6, 7, 9, 10, 15, 16, 19, 20, 22, 23, 42, 43, 117] (by repeat' first | exact zZ.nil | apply zZ.p rfl) (by repeat' first | exact zW.nil | apply zW.skip) ?_; (refine zX.v rfl rfl (zK rfl rfl rfl (by decide)) ?_); refine zX.nil ?_) | (refine zY.isR (id := 1) ?_; refine zY.zV [0, 1, 4] [6, 7, 9, 10, 15, 16, 19, 20, 22, 23, 42, 43, 117] (by repeat' first | exact zZ.nil | apply zZ.p rfl) (by repeat' first | exact zW.nil | apply zW.skip) ?_; (refine zX.v rfl rfl (by exact zN (shown14_fn) rfl rfl rfl (by decide)) ?_); (refine zX.v rfl rfl (zK rfl rfl rfl (by decide)) ?_); refine zX.nil ?_) | (refine zY.isR (id := 2) ?_; refine zY.zV [0, 1, 4, 5] [6, 7, 9, 10, 15, 16, 19, 20, 22, 23, 42, 43, 117] (by repeat' first | exact zZ.nil | apply zZ.p rfl) (by repeat' first | exact zW.nil | apply zW.skip) ?_; (refine zX.v rfl rfl (zQ rfl rfl rfl (by decide)) ?_); (refine zX.v rfl rfl (xO rfl rfl rfl (by decide)) ?_); (refine zX.v rfl rfl (by exact r_gtr rfl rfl rfl (by exact g1) rfl (by decide)) ?_); refine zX.nil ?_) | (refine zY.isR (id := 3) ?_; refine zY.zV [0, 1, 4, 5] [6, 7, 9, 10, 15, 16, 19, 20, 22, 23, 42, 43, 117] (by repeat' first | exact zZ.nil | apply zZ.p rfl) (by repeat' first | exact zW.nil | apply zW.skip) ?_; (refine zX.v rfl rfl (zQ rfl rfl rfl (by decide)) ?_); (refine zX.v rfl rfl (zK rfl rfl rfl (by decide)) ?_); refine zX.nil ?_) | refine zY.yO rfl (by first | assumption | with_reducible rfl) ?_ | refine zY.ret ?_) | refine yQ.r ?_)
    all_goals exact ⟨by first | exact .inl rfl | exact .inr rfl, _, Sub.refl _, .p rfl (.tmp rfl)⟩
    -- >>far
  case inr =>
    have g1 : decide ((60 : Int) < ((ps.length : Nat) : Int)) = false := decide_eq_false (by omega)
    have g2 : 2 * 1 ≤ 16777216 ∧ 24 * 2 ≤ 281474976710656 ∧ 2 ≤ maxLen := by simp only [maxLen]; omega
    have g3 : 2 * 1 ≤ 16777216 ∧ 1 * 2 ≤ 281474976710656 ∧ 2 ≤ maxLen := by simp only [maxLen]; omega
    -- <<in
    repeat' ((refine zY.is ?_; first | refine zY.seq ?_ | (refine zY.isR (id := 0) ?_; refine zY.zV [0, 1] [6, 7, 9, 10, 15, 16, 19, 20, 22, 23, 42, 43, 117] (by repeat' first | exact zZ.nil | apply zZ.p rfl) (by repeat' first | exact zW.nil | apply zW.skip) ?_; (refine zX.v rfl rfl (zK rfl rfl rfl (by decide)) ?_); refine zX.nil ?_) | (refine zY.isR (id := 1) ?_; refine zY.zV [0, 1, 4] [6, 7, 9, 10, 15, 16, 19, 20, 22, 23, 42, 43, 117] (by repeat' first | exact zZ.nil | apply zZ.p rfl) (by repeat' first | exact zW.nil | apply zW.skip) ?_; (refine zX.v rfl rfl (by exact zN (shown14_fn) rfl rfl rfl (by decide)) ?_); (refine zX.v rfl rfl (zK rfl rfl rfl (by decide)) ?_); refine zX.nil ?_) | (refine zY.isR (id := 2) ?_; refine zY.zV [0, 1, 4, 5] [6, 7, 9, 10, 15, 16, 19, 20, 22, 23, 42, 43, 117] (by repeat' first | exact zZ.nil | apply zZ.p rfl) (by repeat' first | exact zW.nil | apply zW.skip) ?_; (refine zX.v rfl rfl (zQ rfl rfl rfl (by decide)) ?_); (refine zX.v rfl rfl (xO rfl rfl rfl (by decide)) ?_); (refine zX.v rfl rfl (by exact r_gtr rfl rfl rfl (by exact g1) rfl (by decide)) ?_); refine zX.nil ?_) | (refine zY.isR (id := 4) ?_; refine zY.zV [0, 1, 4, 5] [6, 7, 9, 10, 15, 16, 19, 20, 22, 23, 42, 43, 117] (by repeat' first | exact zZ.nil | apply zZ.p rfl) (by repeat' first | exact zW.nil | apply zW.skip) ?_; (refine zX.v rfl rfl (by exact zN (c0) rfl rfl rfl (by decide)) ?_); (refine zX.v rfl rfl (yY rfl (by rfl) (by rfl) (by rfl) (by rfl) rfl (by decide)) ?_); (refine zX.v rfl rfl (by exact yL (c1) rfl rfl rfl (by decide)) ?_); (refine zX.v rfl rfl (yJ rfl rfl rfl (by decide)) ?_); (refine zX.v rfl rfl (zB rfl rfl rfl rfl (by decide)) ?_); (refine zX.v rfl rfl (zB rfl rfl rfl rfl (by decide)) ?_); (refine zX.v rfl rfl (zB rfl rfl rfl rfl (by decide)) ?_); (refine zX.m rfl rfl (zF rfl (by decide) rfl (by decide)) ?_); (refine zX.m rfl rfl (zF rfl (by decide) rfl (by decide)) ?_); (refine zX.w rfl (by exact zC rfl rfl rfl rfl rfl (by rfl) (by exact Nat.le_of_ble_eq_true rfl) rfl rfl) ?_); (refine zX.w rfl (by exact zC rfl rfl rfl rfl rfl (by rfl) (by exact Nat.le_of_ble_eq_true rfl) rfl rfl) ?_); (refine zX.v rfl rfl (zK rfl rfl rfl (by decide)) ?_); refine zX.nil ?_) | (refine zY.isR (id := 5) ?_; refine zY.zV [0, 1, 4, 5, 6, 8] [6, 7, 9, 10, 15, 16, 19, 20, 22, 23, 42, 43, 117] (by repeat' first | exact zZ.nil | apply zZ.p rfl | apply zZ.ptr rfl) (by repeat' first | exact zW.nil | apply zW.boxP rfl rfl | apply zW.skip) ?_; (refine zX.v rfl rfl (zQ rfl rfl rfl (by decide)) ?_); (refine zX.v rfl rfl (by exact wV rfl rfl (by exact bF (by decide)) rfl (by decide)) ?_); refine zX.nil ?_) | (refine zY.isR (id := 7) ?_; refine zY.zV [0, 1, 4, 5, 6] [6, 7, 9, 10, 15, 16, 19, 20, 22, 23, 42, 43, 117] (by repeat' first | exact zZ.nil | apply zZ.p rfl | apply zZ.ptr rfl) (by repeat' first | exact zW.nil | apply zW.boxP rfl rfl | apply zW.skip) ?_; (refine zX.v rfl rfl (zG rfl rfl rfl (by rfl) (by rfl) rfl (by decide)) ?_); (refine zX.m rfl rfl (zF rfl (by decide) rfl (by decide)) ?_); (refine zX.w rfl (by exact zC rfl rfl rfl rfl rfl (by rfl) (by exact Nat.le_of_ble_eq_true rfl) rfl rfl) ?_); refine zX.nil ?_) | (refine zY.isR (id := 8) ?_; refine zY.zV [0, 1, 4, 5, 9] [6, 7, 9, 10, 15, 16, 19, 20, 22, 23, 42, 43, 117] (by repeat' first | exact zZ.nil | apply zZ.p rfl | apply zZ.ptr rfl) (by repeat' first | exact zW.nil | apply zW.boxP rfl rfl | apply zW.skip) ?_; (refine zX.v rfl rfl (yY rfl (by rfl) (by rfl) (by rfl) (by rfl) rfl (by decide)) ?_); (refine zX.m rfl rfl (zF rfl (by decide) rfl (by decide)) ?_); (refine zX.w rfl (by exact zC rfl rfl rfl rfl rfl (by rfl) (by exact Nat.le_of_ble_eq_true rfl) rfl rfl) ?_); refine zX.nil ?_) | (refine zY.isR (id := 9) ?_; refine zY.zV [0, 1, 4, 5, 9, 10] [6, 7, 9, 10, 15, 16, 19, 20, 22, 23, 42, 43, 117] (by repeat' first | exact zZ.nil | apply zZ.p rfl | apply zZ.ptr rfl) (by repeat' first | exact zW.nil | apply zW.boxP rfl rfl | apply zW.skip) ?_; (refine zX.m rfl rfl (by exact w_makeV1 rfl rfl rfl (by exact g2) rfl (by decide) rfl (by rfl) rfl (by decide)) ?_); (refine zX.v rfl rfl (xV rfl rfl rfl (by decide)) ?_); refine zX.nil ?_) | (refine zY.isR (id := 10) ?_; refine zY.zV [0, 1, 4, 5, 9, 10, 11] [6, 7, 9, 10, 15, 16, 19, 20, 22, 23, 42, 43, 117] (by repeat' first | exact zZ.nil | apply zZ.p rfl | apply zZ.ptr rfl | apply zZ.own rfl) (by repeat' first | exact zW.nil | apply zW.boxP rfl rfl | apply zW.some rfl | apply zW.skip) ?_; (refine zX.m rfl rfl (by exact w_makeV1 rfl rfl rfl (by exact g3) rfl (by decide) rfl (by rfl) rfl (by decide)) ?_); (refine zX.v rfl rfl (xV rfl rfl rfl (by decide)) ?_); refine zX.nil ?_) | (refine zY.isR (id := 11) ?_; refine zY.zV [0, 1, 4, 5, 9, 10, 11, 12] [6, 7, 9, 10, 15, 16, 19, 20, 22, 23, 42, 43, 117] (by repeat' first | exact zZ.nil | apply zZ.p rfl | apply zZ.ptr rfl | apply zZ.own rfl) (by repeat' first | exact zW.nil | apply zW.boxP rfl rfl | apply zW.some rfl | apply zW.skip) ?_; (refine zX.v rfl rfl (zK rfl rfl rfl (by decide)) ?_); refine zX.nil ?_) | (refine zY.isR (id := 12) ?_; refine zY.zV [0, 1, 4, 5, 9, 10, 11, 12, 13] [6, 7, 9, 10, 15, 16, 19, 20, 22, 23, 42, 43, 117] (by repeat' first | exact zZ.nil | apply zZ.p rfl | apply zZ.ptr rfl | apply zZ.own rfl) (by repeat' first | exact zW.nil | apply zW.boxP rfl rfl | apply zW.some rfl | apply zW.skip) ?_; (refine zX.v rfl rfl (zK rfl rfl rfl (by decide)) ?_); refine zX.nil ?_) | refine zY.yI rfl (by first | assumption | with_reducible rfl) ?_ | refine zY.skip ?_ | refine zY.block ?_))
    -- >>in
    refine zY.loop (fun y : Nat × HSt => wM ps an y.1 y.2) (fun y => y.1 ≤ ps.length ∧ HInv y.1 y.2) (fun y => ps.length - y.1) (0, ⟨0, ([], 0), ([], 0), [], [], 0, 0, false, false⟩) ?h0 ⟨Nat.zero_le _, ⟨by show 0 < 3; omega, HTh.zero, HTh.zero, Nat.le_refl _, Nat.le_refl _⟩⟩ ?rd
    case h0 =>
      -- <<h0
      refine (wQ (id := 42) (b := vO 58 1 [.val (.slice none 0 0), .val (.slice none 0 0)]) (b' := .row 58 1 2 [.p (.val (.slice none 0 0)), .p (.val (.slice none 0 0))]) (by rfl) (vL 58 1 [.val (.slice none 0 0), .val (.slice none 0 0)])).sub.trans ?_
      refine (sub_adoptC (r := 42) (id := 201) (ty := 60) (sz := 3) (j := 0) (e := 58) (m := 2) (xs := [.p (.val (.slice none 0 0)), .p (.val (.slice none 0 0))]) (by decide) (by decide) (by rfl) rfl rfl).trans ?_
      refine (sub_adoptC (r := 42) (id := 202) (ty := 60) (sz := 3) (j := 1) (e := 58) (m := 2) (xs := [.own 201, .p (.val (.slice none 0 0))]) (by decide) (by decide) (by rfl) rfl rfl).trans ?_
      refine (wQ (id := 201) (b := .row 60 3 0 []) (b' := vO 60 3 []) (by rfl) (wS 60 3 [])).sub.trans ?_
      refine (sub_lend (id := 201) (e := 60) (sz := 3) (es := []) (by rfl)).trans ?_
      refine (wQ (id := 202) (b := .row 60 3 0 []) (b' := vO 60 3 []) (by rfl) (wS 60 3 [])).sub.trans ?_
      refine (sub_lend (id := 202) (e := 60) (sz := 3) (es := []) (by rfl)).trans ?_
      refine zI (is := [0, 1, 5, 9, 10, 11, 12, 13, 14]) (js := [9, 10, 42, 201, 202, 43]) ?_ ?_
      repeat' first | exact zZ.nil | apply zZ.p rfl | apply zZ.ptr rfl | apply zZ.own rfl | apply zZ.clo rfl | apply zZ.pt rfl | apply zZ.tup rfl | apply zZ.skip
      repeat' first | exact zW.nil | apply zW.boxP rfl rfl | apply zW.yK rfl | apply zW.some rfl | apply zW.skip
      -- >>h0
    case rd =>
      clear c0 c1 g1 g2 g3
      rintro ⟨i, x⟩ ⟨hi, hinv⟩
      dsimp only at hi hinv
      rcases Nat.lt_or_ge i ps.length with hlt | hge
      case inl =>
        have g1 : decide ((i : Int) < ((ps.length : Nat) : Int)) = true := decide_eq_true (by omega)
        have gi : (0 : Int) ≤ (i : Int) ∧ (i : Int) < ((ps.length : Nat) : Int) := by omega
        obtain ⟨pb, hpb⟩ : ∃ pb, ps[i]? = some pb := ⟨_, List.getElem?_eq_getElem hlt⟩
        have hp := hps pb (List.mem_of_getElem? hpb)
        have hpe : ps.getD (i : Int).toNat 0 = pb := by rw [Int.toNat_natCast, List.getD_eq_getElem?_getD, hpb]; rfl
        change zY _ _ _ (wM ps an i x) _
        refine zY.is ?_
        refine zY.cut (fun _ : Unit => wM ps an i x) (fun _ => True) ?p1 ?p2
        case p1 =>
          -- <<p1
          unfold wM
          repeat' (first | (refine zY.is ?_; first | refine zY.seq ?_ | (refine zY.isR (id := 13) ?_; refine zY.zV [0, 1, 4, 5, 9, 10, 11, 12, 13, 14, 15, 17, 18, 19, 20, 21, 22, 23, 47, 63, 72, 83, 95, 98] [6, 7, 9, 10, 15, 16, 19, 20, 22, 23, 42, 43, 117, 201, 202] (by repeat' first | exact zZ.nil | apply zZ.p rfl | apply zZ.ptr rfl | apply zZ.own rfl | apply zZ.skip) (by repeat' first | exact zW.nil | apply zW.boxP rfl rfl | apply zW.some rfl | apply zW.skip) ?_; (refine zX.v rfl rfl (zQ rfl rfl rfl (by decide)) ?_); (refine zX.v rfl rfl (zQ rfl rfl rfl (by decide)) ?_); (refine zX.v rfl rfl (xO rfl rfl rfl (by decide)) ?_); (refine zX.v rfl rfl (by exact yG rfl rfl rfl (by exact g1) rfl (by decide)) ?_); refine zX.nil ?_) | refine zY.yO rfl (by first | assumption | with_reducible rfl) ?_ | refine zY.skip ?_) | refine yQ.n ?_)
          all_goals
            refine ⟨(), trivial, ?_⟩
            try unfold wM
            refine zI (is := [0, 1, 5, 9, 10, 11, 12, 13, 14]) (js := [9, 10, 42, 201, 202, 43]) ?_ ?_
            repeat' first | exact zZ.nil | apply zZ.p rfl | apply zZ.ptr rfl | apply zZ.own rfl | apply zZ.clo rfl | apply zZ.pt rfl | apply zZ.tup rfl | apply zZ.skip
            repeat' first | exact zW.nil | apply zW.boxP rfl rfl | apply zW.yK rfl | apply zW.some rfl | apply zW.skip
          -- >>p1
        case p2 =>
          intro _ _
          refine zY.is ?_
          refine zY.seq ?_
          refine zY.is ?_
          refine zY.block ?_
          refine zY.is ?_
          refine zY.cut (fun y => wM ps an i y) (HInv i) ?m1 ?m2
          case m1 =>
            have e0 := hpe
            cases hq1 : decide (pb = 255)
            case false =>
              have g2 : decide (ps.getD (i : Int).toNat 0 = 255) = false := by rw [hpe]; exact hq1
              -- <<m1
              unfold wM
              repeat' (first | (refine zY.is ?_; first | refine zY.seq ?_ | (refine zY.isR (id := 15) ?_; refine zY.zV [0, 1, 4, 5, 9, 10, 11, 12, 13, 14, 15, 17, 18, 19, 20, 21, 22, 23, 47, 63, 72, 83, 95, 98] [6, 7, 9, 10, 15, 16, 19, 20, 22, 23, 42, 43, 117, 201, 202] (by repeat' first | exact zZ.nil | apply zZ.p rfl | apply zZ.ptr rfl | apply zZ.own rfl | apply zZ.skip) (by repeat' first | exact zW.nil | apply zW.boxP rfl rfl | apply zW.some rfl | apply zW.skip) ?_; all_goals (refine zX.v rfl rfl (zQ rfl rfl rfl (by decide)) ?_); all_goals (refine zX.v rfl rfl (zQ rfl rfl rfl (by decide)) ?_); all_goals (refine zX.v rfl rfl (by exact xL rfl rfl rfl (by exact gi) rfl (by decide)) ?_); all_goals (refine zX.v rfl rfl (y8 rfl rfl rfl rfl (by decide)) ?_); all_goals (refine zX.v rfl rfl (by exact y5 rfl rfl rfl (by exact g2) rfl (by decide)) ?_); all_goals (refine zX.v rfl rfl (zQ rfl rfl rfl (by decide)) ?_); all_goals (refine zX.gnT rfl rfl (by decide) rfl (by with_reducible rfl) rfl (by decide) ?_); all_goals (refine zX.gnT rfl rfl (by decide) rfl (by with_reducible rfl) rfl (by decide) ?_); all_goals (refine zX.v rfl rfl (by exact yF rfl rfl (by with_reducible rfl) rfl rfl (by decide)) ?_); all_goals (refine zX.v rfl rfl (zQ rfl rfl rfl (by decide)) ?_); all_goals (refine zX.gnT rfl rfl (by decide) rfl (by with_reducible rfl) rfl (by decide) ?_); all_goals (refine zX.gnT rfl rfl (by decide) rfl (by with_reducible rfl) rfl (by decide) ?_); all_goals (refine zX.gnT rfl rfl (by decide) rfl (by with_reducible rfl) rfl (by decide) ?_); all_goals (refine zX.v rfl rfl (by exact yF rfl rfl (by with_reducible rfl) rfl rfl (by decide)) ?_); all_goals (refine zX.nil ?_)) | refine zY.yI rfl (by first | assumption | with_reducible rfl) ?_ | refine zY.skip ?_) | refine yQ.n ?_)
              all_goals
                refine ⟨x, hinv, ?_⟩
                try unfold wM
                refine zI (is := [0, 1, 5, 9, 10, 11, 12, 13, 14]) (js := [9, 10, 42, 201, 202, 43]) ?_ ?_
                repeat' first | exact zZ.nil | apply zZ.p rfl | apply zZ.ptr rfl | apply zZ.own rfl | apply zZ.clo rfl | apply zZ.pt rfl | apply zZ.tup rfl | apply zZ.skip
                repeat' first | exact zW.nil | apply zW.boxP rfl rfl | apply zW.yK rfl | apply zW.some rfl | apply zW.skip
              -- >>m1
            case true =>
              have g2 : decide (ps.getD (i : Int).toNat 0 = 255) = true := by rw [hpe]; exact hq1
              cases hfr : hFr x.c
              case true =>
                -- <<m2
                unfold wM
                rw [hfr]
                repeat' (first | (refine zY.is ?_; first | refine zY.seq ?_ | (refine zY.isR (id := 15) ?_; refine zY.zV [0, 1, 4, 5, 9, 10, 11, 12, 13, 14, 15, 17, 18, 19, 20, 21, 22, 23, 47, 63, 72, 83, 95, 98] [6, 7, 9, 10, 15, 16, 19, 20, 22, 23, 42, 43, 117, 201, 202] (by repeat' first | exact zZ.nil | apply zZ.p rfl | apply zZ.ptr rfl | apply zZ.own rfl | apply zZ.skip) (by repeat' first | exact zW.nil | apply zW.boxP rfl rfl | apply zW.some rfl | apply zW.skip) ?_; all_goals (refine zX.v rfl rfl (zQ rfl rfl rfl (by decide)) ?_); all_goals (refine zX.v rfl rfl (zQ rfl rfl rfl (by decide)) ?_); all_goals (refine zX.v rfl rfl (by exact xL rfl rfl rfl (by exact gi) rfl (by decide)) ?_); all_goals (refine zX.v rfl rfl (y8 rfl rfl rfl rfl (by decide)) ?_); all_goals (refine zX.v rfl rfl (by exact y5 rfl rfl rfl (by exact g2) rfl (by decide)) ?_); all_goals (refine zX.v rfl rfl (zQ rfl rfl rfl (by decide)) ?_); all_goals (refine zX.gY rfl rfl (by decide) rfl (by with_reducible rfl) rfl (by decide) (zQ rfl rfl rfl (by decide)) ?_); all_goals (refine zX.gY rfl rfl (by decide) rfl (by with_reducible rfl) rfl (by decide) (by exact wV rfl rfl (by exact bF (by decide)) rfl (by decide)) ?_); all_goals (refine zX.v rfl rfl (by exact zO rfl rfl (by with_reducible rfl) rfl rfl (by decide)) ?_); all_goals (refine zX.v rfl rfl (zQ rfl rfl rfl (by decide)) ?_); all_goals (refine zX.gnT rfl rfl (by decide) rfl (by with_reducible rfl) rfl (by decide) ?_); all_goals (refine zX.gnT rfl rfl (by decide) rfl (by with_reducible rfl) rfl (by decide) ?_); all_goals (refine zX.gnT rfl rfl (by decide) rfl (by with_reducible rfl) rfl (by decide) ?_); all_goals (refine zX.v rfl rfl (by exact yF rfl rfl (by with_reducible rfl) rfl rfl (by decide)) ?_); all_goals (refine zX.nil ?_)) | refine zY.yI rfl (by with_reducible rfl) ?_ | refine zY.skip ?_) | refine yQ.n ?_)
                all_goals
                  refine ⟨x, hinv, ?_⟩
                  try unfold wM
                  try rw [hfr]
                  refine zI (is := [0, 1, 5, 9, 10, 11, 12, 13, 14]) (js := [9, 10, 42, 201, 202, 43]) ?_ ?_
                  repeat' first | exact zZ.nil | apply zZ.p rfl | apply zZ.ptr rfl | apply zZ.own rfl | apply zZ.clo rfl | apply zZ.pt rfl | apply zZ.tup rfl | apply zZ.skip
                  repeat' first | exact zW.nil | apply zW.boxP rfl rfl | apply zW.yK rfl | apply zW.some rfl | apply zW.skip
                -- >>m2
              case false =>
                cases hq3 : decide (an.tmod 2 = 1)
                case false =>
                  have g3 := hq3
                  -- <<m3
                  unfold wM
                  rw [hfr]
                  repeat' (first | (refine zY.is ?_; first | refine zY.seq ?_ | (refine zY.isR (id := 15) ?_; refine zY.zV [0, 1, 4, 5, 9, 10, 11, 12, 13, 14, 15, 17, 18, 19, 20, 21, 22, 23, 47, 63, 72, 83, 95, 98] [6, 7, 9, 10, 15, 16, 19, 20, 22, 23, 42, 43, 117, 201, 202] (by repeat' first | exact zZ.nil | apply zZ.p rfl | apply zZ.ptr rfl | apply zZ.own rfl | apply zZ.skip) (by repeat' first | exact zW.nil | apply zW.boxP rfl rfl | apply zW.some rfl | apply zW.skip) ?_; all_goals (refine zX.v rfl rfl (zQ rfl rfl rfl (by decide)) ?_); all_goals (refine zX.v rfl rfl (zQ rfl rfl rfl (by decide)) ?_); all_goals (refine zX.v rfl rfl (by exact xL rfl rfl rfl (by exact gi) rfl (by decide)) ?_); all_goals (refine zX.v rfl rfl (y8 rfl rfl rfl rfl (by decide)) ?_); all_goals (refine zX.v rfl rfl (by exact y5 rfl rfl rfl (by exact g2) rfl (by decide)) ?_); all_goals (refine zX.v rfl rfl (zQ rfl rfl rfl (by decide)) ?_); all_goals (refine zX.gY rfl rfl (by decide) rfl (by with_reducible rfl) rfl (by decide) (zQ rfl rfl rfl (by decide)) ?_); all_goals (refine zX.gY rfl rfl (by decide) rfl (by with_reducible rfl) rfl (by decide) (by exact wV rfl rfl (by exact bT (by decide)) rfl (by decide)) ?_); all_goals (refine zX.v rfl rfl (by exact zO rfl rfl (by with_reducible rfl) rfl rfl (by decide)) ?_); all_goals (refine zX.v rfl rfl (zQ rfl rfl rfl (by decide)) ?_); all_goals (refine zX.gY rfl rfl (by decide) rfl (by with_reducible rfl) rfl (by decide) (zQ rfl rfl rfl (by decide)) ?_); all_goals (refine zX.gY rfl rfl (by decide) rfl (by with_reducible rfl) rfl (by decide) (vR rfl rfl rfl (by decide) (by rfl) rfl (by decide)) ?_); all_goals (refine zX.gY rfl rfl (by decide) rfl (by with_reducible rfl) rfl (by decide) (by exact y5 rfl rfl rfl (by exact g3) rfl (by decide)) ?_); all_goals (refine zX.v rfl rfl (by exact zO rfl rfl (by with_reducible rfl) rfl rfl (by decide)) ?_); all_goals (refine zX.nil ?_)) | refine zY.yI rfl (by first | assumption | with_reducible rfl) ?_ | refine zY.skip ?_) | refine yQ.n ?_)
                  all_goals
                    refine ⟨x, hinv, ?_⟩
                    try unfold wM
                    try rw [hfr]
                    refine zI (is := [0, 1, 5, 9, 10, 11, 12, 13, 14]) (js := [9, 10, 42, 201, 202, 43]) ?_ ?_
                    repeat' first | exact zZ.nil | apply zZ.p rfl | apply zZ.ptr rfl | apply zZ.own rfl | apply zZ.clo rfl | apply zZ.pt rfl | apply zZ.tup rfl | apply zZ.skip
                    repeat' first | exact zW.nil | apply zW.boxP rfl rfl | apply zW.yK rfl | apply zW.some rfl | apply zW.skip
                  -- >>m3
                case true =>
                  have g3 := hq3
                  obtain ⟨oN, c1⟩ := hinv.make (by omega) hfr
                  -- <<m4
                  unfold wM
                  rw [hfr]
                  repeat' (first | (refine zY.is ?_; first | refine zY.seq ?_ | (refine zY.isR (id := 15) ?_; refine zY.zV [0, 1, 4, 5, 9, 10, 11, 12, 13, 14, 15, 17, 18, 19, 20, 21, 22, 23, 47, 63, 72, 83, 95, 98] [6, 7, 9, 10, 15, 16, 19, 20, 22, 23, 42, 43, 117, 201, 202] (by repeat' first | exact zZ.nil | apply zZ.p rfl | apply zZ.ptr rfl | apply zZ.own rfl | apply zZ.skip) (by repeat' first | exact zW.nil | apply zW.boxP rfl rfl | apply zW.some rfl | apply zW.skip) ?_; all_goals (refine zX.v rfl rfl (zQ rfl rfl rfl (by decide)) ?_); all_goals (refine zX.v rfl rfl (zQ rfl rfl rfl (by decide)) ?_); all_goals (refine zX.v rfl rfl (by exact xL rfl rfl rfl (by exact gi) rfl (by decide)) ?_); all_goals (refine zX.v rfl rfl (y8 rfl rfl rfl rfl (by decide)) ?_); all_goals (refine zX.v rfl rfl (by exact y5 rfl rfl rfl (by exact g2) rfl (by decide)) ?_); all_goals (refine zX.v rfl rfl (zQ rfl rfl rfl (by decide)) ?_); all_goals (refine zX.gY rfl rfl (by decide) rfl (by with_reducible rfl) rfl (by decide) (zQ rfl rfl rfl (by decide)) ?_); all_goals (refine zX.gY rfl rfl (by decide) rfl (by with_reducible rfl) rfl (by decide) (by exact wV rfl rfl (by exact bT (by decide)) rfl (by decide)) ?_); all_goals (refine zX.v rfl rfl (by exact zO rfl rfl (by with_reducible rfl) rfl rfl (by decide)) ?_); all_goals (refine zX.v rfl rfl (zQ rfl rfl rfl (by decide)) ?_); all_goals (refine zX.gY rfl rfl (by decide) rfl (by with_reducible rfl) rfl (by decide) (zQ rfl rfl rfl (by decide)) ?_); all_goals (refine zX.gY rfl rfl (by decide) rfl (by with_reducible rfl) rfl (by decide) (vR rfl rfl rfl (by decide) (by rfl) rfl (by decide)) ?_); all_goals (refine zX.gY rfl rfl (by decide) rfl (by with_reducible rfl) rfl (by decide) (by exact y5 rfl rfl rfl (by exact g3) rfl (by decide)) ?_); all_goals (refine zX.v rfl rfl (by exact zO rfl rfl (by with_reducible rfl) rfl rfl (by decide)) ?_); all_goals (refine zX.nil ?_)) | (refine zY.isR (id := 16) ?_; refine zY.zV [0, 1, 4, 5, 9, 10, 11, 12, 13, 14, 15, 17, 18, 19, 20, 21, 22, 23, 47, 63, 72, 83, 95, 98] [6, 7, 9, 10, 15, 16, 19, 20, 22, 23, 42, 43, 117, 201, 202] (by repeat' first | exact zZ.nil | apply zZ.p rfl | apply zZ.ptr rfl | apply zZ.own rfl | apply zZ.skip) (by repeat' first | exact zW.nil | apply zW.boxP rfl rfl | apply zW.some rfl | apply zW.skip) ?_; (refine zX.v rfl rfl (zG rfl rfl rfl (by rfl) (by rfl) rfl (by decide)) ?_); (refine zX.v rfl rfl (yY rfl (by rfl) (by rfl) (by rfl) (by rfl) rfl (by decide)) ?_); (refine zX.v rfl rfl (by exact yL (c1) rfl rfl rfl (by decide)) ?_); (refine zX.v rfl rfl (yJ rfl rfl rfl (by decide)) ?_); (refine zX.v rfl rfl (zB rfl rfl rfl rfl (by decide)) ?_); (refine zX.v rfl rfl (zB rfl rfl rfl rfl (by decide)) ?_); (refine zX.v rfl rfl (zB rfl rfl rfl rfl (by decide)) ?_); (refine zX.m rfl rfl (zF rfl (by decide) rfl (by decide)) ?_); (refine zX.m rfl rfl (zF rfl (by decide) rfl (by decide)) ?_); (refine zX.w rfl (by exact zC rfl rfl rfl rfl rfl (by rfl) (by exact Nat.le_of_ble_eq_true rfl) rfl rfl) ?_); (refine zX.w rfl (by exact zC rfl rfl rfl rfl rfl (by rfl) (by exact Nat.le_of_ble_eq_true rfl) rfl rfl) ?_); (refine zX.v rfl rfl (zK rfl rfl rfl (by decide)) ?_); refine zX.nil ?_) | (refine zY.isR (id := 17) ?_; refine zY.zV [0, 1, 4, 5, 9, 10, 11, 12, 13, 14, 15, 17, 18, 19, 20, 21, 22, 23, 47, 63, 72, 83, 95, 98] [6, 7, 9, 10, 15, 16, 19, 20, 22, 23, 42, 43, 117, 201, 202] (by repeat' first | exact zZ.nil | apply zZ.p rfl | apply zZ.ptr rfl | apply zZ.own rfl | apply zZ.skip) (by repeat' first | exact zW.nil | apply zW.boxP rfl rfl | apply zW.some rfl | apply zW.skip) ?_; (refine zX.v rfl rfl (zQ rfl rfl rfl (by decide)) ?_); (refine zX.v rfl rfl (by exact wV rfl rfl (by exact bF (by decide)) rfl (by decide)) ?_); refine zX.nil ?_) | (refine zY.isR (id := 19) ?_; refine zY.zV [0, 1, 4, 5, 9, 10, 11, 12, 13, 14, 15, 17, 18, 19, 20, 21, 22, 23, 47, 63, 72, 83, 95, 98] [6, 7, 9, 10, 15, 16, 19, 20, 22, 23, 42, 43, 117, 201, 202] (by repeat' first | exact zZ.nil | apply zZ.p rfl | apply zZ.ptr rfl | apply zZ.own rfl | apply zZ.skip) (by repeat' first | exact zW.nil | apply zW.boxP rfl rfl | apply zW.some rfl | apply zW.skip) ?_; (refine zX.v rfl rfl (zG rfl rfl rfl (by rfl) (by rfl) rfl (by decide)) ?_); (refine zX.w rfl (by exact zC rfl rfl rfl rfl rfl (by rfl) (by exact Nat.le_of_ble_eq_true rfl) rfl rfl) ?_); refine zX.nil ?_) | (refine zY.isR (id := 20) ?_; refine zY.zV [0, 1, 4, 5, 9, 10, 11, 12, 13, 14, 15, 17, 18, 19, 20, 21, 22, 23, 47, 63, 72, 83, 95, 98] [6, 7, 9, 10, 15, 16, 19, 20, 22, 23, 42, 43, 117, 201, 202] (by repeat' first | exact zZ.nil | apply zZ.p rfl | apply zZ.ptr rfl | apply zZ.own rfl | apply zZ.skip) (by repeat' first | exact zW.nil | apply zW.boxP rfl rfl | apply zW.some rfl | apply zW.skip) ?_; (refine zX.v rfl rfl (zK rfl rfl rfl (by decide)) ?_); refine zX.nil ?_) | refine zY.yO rfl (by first | assumption | with_reducible rfl) ?_ | refine zY.yI rfl (by first | assumption | with_reducible rfl) ?_ | refine zY.skip ?_) | refine yQ.n ?_)
                  all_goals
                    refine ⟨x.anew, hinv.anew, ?_⟩
                    show Sub _ (wM ps an i ⟨2, x.s0, x.s1, x.L0, x.L1, x.j0, x.j1, x.o0, x.o1⟩)
                    try unfold wM
                    refine zI (is := [0, 1, 5, 9, 10, 11, 12, 13, 14]) (js := [9, 10, 42, 201, 202, 43]) ?_ ?_
                    repeat' first | exact zZ.nil | apply zZ.p rfl | apply zZ.ptr rfl | apply zZ.own rfl | apply zZ.clo rfl | apply zZ.pt rfl | apply zZ.tup rfl | apply zZ.skip
                    repeat' first | exact zW.nil | apply zW.boxP rfl rfl | apply zW.yK rfl | apply zW.some rfl | apply zW.skip
                  -- >>m4
          case m2 =>
            clear hinv
            rintro ⟨c, s0, s1, L0, L1, j0, j1, o0, o1⟩ hinv
            have hj0 := hinv.a.lj
            have hj1 := hinv.b.lj
            have hl0 := hinv.a.len
            have hl1 := hinv.b.len
            dsimp only at hj0 hj1 hl0 hl1
            have g4 : IntKind.i64.wrap (ps.getD (i : Int).toNat 0) = pb := by rw [hpe]; exact wrap_i64 _ (by omega)
            have g6 : IntKind.i64.wrap ((i : Int) + 1) = ((i + 1 : Nat) : Int) := by rw [wrap_i64 _ (by omega)]; omega
            have hme : pb.tmod 2 = 0 ∨ pb.tmod 2 = 1 := by
              rw [Int.tmod_eq_emod_of_nonneg hp.1]
              omega
            have k0 := hbc o0 o1
            have k1 := hbc1 o0 o1
            rcases hme with g5 | g5
            case inl =>
              have g7 : (0 : Int) ≤ 0 ∧ (0 : Int) < (([.val (.bool o0), .val (.bool o1)] : List PV).length : Int) := t0
              have g7b : (0 : Int).toNat < ([.val (.bool o0), .val (.bool o1)] : List PV).length := (by decide : (0 : Int).toNat < 2)
              have g8 : (0 : Int) ≤ 0 ∧ (0 : Int) < ((2 : Nat) : Int) := t0
              cases o0
              case true =>
                have g9 : ([.val (.bool true), .val (.bool o1)] : List PV)[(0 : Int).toNat * 1]? = some (.val (.bool true)) := rfl
                -- <<o0
                unfold wM
                dsimp only
                repeat' (first | (refine zY.is ?_; first | refine zY.seq ?_ | (refine zY.isR (id := 21) ?_; refine zY.zV [0, 1, 4, 5, 9, 10, 11, 12, 13, 14, 15, 17, 18, 19, 20, 21, 22, 23, 47, 63, 72, 83, 95, 98] [6, 7, 9, 10, 15, 16, 19, 20, 22, 23, 42, 43, 117, 201, 202] (by repeat' first | exact zZ.nil | apply zZ.p rfl | apply zZ.ptr rfl | apply zZ.own rfl | apply zZ.skip) (by repeat' first | exact zW.nil | apply zW.boxP rfl rfl | apply zW.some rfl | apply zW.skip) ?_; (refine zX.v rfl rfl (zQ rfl rfl rfl (by decide)) ?_); (refine zX.v rfl rfl (zQ rfl rfl rfl (by decide)) ?_); (refine zX.v rfl rfl (by exact xL rfl rfl rfl (by exact gi) rfl (by decide)) ?_); (refine zX.v rfl rfl (y8 rfl rfl rfl rfl (by decide)) ?_); (refine zX.v rfl rfl (by exact xK rfl rfl (by exact g4) rfl (by decide)) ?_); (refine zX.v rfl rfl (by exact vR rfl rfl rfl (by decide) (by exact g5) rfl (by decide)) ?_); (refine zX.v rfl rfl (zK rfl rfl rfl (by decide)) ?_); refine zX.nil ?_) | (refine zY.isR (id := 22) ?_; refine zY.zV [0, 1, 4, 5, 9, 10, 11, 12, 13, 14, 15, 17, 18, 19, 20, 21, 22, 23, 47, 63, 72, 83, 95, 98] [6, 7, 9, 10, 15, 16, 19, 20, 22, 23, 42, 43, 117, 201, 202] (by repeat' first | exact zZ.nil | apply zZ.p rfl | apply zZ.ptr rfl | apply zZ.own rfl | apply zZ.skip) (by repeat' first | exact zW.nil | apply zW.boxP rfl rfl | apply zW.some rfl | apply zW.skip) ?_; (refine zX.v rfl rfl (yE rfl rfl rfl (by decide)) ?_); (refine zX.v rfl rfl (zQ rfl rfl rfl (by decide)) ?_); (refine zX.v rfl rfl (by exact yR rfl rfl rfl rfl (by exact g7) rfl (by decide)) ?_); (refine zX.v rfl rfl (zA rfl rfl rfl (by rfl) rfl (by decide)) ?_); refine zX.nil ?_) | (refine zY.isR (id := 14) ?_; refine zY.zV [0, 1, 4, 5, 9, 10, 11, 12, 13, 14, 15, 17, 18, 19, 20, 21, 22, 23, 47, 63, 72, 83, 95, 98] [6, 7, 9, 10, 15, 16, 19, 20, 22, 23, 42, 43, 117, 201, 202] (by repeat' first | exact zZ.nil | apply zZ.p rfl | apply zZ.ptr rfl | apply zZ.own rfl | apply zZ.skip) (by repeat' first | exact zW.nil | apply zW.boxP rfl rfl | apply zW.some rfl | apply zW.skip) ?_; (refine zX.v rfl rfl (zQ rfl rfl rfl (by decide)) ?_); (refine zX.v rfl rfl (by exact yP rfl rfl rfl (by exact g6) rfl (by decide)) ?_); (refine zX.v rfl rfl (zK rfl rfl rfl (by decide)) ?_); refine zX.nil ?_) | refine zY.yO rfl (by first | assumption | with_reducible rfl) ?_ | refine zY.exit ?_) | refine yQ.n ?_)
                all_goals
                  refine ⟨(i + 1, ⟨c, s0, s1, L0, L1, j0, j1, true, o1⟩), ?_, ⟨by show i + 1 ≤ ps.length; omega, hinv.up⟩, by show ps.length - (i + 1) < ps.length - i; omega⟩
                  show Sub _ (wM ps an (i + 1) ⟨c, s0, s1, L0, L1, j0, j1, true, o1⟩)
                  unfold wM
                  dsimp only
                  refine zI (is := [0, 1, 5, 9, 10, 11, 12, 13, 14]) (js := [9, 10, 42, 201, 202, 43]) ?_ ?_
                  repeat' first | exact zZ.nil | apply zZ.p rfl | apply zZ.ptr rfl | apply zZ.own rfl | apply zZ.clo rfl | apply zZ.pt rfl | apply zZ.tup rfl | apply zZ.skip
                  repeat' first | exact zW.nil | apply zW.boxP rfl rfl | apply zW.yK rfl | apply zW.some rfl | apply zW.skip
                -- >>o0
              case false =>
                have g9 : ([.val (.bool false), .val (.bool o1)] : List PV)[(0 : Int).toNat * 1]? = some (.val (.bool false)) := rfl
                rcases Nat.lt_or_ge j0 6 with h6 | h6
                case inl =>
                  have c1 := (hinv.a.need (by omega) h6 0).1
                  have c2 := hinv.do0 (by omega) h6
                  have hnext := hinv.step0 h6
                  dsimp only [HSt.step0] at c1 c2 hnext
                  have hfs := hFr_step j0 c
                  generalize askQ (hT j0) = aq at c1 c2
                  generalize hR j0 c = rr at c2 hnext
                  generalize hJ j0 c = jj at hnext
                  generalize hC j0 c = cc at c2 hnext hfs
                  generalize hS j0 s0 = ss at c2 hnext
                  have k2 : ∀ v ∈ L0.map wI, v.cells.length = 3 := resV_cells L0
                  have k3 : ∀ v ∈ [wI rr], v.cells.length = 3 := fun v hv => by simp at hv; subst hv; rfl
                  have k4 : ((L0.map wI).length + ([wI rr] : List PV).length) * 40 ≤ 140737488355328 ∧ (L0.map wI).length + ([wI rr] : List PV).length ≤ maxLen := by
                    simp only [List.length_map, List.length_cons, List.length_nil, maxLen]
                    omega
                  -- <<s0
                  unfold wM
                  dsimp only
                  repeat' (first | refine zY.hold (id := 23) ?_ | (refine zY.is ?_; first | refine zY.seq ?_ | (refine zY.isR (id := 21) ?_; refine zY.zV [0, 1, 4, 5, 9, 10, 11, 12, 13, 14, 15, 17, 18, 19, 20, 21, 22, 23, 47, 63, 72, 83, 95, 98] [6, 7, 9, 10, 15, 16, 19, 20, 22, 23, 42, 43, 117, 201, 202] (by repeat' first | exact zZ.nil | apply zZ.p rfl | apply zZ.ptr rfl | apply zZ.own rfl | apply zZ.skip) (by repeat' first | exact zW.nil | apply zW.boxP rfl rfl | apply zW.some rfl | apply zW.skip) ?_; (refine zX.v rfl rfl (zQ rfl rfl rfl (by decide)) ?_); (refine zX.v rfl rfl (zQ rfl rfl rfl (by decide)) ?_); (refine zX.v rfl rfl (by exact xL rfl rfl rfl (by exact gi) rfl (by decide)) ?_); (refine zX.v rfl rfl (y8 rfl rfl rfl rfl (by decide)) ?_); (refine zX.v rfl rfl (by exact xK rfl rfl (by exact g4) rfl (by decide)) ?_); (refine zX.v rfl rfl (by exact vR rfl rfl rfl (by decide) (by exact g5) rfl (by decide)) ?_); (refine zX.v rfl rfl (zK rfl rfl rfl (by decide)) ?_); refine zX.nil ?_) | (refine zY.isR (id := 22) ?_; refine zY.zV [0, 1, 4, 5, 9, 10, 11, 12, 13, 14, 15, 17, 18, 19, 20, 21, 22, 23, 47, 63, 72, 83, 95, 98] [6, 7, 9, 10, 15, 16, 19, 20, 22, 23, 42, 43, 117, 201, 202] (by repeat' first | exact zZ.nil | apply zZ.p rfl | apply zZ.ptr rfl | apply zZ.own rfl | apply zZ.skip) (by repeat' first | exact zW.nil | apply zW.boxP rfl rfl | apply zW.some rfl | apply zW.skip) ?_; (refine zX.v rfl rfl (yE rfl rfl rfl (by decide)) ?_); (refine zX.v rfl rfl (zQ rfl rfl rfl (by decide)) ?_); (refine zX.v rfl rfl (by exact yR rfl rfl rfl rfl (by exact g7) rfl (by decide)) ?_); (refine zX.v rfl rfl (zA rfl rfl rfl (by rfl) rfl (by decide)) ?_); refine zX.nil ?_) | refine zY.yI rfl (by with_reducible rfl) ?_ | refine zY.skip ?_))
                  refine Hold.go ?_
                  refine zY.cutR (id := 23) (M := { t := [(0, .p (.sl (byts ps))), (1, .p (.val (.int .u8 an))), (5, .p (.val (.bool true))), (9, .ptr 9 0), (10, .ptr 10 0), (11, .own 42), (12, .own 43), (13, .p (.val (.bool (hFr c)))), (14, .p (.val (.int .i64 (i : Nat)))), (18, .p (.val (.int .i64 0))), (19, .ptr 19 0), (20, .ptr 20 0), (21, .p (.val (.bool false)))], s := [(9, .box 33 ((hW c s0 s1).pv.cells.map AV.p)), (10, .box 42 ((opV 21 1 0 1).cells.map AV.p)), (42, .row 58 1 2 [.own 201, .own 202]), (201, vM 60 3 (L0.map wI)), (202, vM 60 3 (L1.map wI)), (43, vO 4 1 [.val (.bool false), .val (.bool o1)]), (19, .box 55 ((accV aq.kind aq.cell aq.a aq.b (.sl (byts (wE aq.d)))).cells.map AV.p)), (20, .box 38 ((outV 0 false 0 0).cells.map AV.p))] }) ?h1 ?h2
                  case h1 =>
                    repeat' (first | (refine zY.is ?_; (refine zY.isR (id := 23) ?_; refine zY.z8 [0, 1, 4, 5, 9, 10, 11, 12, 13, 14, 15, 17, 18, 19, 20, 21, 22, 23, 47, 63, 72, 83, 95, 98] [6, 7, 9, 10, 15, 16, 19, 20, 22, 23, 42, 43, 117, 201, 202] (by repeat' first | exact zZ.nil | apply zZ.p rfl | apply zZ.ptr rfl | apply zZ.own rfl | apply zZ.skip) (by repeat' first | exact zW.nil | apply zW.boxP rfl rfl | apply zW.some rfl | apply zW.skip) (zY.draws ?_); all_goals (refine Draws.v rfl rfl (zQ rfl rfl rfl (by decide)) ?_); all_goals (refine Draws.v rfl rfl (zG rfl rfl rfl (by rfl) (by rfl) rfl (by decide)) ?_); all_goals (refine Draws.v rfl rfl (yE rfl rfl rfl (by decide)) ?_); all_goals (refine Draws.v rfl rfl (zQ rfl rfl rfl (by decide)) ?_); all_goals (refine Draws.v rfl rfl (by exact vW rfl rfl rfl rfl (by exact g7) rfl (by decide)) ?_); all_goals (refine Draws.v rfl rfl (w_loadView rfl rfl rfl rfl rfl rfl (by decide)) ?_); all_goals (refine Draws.v rfl rfl (by exact yL (c1) rfl rfl rfl (by decide)) ?_); all_goals (refine Draws.v rfl rfl (yJ rfl rfl rfl (by decide)) ?_); all_goals (refine Draws.v rfl rfl (zB rfl rfl rfl rfl (by decide)) ?_); all_goals (refine Draws.v rfl rfl (zB rfl rfl rfl rfl (by decide)) ?_); all_goals (refine Draws.v rfl rfl (zB rfl rfl rfl rfl (by decide)) ?_); all_goals (refine Draws.m rfl rfl (zF rfl (by decide) rfl (by decide)) ?_); all_goals (refine Draws.m rfl rfl (zF rfl (by decide) rfl (by decide)) ?_); all_goals (((refine Draws.late2 [9, 10] 3 [0, 1, 2, 3, 4, 5, 6, 7, 8, 9, 10, 11, 12] (by kernel_rfl) (by kernel_rfl) (by kernel_rfl) (by kernel_rfl) (by kernel_rfl) ?_ (xX.vN 4 [0, 1, 2, 3, 4, 5, 6, 7, 8, 9, 11, 12] (by kernel_rfl) (by kernel_rfl) ?_ (xX.vN 4 [0, 1, 2, 3, 4, 5, 6, 7, 8, 10, 11, 12] (by kernel_rfl) (by kernel_rfl) ?_ (xX.vN 5 [0, 1, 2, 3, 4, 5, 6, 7, 8, 11, 12] (by kernel_rfl) (by kernel_rfl) ?_ xX.nil)))) <;> (repeat' (first | refine yU.many (by rfl) ?_ | refine yT.cons ?_ ?_ | exact yT.nil | refine xM.v rfl rfl rfl (by first | exact zK rfl rfl rfl (by decide) | exact zB rfl rfl rfl rfl (by decide)) ?_ | refine xM.w rfl rfl (by exact zC rfl rfl rfl rfl rfl (by rfl) (by exact Nat.le_of_ble_eq_true rfl) rfl rfl) ?_ | refine yU.fin (by rfl) ?_)))))) | refine yQ.n ?_)
                    all_goals
                      refine zI (is := [0, 1, 5, 9, 10, 11, 12, 13, 14, 18, 19, 20, 21]) (js := [9, 10, 42, 201, 202, 43, 19, 20]) ?_ ?_
                      repeat' first | exact zZ.nil | apply zZ.p rfl | apply zZ.ptr rfl | apply zZ.own rfl | apply zZ.clo rfl | apply zZ.pt rfl | apply zZ.tup rfl | apply zZ.skip
                      repeat' first | exact zW.nil | apply zW.boxP rfl rfl | apply zW.yK rfl | apply zW.some rfl | apply zW.skip
                  case h2 =>
                    repeat' (first | (refine zY.is ?_; first | refine zY.seq ?_ | (refine zY.isR (id := 24) ?_; refine zY.zV [0, 1, 4, 5, 9, 10, 11, 12, 13, 14, 15, 17, 18, 19, 20, 21, 22, 23, 47, 63, 72, 83, 95, 98] [6, 7, 9, 10, 15, 16, 19, 20, 22, 23, 42, 43, 117, 201, 202] (by repeat' first | exact zZ.nil | apply zZ.p rfl | apply zZ.ptr rfl | apply zZ.own rfl | apply zZ.skip) (by repeat' first | exact zW.nil | apply zW.boxP rfl rfl | apply zW.some rfl | apply zW.skip) ?_; (refine zX.v rfl rfl (zQ rfl rfl rfl (by decide)) ?_); refine zX.nil ?_) | (refine zY.isR (id := 28) ?_; refine zY.zV [0, 1, 4, 5, 9, 10, 11, 12, 13, 14, 15, 17, 18, 19, 20, 21, 22, 23, 47, 63, 72, 83, 95, 98] [6, 7, 9, 10, 15, 16, 19, 20, 22, 23, 42, 43, 117, 201, 202] (by repeat' first | exact zZ.nil | apply zZ.p rfl | apply zZ.ptr rfl | apply zZ.own rfl | apply zZ.skip) (by repeat' first | exact zW.nil | apply zW.boxP rfl rfl | apply zW.some rfl | apply zW.skip) ?_; (refine zX.v rfl rfl (zG rfl rfl rfl (by rfl) (by rfl) rfl (by decide)) ?_); (refine zX.v rfl rfl (zQ rfl rfl rfl (by decide)) ?_); (refine zX.v rfl rfl (zG rfl rfl rfl (by rfl) (by rfl) rfl (by decide)) ?_); (refine zX.v rfl rfl (by exact yL (c2) rfl rfl rfl (by decide)) ?_); (refine zX.v rfl rfl (yJ rfl rfl rfl (by decide)) ?_); (refine zX.v rfl rfl (zB rfl rfl rfl rfl (by decide)) ?_); (refine zX.v rfl rfl (zB rfl rfl rfl rfl (by decide)) ?_); (refine zX.m rfl rfl (zF rfl (by decide) rfl (by decide)) ?_); (refine zX.m rfl rfl (zF rfl (by decide) rfl (by decide)) ?_); (refine zX.w rfl (by exact zC rfl rfl rfl rfl rfl (by rfl) (by exact Nat.le_of_ble_eq_true rfl) rfl rfl) ?_); (refine zX.w rfl (by exact zC rfl rfl rfl rfl rfl (by rfl) (by exact Nat.le_of_ble_eq_true rfl) rfl rfl) ?_); refine zX.nil ?_) | (refine zY.isR (id := 29) ?_; refine zY.zV [0, 1, 4, 5, 9, 10, 11, 12, 13, 14, 15, 17, 18, 19, 20, 21, 22, 23, 47, 63, 72, 83, 95, 98] [6, 7, 9, 10, 15, 16, 19, 20, 22, 23, 42, 43, 117, 201, 202] (by repeat' first | exact zZ.nil | apply zZ.p rfl | apply zZ.ptr rfl | apply zZ.own rfl | apply zZ.skip) (by repeat' first | exact zW.nil | apply zW.boxP rfl rfl | apply zW.some rfl | apply zW.skip) ?_; (refine zX.v rfl rfl (zG rfl rfl rfl (by rfl) (by rfl) rfl (by decide)) ?_); (refine zX.w rfl (by exact zC rfl rfl rfl rfl rfl (by rfl) (by exact Nat.le_of_ble_eq_true rfl) rfl rfl) ?_); refine zX.nil ?_) | (refine zY.isR (id := 30) ?_; refine zY.z8 [0, 1, 4, 5, 9, 10, 11, 12, 13, 14, 15, 17, 18, 19, 20, 21, 22, 23, 47, 63, 72, 83, 95, 98] [6, 7, 9, 10, 15, 16, 19, 20, 22, 23, 42, 43, 117, 201, 202] (by repeat' first | exact zZ.nil | apply zZ.p rfl | apply zZ.ptr rfl | apply zZ.own rfl | apply zZ.skip) (by repeat' first | exact zW.nil | apply zW.boxP rfl rfl | apply zW.some rfl | apply zW.skip) (zY.draws ?_); all_goals (refine Draws.v rfl rfl (yE rfl rfl rfl (by decide)) ?_); all_goals (refine Draws.v rfl rfl (zQ rfl rfl rfl (by decide)) ?_); all_goals (refine Draws.v rfl rfl (yE rfl rfl rfl (by decide)) ?_); all_goals (refine Draws.v rfl rfl (zQ rfl rfl rfl (by decide)) ?_); all_goals (refine Draws.v rfl rfl (by exact vW rfl rfl rfl rfl (by exact g8) rfl (by decide)) ?_); all_goals (refine Draws.v rfl rfl (vD rfl rfl rfl rfl rfl (by decide)) ?_); all_goals (refine Draws.v rfl rfl (zG rfl rfl rfl (by rfl) (by rfl) rfl (by decide)) ?_); all_goals (refine Draws.v rfl rfl (w_buildSl rfl (by decide) (by decide) (by decide) (by decide) (by rfl) (by rfl) (by rfl) (by rfl) (by rfl) (by rfl) (by rfl) rfl (by decide)) ?_); all_goals (((refine Draws.late2 [0, 1] 3 [0, 1, 2, 3, 4, 5, 6, 7] (by kernel_rfl) (by kernel_rfl) (by kernel_rfl) (by kernel_rfl) (by kernel_rfl) ?_ (xX.vN 4 [0, 2, 3, 4, 5, 6, 7] (by kernel_rfl) (by kernel_rfl) ?_ (xX.vN 4 [1, 2, 3, 4, 5, 6, 7] (by kernel_rfl) (by kernel_rfl) ?_ (xX.vN 5 [2, 3, 4, 5, 6, 7] (by kernel_rfl) (by kernel_rfl) ?_ xX.nil)))) <;> (repeat' (first | refine yU.many (by rfl) ?_ | refine yT.cons ?_ ?_ | exact yT.nil | refine xM.v rfl rfl rfl (by first | exact vW rfl rfl rfl rfl (by exact g8) rfl (by decide) | exact zQ rfl rfl rfl (by decide) | exact yE rfl rfl rfl (by decide)) ?_ | refine xM.w rfl rfl (by first | exact s_appL rfl rfl rfl rfl (by exact k3) (by exact k4) rfl (by decide) rfl (by decide) | exact vK rfl rfl rfl rfl rfl rfl (by exact Nat.le_of_ble_eq_true rfl) rfl rfl) ?_ | refine yU.fin (by rfl) ?_))))) | (refine zY.isR (id := 14) ?_; refine zY.zV [0, 1, 4, 5, 9, 10, 11, 12, 13, 14, 15, 17, 18, 19, 20, 21, 22, 23, 47, 63, 72, 83, 95, 98] [6, 7, 9, 10, 15, 16, 19, 20, 22, 23, 42, 43, 117, 201, 202] (by repeat' first | exact zZ.nil | apply zZ.p rfl | apply zZ.ptr rfl | apply zZ.own rfl | apply zZ.skip) (by repeat' first | exact zW.nil | apply zW.boxP rfl rfl | apply zW.some rfl | apply zW.skip) ?_; (refine zX.v rfl rfl (zQ rfl rfl rfl (by decide)) ?_); (refine zX.v rfl rfl (by exact yP rfl rfl rfl (by exact g6) rfl (by decide)) ?_); (refine zX.v rfl rfl (zK rfl rfl rfl (by decide)) ?_); refine zX.nil ?_) | refine zY.yI rfl (by with_reducible rfl) ?_ | refine zY.skip ?_) | refine yQ.n ?_)
                    all_goals
                      refine ⟨(i + 1, ⟨cc, ss, s1, L0 ++ [rr], L1, jj, j1, false, o1⟩), ?_, ⟨by show i + 1 ≤ ps.length; omega, hnext⟩, by show ps.length - (i + 1) < ps.length - i; omega⟩
                      show Sub _ (wM ps an (i + 1) ⟨cc, ss, s1, L0 ++ [rr], L1, jj, j1, false, o1⟩)
                      unfold wM
                      dsimp only
                      rw [List.map_append, hfs]
                      refine zI (is := [0, 1, 5, 9, 10, 11, 12, 13, 14]) (js := [9, 10, 42, 201, 202, 43]) ?_ ?_
                      repeat' first | exact zZ.nil | apply zZ.p rfl | apply zZ.ptr rfl | apply zZ.own rfl | apply zZ.clo rfl | apply zZ.pt rfl | apply zZ.tup rfl | apply zZ.skip
                      repeat' first | exact zW.nil | apply zW.boxP rfl rfl | apply zW.yK rfl | apply zW.some rfl | apply zW.skip
                  -- >>s0
                case inr =>
                  obtain rfl : j0 = 6 := by omega
                  have c1 := hinv.a.done (by omega) 0
                  have hnext := hinv.over0 rfl
                  dsimp only [HSt.over0] at c1 hnext
                  -- <<d0
                  unfold wM
                  dsimp only
                  repeat' (first | (refine zY.is ?_; first | refine zY.seq ?_ | (refine zY.isR (id := 21) ?_; refine zY.zV [0, 1, 4, 5, 9, 10, 11, 12, 13, 14, 15, 17, 18, 19, 20, 21, 22, 23, 47, 63, 72, 83, 95, 98] [6, 7, 9, 10, 15, 16, 19, 20, 22, 23, 42, 43, 117, 201, 202] (by repeat' first | exact zZ.nil | apply zZ.p rfl | apply zZ.ptr rfl | apply zZ.own rfl | apply zZ.skip) (by repeat' first | exact zW.nil | apply zW.boxP rfl rfl | apply zW.some rfl | apply zW.skip) ?_; (refine zX.v rfl rfl (zQ rfl rfl rfl (by decide)) ?_); (refine zX.v rfl rfl (zQ rfl rfl rfl (by decide)) ?_); (refine zX.v rfl rfl (by exact xL rfl rfl rfl (by exact gi) rfl (by decide)) ?_); (refine zX.v rfl rfl (y8 rfl rfl rfl rfl (by decide)) ?_); (refine zX.v rfl rfl (by exact xK rfl rfl (by exact g4) rfl (by decide)) ?_); (refine zX.v rfl rfl (by exact vR rfl rfl rfl (by decide) (by exact g5) rfl (by decide)) ?_); (refine zX.v rfl rfl (zK rfl rfl rfl (by decide)) ?_); refine zX.nil ?_) | (refine zY.isR (id := 22) ?_; refine zY.zV [0, 1, 4, 5, 9, 10, 11, 12, 13, 14, 15, 17, 18, 19, 20, 21, 22, 23, 47, 63, 72, 83, 95, 98] [6, 7, 9, 10, 15, 16, 19, 20, 22, 23, 42, 43, 117, 201, 202] (by repeat' first | exact zZ.nil | apply zZ.p rfl | apply zZ.ptr rfl | apply zZ.own rfl | apply zZ.skip) (by repeat' first | exact zW.nil | apply zW.boxP rfl rfl | apply zW.some rfl | apply zW.skip) ?_; (refine zX.v rfl rfl (yE rfl rfl rfl (by decide)) ?_); (refine zX.v rfl rfl (zQ rfl rfl rfl (by decide)) ?_); (refine zX.v rfl rfl (by exact yR rfl rfl rfl rfl (by exact g7) rfl (by decide)) ?_); (refine zX.v rfl rfl (zA rfl rfl rfl (by rfl) rfl (by decide)) ?_); refine zX.nil ?_) | (refine zY.isR (id := 23) ?_; refine zY.z8 [0, 1, 4, 5, 9, 10, 11, 12, 13, 14, 15, 17, 18, 19, 20, 21, 22, 23, 47, 63, 72, 83, 95, 98] [6, 7, 9, 10, 15, 16, 19, 20, 22, 23, 42, 43, 117, 201, 202] (by repeat' first | exact zZ.nil | apply zZ.p rfl | apply zZ.ptr rfl | apply zZ.own rfl | apply zZ.skip) (by repeat' first | exact zW.nil | apply zW.boxP rfl rfl | apply zW.some rfl | apply zW.skip) (zY.draws ?_); all_goals (refine Draws.v rfl rfl (zQ rfl rfl rfl (by decide)) ?_); all_goals (refine Draws.v rfl rfl (zG rfl rfl rfl (by rfl) (by rfl) rfl (by decide)) ?_); all_goals (refine Draws.v rfl rfl (yE rfl rfl rfl (by decide)) ?_); all_goals (refine Draws.v rfl rfl (zQ rfl rfl rfl (by decide)) ?_); all_goals (refine Draws.v rfl rfl (by exact vW rfl rfl rfl rfl (by exact g7) rfl (by decide)) ?_); all_goals (refine Draws.v rfl rfl (w_loadView rfl rfl rfl rfl rfl rfl (by decide)) ?_); all_goals (refine Draws.v rfl rfl (by exact yL (c1) rfl rfl rfl (by decide)) ?_); all_goals (refine Draws.v rfl rfl (yJ rfl rfl rfl (by decide)) ?_); all_goals (refine Draws.v rfl rfl (zB rfl rfl rfl rfl (by decide)) ?_); all_goals (refine Draws.v rfl rfl (zB rfl rfl rfl rfl (by decide)) ?_); all_goals (refine Draws.v rfl rfl (zB rfl rfl rfl rfl (by decide)) ?_); all_goals (refine Draws.m rfl rfl (zF rfl (by decide) rfl (by decide)) ?_); all_goals (refine Draws.m rfl rfl (zF rfl (by decide) rfl (by decide)) ?_); all_goals (((refine Draws.late2 [9, 10] 3 [0, 1, 2, 3, 4, 5, 6, 7, 8, 9, 10, 11, 12] (by kernel_rfl) (by kernel_rfl) (by kernel_rfl) (by kernel_rfl) (by kernel_rfl) ?_ (xX.vN 4 [0, 1, 2, 3, 4, 5, 6, 7, 8, 9, 11, 12] (by kernel_rfl) (by kernel_rfl) ?_ (xX.vN 4 [0, 1, 2, 3, 4, 5, 6, 7, 8, 10, 11, 12] (by kernel_rfl) (by kernel_rfl) ?_ (xX.vN 5 [0, 1, 2, 3, 4, 5, 6, 7, 8, 11, 12] (by kernel_rfl) (by kernel_rfl) ?_ xX.nil)))) <;> (repeat' (first | refine yU.many (by rfl) ?_ | refine yT.cons ?_ ?_ | exact yT.nil | refine xM.v rfl rfl rfl (by first | exact zK rfl rfl rfl (by decide) | exact zB rfl rfl rfl rfl (by decide)) ?_ | refine xM.w rfl rfl (by exact zC rfl rfl rfl rfl rfl (by rfl) (by exact Nat.le_of_ble_eq_true rfl) rfl rfl) ?_ | refine yU.fin (by rfl) ?_))))) | (refine zY.isR (id := 24) ?_; refine zY.zV [0, 1, 4, 5, 9, 10, 11, 12, 13, 14, 15, 17, 18, 19, 20, 21, 22, 23, 47, 63, 72, 83, 95, 98] [6, 7, 9, 10, 15, 16, 19, 20, 22, 23, 42, 43, 117, 201, 202] (by repeat' first | exact zZ.nil | apply zZ.p rfl | apply zZ.ptr rfl | apply zZ.own rfl | apply zZ.skip) (by repeat' first | exact zW.nil | apply zW.boxP rfl rfl | apply zW.some rfl | apply zW.skip) ?_; (refine zX.v rfl rfl (zQ rfl rfl rfl (by decide)) ?_); refine zX.nil ?_) | (refine zY.isR (id := 25) ?_; refine zY.zV [0, 1, 4, 5, 9, 10, 11, 12, 13, 14, 15, 17, 18, 19, 20, 21, 22, 23, 47, 63, 72, 83, 95, 98] [6, 7, 9, 10, 15, 16, 19, 20, 22, 23, 42, 43, 117, 201, 202] (by repeat' first | exact zZ.nil | apply zZ.p rfl | apply zZ.ptr rfl | apply zZ.own rfl | apply zZ.skip) (by repeat' first | exact zW.nil | apply zW.boxP rfl rfl | apply zW.some rfl | apply zW.skip) ?_; (refine zX.v rfl rfl (zJ rfl rfl rfl (by decide)) ?_); (refine zX.v rfl rfl (zA rfl rfl rfl (by rfl) rfl (by decide)) ?_); (refine zX.v rfl rfl (by exact wV rfl rfl (by exact bF (by decide)) rfl (by decide)) ?_); refine zX.nil ?_) | (refine zY.isR (id := 27) ?_; refine zY.zV [0, 1, 4, 5, 9, 10, 11, 12, 13, 14, 15, 17, 18, 19, 20, 21, 22, 23, 47, 63, 72, 83, 95, 98] [6, 7, 9, 10, 15, 16, 19, 20, 22, 23, 42, 43, 117, 201, 202] (by repeat' first | exact zZ.nil | apply zZ.p rfl | apply zZ.ptr rfl | apply zZ.own rfl | apply zZ.skip) (by repeat' first | exact zW.nil | apply zW.boxP rfl rfl | apply zW.some rfl | apply zW.skip) ?_; (refine zX.v rfl rfl (yE rfl rfl rfl (by decide)) ?_); (refine zX.v rfl rfl (zQ rfl rfl rfl (by decide)) ?_); (refine zX.v rfl rfl (by exact yR rfl rfl rfl rfl (by exact g7) rfl (by decide)) ?_); (refine zX.w rfl (by exact vQ rfl rfl rfl rfl rfl (by exact k1) (by rfl) rfl (by exact g7b) rfl) ?_); refine zX.nil ?_) | (refine zY.isR (id := 14) ?_; refine zY.zV [0, 1, 4, 5, 9, 10, 11, 12, 13, 14, 15, 17, 18, 19, 20, 21, 22, 23, 47, 63, 72, 83, 95, 98] [6, 7, 9, 10, 15, 16, 19, 20, 22, 23, 42, 43, 117, 201, 202] (by repeat' first | exact zZ.nil | apply zZ.p rfl | apply zZ.ptr rfl | apply zZ.own rfl | apply zZ.skip) (by repeat' first | exact zW.nil | apply zW.boxP rfl rfl | apply zW.some rfl | apply zW.skip) ?_; (refine zX.v rfl rfl (zQ rfl rfl rfl (by decide)) ?_); (refine zX.v rfl rfl (by exact yP rfl rfl rfl (by exact g6) rfl (by decide)) ?_); (refine zX.v rfl rfl (zK rfl rfl rfl (by decide)) ?_); refine zX.nil ?_) | refine zY.yO rfl (by first | assumption | with_reducible rfl) ?_ | refine zY.yI rfl (by with_reducible rfl) ?_ | refine zY.skip ?_ | refine zY.exit ?_) | refine yQ.n ?_)
                  all_goals
                    refine ⟨(i + 1, ⟨c, s0, s1, L0, L1, 6, j1, true, o1⟩), ?_, ⟨by show i + 1 ≤ ps.length; omega, hnext⟩, by show ps.length - (i + 1) < ps.length - i; omega⟩
                    show Sub _ (wM ps an (i + 1) ⟨c, s0, s1, L0, L1, 6, j1, true, o1⟩)
                    unfold wM
                    dsimp only
                    refine zI (is := [0, 1, 5, 9, 10, 11, 12, 13, 14]) (js := [9, 10, 42, 201, 202, 43]) ?_ ?_
                    repeat' first | exact zZ.nil | apply zZ.p rfl | apply zZ.ptr rfl | apply zZ.own rfl | apply zZ.clo rfl | apply zZ.pt rfl | apply zZ.tup rfl | apply zZ.skip
                    repeat' first | exact zW.nil | apply zW.boxP rfl rfl | apply zW.yK rfl | apply zW.some rfl | apply zW.skip
                  -- >>d0
            case inr =>
              have g7 : (0 : Int) ≤ 1 ∧ (1 : Int) < (([.val (.bool o0), .val (.bool o1)] : List PV).length : Int) := t1
              have g7b : (1 : Int).toNat < ([.val (.bool o0), .val (.bool o1)] : List PV).length := (by decide : (1 : Int).toNat < 2)
              have g8 : (0 : Int) ≤ 1 ∧ (1 : Int) < ((2 : Nat) : Int) := t1
              cases o1
              case true =>
                have g9 : ([.val (.bool o0), .val (.bool true)] : List PV)[(1 : Int).toNat * 1]? = some (.val (.bool true)) := rfl
                -- <<o1
                unfold wM
                dsimp only
                repeat' (first | (refine zY.is ?_; first | refine zY.seq ?_ | (refine zY.isR (id := 21) ?_; refine zY.zV [0, 1, 4, 5, 9, 10, 11, 12, 13, 14, 15, 17, 18, 19, 20, 21, 22, 23, 47, 63, 72, 83, 95, 98] [6, 7, 9, 10, 15, 16, 19, 20, 22, 23, 42, 43, 117, 201, 202] (by repeat' first | exact zZ.nil | apply zZ.p rfl | apply zZ.ptr rfl | apply zZ.own rfl | apply zZ.skip) (by repeat' first | exact zW.nil | apply zW.boxP rfl rfl | apply zW.some rfl | apply zW.skip) ?_; (refine zX.v rfl rfl (zQ rfl rfl rfl (by decide)) ?_); (refine zX.v rfl rfl (zQ rfl rfl rfl (by decide)) ?_); (refine zX.v rfl rfl (by exact xL rfl rfl rfl (by exact gi) rfl (by decide)) ?_); (refine zX.v rfl rfl (y8 rfl rfl rfl rfl (by decide)) ?_); (refine zX.v rfl rfl (by exact xK rfl rfl (by exact g4) rfl (by decide)) ?_); (refine zX.v rfl rfl (by exact vR rfl rfl rfl (by decide) (by exact g5) rfl (by decide)) ?_); (refine zX.v rfl rfl (zK rfl rfl rfl (by decide)) ?_); refine zX.nil ?_) | (refine zY.isR (id := 22) ?_; refine zY.zV [0, 1, 4, 5, 9, 10, 11, 12, 13, 14, 15, 17, 18, 19, 20, 21, 22, 23, 47, 63, 72, 83, 95, 98] [6, 7, 9, 10, 15, 16, 19, 20, 22, 23, 42, 43, 117, 201, 202] (by repeat' first | exact zZ.nil | apply zZ.p rfl | apply zZ.ptr rfl | apply zZ.own rfl | apply zZ.skip) (by repeat' first | exact zW.nil | apply zW.boxP rfl rfl | apply zW.some rfl | apply zW.skip) ?_; (refine zX.v rfl rfl (yE rfl rfl rfl (by decide)) ?_); (refine zX.v rfl rfl (zQ rfl rfl rfl (by decide)) ?_); (refine zX.v rfl rfl (by exact yR rfl rfl rfl rfl (by exact g7) rfl (by decide)) ?_); (refine zX.v rfl rfl (zA rfl rfl rfl (by rfl) rfl (by decide)) ?_); refine zX.nil ?_) | (refine zY.isR (id := 14) ?_; refine zY.zV [0, 1, 4, 5, 9, 10, 11, 12, 13, 14, 15, 17, 18, 19, 20, 21, 22, 23, 47, 63, 72, 83, 95, 98] [6, 7, 9, 10, 15, 16, 19, 20, 22, 23, 42, 43, 117, 201, 202] (by repeat' first | exact zZ.nil | apply zZ.p rfl | apply zZ.ptr rfl | apply zZ.own rfl | apply zZ.skip) (by repeat' first | exact zW.nil | apply zW.boxP rfl rfl | apply zW.some rfl | apply zW.skip) ?_; (refine zX.v rfl rfl (zQ rfl rfl rfl (by decide)) ?_); (refine zX.v rfl rfl (by exact yP rfl rfl rfl (by exact g6) rfl (by decide)) ?_); (refine zX.v rfl rfl (zK rfl rfl rfl (by decide)) ?_); refine zX.nil ?_) | refine zY.yO rfl (by first | assumption | with_reducible rfl) ?_ | refine zY.exit ?_) | refine yQ.n ?_)
                all_goals
                  refine ⟨(i + 1, ⟨c, s0, s1, L0, L1, j0, j1, o0, true⟩), ?_, ⟨by show i + 1 ≤ ps.length; omega, hinv.up⟩, by show ps.length - (i + 1) < ps.length - i; omega⟩
                  show Sub _ (wM ps an (i + 1) ⟨c, s0, s1, L0, L1, j0, j1, o0, true⟩)
                  unfold wM
                  dsimp only
                  refine zI (is := [0, 1, 5, 9, 10, 11, 12, 13, 14]) (js := [9, 10, 42, 201, 202, 43]) ?_ ?_
                  repeat' first | exact zZ.nil | apply zZ.p rfl | apply zZ.ptr rfl | apply zZ.own rfl | apply zZ.clo rfl | apply zZ.pt rfl | apply zZ.tup rfl | apply zZ.skip
                  repeat' first | exact zW.nil | apply zW.boxP rfl rfl | apply zW.yK rfl | apply zW.some rfl | apply zW.skip
                -- >>o1
              case false =>
                have g9 : ([.val (.bool o0), .val (.bool false)] : List PV)[(1 : Int).toNat * 1]? = some (.val (.bool false)) := rfl
                rcases Nat.lt_or_ge j1 6 with h6 | h6
                case inl =>
                  have c1 := (hinv.b.need (by omega) h6 1).1
                  have c2 := hinv.do1 (by omega) h6
                  have hnext := hinv.step1 h6
                  dsimp only [HSt.step1] at c1 c2 hnext
                  have hfs := hFr_step j1 c
                  generalize askQ (hT j1) = aq at c1 c2
                  generalize hR j1 c = rr at c2 hnext
                  generalize hJ j1 c = jj at hnext
                  generalize hC j1 c = cc at c2 hnext hfs
                  generalize hS j1 s1 = ss at c2 hnext
                  have k2 : ∀ v ∈ L1.map wI, v.cells.length = 3 := resV_cells L1
                  have k3 : ∀ v ∈ [wI rr], v.cells.length = 3 := fun v hv => by simp at hv; subst hv; rfl
                  have k4 : ((L1.map wI).length + ([wI rr] : List PV).length) * 40 ≤ 140737488355328 ∧ (L1.map wI).length + ([wI rr] : List PV).length ≤ maxLen := by
                    simp only [List.length_map, List.length_cons, List.length_nil, maxLen]
                    omega
                  -- <<s1
                  unfold wM
                  dsimp only
                  repeat' (first | refine zY.hold (id := 23) ?_ | (refine zY.is ?_; first | refine zY.seq ?_ | (refine zY.isR (id := 21) ?_; refine zY.zV [0, 1, 4, 5, 9, 10, 11, 12, 13, 14, 15, 17, 18, 19, 20, 21, 22, 23, 47, 63, 72, 83, 95, 98] [6, 7, 9, 10, 15, 16, 19, 20, 22, 23, 42, 43, 117, 201, 202] (by repeat' first | exact zZ.nil | apply zZ.p rfl | apply zZ.ptr rfl | apply zZ.own rfl | apply zZ.skip) (by repeat' first | exact zW.nil | apply zW.boxP rfl rfl | apply zW.some rfl | apply zW.skip) ?_; (refine zX.v rfl rfl (zQ rfl rfl rfl (by decide)) ?_); (refine zX.v rfl rfl (zQ rfl rfl rfl (by decide)) ?_); (refine zX.v rfl rfl (by exact xL rfl rfl rfl (by exact gi) rfl (by decide)) ?_); (refine zX.v rfl rfl (y8 rfl rfl rfl rfl (by decide)) ?_); (refine zX.v rfl rfl (by exact xK rfl rfl (by exact g4) rfl (by decide)) ?_); (refine zX.v rfl rfl (by exact vR rfl rfl rfl (by decide) (by exact g5) rfl (by decide)) ?_); (refine zX.v rfl rfl (zK rfl rfl rfl (by decide)) ?_); refine zX.nil ?_) | (refine zY.isR (id := 22) ?_; refine zY.zV [0, 1, 4, 5, 9, 10, 11, 12, 13, 14, 15, 17, 18, 19, 20, 21, 22, 23, 47, 63, 72, 83, 95, 98] [6, 7, 9, 10, 15, 16, 19, 20, 22, 23, 42, 43, 117, 201, 202] (by repeat' first | exact zZ.nil | apply zZ.p rfl | apply zZ.ptr rfl | apply zZ.own rfl | apply zZ.skip) (by repeat' first | exact zW.nil | apply zW.boxP rfl rfl | apply zW.some rfl | apply zW.skip) ?_; (refine zX.v rfl rfl (yE rfl rfl rfl (by decide)) ?_); (refine zX.v rfl rfl (zQ rfl rfl rfl (by decide)) ?_); (refine zX.v rfl rfl (by exact yR rfl rfl rfl rfl (by exact g7) rfl (by decide)) ?_); (refine zX.v rfl rfl (zA rfl rfl rfl (by rfl) rfl (by decide)) ?_); refine zX.nil ?_) | refine zY.yI rfl (by with_reducible rfl) ?_ | refine zY.skip ?_))
                  refine Hold.go ?_
                  refine zY.cutR (id := 23) (M := { t := [(0, .p (.sl (byts ps))), (1, .p (.val (.int .u8 an))), (5, .p (.val (.bool true))), (9, .ptr 9 0), (10, .ptr 10 0), (11, .own 42), (12, .own 43), (13, .p (.val (.bool (hFr c)))), (14, .p (.val (.int .i64 (i : Nat)))), (18, .p (.val (.int .i64 1))), (19, .ptr 19 0), (20, .ptr 20 0), (21, .p (.val (.bool false)))], s := [(9, .box 33 ((hW c s0 s1).pv.cells.map AV.p)), (10, .box 42 ((opV 21 1 0 1).cells.map AV.p)), (42, .row 58 1 2 [.own 201, .own 202]), (201, vM 60 3 (L0.map wI)), (202, vM 60 3 (L1.map wI)), (43, vO 4 1 [.val (.bool o0), .val (.bool false)]), (19, .box 55 ((accV aq.kind aq.cell aq.a aq.b (.sl (byts (wE aq.d)))).cells.map AV.p)), (20, .box 38 ((outV 0 false 0 0).cells.map AV.p))] }) ?h1 ?h2
                  case h1 =>
                    repeat' (first | (refine zY.is ?_; (refine zY.isR (id := 23) ?_; refine zY.z8 [0, 1, 4, 5, 9, 10, 11, 12, 13, 14, 15, 17, 18, 19, 20, 21, 22, 23, 47, 63, 72, 83, 95, 98] [6, 7, 9, 10, 15, 16, 19, 20, 22, 23, 42, 43, 117, 201, 202] (by repeat' first | exact zZ.nil | apply zZ.p rfl | apply zZ.ptr rfl | apply zZ.own rfl | apply zZ.skip) (by repeat' first | exact zW.nil | apply zW.boxP rfl rfl | apply zW.some rfl | apply zW.skip) (zY.draws ?_); all_goals (refine Draws.v rfl rfl (zQ rfl rfl rfl (by decide)) ?_); all_goals (refine Draws.v rfl rfl (zG rfl rfl rfl (by rfl) (by rfl) rfl (by decide)) ?_); all_goals (refine Draws.v rfl rfl (yE rfl rfl rfl (by decide)) ?_); all_goals (refine Draws.v rfl rfl (zQ rfl rfl rfl (by decide)) ?_); all_goals (refine Draws.v rfl rfl (by exact vW rfl rfl rfl rfl (by exact g7) rfl (by decide)) ?_); all_goals (refine Draws.v rfl rfl (w_loadView rfl rfl rfl rfl rfl rfl (by decide)) ?_); all_goals (refine Draws.v rfl rfl (by exact yL (c1) rfl rfl rfl (by decide)) ?_); all_goals (refine Draws.v rfl rfl (yJ rfl rfl rfl (by decide)) ?_); all_goals (refine Draws.v rfl rfl (zB rfl rfl rfl rfl (by decide)) ?_); all_goals (refine Draws.v rfl rfl (zB rfl rfl rfl rfl (by decide)) ?_); all_goals (refine Draws.v rfl rfl (zB rfl rfl rfl rfl (by decide)) ?_); all_goals (refine Draws.m rfl rfl (zF rfl (by decide) rfl (by decide)) ?_); all_goals (refine Draws.m rfl rfl (zF rfl (by decide) rfl (by decide)) ?_); all_goals (((refine Draws.late2 [9, 10] 3 [0, 1, 2, 3, 4, 5, 6, 7, 8, 9, 10, 11, 12] (by kernel_rfl) (by kernel_rfl) (by kernel_rfl) (by kernel_rfl) (by kernel_rfl) ?_ (xX.vN 4 [0, 1, 2, 3, 4, 5, 6, 7, 8, 9, 11, 12] (by kernel_rfl) (by kernel_rfl) ?_ (xX.vN 4 [0, 1, 2, 3, 4, 5, 6, 7, 8, 10, 11, 12] (by kernel_rfl) (by kernel_rfl) ?_ (xX.vN 5 [0, 1, 2, 3, 4, 5, 6, 7, 8, 11, 12] (by kernel_rfl) (by kernel_rfl) ?_ xX.nil)))) <;> (repeat' (first | refine yU.many (by rfl) ?_ | refine yT.cons ?_ ?_ | exact yT.nil | refine xM.v rfl rfl rfl (by first | exact zK rfl rfl rfl (by decide) | exact zB rfl rfl rfl rfl (by decide)) ?_ | refine xM.w rfl rfl (by exact zC rfl rfl rfl rfl rfl (by rfl) (by exact Nat.le_of_ble_eq_true rfl) rfl rfl) ?_ | refine yU.fin (by rfl) ?_)))))) | refine yQ.n ?_)
                    all_goals
                      refine zI (is := [0, 1, 5, 9, 10, 11, 12, 13, 14, 18, 19, 20, 21]) (js := [9, 10, 42, 201, 202, 43, 19, 20]) ?_ ?_
                      repeat' first | exact zZ.nil | apply zZ.p rfl | apply zZ.ptr rfl | apply zZ.own rfl | apply zZ.clo rfl | apply zZ.pt rfl | apply zZ.tup rfl | apply zZ.skip
                      repeat' first | exact zW.nil | apply zW.boxP rfl rfl | apply zW.yK rfl | apply zW.some rfl | apply zW.skip
                  case h2 =>
                    repeat' (first | (refine zY.is ?_; first | refine zY.seq ?_ | (refine zY.isR (id := 24) ?_; refine zY.zV [0, 1, 4, 5, 9, 10, 11, 12, 13, 14, 15, 17, 18, 19, 20, 21, 22, 23, 47, 63, 72, 83, 95, 98] [6, 7, 9, 10, 15, 16, 19, 20, 22, 23, 42, 43, 117, 201, 202] (by repeat' first | exact zZ.nil | apply zZ.p rfl | apply zZ.ptr rfl | apply zZ.own rfl | apply zZ.skip) (by repeat' first | exact zW.nil | apply zW.boxP rfl rfl | apply zW.some rfl | apply zW.skip) ?_; (refine zX.v rfl rfl (zQ rfl rfl rfl (by decide)) ?_); refine zX.nil ?_) | (refine zY.isR (id := 28) ?_; refine zY.zV [0, 1, 4, 5, 9, 10, 11, 12, 13, 14, 15, 17, 18, 19, 20, 21, 22, 23, 47, 63, 72, 83, 95, 98] [6, 7, 9, 10, 15, 16, 19, 20, 22, 23, 42, 43, 117, 201, 202] (by repeat' first | exact zZ.nil | apply zZ.p rfl | apply zZ.ptr rfl | apply zZ.own rfl | apply zZ.skip) (by repeat' first | exact zW.nil | apply zW.boxP rfl rfl | apply zW.some rfl | apply zW.skip) ?_; (refine zX.v rfl rfl (zG rfl rfl rfl (by rfl) (by rfl) rfl (by decide)) ?_); (refine zX.v rfl rfl (zQ rfl rfl rfl (by decide)) ?_); (refine zX.v rfl rfl (zG rfl rfl rfl (by rfl) (by rfl) rfl (by decide)) ?_); (refine zX.v rfl rfl (by exact yL (c2) rfl rfl rfl (by decide)) ?_); (refine zX.v rfl rfl (yJ rfl rfl rfl (by decide)) ?_); (refine zX.v rfl rfl (zB rfl rfl rfl rfl (by decide)) ?_); (refine zX.v rfl rfl (zB rfl rfl rfl rfl (by decide)) ?_); (refine zX.m rfl rfl (zF rfl (by decide) rfl (by decide)) ?_); (refine zX.m rfl rfl (zF rfl (by decide) rfl (by decide)) ?_); (refine zX.w rfl (by exact zC rfl rfl rfl rfl rfl (by rfl) (by exact Nat.le_of_ble_eq_true rfl) rfl rfl) ?_); (refine zX.w rfl (by exact zC rfl rfl rfl rfl rfl (by rfl) (by exact Nat.le_of_ble_eq_true rfl) rfl rfl) ?_); refine zX.nil ?_) | (refine zY.isR (id := 29) ?_; refine zY.zV [0, 1, 4, 5, 9, 10, 11, 12, 13, 14, 15, 17, 18, 19, 20, 21, 22, 23, 47, 63, 72, 83, 95, 98] [6, 7, 9, 10, 15, 16, 19, 20, 22, 23, 42, 43, 117, 201, 202] (by repeat' first | exact zZ.nil | apply zZ.p rfl | apply zZ.ptr rfl | apply zZ.own rfl | apply zZ.skip) (by repeat' first | exact zW.nil | apply zW.boxP rfl rfl | apply zW.some rfl | apply zW.skip) ?_; (refine zX.v rfl rfl (zG rfl rfl rfl (by rfl) (by rfl) rfl (by decide)) ?_); (refine zX.w rfl (by exact zC rfl rfl rfl rfl rfl (by rfl) (by exact Nat.le_of_ble_eq_true rfl) rfl rfl) ?_); refine zX.nil ?_) | (refine zY.isR (id := 30) ?_; refine zY.z8 [0, 1, 4, 5, 9, 10, 11, 12, 13, 14, 15, 17, 18, 19, 20, 21, 22, 23, 47, 63, 72, 83, 95, 98] [6, 7, 9, 10, 15, 16, 19, 20, 22, 23, 42, 43, 117, 201, 202] (by repeat' first | exact zZ.nil | apply zZ.p rfl | apply zZ.ptr rfl | apply zZ.own rfl | apply zZ.skip) (by repeat' first | exact zW.nil | apply zW.boxP rfl rfl | apply zW.some rfl | apply zW.skip) (zY.draws ?_); all_goals (refine Draws.v rfl rfl (yE rfl rfl rfl (by decide)) ?_); all_goals (refine Draws.v rfl rfl (zQ rfl rfl rfl (by decide)) ?_); all_goals (refine Draws.v rfl rfl (yE rfl rfl rfl (by decide)) ?_); all_goals (refine Draws.v rfl rfl (zQ rfl rfl rfl (by decide)) ?_); all_goals (refine Draws.v rfl rfl (by exact vW rfl rfl rfl rfl (by exact g8) rfl (by decide)) ?_); all_goals (refine Draws.v rfl rfl (vD rfl rfl rfl rfl rfl (by decide)) ?_); all_goals (refine Draws.v rfl rfl (zG rfl rfl rfl (by rfl) (by rfl) rfl (by decide)) ?_); all_goals (refine Draws.v rfl rfl (w_buildSl rfl (by decide) (by decide) (by decide) (by decide) (by rfl) (by rfl) (by rfl) (by rfl) (by rfl) (by rfl) (by rfl) rfl (by decide)) ?_); all_goals (((refine Draws.late2 [0, 1] 3 [0, 1, 2, 3, 4, 5, 6, 7] (by kernel_rfl) (by kernel_rfl) (by kernel_rfl) (by kernel_rfl) (by kernel_rfl) ?_ (xX.vN 4 [0, 2, 3, 4, 5, 6, 7] (by kernel_rfl) (by kernel_rfl) ?_ (xX.vN 4 [1, 2, 3, 4, 5, 6, 7] (by kernel_rfl) (by kernel_rfl) ?_ (xX.vN 5 [2, 3, 4, 5, 6, 7] (by kernel_rfl) (by kernel_rfl) ?_ xX.nil)))) <;> (repeat' (first | refine yU.many (by rfl) ?_ | refine yT.cons ?_ ?_ | exact yT.nil | refine xM.v rfl rfl rfl (by first | exact vW rfl rfl rfl rfl (by exact g8) rfl (by decide) | exact zQ rfl rfl rfl (by decide) | exact yE rfl rfl rfl (by decide)) ?_ | refine xM.w rfl rfl (by first | exact s_appL rfl rfl rfl rfl (by exact k3) (by exact k4) rfl (by decide) rfl (by decide) | exact vK rfl rfl rfl rfl rfl rfl (by exact Nat.le_of_ble_eq_true rfl) rfl rfl) ?_ | refine yU.fin (by rfl) ?_))))) | (refine zY.isR (id := 14) ?_; refine zY.zV [0, 1, 4, 5, 9, 10, 11, 12, 13, 14, 15, 17, 18, 19, 20, 21, 22, 23, 47, 63, 72, 83, 95, 98] [6, 7, 9, 10, 15, 16, 19, 20, 22, 23, 42, 43, 117, 201, 202] (by repeat' first | exact zZ.nil | apply zZ.p rfl | apply zZ.ptr rfl | apply zZ.own rfl | apply zZ.skip) (by repeat' first | exact zW.nil | apply zW.boxP rfl rfl | apply zW.some rfl | apply zW.skip) ?_; (refine zX.v rfl rfl (zQ rfl rfl rfl (by decide)) ?_); (refine zX.v rfl rfl (by exact yP rfl rfl rfl (by exact g6) rfl (by decide)) ?_); (refine zX.v rfl rfl (zK rfl rfl rfl (by decide)) ?_); refine zX.nil ?_) | refine zY.yI rfl (by with_reducible rfl) ?_ | refine zY.skip ?_) | refine yQ.n ?_)
                    all_goals
                      refine ⟨(i + 1, ⟨cc, s0, ss, L0, L1 ++ [rr], j0, jj, o0, false⟩), ?_, ⟨by show i + 1 ≤ ps.length; omega, hnext⟩, by show ps.length - (i + 1) < ps.length - i; omega⟩
                      show Sub _ (wM ps an (i + 1) ⟨cc, s0, ss, L0, L1 ++ [rr], j0, jj, o0, false⟩)
                      unfold wM
                      dsimp only
                      rw [List.map_append, hfs]
                      refine zI (is := [0, 1, 5, 9, 10, 11, 12, 13, 14]) (js := [9, 10, 42, 201, 202, 43]) ?_ ?_
                      repeat' first | exact zZ.nil | apply zZ.p rfl | apply zZ.ptr rfl | apply zZ.own rfl | apply zZ.clo rfl | apply zZ.pt rfl | apply zZ.tup rfl | apply zZ.skip
                      repeat' first | exact zW.nil | apply zW.boxP rfl rfl | apply zW.yK rfl | apply zW.some rfl | apply zW.skip
                  -- >>s1
                case inr =>
                  obtain rfl : j1 = 6 := by omega
                  have c1 := hinv.b.done (by omega) 1
                  have hnext := hinv.over1 rfl
                  dsimp only [HSt.over1] at c1 hnext
                  -- <<d1
                  unfold wM
                  dsimp only
                  repeat' (first | (refine zY.is ?_; first | refine zY.seq ?_ | (refine zY.isR (id := 21) ?_; refine zY.zV [0, 1, 4, 5, 9, 10, 11, 12, 13, 14, 15, 17, 18, 19, 20, 21, 22, 23, 47, 63, 72, 83, 95, 98] [6, 7, 9, 10, 15, 16, 19, 20, 22, 23, 42, 43, 117, 201, 202] (by repeat' first | exact zZ.nil | apply zZ.p rfl | apply zZ.ptr rfl | apply zZ.own rfl | apply zZ.skip) (by repeat' first | exact zW.nil | apply zW.boxP rfl rfl | apply zW.some rfl | apply zW.skip) ?_; (refine zX.v rfl rfl (zQ rfl rfl rfl (by decide)) ?_); (refine zX.v rfl rfl (zQ rfl rfl rfl (by decide)) ?_); (refine zX.v rfl rfl (by exact xL rfl rfl rfl (by exact gi) rfl (by decide)) ?_); (refine zX.v rfl rfl (y8 rfl rfl rfl rfl (by decide)) ?_); (refine zX.v rfl rfl (by exact xK rfl rfl (by exact g4) rfl (by decide)) ?_); (refine zX.v rfl rfl (by exact vR rfl rfl rfl (by decide) (by exact g5) rfl (by decide)) ?_); (refine zX.v rfl rfl (zK rfl rfl rfl (by decide)) ?_); refine zX.nil ?_) | (refine zY.isR (id := 22) ?_; refine zY.zV [0, 1, 4, 5, 9, 10, 11, 12, 13, 14, 15, 17, 18, 19, 20, 21, 22, 23, 47, 63, 72, 83, 95, 98] [6, 7, 9, 10, 15, 16, 19, 20, 22, 23, 42, 43, 117, 201, 202] (by repeat' first | exact zZ.nil | apply zZ.p rfl | apply zZ.ptr rfl | apply zZ.own rfl | apply zZ.skip) (by repeat' first | exact zW.nil | apply zW.boxP rfl rfl | apply zW.some rfl | apply zW.skip) ?_; (refine zX.v rfl rfl (yE rfl rfl rfl (by decide)) ?_); (refine zX.v rfl rfl (zQ rfl rfl rfl (by decide)) ?_); (refine zX.v rfl rfl (by exact yR rfl rfl rfl rfl (by exact g7) rfl (by decide)) ?_); (refine zX.v rfl rfl (zA rfl rfl rfl (by rfl) rfl (by decide)) ?_); refine zX.nil ?_) | (refine zY.isR (id := 23) ?_; refine zY.z8 [0, 1, 4, 5, 9, 10, 11, 12, 13, 14, 15, 17, 18, 19, 20, 21, 22, 23, 47, 63, 72, 83, 95, 98] [6, 7, 9, 10, 15, 16, 19, 20, 22, 23, 42, 43, 117, 201, 202] (by repeat' first | exact zZ.nil | apply zZ.p rfl | apply zZ.ptr rfl | apply zZ.own rfl | apply zZ.skip) (by repeat' first | exact zW.nil | apply zW.boxP rfl rfl | apply zW.some rfl | apply zW.skip) (zY.draws ?_); all_goals (refine Draws.v rfl rfl (zQ rfl rfl rfl (by decide)) ?_); all_goals (refine Draws.v rfl rfl (zG rfl rfl rfl (by rfl) (by rfl) rfl (by decide)) ?_); all_goals (refine Draws.v rfl rfl (yE rfl rfl rfl (by decide)) ?_); all_goals (refine Draws.v rfl rfl (zQ rfl rfl rfl (by decide)) ?_); all_goals (refine Draws.v rfl rfl (by exact vW rfl rfl rfl rfl (by exact g7) rfl (by decide)) ?_); all_goals (refine Draws.v rfl rfl (w_loadView rfl rfl rfl rfl rfl rfl (by decide)) ?_); all_goals (refine Draws.v rfl rfl (by exact yL (c1) rfl rfl rfl (by decide)) ?_); all_goals (refine Draws.v rfl rfl (yJ rfl rfl rfl (by decide)) ?_); all_goals (refine Draws.v rfl rfl (zB rfl rfl rfl rfl (by decide)) ?_); all_goals (refine Draws.v rfl rfl (zB rfl rfl rfl rfl (by decide)) ?_); all_goals (refine Draws.v rfl rfl (zB rfl rfl rfl rfl (by decide)) ?_); all_goals (refine Draws.m rfl rfl (zF rfl (by decide) rfl (by decide)) ?_); all_goals (refine Draws.m rfl rfl (zF rfl (by decide) rfl (by decide)) ?_); all_goals (((refine Draws.late2 [9, 10] 3 [0, 1, 2, 3, 4, 5, 6, 7, 8, 9, 10, 11, 12] (by kernel_rfl) (by kernel_rfl) (by kernel_rfl) (by kernel_rfl) (by kernel_rfl) ?_ (xX.vN 4 [0, 1, 2, 3, 4, 5, 6, 7, 8, 9, 11, 12] (by kernel_rfl) (by kernel_rfl) ?_ (xX.vN 4 [0, 1, 2, 3, 4, 5, 6, 7, 8, 10, 11, 12] (by kernel_rfl) (by kernel_rfl) ?_ (xX.vN 5 [0, 1, 2, 3, 4, 5, 6, 7, 8, 11, 12] (by kernel_rfl) (by kernel_rfl) ?_ xX.nil)))) <;> (repeat' (first | refine yU.many (by rfl) ?_ | refine yT.cons ?_ ?_ | exact yT.nil | refine xM.v rfl rfl rfl (by first | exact zK rfl rfl rfl (by decide) | exact zB rfl rfl rfl rfl (by decide)) ?_ | refine xM.w rfl rfl (by exact zC rfl rfl rfl rfl rfl (by rfl) (by exact Nat.le_of_ble_eq_true rfl) rfl rfl) ?_ | refine yU.fin (by rfl) ?_))))) | (refine zY.isR (id := 24) ?_; refine zY.zV [0, 1, 4, 5, 9, 10, 11, 12, 13, 14, 15, 17, 18, 19, 20, 21, 22, 23, 47, 63, 72, 83, 95, 98] [6, 7, 9, 10, 15, 16, 19, 20, 22, 23, 42, 43, 117, 201, 202] (by repeat' first | exact zZ.nil | apply zZ.p rfl | apply zZ.ptr rfl | apply zZ.own rfl | apply zZ.skip) (by repeat' first | exact zW.nil | apply zW.boxP rfl rfl | apply zW.some rfl | apply zW.skip) ?_; (refine zX.v rfl rfl (zQ rfl rfl rfl (by decide)) ?_); refine zX.nil ?_) | (refine zY.isR (id := 25) ?_; refine zY.zV [0, 1, 4, 5, 9, 10, 11, 12, 13, 14, 15, 17, 18, 19, 20, 21, 22, 23, 47, 63, 72, 83, 95, 98] [6, 7, 9, 10, 15, 16, 19, 20, 22, 23, 42, 43, 117, 201, 202] (by repeat' first | exact zZ.nil | apply zZ.p rfl | apply zZ.ptr rfl | apply zZ.own rfl | apply zZ.skip) (by repeat' first | exact zW.nil | apply zW.boxP rfl rfl | apply zW.some rfl | apply zW.skip) ?_; (refine zX.v rfl rfl (zJ rfl rfl rfl (by decide)) ?_); (refine zX.v rfl rfl (zA rfl rfl rfl (by rfl) rfl (by decide)) ?_); (refine zX.v rfl rfl (by exact wV rfl rfl (by exact bF (by decide)) rfl (by decide)) ?_); refine zX.nil ?_) | (refine zY.isR (id := 27) ?_; refine zY.zV [0, 1, 4, 5, 9, 10, 11, 12, 13, 14, 15, 17, 18, 19, 20, 21, 22, 23, 47, 63, 72, 83, 95, 98] [6, 7, 9, 10, 15, 16, 19, 20, 22, 23, 42, 43, 117, 201, 202] (by repeat' first | exact zZ.nil | apply zZ.p rfl | apply zZ.ptr rfl | apply zZ.own rfl | apply zZ.skip) (by repeat' first | exact zW.nil | apply zW.boxP rfl rfl | apply zW.some rfl | apply zW.skip) ?_; (refine zX.v rfl rfl (yE rfl rfl rfl (by decide)) ?_); (refine zX.v rfl rfl (zQ rfl rfl rfl (by decide)) ?_); (refine zX.v rfl rfl (by exact yR rfl rfl rfl rfl (by exact g7) rfl (by decide)) ?_); (refine zX.w rfl (by exact vQ rfl rfl rfl rfl rfl (by exact k1) (by rfl) rfl (by exact g7b) rfl) ?_); refine zX.nil ?_) | (refine zY.isR (id := 14) ?_; refine zY.zV [0, 1, 4, 5, 9, 10, 11, 12, 13, 14, 15, 17, 18, 19, 20, 21, 22, 23, 47, 63, 72, 83, 95, 98] [6, 7, 9, 10, 15, 16, 19, 20, 22, 23, 42, 43, 117, 201, 202] (by repeat' first | exact zZ.nil | apply zZ.p rfl | apply zZ.ptr rfl | apply zZ.own rfl | apply zZ.skip) (by repeat' first | exact zW.nil | apply zW.boxP rfl rfl | apply zW.some rfl | apply zW.skip) ?_; (refine zX.v rfl rfl (zQ rfl rfl rfl (by decide)) ?_); (refine zX.v rfl rfl (by exact yP rfl rfl rfl (by exact g6) rfl (by decide)) ?_); (refine zX.v rfl rfl (zK rfl rfl rfl (by decide)) ?_); refine zX.nil ?_) | refine zY.yO rfl (by first | assumption | with_reducible rfl) ?_ | refine zY.yI rfl (by with_reducible rfl) ?_ | refine zY.skip ?_ | refine zY.exit ?_) | refine yQ.n ?_)
                  all_goals
                    refine ⟨(i + 1, ⟨c, s0, s1, L0, L1, j0, 6, o0, true⟩), ?_, ⟨by show i + 1 ≤ ps.length; omega, hnext⟩, by show ps.length - (i + 1) < ps.length - i; omega⟩
                    show Sub _ (wM ps an (i + 1) ⟨c, s0, s1, L0, L1, j0, 6, o0, true⟩)
                    unfold wM
                    dsimp only
                    refine zI (is := [0, 1, 5, 9, 10, 11, 12, 13, 14]) (js := [9, 10, 42, 201, 202, 43]) ?_ ?_
                    repeat' first | exact zZ.nil | apply zZ.p rfl | apply zZ.ptr rfl | apply zZ.own rfl | apply zZ.clo rfl | apply zZ.pt rfl | apply zZ.tup rfl | apply zZ.skip
                    repeat' first | exact zW.nil | apply zW.boxP rfl rfl | apply zW.yK rfl | apply zW.some rfl | apply zW.skip
                  -- >>d1
      case inr =>
        have g1 : decide ((i : Int) < ((ps.length : Nat) : Int)) = false := decide_eq_false (by omega)
        obtain ⟨c, s0, s1, L0, L1, j0, j1, o0, o1⟩ := x
        have c4 : Fn Tryd.prog 12 [.val (.int .i64 3), .val (.int .i64 1), .val (.int .i64 2)] (.p (.val (.int .i64 13))) := fieldRef_fn 3 1 2 (by unfold Small; decide) (by decide) (by unfold Small; decide)
        have g6 := wds_cells (hWs c)
        have hov : c = 0 → o0 = false ∧ o1 = false := fun e => by
          refine ⟨?_, ?_⟩
          · cases o0
            · rfl
            · have h1 := hinv.a.ov rfl
              exact absurd e (hinv.a.past (by show 5 ≤ j0; have : j0 = 6 := h1; omega))
          · cases o1
            · rfl
            · have h1 := hinv.b.ov rfl
              exact absurd e (hinv.b.past (by show 5 ≤ j1; have : j1 = 6 := h1; omega))
        have hlc : c < 3 := hinv.lc
        have hat : (hWs c)[13]? = some (hF c) := hF_at c hlc
        have g4 := wds_at hat
        have g5 : (0 : Int) ≤ 13 ∧ (13 : Int) < ((wds (hWs c)).length : Int) := by
          have := (List.getElem?_eq_some_iff.1 hat).1
          rw [wds_len]; omega
        change zY _ _ _ (wM ps an i ⟨c, s0, s1, L0, L1, j0, j1, o0, o1⟩) _
        have k0 := hbc o0 o1
        have k1 := hbc1 o0 o1
        have m0 : (0 : Int) ≤ 0 ∧ (0 : Int) < (([.val (.bool o0), .val (.bool o1)] : List PV).length : Int) := t0
        have m1 : (0 : Int) ≤ 1 ∧ (1 : Int) < (([.val (.bool o0), .val (.bool o1)] : List PV).length : Int) := t1
        have m2 : ([.val (.bool o0), .val (.bool o1)] : List PV)[(0 : Int).toNat * 1]? = some (.val (.bool o0)) := rfl
        have m3 : ([.val (.bool o0), .val (.bool o1)] : List PV)[(1 : Int).toNat * 1]? = some (.val (.bool o1)) := rfl
        rcases (show c = 0 ∨ c = 1 ∨ c = 2 by omega) with rfl | rfl | rfl
        case inl =>
          obtain ⟨rfl, rfl⟩ := hov rfl
          have c5 : Fn Tryd.prog 11 [.val (.int .u64 4), .val (.int .i64 2)] (.p (.val (.bool false))) := hasRef_fn 4 2 (by decide) (by decide)
          have c6 : Fn Tryd.prog 16 [.val (.int .u64 4)] (.p (.val (.int .u64 1))) := wstampRef_fn 4 (by decide) (by decide)
          -- <<z0
          unfold wM
          rw [show hFr 0 = false from rfl]
          try dsimp only
          repeat' ((refine zY.is ?_; first | refine zY.seq ?_ | (refine zY.isR (id := 13) ?_; refine zY.zV [0, 1, 4, 5, 9, 10, 11, 12, 13, 14, 15, 17, 18, 19, 20, 21, 22, 23, 47, 63, 72, 83, 95, 98] [6, 7, 9, 10, 15, 16, 19, 20, 22, 23, 42, 43, 117, 201, 202] (by repeat' first | exact zZ.nil | apply zZ.p rfl | apply zZ.ptr rfl | apply zZ.own rfl | apply zZ.skip) (by repeat' first | exact zW.nil | apply zW.boxP rfl rfl | apply zW.some rfl | apply zW.skip) ?_; (refine zX.v rfl rfl (zQ rfl rfl rfl (by decide)) ?_); (refine zX.v rfl rfl (zQ rfl rfl rfl (by decide)) ?_); (refine zX.v rfl rfl (xO rfl rfl rfl (by decide)) ?_); (refine zX.v rfl rfl (by exact yG rfl rfl rfl (by exact g1) rfl (by decide)) ?_); refine zX.nil ?_) | (refine zY.isR (id := 31) ?_; refine zY.z8 [4, 5, 9, 12, 13] [6, 7, 9, 10, 15, 16, 19, 20, 22, 23, 42, 43, 117, 201, 202] (by repeat' first | exact zZ.nil | apply zZ.p rfl | apply zZ.ptr rfl | apply zZ.own rfl | apply zZ.skip) (by repeat' first | exact zW.nil | apply zW.boxP rfl rfl | apply zW.some rfl | apply zW.skip) (zY.draws ?_); all_goals (refine Draws.v rfl rfl (zJ rfl rfl rfl (by decide)) ?_); all_goals (refine Draws.v rfl rfl (zJ rfl rfl rfl (by decide)) ?_); all_goals (refine Draws.v rfl rfl (zA rfl rfl rfl (by rfl) rfl (by decide)) ?_); all_goals (refine Draws.v rfl rfl (by exact zN (c4) rfl rfl rfl (by decide)) ?_); all_goals (refine Draws.v rfl rfl (by exact xZ rfl rfl rfl (by exact g6) (by exact g4) rfl (by decide)) ?_); all_goals (refine Draws.v rfl rfl (y8 rfl rfl rfl rfl (by decide)) ?_); all_goals (refine Draws.v rfl rfl (zK rfl rfl rfl (by decide)) ?_); all_goals ((refine Draws.done (by kernel_rfl) (by kernel_rfl) (by kernel_rfl) ?_; refine zH.nil ?_))) | (refine zY.isR (id := 32) ?_; refine zY.zV [4, 5, 12, 13, 24] [6, 7, 9, 10, 15, 16, 19, 20, 22, 23, 42, 43, 117, 201, 202] (by repeat' first | exact zZ.nil | apply zZ.p rfl | apply zZ.own rfl | apply zZ.skip) (by repeat' first | exact zW.nil | apply zW.boxP rfl rfl | apply zW.some rfl | apply zW.skip) ?_; (refine zX.v rfl rfl (zQ rfl rfl rfl (by decide)) ?_); (refine zX.v rfl rfl (by exact zN (c5) rfl rfl rfl (by decide)) ?_); (refine zX.v rfl rfl (zK rfl rfl rfl (by decide)) ?_); refine zX.nil ?_) | (refine zY.isR (id := 33) ?_; refine zY.zV [4, 5, 12, 13, 24, 25] [6, 7, 9, 10, 15, 16, 19, 20, 22, 23, 42, 43, 117, 201, 202] (by repeat' first | exact zZ.nil | apply zZ.p rfl | apply zZ.own rfl | apply zZ.skip) (by repeat' first | exact zW.nil | apply zW.boxP rfl rfl | apply zW.some rfl | apply zW.skip) ?_; (refine zX.v rfl rfl (zQ rfl rfl rfl (by decide)) ?_); refine zX.nil ?_) | (refine zY.isR (id := 35) ?_; refine zY.zV [4, 5, 12, 24, 25] [6, 7, 9, 10, 15, 16, 19, 20, 22, 23, 42, 43, 117, 201, 202] (by repeat' first | exact zZ.nil | apply zZ.p rfl | apply zZ.own rfl | apply zZ.skip) (by repeat' first | exact zW.nil | apply zW.boxP rfl rfl | apply zW.some rfl | apply zW.skip) ?_; all_goals (refine zX.v rfl rfl (zQ rfl rfl rfl (by decide)) ?_); all_goals (refine zX.v rfl rfl (zQ rfl rfl rfl (by decide)) ?_); all_goals (refine zX.gY rfl rfl (by decide) rfl (by with_reducible rfl) rfl (by decide) (zQ rfl rfl rfl (by decide)) ?_); all_goals (refine zX.gY rfl rfl (by decide) rfl (by with_reducible rfl) rfl (by decide) (by exact zN (c6) rfl rfl rfl (by decide)) ?_); all_goals (refine zX.gY rfl rfl (by decide) rfl (by with_reducible rfl) rfl (by decide) (by exact y5 rfl rfl rfl (by exact bT (by decide)) rfl (by decide)) ?_); all_goals (refine zX.v rfl rfl (by exact zO rfl rfl (by with_reducible rfl) rfl rfl (by decide)) ?_); all_goals (refine zX.v rfl rfl (zQ rfl rfl rfl (by decide)) ?_); all_goals (refine zX.gY rfl rfl (by decide) rfl (by with_reducible rfl) rfl (by decide) (yE rfl rfl rfl (by decide)) ?_); all_goals (refine zX.gY rfl rfl (by decide) rfl (by with_reducible rfl) rfl (by decide) (by exact yR rfl rfl rfl rfl (by exact m0) rfl (by decide)) ?_); all_goals (refine zX.gY rfl rfl (by decide) rfl (by with_reducible rfl) rfl (by decide) (zA rfl rfl rfl (by rfl) rfl (by decide)) ?_); all_goals (refine zX.gY rfl rfl (by decide) rfl (by with_reducible rfl) rfl (by decide) (by exact wV rfl rfl (by exact bT (by decide)) rfl (by decide)) ?_); all_goals (refine zX.gY rfl rfl (by decide) rfl (by with_reducible rfl) rfl (by decide) (zQ rfl rfl rfl (by decide)) ?_); all_goals (refine zX.gY rfl rfl (by decide) rfl (by with_reducible rfl) rfl (by decide) (yE rfl rfl rfl (by decide)) ?_); all_goals (refine zX.gY rfl rfl (by decide) rfl (by with_reducible rfl) rfl (by decide) (by exact yR rfl rfl rfl rfl (by exact m1) rfl (by decide)) ?_); all_goals (refine zX.gY rfl rfl (by decide) rfl (by with_reducible rfl) rfl (by decide) (zA rfl rfl rfl (by rfl) rfl (by decide)) ?_); all_goals (refine zX.gY rfl rfl (by decide) rfl (by with_reducible rfl) rfl (by decide) (by exact wV rfl rfl (by exact bT (by decide)) rfl (by decide)) ?_); all_goals (refine zX.gY rfl rfl (by decide) rfl (by with_reducible rfl) rfl (by decide) (by exact zO rfl rfl (by with_reducible rfl) rfl rfl (by decide)) ?_); all_goals (refine zX.gY rfl rfl (by decide) rfl (by with_reducible rfl) rfl (by decide) (zQ rfl rfl rfl (by decide)) ?_); all_goals (refine zX.gnF rfl rfl (by decide) rfl (by with_reducible rfl) rfl (by decide) ?_); all_goals (refine zX.gY rfl rfl (by decide) rfl (by with_reducible rfl) rfl (by decide) (by exact zO rfl rfl (by with_reducible rfl) rfl rfl (by decide)) ?_); all_goals (refine zX.v rfl rfl (by exact zO rfl rfl (by with_reducible rfl) rfl rfl (by decide)) ?_); all_goals (refine zX.v rfl rfl (zK rfl rfl rfl (by decide)) ?_); all_goals (refine zX.nil ?_)) | refine zY.yI rfl (by first | assumption | with_reducible rfl) ?_ | refine zY.skip ?_ | refine zY.exit ?_ | refine zY.ret ?_))
          all_goals exact ⟨by first | exact .inl rfl | exact .inr rfl, _, Sub.refl _, .p rfl (.tmp rfl)⟩
          -- >>z0
        case inr.inl =>
          have c5 : Fn Tryd.prog 11 [.val (.int .u64 6), .val (.int .i64 2)] (.p (.val (.bool true))) := hasRef_fn 6 2 (by decide) (by decide)
          have c6 : Fn Tryd.prog 16 [.val (.int .u64 6)] (.p (.val (.int .u64 1))) := wstampRef_fn 6 (by decide) (by decide)
          cases o0
          case true =>
            -- <<z1
            unfold wM
            rw [show hFr 1 = false from rfl]
            try dsimp only
            repeat' ((refine zY.is ?_; first | refine zY.seq ?_ | (refine zY.isR (id := 13) ?_; refine zY.zV [0, 1, 4, 5, 9, 10, 11, 12, 13, 14, 15, 17, 18, 19, 20, 21, 22, 23, 47, 63, 72, 83, 95, 98] [6, 7, 9, 10, 15, 16, 19, 20, 22, 23, 42, 43, 117, 201, 202] (by repeat' first | exact zZ.nil | apply zZ.p rfl | apply zZ.ptr rfl | apply zZ.own rfl | apply zZ.skip) (by repeat' first | exact zW.nil | apply zW.boxP rfl rfl | apply zW.some rfl | apply zW.skip) ?_; (refine zX.v rfl rfl (zQ rfl rfl rfl (by decide)) ?_); (refine zX.v rfl rfl (zQ rfl rfl rfl (by decide)) ?_); (refine zX.v rfl rfl (xO rfl rfl rfl (by decide)) ?_); (refine zX.v rfl rfl (by exact yG rfl rfl rfl (by exact g1) rfl (by decide)) ?_); refine zX.nil ?_) | (refine zY.isR (id := 31) ?_; refine zY.z8 [4, 5, 9, 12, 13] [6, 7, 9, 10, 15, 16, 19, 20, 22, 23, 42, 43, 117, 201, 202] (by repeat' first | exact zZ.nil | apply zZ.p rfl | apply zZ.ptr rfl | apply zZ.own rfl | apply zZ.skip) (by repeat' first | exact zW.nil | apply zW.boxP rfl rfl | apply zW.some rfl | apply zW.skip) (zY.draws ?_); all_goals (refine Draws.v rfl rfl (zJ rfl rfl rfl (by decide)) ?_); all_goals (refine Draws.v rfl rfl (zJ rfl rfl rfl (by decide)) ?_); all_goals (refine Draws.v rfl rfl (zA rfl rfl rfl (by rfl) rfl (by decide)) ?_); all_goals (refine Draws.v rfl rfl (by exact zN (c4) rfl rfl rfl (by decide)) ?_); all_goals (refine Draws.v rfl rfl (by exact xZ rfl rfl rfl (by exact g6) (by exact g4) rfl (by decide)) ?_); all_goals (refine Draws.v rfl rfl (y8 rfl rfl rfl rfl (by decide)) ?_); all_goals (refine Draws.v rfl rfl (zK rfl rfl rfl (by decide)) ?_); all_goals ((refine Draws.done (by kernel_rfl) (by kernel_rfl) (by kernel_rfl) ?_; refine zH.nil ?_))) | (refine zY.isR (id := 32) ?_; refine zY.zV [4, 5, 12, 13, 24] [6, 7, 9, 10, 15, 16, 19, 20, 22, 23, 42, 43, 117, 201, 202] (by repeat' first | exact zZ.nil | apply zZ.p rfl | apply zZ.own rfl | apply zZ.skip) (by repeat' first | exact zW.nil | apply zW.boxP rfl rfl | apply zW.some rfl | apply zW.skip) ?_; (refine zX.v rfl rfl (zQ rfl rfl rfl (by decide)) ?_); (refine zX.v rfl rfl (by exact zN (c5) rfl rfl rfl (by decide)) ?_); (refine zX.v rfl rfl (zK rfl rfl rfl (by decide)) ?_); refine zX.nil ?_) | (refine zY.isR (id := 33) ?_; refine zY.zV [4, 5, 12, 13, 24, 25] [6, 7, 9, 10, 15, 16, 19, 20, 22, 23, 42, 43, 117, 201, 202] (by repeat' first | exact zZ.nil | apply zZ.p rfl | apply zZ.own rfl | apply zZ.skip) (by repeat' first | exact zW.nil | apply zW.boxP rfl rfl | apply zW.some rfl | apply zW.skip) ?_; (refine zX.v rfl rfl (zQ rfl rfl rfl (by decide)) ?_); refine zX.nil ?_) | (refine zY.isR (id := 35) ?_; refine zY.zV [4, 5, 12, 24, 25] [6, 7, 9, 10, 15, 16, 19, 20, 22, 23, 42, 43, 117, 201, 202] (by repeat' first | exact zZ.nil | apply zZ.p rfl | apply zZ.own rfl | apply zZ.skip) (by repeat' first | exact zW.nil | apply zW.boxP rfl rfl | apply zW.some rfl | apply zW.skip) ?_; all_goals (refine zX.v rfl rfl (zQ rfl rfl rfl (by decide)) ?_); all_goals (refine zX.v rfl rfl (zQ rfl rfl rfl (by decide)) ?_); all_goals (refine zX.gY rfl rfl (by decide) rfl (by with_reducible rfl) rfl (by decide) (zQ rfl rfl rfl (by decide)) ?_); all_goals (refine zX.gY rfl rfl (by decide) rfl (by with_reducible rfl) rfl (by decide) (by exact zN (c6) rfl rfl rfl (by decide)) ?_); all_goals (refine zX.gY rfl rfl (by decide) rfl (by with_reducible rfl) rfl (by decide) (by exact y5 rfl rfl rfl (by exact bT (by decide)) rfl (by decide)) ?_); all_goals (refine zX.v rfl rfl (by exact zO rfl rfl (by with_reducible rfl) rfl rfl (by decide)) ?_); all_goals (refine zX.v rfl rfl (zQ rfl rfl rfl (by decide)) ?_); all_goals (refine zX.gY rfl rfl (by decide) rfl (by with_reducible rfl) rfl (by decide) (yE rfl rfl rfl (by decide)) ?_); all_goals (refine zX.gY rfl rfl (by decide) rfl (by with_reducible rfl) rfl (by decide) (by exact yR rfl rfl rfl rfl (by exact m0) rfl (by decide)) ?_); all_goals (refine zX.gY rfl rfl (by decide) rfl (by with_reducible rfl) rfl (by decide) (zA rfl rfl rfl (by rfl) rfl (by decide)) ?_); all_goals (refine zX.gY rfl rfl (by decide) rfl (by with_reducible rfl) rfl (by decide) (by exact wV rfl rfl (by exact bF (by decide)) rfl (by decide)) ?_); all_goals (refine zX.gY rfl rfl (by decide) rfl (by with_reducible rfl) rfl (by decide) (zQ rfl rfl rfl (by decide)) ?_); all_goals (refine zX.gnT rfl rfl (by decide) rfl (by with_reducible rfl) rfl (by decide) ?_); all_goals (refine zX.gnT rfl rfl (by decide) rfl (by with_reducible rfl) rfl (by decide) ?_); all_goals (refine zX.gnT rfl rfl (by decide) rfl (by with_reducible rfl) rfl (by decide) ?_); all_goals (refine zX.gnT rfl rfl (by decide) rfl (by with_reducible rfl) rfl (by decide) ?_); all_goals (refine zX.gY rfl rfl (by decide) rfl (by with_reducible rfl) rfl (by decide) (by exact yF rfl rfl (by with_reducible rfl) rfl rfl (by decide)) ?_); all_goals (refine zX.gY rfl rfl (by decide) rfl (by with_reducible rfl) rfl (by decide) (zQ rfl rfl rfl (by decide)) ?_); all_goals (refine zX.gY rfl rfl (by decide) rfl (by with_reducible rfl) rfl (by decide) (zQ rfl rfl rfl (by decide)) ?_); all_goals (refine zX.gY rfl rfl (by decide) rfl (by with_reducible rfl) rfl (by decide) (by exact yF rfl rfl (by with_reducible rfl) rfl rfl (by decide)) ?_); all_goals (refine zX.v rfl rfl (by exact zO rfl rfl (by with_reducible rfl) rfl rfl (by decide)) ?_); all_goals (refine zX.v rfl rfl (zK rfl rfl rfl (by decide)) ?_); all_goals (refine zX.nil ?_)) | refine zY.yI rfl (by first | assumption | with_reducible rfl) ?_ | refine zY.skip ?_ | refine zY.exit ?_ | refine zY.ret ?_))
            all_goals exact ⟨by first | exact .inl rfl | exact .inr rfl, _, Sub.refl _, .p rfl (.tmp rfl)⟩
            -- >>z1
          case false =>
            cases o1
            case true =>
              -- <<z2
              unfold wM
              rw [show hFr 1 = false from rfl]
              try dsimp only
              repeat' ((refine zY.is ?_; first | refine zY.seq ?_ | (refine zY.isR (id := 13) ?_; refine zY.zV [0, 1, 4, 5, 9, 10, 11, 12, 13, 14, 15, 17, 18, 19, 20, 21, 22, 23, 47, 63, 72, 83, 95, 98] [6, 7, 9, 10, 15, 16, 19, 20, 22, 23, 42, 43, 117, 201, 202] (by repeat' first | exact zZ.nil | apply zZ.p rfl | apply zZ.ptr rfl | apply zZ.own rfl | apply zZ.skip) (by repeat' first | exact zW.nil | apply zW.boxP rfl rfl | apply zW.some rfl | apply zW.skip) ?_; (refine zX.v rfl rfl (zQ rfl rfl rfl (by decide)) ?_); (refine zX.v rfl rfl (zQ rfl rfl rfl (by decide)) ?_); (refine zX.v rfl rfl (xO rfl rfl rfl (by decide)) ?_); (refine zX.v rfl rfl (by exact yG rfl rfl rfl (by exact g1) rfl (by decide)) ?_); refine zX.nil ?_) | (refine zY.isR (id := 31) ?_; refine zY.z8 [4, 5, 9, 12, 13] [6, 7, 9, 10, 15, 16, 19, 20, 22, 23, 42, 43, 117, 201, 202] (by repeat' first | exact zZ.nil | apply zZ.p rfl | apply zZ.ptr rfl | apply zZ.own rfl | apply zZ.skip) (by repeat' first | exact zW.nil | apply zW.boxP rfl rfl | apply zW.some rfl | apply zW.skip) (zY.draws ?_); all_goals (refine Draws.v rfl rfl (zJ rfl rfl rfl (by decide)) ?_); all_goals (refine Draws.v rfl rfl (zJ rfl rfl rfl (by decide)) ?_); all_goals (refine Draws.v rfl rfl (zA rfl rfl rfl (by rfl) rfl (by decide)) ?_); all_goals (refine Draws.v rfl rfl (by exact zN (c4) rfl rfl rfl (by decide)) ?_); all_goals (refine Draws.v rfl rfl (by exact xZ rfl rfl rfl (by exact g6) (by exact g4) rfl (by decide)) ?_); all_goals (refine Draws.v rfl rfl (y8 rfl rfl rfl rfl (by decide)) ?_); all_goals (refine Draws.v rfl rfl (zK rfl rfl rfl (by decide)) ?_); all_goals ((refine Draws.done (by kernel_rfl) (by kernel_rfl) (by kernel_rfl) ?_; refine zH.nil ?_))) | (refine zY.isR (id := 32) ?_; refine zY.zV [4, 5, 12, 13, 24] [6, 7, 9, 10, 15, 16, 19, 20, 22, 23, 42, 43, 117, 201, 202] (by repeat' first | exact zZ.nil | apply zZ.p rfl | apply zZ.own rfl | apply zZ.skip) (by repeat' first | exact zW.nil | apply zW.boxP rfl rfl | apply zW.some rfl | apply zW.skip) ?_; (refine zX.v rfl rfl (zQ rfl rfl rfl (by decide)) ?_); (refine zX.v rfl rfl (by exact zN (c5) rfl rfl rfl (by decide)) ?_); (refine zX.v rfl rfl (zK rfl rfl rfl (by decide)) ?_); refine zX.nil ?_) | (refine zY.isR (id := 33) ?_; refine zY.zV [4, 5, 12, 13, 24, 25] [6, 7, 9, 10, 15, 16, 19, 20, 22, 23, 42, 43, 117, 201, 202] (by repeat' first | exact zZ.nil | apply zZ.p rfl | apply zZ.own rfl | apply zZ.skip) (by repeat' first | exact zW.nil | apply zW.boxP rfl rfl | apply zW.some rfl | apply zW.skip) ?_; (refine zX.v rfl rfl (zQ rfl rfl rfl (by decide)) ?_); refine zX.nil ?_) | (refine zY.isR (id := 35) ?_; refine zY.zV [4, 5, 12, 24, 25] [6, 7, 9, 10, 15, 16, 19, 20, 22, 23, 42, 43, 117, 201, 202] (by repeat' first | exact zZ.nil | apply zZ.p rfl | apply zZ.own rfl | apply zZ.skip) (by repeat' first | exact zW.nil | apply zW.boxP rfl rfl | apply zW.some rfl | apply zW.skip) ?_; all_goals (refine zX.v rfl rfl (zQ rfl rfl rfl (by decide)) ?_); all_goals (refine zX.v rfl rfl (zQ rfl rfl rfl (by decide)) ?_); all_goals (refine zX.gY rfl rfl (by decide) rfl (by with_reducible rfl) rfl (by decide) (zQ rfl rfl rfl (by decide)) ?_); all_goals (refine zX.gY rfl rfl (by decide) rfl (by with_reducible rfl) rfl (by decide) (by exact zN (c6) rfl rfl rfl (by decide)) ?_); all_goals (refine zX.gY rfl rfl (by decide) rfl (by with_reducible rfl) rfl (by decide) (by exact y5 rfl rfl rfl (by exact bT (by decide)) rfl (by decide)) ?_); all_goals (refine zX.v rfl rfl (by exact zO rfl rfl (by with_reducible rfl) rfl rfl (by decide)) ?_); all_goals (refine zX.v rfl rfl (zQ rfl rfl rfl (by decide)) ?_); all_goals (refine zX.gY rfl rfl (by decide) rfl (by with_reducible rfl) rfl (by decide) (yE rfl rfl rfl (by decide)) ?_); all_goals (refine zX.gY rfl rfl (by decide) rfl (by with_reducible rfl) rfl (by decide) (by exact yR rfl rfl rfl rfl (by exact m0) rfl (by decide)) ?_); all_goals (refine zX.gY rfl rfl (by decide) rfl (by with_reducible rfl) rfl (by decide) (zA rfl rfl rfl (by rfl) rfl (by decide)) ?_); all_goals (refine zX.gY rfl rfl (by decide) rfl (by with_reducible rfl) rfl (by decide) (by exact wV rfl rfl (by exact bT (by decide)) rfl (by decide)) ?_); all_goals (refine zX.gY rfl rfl (by decide) rfl (by with_reducible rfl) rfl (by decide) (zQ rfl rfl rfl (by decide)) ?_); all_goals (refine zX.gY rfl rfl (by decide) rfl (by with_reducible rfl) rfl (by decide) (yE rfl rfl rfl (by decide)) ?_); all_goals (refine zX.gY rfl rfl (by decide) rfl (by with_reducible rfl) rfl (by decide) (by exact yR rfl rfl rfl rfl (by exact m1) rfl (by decide)) ?_); all_goals (refine zX.gY rfl rfl (by decide) rfl (by with_reducible rfl) rfl (by decide) (zA rfl rfl rfl (by rfl) rfl (by decide)) ?_); all_goals (refine zX.gY rfl rfl (by decide) rfl (by with_reducible rfl) rfl (by decide) (by exact wV rfl rfl (by exact bF (by decide)) rfl (by decide)) ?_); all_goals (refine zX.gY rfl rfl (by decide) rfl (by with_reducible rfl) rfl (by decide) (by exact zO rfl rfl (by with_reducible rfl) rfl rfl (by decide)) ?_); all_goals (refine zX.gY rfl rfl (by decide) rfl (by with_reducible rfl) rfl (by decide) (zQ rfl rfl rfl (by decide)) ?_); all_goals (refine zX.gY rfl rfl (by decide) rfl (by with_reducible rfl) rfl (by decide) (zQ rfl rfl rfl (by decide)) ?_); all_goals (refine zX.gY rfl rfl (by decide) rfl (by with_reducible rfl) rfl (by decide) (by exact yF rfl rfl (by with_reducible rfl) rfl rfl (by decide)) ?_); all_goals (refine zX.v rfl rfl (by exact zO rfl rfl (by with_reducible rfl) rfl rfl (by decide)) ?_); all_goals (refine zX.v rfl rfl (zK rfl rfl rfl (by decide)) ?_); all_goals (refine zX.nil ?_)) | refine zY.yI rfl (by first | assumption | with_reducible rfl) ?_ | refine zY.skip ?_ | refine zY.exit ?_ | refine zY.ret ?_))
              all_goals exact ⟨by first | exact .inl rfl | exact .inr rfl, _, Sub.refl _, .p rfl (.tmp rfl)⟩
              -- >>z2
            case false =>
              -- <<z3
              unfold wM
              rw [show hFr 1 = false from rfl]
              try dsimp only
              repeat' ((refine zY.is ?_; first | refine zY.seq ?_ | (refine zY.isR (id := 13) ?_; refine zY.zV [0, 1, 4, 5, 9, 10, 11, 12, 13, 14, 15, 17, 18, 19, 20, 21, 22, 23, 47, 63, 72, 83, 95, 98] [6, 7, 9, 10, 15, 16, 19, 20, 22, 23, 42, 43, 117, 201, 202] (by repeat' first | exact zZ.nil | apply zZ.p rfl | apply zZ.ptr rfl | apply zZ.own rfl | apply zZ.skip) (by repeat' first | exact zW.nil | apply zW.boxP rfl rfl | apply zW.some rfl | apply zW.skip) ?_; (refine zX.v rfl rfl (zQ rfl rfl rfl (by decide)) ?_); (refine zX.v rfl rfl (zQ rfl rfl rfl (by decide)) ?_); (refine zX.v rfl rfl (xO rfl rfl rfl (by decide)) ?_); (refine zX.v rfl rfl (by exact yG rfl rfl rfl (by exact g1) rfl (by decide)) ?_); refine zX.nil ?_) | (refine zY.isR (id := 31) ?_; refine zY.z8 [4, 5, 9, 12, 13] [6, 7, 9, 10, 15, 16, 19, 20, 22, 23, 42, 43, 117, 201, 202] (by repeat' first | exact zZ.nil | apply zZ.p rfl | apply zZ.ptr rfl | apply zZ.own rfl | apply zZ.skip) (by repeat' first | exact zW.nil | apply zW.boxP rfl rfl | apply zW.some rfl | apply zW.skip) (zY.draws ?_); all_goals (refine Draws.v rfl rfl (zJ rfl rfl rfl (by decide)) ?_); all_goals (refine Draws.v rfl rfl (zJ rfl rfl rfl (by decide)) ?_); all_goals (refine Draws.v rfl rfl (zA rfl rfl rfl (by rfl) rfl (by decide)) ?_); all_goals (refine Draws.v rfl rfl (by exact zN (c4) rfl rfl rfl (by decide)) ?_); all_goals (refine Draws.v rfl rfl (by exact xZ rfl rfl rfl (by exact g6) (by exact g4) rfl (by decide)) ?_); all_goals (refine Draws.v rfl rfl (y8 rfl rfl rfl rfl (by decide)) ?_); all_goals (refine Draws.v rfl rfl (zK rfl rfl rfl (by decide)) ?_); all_goals ((refine Draws.done (by kernel_rfl) (by kernel_rfl) (by kernel_rfl) ?_; refine zH.nil ?_))) | (refine zY.isR (id := 32) ?_; refine zY.zV [4, 5, 12, 13, 24] [6, 7, 9, 10, 15, 16, 19, 20, 22, 23, 42, 43, 117, 201, 202] (by repeat' first | exact zZ.nil | apply zZ.p rfl | apply zZ.own rfl | apply zZ.skip) (by repeat' first | exact zW.nil | apply zW.boxP rfl rfl | apply zW.some rfl | apply zW.skip) ?_; (refine zX.v rfl rfl (zQ rfl rfl rfl (by decide)) ?_); (refine zX.v rfl rfl (by exact zN (c5) rfl rfl rfl (by decide)) ?_); (refine zX.v rfl rfl (zK rfl rfl rfl (by decide)) ?_); refine zX.nil ?_) | (refine zY.isR (id := 33) ?_; refine zY.zV [4, 5, 12, 13, 24, 25] [6, 7, 9, 10, 15, 16, 19, 20, 22, 23, 42, 43, 117, 201, 202] (by repeat' first | exact zZ.nil | apply zZ.p rfl | apply zZ.own rfl | apply zZ.skip) (by repeat' first | exact zW.nil | apply zW.boxP rfl rfl | apply zW.some rfl | apply zW.skip) ?_; (refine zX.v rfl rfl (zQ rfl rfl rfl (by decide)) ?_); refine zX.nil ?_) | (refine zY.isR (id := 35) ?_; refine zY.zV [4, 5, 12, 24, 25] [6, 7, 9, 10, 15, 16, 19, 20, 22, 23, 42, 43, 117, 201, 202] (by repeat' first | exact zZ.nil | apply zZ.p rfl | apply zZ.own rfl | apply zZ.skip) (by repeat' first | exact zW.nil | apply zW.boxP rfl rfl | apply zW.some rfl | apply zW.skip) ?_; all_goals (refine zX.v rfl rfl (zQ rfl rfl rfl (by decide)) ?_); all_goals (refine zX.v rfl rfl (zQ rfl rfl rfl (by decide)) ?_); all_goals (refine zX.gY rfl rfl (by decide) rfl (by with_reducible rfl) rfl (by decide) (zQ rfl rfl rfl (by decide)) ?_); all_goals (refine zX.gY rfl rfl (by decide) rfl (by with_reducible rfl) rfl (by decide) (by exact zN (c6) rfl rfl rfl (by decide)) ?_); all_goals (refine zX.gY rfl rfl (by decide) rfl (by with_reducible rfl) rfl (by decide) (by exact y5 rfl rfl rfl (by exact bT (by decide)) rfl (by decide)) ?_); all_goals (refine zX.v rfl rfl (by exact zO rfl rfl (by with_reducible rfl) rfl rfl (by decide)) ?_); all_goals (refine zX.v rfl rfl (zQ rfl rfl rfl (by decide)) ?_); all_goals (refine zX.gY rfl rfl (by decide) rfl (by with_reducible rfl) rfl (by decide) (yE rfl rfl rfl (by decide)) ?_); all_goals (refine zX.gY rfl rfl (by decide) rfl (by with_reducible rfl) rfl (by decide) (by exact yR rfl rfl rfl rfl (by exact m0) rfl (by decide)) ?_); all_goals (refine zX.gY rfl rfl (by decide) rfl (by with_reducible rfl) rfl (by decide) (zA rfl rfl rfl (by rfl) rfl (by decide)) ?_); all_goals (refine zX.gY rfl rfl (by decide) rfl (by with_reducible rfl) rfl (by decide) (by exact wV rfl rfl (by exact bT (by decide)) rfl (by decide)) ?_); all_goals (refine zX.gY rfl rfl (by decide) rfl (by with_reducible rfl) rfl (by decide) (zQ rfl rfl rfl (by decide)) ?_); all_goals (refine zX.gY rfl rfl (by decide) rfl (by with_reducible rfl) rfl (by decide) (yE rfl rfl rfl (by decide)) ?_); all_goals (refine zX.gY rfl rfl (by decide) rfl (by with_reducible rfl) rfl (by decide) (by exact yR rfl rfl rfl rfl (by exact m1) rfl (by decide)) ?_); all_goals (refine zX.gY rfl rfl (by decide) rfl (by with_reducible rfl) rfl (by decide) (zA rfl rfl rfl (by rfl) rfl (by decide)) ?_); all_goals (refine zX.gY rfl rfl (by decide) rfl (by with_reducible rfl) rfl (by decide) (by exact wV rfl rfl (by exact bT (by decide)) rfl (by decide)) ?_); all_goals (refine zX.gY rfl rfl (by decide) rfl (by with_reducible rfl) rfl (by decide) (by exact zO rfl rfl (by with_reducible rfl) rfl rfl (by decide)) ?_); all_goals (refine zX.gY rfl rfl (by decide) rfl (by with_reducible rfl) rfl (by decide) (zQ rfl rfl rfl (by decide)) ?_); all_goals (refine zX.gnF rfl rfl (by decide) rfl (by with_reducible rfl) rfl (by decide) ?_); all_goals (refine zX.gY rfl rfl (by decide) rfl (by with_reducible rfl) rfl (by decide) (by exact zO rfl rfl (by with_reducible rfl) rfl rfl (by decide)) ?_); all_goals (refine zX.v rfl rfl (by exact zO rfl rfl (by with_reducible rfl) rfl rfl (by decide)) ?_); all_goals (refine zX.v rfl rfl (zK rfl rfl rfl (by decide)) ?_); all_goals (refine zX.nil ?_)) | refine zY.yI rfl (by first | assumption | with_reducible rfl) ?_ | refine zY.skip ?_ | refine zY.exit ?_ | refine zY.ret ?_))
              all_goals exact ⟨by first | exact .inl rfl | exact .inr rfl, _, Sub.refl _, .p rfl (.tmp rfl)⟩
              -- >>z3
        case inr.inr =>
          have c5 : Fn Tryd.prog 11 [.val (.int .u64 8), .val (.int .i64 2)] (.p (.val (.bool false))) := hasRef_fn 8 2 (by decide) (by decide)
          have c6 : Fn Tryd.prog 16 [.val (.int .u64 8)] (.p (.val (.int .u64 2))) := wstampRef_fn 8 (by decide) (by decide)
          -- <<z4
          unfold wM
          rw [show hFr 2 = true from rfl]
          try dsimp only
          repeat' (first | (refine zY.is ?_; first | refine zY.seq ?_ | (refine zY.isR (id := 13) ?_; refine zY.zV [0, 1, 4, 5, 9, 10, 11, 12, 13, 14, 15, 17, 18, 19, 20, 21, 22, 23, 47, 63, 72, 83, 95, 98] [6, 7, 9, 10, 15, 16, 19, 20, 22, 23, 42, 43, 117, 201, 202] (by repeat' first | exact zZ.nil | apply zZ.p rfl | apply zZ.ptr rfl | apply zZ.own rfl | apply zZ.skip) (by repeat' first | exact zW.nil | apply zW.boxP rfl rfl | apply zW.some rfl | apply zW.skip) ?_; (refine zX.v rfl rfl (zQ rfl rfl rfl (by decide)) ?_); (refine zX.v rfl rfl (zQ rfl rfl rfl (by decide)) ?_); (refine zX.v rfl rfl (xO rfl rfl rfl (by decide)) ?_); (refine zX.v rfl rfl (by exact yG rfl rfl rfl (by exact g1) rfl (by decide)) ?_); refine zX.nil ?_) | (refine zY.isR (id := 31) ?_; refine zY.z8 [4, 5, 9, 12, 13] [6, 7, 9, 10, 15, 16, 19, 20, 22, 23, 42, 43, 117, 201, 202] (by repeat' first | exact zZ.nil | apply zZ.p rfl | apply zZ.ptr rfl | apply zZ.own rfl | apply zZ.skip) (by repeat' first | exact zW.nil | apply zW.boxP rfl rfl | apply zW.some rfl | apply zW.skip) (zY.draws ?_); all_goals (refine Draws.v rfl rfl (zJ rfl rfl rfl (by decide)) ?_); all_goals (refine Draws.v rfl rfl (zJ rfl rfl rfl (by decide)) ?_); all_goals (refine Draws.v rfl rfl (zA rfl rfl rfl (by rfl) rfl (by decide)) ?_); all_goals (refine Draws.v rfl rfl (by exact zN (c4) rfl rfl rfl (by decide)) ?_); all_goals (refine Draws.v rfl rfl (by exact xZ rfl rfl rfl (by exact g6) (by exact g4) rfl (by decide)) ?_); all_goals (refine Draws.v rfl rfl (y8 rfl rfl rfl rfl (by decide)) ?_); all_goals (refine Draws.v rfl rfl (zK rfl rfl rfl (by decide)) ?_); all_goals ((refine Draws.done (by kernel_rfl) (by kernel_rfl) (by kernel_rfl) ?_; refine zH.nil ?_))) | (refine zY.isR (id := 32) ?_; refine zY.zV [4, 5, 12, 13, 24] [6, 7, 9, 10, 15, 16, 19, 20, 22, 23, 42, 43, 117, 201, 202] (by repeat' first | exact zZ.nil | apply zZ.p rfl | apply zZ.own rfl | apply zZ.skip) (by repeat' first | exact zW.nil | apply zW.boxP rfl rfl | apply zW.some rfl | apply zW.skip) ?_; (refine zX.v rfl rfl (zQ rfl rfl rfl (by decide)) ?_); (refine zX.v rfl rfl (by exact zN (c5) rfl rfl rfl (by decide)) ?_); (refine zX.v rfl rfl (zK rfl rfl rfl (by decide)) ?_); refine zX.nil ?_) | (refine zY.isR (id := 33) ?_; refine zY.zV [4, 5, 12, 13, 24, 25] [6, 7, 9, 10, 15, 16, 19, 20, 22, 23, 42, 43, 117, 201, 202] (by repeat' first | exact zZ.nil | apply zZ.p rfl | apply zZ.own rfl | apply zZ.skip) (by repeat' first | exact zW.nil | apply zW.boxP rfl rfl | apply zW.some rfl | apply zW.skip) ?_; (refine zX.v rfl rfl (zQ rfl rfl rfl (by decide)) ?_); refine zX.nil ?_) | (refine zY.isR (id := 34) ?_; refine zY.zV [4, 5, 12, 24, 25] [6, 7, 9, 10, 15, 16, 19, 20, 22, 23, 42, 43, 117, 201, 202] (by repeat' first | exact zZ.nil | apply zZ.p rfl | apply zZ.own rfl | apply zZ.skip) (by repeat' first | exact zW.nil | apply zW.boxP rfl rfl | apply zW.some rfl | apply zW.skip) ?_; all_goals (refine zX.v rfl rfl (zQ rfl rfl rfl (by decide)) ?_); all_goals (refine zX.v rfl rfl (zQ rfl rfl rfl (by decide)) ?_); all_goals (refine zX.gY rfl rfl (by decide) rfl (by with_reducible rfl) rfl (by decide) (zQ rfl rfl rfl (by decide)) ?_); all_goals (refine zX.gY rfl rfl (by decide) rfl (by with_reducible rfl) rfl (by decide) (by exact zN (c6) rfl rfl rfl (by decide)) ?_); all_goals (refine zX.gY rfl rfl (by decide) rfl (by with_reducible rfl) rfl (by decide) (by exact y5 rfl rfl rfl (by exact bT (by decide)) rfl (by decide)) ?_); all_goals (refine zX.v rfl rfl (by exact zO rfl rfl (by with_reducible rfl) rfl rfl (by decide)) ?_); all_goals (refine zX.v rfl rfl (zQ rfl rfl rfl (by decide)) ?_); all_goals (refine zX.gY rfl rfl (by decide) rfl (by with_reducible rfl) rfl (by decide) (zQ rfl rfl rfl (by decide)) ?_); all_goals (refine zX.gY rfl rfl (by decide) rfl (by with_reducible rfl) rfl (by decide) (by exact wV rfl rfl (by exact bT (by decide)) rfl (by decide)) ?_); all_goals (refine zX.v rfl rfl (by exact zO rfl rfl (by with_reducible rfl) rfl rfl (by decide)) ?_); all_goals (refine zX.v rfl rfl (zK rfl rfl rfl (by decide)) ?_); all_goals (refine zX.nil ?_)) | refine zY.yO rfl (by with_reducible rfl) ?_ | refine zY.yI rfl (by first | assumption | with_reducible rfl) ?_ | refine zY.exit ?_ | refine zY.ret ?_) | refine yQ.r ?_)
          all_goals exact ⟨by first | exact .inl rfl | exact .inr rfl, _, Sub.refl _, .p rfl (.tmp rfl)⟩
          -- >>z4
end Go.Proofs.YthnmfmdkdngggaaDoor
/- A law's arguments, as they come in, by their shapes. Generic over the program. -/
namespace Go.Proofs.YthnmfmdkdngggaaDoor
set_option maxRecDepth 100000
set_option maxHeartbeats 16000000
open Go Go.RowKit Go.ChangeShapes Go.WideShapes Go.ChangeAt
def NoM : Nat → Nat → Prop := fun _ _ => False
/-- what a cell may hold -/
inductive Leaf where
  | int (k : IntKind)
  | bool
  | any
deriving DecidableEq
def leafOK : Leaf → Value → Prop
  | .int k, v => ∃ n, v = .int k n ∧ (Lit.int k n).wf = true
  | .bool, v => ∃ b, v = .bool b
  | .any, v => v.oneCell' = true
/-- type t's cells, one behind the other, are of these kinds (any: a slice) -/
def flatB (P : Program) : Nat → TypeId → List Leaf → Bool
  | 0, _, _ => false
  | d + 1, t, ls => match P.underlying t with
    | some (.int k) => decide (ls = [.int k])
    | some .bool => decide (ls = [.bool])
    | some (.slice _) => decide (ls = [.any])
    | some (.struct fs) => (ls.length == P.cellsOf t) && (fs.toList.all fun f => flatB P d f.type ((ls.drop f.offset).take (P.cellsOf f.type)) && (((ls.drop f.offset).take (P.cellsOf f.type)).length == P.cellsOf f.type)) &&
      (List.range ls.length).all fun c => fs.toList.any fun f => decide (f.offset ≤ c) && decide (c < f.offset + P.cellsOf f.type)
    | _ => false
section
variable {H : Type} {enc : TypeId × Value → H} {P : Program} {W : World} {base : Nat} {spare : Nat → Bool} {held : Bool}
theorem flat_trod : ∀ (d : Nat) {t : TypeId} {ls : List Leaf}, flatB P d t ls = true → ∀ {fuel : Nat} {cs : List Value} {x : DataW H × List MemPlace}, DataW.trod enc P W base spare held fuel t cs = some x →
    cs.length = ls.length ∧ ∀ (i : Nat) l v, ls[i]? = some l → cs[i]? = some v → leafOK l v
  | 0, _, _, h, _, _, _, _ => by cases h
  | d + 1, t, ls, h, fuel, cs, x, hx => by
    unfold flatB at h
    cases hu : P.underlying t with
    | none => rw [hu] at h; cases h
    | some ds =>
      rw [hu] at h
      cases ds with
      | int k =>
        obtain rfl : ls = [.int k] := of_decide_eq_true h
        obtain ⟨n, rfl, _, hw⟩ := DataW.trod_int hu hx
        refine ⟨rfl, fun i l v hl hv => ?_⟩
        match i with
        | 0 => simp at hl hv; subst hl hv; exact ⟨n, rfl, hw⟩
        | i + 1 => simp at hl
      | bool =>
        obtain rfl : ls = [.bool] := of_decide_eq_true h
        obtain ⟨b, rfl, _⟩ := DataW.trod_bool hu hx
        refine ⟨rfl, fun i l v hl hv => ?_⟩
        match i with
        | 0 => simp at hl hv; subst hl hv; exact ⟨b, rfl⟩
        | i + 1 => simp at hl
      | slice e =>
        obtain rfl : ls = [.any] := of_decide_eq_true h
        have key : ∀ w : Value, w.oneCell' = true → cs = [w] → cs.length = [Leaf.any].length ∧ ∀ (i : Nat) l v, [Leaf.any][i]? = some l → cs[i]? = some v → leafOK l v := fun w hw e => by
          subst e
          refine ⟨rfl, fun i l v hl hv => ?_⟩
          match i with
          | 0 => simp at hl hv; subst hl hv; exact hw
          | i + 1 => simp at hl
        rcases DataW.trod_slice hu hx with ⟨e, _⟩ | ⟨a, len, cap, _, _, _, _, e, _⟩
        · exact key _ rfl e
        · exact key _ rfl e
      | struct fs =>
        simp only [Bool.and_eq_true, beq_iff_eq, List.all_eq_true, List.mem_range, List.any_eq_true, decide_eq_true_eq] at h
        obtain ⟨⟨hlen, hfs⟩, hcov⟩ := h
        obtain ⟨xs, n, _, _, hcl, hxl, hg⟩ := DataW.trod_struct hu hx
        refine ⟨by omega, fun i l v hl hv => ?_⟩
        have hil : i < ls.length := (List.getElem?_eq_some_iff.1 hl).1
        obtain ⟨f, hf, hf1, hf2⟩ := hcov i hil
        obtain ⟨hfl, hfn⟩ := hfs f hf
        obtain ⟨j, hj, hfj⟩ := List.getElem_of_mem hf
        have hfj2 : fs[j]? = some f := by
          rw [← hfj, Array.getElem_toList]
          exact Array.getElem?_eq_getElem _
        have h2 := hg j f hfj2
        have hjx : j < xs.length := by rw [hxl]; simpa using hj
        rw [List.getElem?_eq_getElem hjx] at h2
        obtain ⟨_, h3⟩ := flat_trod d hfl h2
        refine h3 (i - f.offset) l v ?_ ?_
        · rw [List.getElem?_take_of_lt (by omega), List.getElem?_drop, show f.offset + (i - f.offset) = i by omega]
          exact hl
        · rw [List.getElem?_take_of_lt (by omega), List.getElem?_drop, show f.offset + (i - f.offset) = i by omega]
          exact hv
      | _ => cases h
theorem has_block {r : Reach} {a : Addr} {e : TypeId} {n : Nat} (h : W.has P r base a e n) : a.spot = none ∧ a.block < W.heap.size := by
  obtain ⟨_, h1, row, cells, h2, _⟩ := h
  refine ⟨h1, ?_⟩
  unfold World.shape? at h2
  cases hb : W.heap[a.block]? with
  | none => rw [hb] at h2; cases h2
  | some o => exact (Array.getElem?_eq_some_iff.1 hb).1
theorem cell_slice {t e : TypeId} {a : Addr} {len cap : Nat} (ht : P.underlying t = some (.slice e)) (h : Cell.okWide P W .any base t (.slice (some a) len cap)) : a.spot = none ∧ a.block < W.heap.size ∧ len ≤ cap := by
  simp only [Cell.okWide, ht, Cell.ok] at h
  exact ⟨(has_block h.2.2).1, (has_block h.2.2).2, h.1⟩
theorem wide_slice {t e : TypeId} {a : Addr} {len cap : Nat} (ht : P.underlying t = some (.slice e)) (h : Value.okWide P W .any base t (.slice (some a) len cap)) : a.spot = none ∧ a.block < W.heap.size ∧ len ≤ cap :=
  cell_slice ht (by simpa only [Value.okWide, ht] using h)
theorem leaf_one {l : Leaf} {v : Value} (h : leafOK l v) : v.oneCell' = true := by
  cases l with
  | int k => obtain ⟨n, rfl, _⟩ := h; rfl
  | bool => obtain ⟨b, rfl⟩ := h; rfl
  | any => exact h
theorem flatten_len {n : Nat} : ∀ {rs : List (List Value)}, (∀ r ∈ rs, r.length = n) → rs.flatten.length = rs.length * n
  | [], _ => by simp
  | r :: rs, h => by
    rw [List.flatten_cons, List.length_append, h r (by simp), flatten_len fun x hx => h x (by simp [hx]), List.length_cons, Nat.add_mul]
    omega
theorem flatten_get {n : Nat} : ∀ {rs : List (List Value)}, (∀ r ∈ rs, r.length = n) → ∀ (i c : Nat), c < n → rs.flatten[i * n + c]? = (rs[i]?).bind (·[c]?)
  | [], _, i, c, _ => by simp
  | r :: rs, h, 0, c, hc => by
    rw [List.flatten_cons, Nat.zero_mul, Nat.zero_add, List.getElem?_append_left (by rw [h r (by simp)]; exact hc)]
    rfl
  | r :: rs, h, i + 1, c, hc => by
    have hr := h r (by simp)
    rw [List.flatten_cons, List.getElem?_append_right (by rw [hr, Nat.add_mul]; omega), hr]
    have e : (i + 1) * n + c - n = i * n + c := by rw [Nat.add_mul]; omega
    rw [e, flatten_get (fun x hx => h x (by simp [hx])) i c hc]
    rfl
/-- a slice of plain structs (of slices, as they are) that came in -/
theorem arg_rows {t e : TypeId} {ls : List Leaf} {dep : Nat} {v : Value} {fuel : Nat} {x : DataW H × List MemPlace} (ht : P.underlying t = some (.slice e)) (hfl : flatB P dep e ls = true) (hn : P.cellsOf e = ls.length)
    (hok : ∀ a len cap, v = .slice (some a) len cap → a.spot = none ∧ a.block < W.heap.size) (h : DataW.trod enc P W base (fun _ => true) held fuel t [v] = some x) :
    ∃ rows : List (List Value), (∀ r ∈ rows, r.length = ls.length ∧ ∀ (i : Nat) l u, ls[i]? = some l → r[i]? = some u → leafOK l u) ∧ rows.length ≤ maxLen ∧
      ∀ es : List PV, es.map PV.cells = rows.map (fun r => r.map PV.val) → Rep NoM W (.sl es) v := by
  rcases DataW.trod_slice ht h with ⟨hv, _⟩ | ⟨a, len, cap, elems, rest, n, _, hv, _, hb, hlc, hm, hlen, hel, _⟩
  · simp only [List.cons.injEq, and_true] at hv
    subst hv
    refine ⟨[], fun r hr => by simp at hr, Nat.zero_le _, fun es he => ?_⟩
    have : es = [] := by simpa using he
    subst this
    exact .nil
  · simp only [List.cons.injEq, and_true] at hv
    subst hv
    obtain ⟨hs, hbk⟩ := hok a len cap rfl
    obtain ⟨g, off, spot⟩ := a
    simp only at hs hbk
    subst hs
    have row : ∀ i, i < len → ∃ r : List Value, W.cells? base (Addr.add ⟨g, off, none⟩ (i * P.cellsOf e)) (P.cellsOf e) = some r ∧ r.length = ls.length ∧ ∀ (j : Nat) l u, ls[j]? = some l → r[j]? = some u → leafOK l u := by
      intro i hi
      have h1 := hel i hi
      rw [List.getElem?_eq_getElem (by omega : i < elems.length)] at h1
      obtain ⟨r, hr, h2⟩ := Option.bind_eq_some_iff.1 h1
      obtain ⟨h3, h4⟩ := flat_trod dep hfl h2
      exact ⟨r, hr, h3, h4⟩
    have rows : ∀ m, m ≤ len → ∃ rs : List (List Value), rs.length = m ∧ ∀ (i : Nat) r, rs[i]? = some r → W.cells? base (Addr.add ⟨g, off, none⟩ (i * P.cellsOf e)) (P.cellsOf e) = some r ∧ r.length = ls.length ∧ ∀ (j : Nat) l u, ls[j]? = some l → r[j]? = some u → leafOK l u := by
      intro m
      induction m with
      | zero => exact fun _ => ⟨[], rfl, fun i r h => by simp at h⟩
      | succ m ih =>
        intro hm2
        obtain ⟨rs, h1, h2⟩ := ih (by omega)
        obtain ⟨r, hr⟩ := row m (by omega)
        refine ⟨rs ++ [r], by simp [h1], fun i r' hi => ?_⟩
        rcases Nat.lt_or_ge i rs.length with h3 | h3
        · rw [List.getElem?_append_left h3] at hi
          exact h2 i r' hi
        · rw [List.getElem?_append_right h3] at hi
          have e0 : i - rs.length = 0 := by
            rcases Nat.eq_zero_or_pos (i - rs.length) with h | h
            · exact h
            · rw [List.getElem?_eq_none (by simp; omega)] at hi; cases hi
          rw [e0] at hi
          simp at hi
          subst hi
          rw [show i = m by omega]
          exact hr
    obtain ⟨rs, hrl, hrs⟩ := rows len (Nat.le_refl _)
    refine ⟨rs, fun r hr => ?_, by omega, fun es he => ?_⟩
    · obtain ⟨i, hi, rfl⟩ := List.getElem_of_mem hr
      exact (hrs i _ (List.getElem?_eq_getElem hi)).2
    · have hn0 : P.cellsOf e = ls.length := hn
      have hesl : es.length = rs.length := by simpa using congrArg List.length he
      have hflat : flat es = rs.flatten.map PV.val := by
        show es.flatMap PV.cells = _
        rw [List.flatMap_def, he, List.map_flatten]
      have hrn : ∀ r ∈ rs, r.length = ls.length := fun r hr => by
        obtain ⟨i, hi, rfl⟩ := List.getElem_of_mem hr
        exact (hrs i _ (List.getElem?_eq_getElem hi)).2.1
      have hyl : rs.flatten.length = rs.length * ls.length := flatten_len hrn
      have at_ : ∀ (j : Nat) y, rs.flatten[j]? = some y → ∃ i c r, j = i * ls.length + c ∧ rs[i]? = some r ∧ r[c]? = some y := fun j y hy => by
        have hj : j < rs.length * ls.length := by rw [← hyl]; exact (List.getElem?_eq_some_iff.1 hy).1
        have hpos : 0 < ls.length := by
          rcases Nat.eq_zero_or_pos ls.length with h | h
          · rw [h] at hj; omega
          · exact h
        have e1 : j = (j / ls.length) * ls.length + j % ls.length := by
          have := Nat.div_add_mod j ls.length
          rw [Nat.mul_comm] at this
          omega
        have hi : j / ls.length < rs.length := (Nat.div_lt_iff_lt_mul hpos).2 hj
        have hc : j % ls.length < ls.length := Nat.mod_lt _ hpos
        have h1 := flatten_get hrn (j / ls.length) (j % ls.length) hc
        rw [← e1, hy, List.getElem?_eq_getElem hi] at h1
        exact ⟨_, _, _, e1, List.getElem?_eq_getElem hi, h1.symm⟩
      refine .sl es g off len cap rs.flatten (by omega) (by rw [hflat, List.length_map]) (fun j y hy => ?_) (fun j c y hc hy => ?_) (fun y hy => ?_) (fun _ _ h => h) hbk hlc hm
      · obtain ⟨i, c, r, rfl, hr, hc⟩ := at_ j y hy
        have h1 := World.cells?_some (hrs i r hr).1
        have hcl : c < P.cellsOf e := by
          rw [hn0, ← (hrs i r hr).2.1]
          exact (List.getElem?_eq_some_iff.1 hc).1
        have h2 := h1.2.2 c hcl
        rw [hc, add_lit, add_lit, hn0, Nat.add_assoc] at h2
        exact h2
      · rw [hflat, List.getElem?_map, hy] at hc
        simp only [Option.map_some, Option.some.injEq] at hc
        subst hc
        exact .val _
      · obtain ⟨j, hj, rfl⟩ := List.getElem_of_mem hy
        obtain ⟨i, c, r, _, hr, hc⟩ := at_ j _ (List.getElem?_eq_getElem hj)
        have hcl : c < ls.length := by
          rw [← (hrs i r hr).2.1]
          exact (List.getElem?_eq_some_iff.1 hc).1
        exact leaf_one ((hrs i r hr).2.2 c _ _ (List.getElem?_eq_getElem hcl) hc)
end
end Go.Proofs.YthnmfmdkdngggaaDoor
/- A law's call, by its contract; the table that the row lists; a world that fits. -/
namespace Go.Proofs.YthnmfmdkdngggaaDoor
set_option maxRecDepth 100000
set_option maxHeartbeats 16000000
open Go Go.RowKit Go.ChangeShapes Go.WideShapes Go.ChangeAt
set_option linter.unusedVariables false
theorem ownT : ownKnob Tryd.prog.godebug = none := by kernel_rfl
theorem laidOutT : laidOutB Tryd.prog = true := by kernel_rfl
section
variable {P : Program} {W : World}
/-- A law's call, by its contract. -/
theorem Fn.law {f : FuncId} {args : List PV} (h : Fn P f args (.p (.val (.bool true)))) (hlay : Lays W) {vs : List Value} (hl : vs.length = args.length) (hr : ∀ (i : Nat) x v, args[i]? = some x → vs[i]? = some v → Rep NoM W x v) :
    Calls P f vs.toArray W fun e W' => e = .returned (.bool true) ∧ Below W.heap.size W W' :=
  (h NoM W vs ⟨hlay, fun _ _ _ h => h⟩ (fun _ _ h => h.elim) hl hr).mono fun e W' ⟨v, he, hv, hb⟩ => by
    cases hv
    exact ⟨he, hb⟩
theorem reps1 {M : Nat → Nat → Prop} {x0 : PV} {v0 : Value} (h0 : Rep M W x0 v0) : ∀ (i : Nat) x v, [x0][i]? = some x → [v0][i]? = some v → Rep M W x v := by
  intro i x v hx hv
  match i with
  | 0 => simp at hx hv; subst hx; subst hv; exact h0
  | i + 1 => simp at hx
theorem repsC {M : Nat → Nat → Prop} {x0 : PV} {v0 : Value} {xs : List PV} {vs : List Value} (h0 : Rep M W x0 v0) (h : ∀ (i : Nat) x v, xs[i]? = some x → vs[i]? = some v → Rep M W x v) : ∀ (i : Nat) x v, (x0 :: xs)[i]? = some x → (v0 :: vs)[i]? = some v → Rep M W x v := by
  intro i x v hx hv
  match i with
  | 0 => simp at hx hv; subst hx; subst hv; exact h0
  | i + 1 => exact h i x v (by simpa using hx) (by simpa using hv)
end
/-! ### The listed table -/
theorem gTbl : Tryd.prog.globalNamed "weald/crc.halves" = some 0 := by kernel_rfl
theorem tTbl : (Tryd.prog.globals[0]?).map (·.type) = some 162 := by kernel_rfl
def laidL : List (String × DataW Unit) := [("weald/crc.halves", Rows.laid_weald_crc_halves)]
theorem lays_of_laid {W : World} (h : laidMetH Tryd.prog laidL W) : Lays W := by
  rw [MakeChecks.laidMetH_plain _ _ _ (by kernel_rfl)] at h
  obtain ⟨ps, ⟨g0, t0, cs0, f0, p0, q0, hg0, ht0, hv0, hd0, _, _⟩, _⟩ := h
  obtain rfl := Option.some.inj (gTbl.symm.trans hg0)
  obtain rfl := Option.some.inj (tTbl.symm.trans ht0)
  have hcell := World.var?_cell hg0 hv0
  obtain ⟨xs, m1, _, hx1, hlen, hn, hel⟩ := DataW.trod_array Tryd.underlying162 hd0
  have c1 : Tryd.prog.cellsOf 116 = 1 := by kernel_rfl
  have c16 : Tryd.prog.cellsOf 162 = 16 := by kernel_rfl
  rw [c16] at hlen
  have hdat : Rows.laid_weald_crc_halves (H := Unit) = .agg (tbl0.map fun p => .lit (.int p.1 p.2)) := by kernel_rfl
  simp only [Prod.mk.injEq] at hx1
  have hxs : xs.map (·.1) = tbl0.map fun p => .lit (.int p.1 p.2) := by
    have := hx1.1
    rw [hdat] at this
    simpa using this.symm
  have hk : ∀ p ∈ tbl0, p.1 = .u32 := by decide +kernel
  intro g ys hg
  have hgy : g = 0 ∧ ys = tbl0 := by
    unfold seatTbl at hg
    split at hg
    · next h => exact ⟨h, (Option.some.inj hg).symm⟩
    · cases hg
  obtain ⟨rfl, rfl⟩ := hgy
  have at_ : ∀ (j : Nat) p, tbl0[j]? = some p → W.cell? ⟨0, j, none⟩ = some (.int p.1 p.2) := by
    intro j p hp
    have hj : j < 16 := (List.getElem?_eq_some_iff.1 hp).1
    have h1 := hel j hj
    have hxj : xs[j]? = some xs[j] := List.getElem?_eq_getElem (by omega)
    rw [hxj, c1, Nat.mul_one] at h1
    obtain ⟨k, e1, e2, _⟩ := DataW.trod_int Tryd.underlying116 h1
    have h3 : (xs.map (·.1))[j]? = some (.lit (.int .u32 k)) := by rw [List.getElem?_map, hxj, e2]; rfl
    rw [hxs, List.getElem?_map, hp] at h3
    simp only [Option.map_some, Option.some.injEq, DataW.lit.injEq, Lit.int.injEq] at h3
    obtain ⟨h4, h5⟩ := h3
    have h6 : cs0[j]? = some (.int .u32 k) := by
      have : (cs0.toList.drop j).take 1 = [cs0.toList[j]'(by rw [hlen]; exact hj)] := by
        rw [List.drop_eq_getElem_cons (by rw [hlen]; exact hj)]
        rfl
      rw [this] at e1
      simp only [List.cons.injEq, and_true] at e1
      rw [← e1]
      simp [Array.getElem?_eq_getElem (show j < cs0.size by simpa using (by rw [hlen]; exact hj : j < cs0.toList.length))]
    rw [hcell j, h6, h4, h5]
  refine ⟨?_, at_⟩
  have h0 := at_ 0 _ rfl
  unfold World.cell? at h0
  cases hh : W.heap[0]? with
  | none => rw [hh] at h0; cases h0
  | some o => exact (Array.getElem?_eq_some_iff.1 hh).1
/-- The door's own heap fits. -/
theorem door_met (os : Os) (args : Array Value) : laidMetH Tryd.prog laidL ((World.doorLaid Tryd.prog 400 os).forCall (fun _ _ => 0) ⟨#[], args, []⟩).memory :=
  laidMetH_of_parts3 (fuel := 8) (laidMet_of_run' 8 (by kernel_rfl) (by kernel_rfl)) (by kernel_rfl) (by kernel_rfl)
end Go.Proofs.YthnmfmdkdngggaaDoor
/- Arguments: rows of truth values, and of bytes. Generic over the program. -/
namespace Go.Proofs.YthnmfmdkdngggaaDoor
set_option maxRecDepth 100000
set_option maxHeartbeats 16000000
open Go Go.RowKit Go.ChangeShapes Go.WideShapes Go.ChangeAt
set_option linter.unusedVariables false
section
variable {P : Program} {W : World} {H : Type} {enc : TypeId × Value → H}
theorem arg_one {t e : TypeId} {l : Leaf} {v : Value} {d : DataW H} {p : List MemPlace} {base : Nat} (ht : P.underlying t = some (.slice e)) (hfl : flatB P 3 e [l] = true) (hn : P.cellsOf e = 1) (hv : Value.okWide P W .any base t v)
    (h : DataW.Trod enc P W 0 (fun _ => true) true t v d p) : ∃ xs : List Value, (∀ x ∈ xs, leafOK l x) ∧ xs.length ≤ maxLen ∧ Rep NoM W (.sl (xs.map PV.val)) v := by
  obtain ⟨a, len, cap, rfl⟩ := okWide_slice ht hv
  obtain ⟨fuel, hf⟩ := h
  have hf' : DataW.trod enc P W 0 (fun _ => true) true fuel t [Value.slice a len cap] = some (d, p) := hf
  obtain ⟨rows, h1, h2, h3⟩ := arg_rows (ls := [l]) ht hfl hn (fun a' len' cap' e' => by
    injection e' with e1 e2 e3
    subst e1 e2 e3
    have := wide_slice ht hv
    exact ⟨this.1, this.2.1⟩) hf'
  have hr : ∀ r ∈ rows, ∃ x, r = [x] ∧ leafOK l x := fun r hr => by
    obtain ⟨hl, hx⟩ := h1 r hr
    match r, hl with
    | [x], _ => exact ⟨x, rfl, hx 0 l x rfl rfl⟩
  refine ⟨rows.flatten, fun x hx => ?_, ?_, h3 _ ?_⟩
  · obtain ⟨r, h4, h5⟩ := List.mem_flatten.1 hx
    obtain ⟨y, rfl, h6⟩ := hr r h4
    simp at h5; subst h5; exact h6
  · have : rows.flatten.length = rows.length * 1 := flatten_len fun r h => (h1 r h).1
    omega
  · clear h3 h2 h1 hf hf'
    induction rows with
    | nil => rfl
    | cons r rs ih =>
      obtain ⟨y, rfl, _⟩ := hr r (by simp)
      have := ih fun r h => hr r (by simp [h])
      show (PV.val y).cells :: (rs.flatten.map PV.val).map PV.cells = [PV.val y] :: rs.map fun r => r.map PV.val
      rw [this]
      rfl
theorem arg_u8s {t e : TypeId} {v : Value} {d : DataW H} {p : List MemPlace} {base : Nat} (ht : P.underlying t = some (.slice e)) (hfl : flatB P 3 e [.int .u8] = true) (hn : P.cellsOf e = 1) (hv : Value.okWide P W .any base t v)
    (h : DataW.Trod enc P W 0 (fun _ => true) true t v d p) : ∃ l : List Int, Rep NoM W (.sl (byts l)) v ∧ (∀ x ∈ l, 0 ≤ x ∧ x < 256) ∧ l.length ≤ maxLen := by
  obtain ⟨xs, h1, h2, h3⟩ := arg_one ht hfl hn hv h
  suffices ∃ l : List Int, xs = l.map (Value.int .u8) ∧ ∀ x ∈ l, 0 ≤ x ∧ x < 256 by
    obtain ⟨l, rfl, h4⟩ := this
    exact ⟨l, by rw [List.map_map] at h3; exact h3, h4, by simpa using h2⟩
  clear h3 h2
  induction xs with
  | nil => exact ⟨[], rfl, fun x hx => by simp at hx⟩
  | cons x r ih =>
    obtain ⟨b, rfl, hb⟩ := h1 x (by simp)
    obtain ⟨l, rfl, hl⟩ := ih fun y hy => h1 y (by simp [hy])
    refine ⟨b :: l, rfl, fun y hy => ?_⟩
    rcases List.mem_cons.1 hy with rfl | hy
    · have := bounds_u8 hb
      omega
    · exact hl y hy
end
end Go.Proofs.YthnmfmdkdngggaaDoor
/- For every input SaveHelped returns true, and leaves its arguments as they were; tied: Rows.SaveHelpedCardSaid. Conditions: none beyond the given statement's own. -/
namespace Go.Proofs.YthnmfmdkdngggaaDoor
set_option maxRecDepth 100000
set_option maxHeartbeats 16000000
open Go Go.RowKit Go.ChangeShapes Go.WideShapes Go.ChangeAt
set_option linter.unusedVariables false
theorem saveHelped_lifted (os : Os) (started : os.Started) (H : Type) (enc : TypeId × Value → H) :
    ReturnsInHanded {} Tryd.checked os 4 .any (fun w args => (Rows.saveHelpedSpec.pre enc Tryd.prog Tryd.f4 [] false w args ∧ laidMetH Tryd.prog laidL w) ∧ sizedMet enc Tryd.prog Tryd.f4 (OpenSpec.ofChange Rows.saveHelpedSpec) false w args)
      (Rows.saveHelpedSpec.post enc Tryd.prog Tryd.f4 false true false false) := by
  refine returnsInHanded_of_change_and (C := Tryd.checked) (X := fun w _ => laidMetH Tryd.prog laidL w) (fun _ _ _ hh h => h.of_heap hh) ownT started (by kernel_rfl) Tryd.func4
    (ChangeSpec.witness_shaped (enc := enc) (C := Tryd.checked) (os := os) (X := fun w _ => laidMetH Tryd.prog laidL w) false (World.doorLaid Tryd.prog 400 os) #[.slice none 0 0, .int .u8 0] 8 rfl (World.shaped_of_RefB (by kernel_rfl) (by kernel_rfl)) (by kernel_rfl) (by kernel_rfl) (by kernel_rfl) (door_met os _)) ?_
  intro W base args ds gs before hval0 hW hcnd _ hL _
  have hval : ∀ (j : Nat) t v, Tryd.f4.params[j]? = some t → args[j]? = some v → Value.okWide Tryd.prog W .any base t v := hval0
  have hW' := hW
  obtain ⟨p, q, hA0, hV, rfl, hfz, hnd⟩ := hW
  have hA : DataW.TrodAll enc Tryd.prog W 0 (fun _ => true) true Tryd.f4.params.toList args.toList ds p := hA0
  rw [Tryd.params4] at hA hval
  obtain ⟨v0, vs0, d0, ds0, p0, q0, hargs, rfl, rfl, h0, r0⟩ := trodAll_cons hA
  obtain ⟨v1, vs1, d1, ds1, p1, q1, rfl, rfl, rfl, h1, r1⟩ := trodAll_cons r0
  obtain ⟨rfl, rfl, rfl⟩ := trodAll_nil r1
  obtain rfl : args = #[v0, v1] := by cases args; simp_all
  obtain ⟨rfl, rfl⟩ := trodVars_none hV
  have lt0 : ∀ x ∈ p0, x.block < W.heap.size := by obtain ⟨m, hm⟩ := h0; exact DataW.trod_lt m _ _ _ hm
  have lt1 : ∀ x ∈ p1, x.block < W.heap.size := by obtain ⟨m, hm⟩ := h1; exact DataW.trod_lt m _ _ _ hm
  have o0 := hval 0 48 v0 rfl rfl
  obtain ⟨a0, rp0, g0, l0⟩ := arg_u8s Tryd.underlying48 (by kernel_rfl) (by kernel_rfl) o0 h0
  have o1 := hval 1 5 v1 rfl rfl
  obtain ⟨a1, e1, _, _, wf1⟩ := open_int Tryd.underlying5 o1 h1
  have rp1 : Rep NoM W (.val (.int .u8 a1)) v1 := e1 ▸ .val _
  have g1 := bounds_u8 wf1
  clear hA0 hval0
  refine ((saveHelped_fn a0 a1 g0 l0 (by omega)).law (lays_of_laid hL) (vs := [v0, v1]) rfl (repsC rp0 (reps1 rp1))).mono fun e W' ⟨he, bel⟩ => ?_
  subst he
  exact ⟨_, rfl, _, _, _, [], _, [], hW', trodAll_mk1 (shut_bool Tryd.underlying4 _), (trodAll_cons_mk (Below.trod laidOutT (by kernel_rfl) (of_decide_eq_true (by kernel_rfl)) h0 bel lt0) (trodAll_cons_mk (Below.trod laidOutT (by kernel_rfl) (of_decide_eq_true (by kernel_rfl)) h1 bel lt1) trodAll_mk0)), rfl, bel.frame _, fun h => by cases h⟩
theorem saveHelped_holds : Rows.SaveHelpedSaid :=
  OpenClaim.holds_of_wide 4 Tryd.f4 rfl rfl rfl rfl rfl rfl rfl ⟨rfl, rfl, rfl, rfl, rfl⟩ rfl rfl rfl rfl rfl (by kernel_rfl) Tryd.func4 (by kernel_rfl)
    (of_decide_eq_true (by kernel_rfl)) (by unfold Func.isWrapper; first | (rw [if_pos (by decide +kernel)]; kernel_rfl) | (rw [if_neg (by decide +kernel)]; exact ⟨rfl, rfl⟩))
    (fun os started H enc _ => saveHelped_lifted os started H enc)
theorem saveHelpedCard_holds : Rows.SaveHelpedCardSaid :=
  Claim7.holds_tied_plain_at .later [] [.data] true _ true
    saveHelped_holds (fun _ h => by cases h) (by kernel_rfl) (fun _ h => by cases h) saveHelped_row_tie rfl ⟨rfl, rfl⟩ (by kernel_rfl) rfl
    (fun f fn hf hfn => by
      obtain rfl : f = 4 := Option.some.inj ((show Tryd.prog.funcNamed "weald/wealdlaw14.SaveHelped" = some 4 by kernel_rfl).symm.trans hf) |>.symm
      obtain rfl : fn = Tryd.f4 := (Option.some.inj (Tryd.func4.symm.trans hfn)).symm
      exact ⟨by kernel_rfl, fun j t ht => by
        rw [Tryd.params4] at ht
        have hm : t ∈ [48, 5] := by simpa using Array.mem_of_getElem? ht
        have hall : ([48, 5].all fun u => !Tryd.prog.wantsStandIn u) = true := by kernel_rfl
        exact (show Tryd.prog.wantsStandIn t = false by simpa using List.all_eq_true.1 hall t hm)⟩)
    (by kernel_rfl)
#print axioms saveHelpedCard_holds
end Go.Proofs.YthnmfmdkdngggaaDoor
