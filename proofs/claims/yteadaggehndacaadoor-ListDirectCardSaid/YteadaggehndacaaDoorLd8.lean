/- For every input ListDirect returns true, and leaves its arguments as they were; tied: Rows.ListDirectCardSaid. Conditions: none beyond the given statement's own. (Part 8 of 8.) -/
import Derived.Test.YteadaggehndacaaDoorLd7
import Derived.ProofKit
import Derived.OpenShut
import Derived.Below
import Derived.LaidMore
import Derived.Deep.Fields
import Derived.Deep.Slices
import Derived.Test.YteadaggehndacaaDoorRows
import Derived.LaidLaws
import Derived.ChangeSame
import Derived.ChangeVars
import Derived.JoinedOf
import Derived.Stop.Joined
import Derived.RowKitTokens
import Derived.Test.YteadaggehndacaaDoorCards
import Derived.Test.YteadaggehndacaaDoorTie
import Derived.SevenTiedAt
/- The law ListDirect: its beginning. -/
namespace Go.Proofs.YteadaggehndacaaDoor
set_option maxRecDepth 100000
set_option maxHeartbeats 16000000
open Go Go.RowKit
set_option linter.unusedSimpArgs false
set_option linter.unusedVariables false
attribute [local irreducible] zY zZ Step zQ Sub zM zP Fn zS yE
def bools (l : List Bool) : List PV := l.map fun b => .val (.bool b)
def ldT (l : List Int) (i : Nat) (W : Wd) (lk : List Bool) : AS :=
  { t := [(0, .p (.sl (byts l))), (5, .p (.val (.bool true))), (6, .ptr 6 0), (8, .ptr 8 0), (9, .clo 30 [301, 302]), (10, .own 90), (11, .p (.val (.int .i64 (i : Nat))))],
    s := [(6, .box 33 (W.pv.cells.map AV.p)), (8, .box 33 (W.pv.cells.map AV.p)), (90, yS 4 1 (bools lk)), (301, .box 57 [.ptr 6 0]), (302, .box 3 [.p (.val (.int .i64 0))])] }
def Sk (lk : List Bool) (r : Int) : Prop := r ≤ 8 ∧ lk.getD r.toNat false = false
theorem sk_set {lk : List Bool} {r q : Int} (hlk : lk.length = 9) (hr : 1 ≤ r ∧ r ≤ 8) (h : Sk (lk.set r.toNat true) q) : Sk lk q ∧ q ≠ r := by
  obtain ⟨h1, h2⟩ := h
  have hne : q ≠ r := fun e => by
    subst e
    simp [List.getD, show q.toNat < lk.length by omega] at h2
  have hne2 : r.toNat ≠ q.toNat := fun e => hne (by omega)
  refine ⟨⟨h1, ?_⟩, hne⟩
  simpa [List.getD, List.getElem?_set_ne hne2] using h2
def ldS (l ks : List Int) (i : Nat) (m : Int → Int) : AS :=
  { t := [(0, .p (.sl (byts l))), (1, .p (.sl (byts ks))), (5, .p (.val (.bool true))), (6, .ptr 6 0), (7, .p (.val (.int .i64 ((i : Nat) + 1))))],
    s := [(6, .box 33 ([.p (.val (.int .i64 1)), .p (.val (.int .i64 8)), .own 36] ++ (w9 0 [([], 0)] [([], 0)]).cells.map .p)), (36, yS 27 1 (wds (ofM 73 m)))] }
theorem listDirect_start (l ks : List Int) (hl : ∀ x ∈ l, 0 ≤ x ∧ x < 256) (hk : ∀ x ∈ ks, 0 ≤ x ∧ x < 256) (hn : l.length ≤ 20) (hm : ks.length ≤ maxLen) (hb : 8 ≤ ks.length) : Fn Tryd.prog 6 [.sl (byts l), .sl (byts ks)] (.p (.val (.bool true))) := by
  have c0 := shown15_fn
  have c1 := new10A_fn 1 8 (by decide) (by decide) (by decide) (by decide)
  have f1 : decide ((20 : Int) < (l.length : Nat)) = false := decide_eq_false (by omega)
  have f2 : decide (((ks.length : Nat) : Int) < 8) = false := decide_eq_false (by omega)
  refine yU Tryd.func6 rfl Tryd.ntmps6 (Nat.le_of_ble_eq_true rfl) ?_
  repeat' (first | (refine zY.is ?_; first | refine zY.nil ?_ | (refine zY.at_ 5 rfl ?_; refine zY.rc (.v zO .e) ?_) | (refine zY.at_ 6 rfl ?_; refine zY.rc (.m yD (.w yZ .e)) ?_) | (refine zY.in_ [26] rfl ?_; refine zY.v rfl rfl (yY (c0) rfl rfl rfl (by decide)) ?_) | (refine zY.in_ [36] rfl ?_; refine zY.m rfl rfl (w_callAg c1 rfl rfl rfl (by decide)) ?_)) | (refine zZ.is ?_; first | refine zZ.seq ?_ | (refine zZ.isR (id := 0) ?_; refine zZ.rc [0, 1] [6, 8, 18, 19, 21, 22, 23, 24, 26, 28, 32, 36, 45, 62, 71, 80, 84, 89, 90, 93, 109, 115, 124, 159, 191, 210, 229, 234, 243, 251] (r := (.v zO .e)) (h := ?_)) | (refine zZ.isR (id := 1) ?_; refine zZ.rc [0, 1, 4] [6, 8, 18, 19, 21, 22, 23, 24, 26, 28, 32, 36, 45, 62, 71, 80, 84, 89, 90, 93, 109, 115, 124, 159, 191, 210, 229, 234, 243, 251] (r := .e) (h := ?_)) | (refine zZ.isR (id := 2) ?_; refine zZ.rc [0, 1, 4, 5] [6, 8, 18, 19, 21, 22, 23, 24, 26, 28, 32, 36, 45, 62, 71, 80, 84, 89, 90, 93, 109, 115, 124, 159, 191, 210, 229, 234, 243, 251] (r := (.v zB (.v v57_0 (.v v45_0 (.v zB (.gY zB (.gY v57_0 (.gY v43_0 (.v xL .e))))))))) (h := ?_)) | (refine zZ.isR (id := 4) ?_; refine zZ.rc [0, 1, 4, 5] [6, 8, 18, 19, 21, 22, 23, 24, 26, 28, 32, 36, 45, 62, 71, 80, 84, 89, 90, 93, 109, 115, 124, 159, 191, 210, 229, 234, 243, 251] (r := .e) (h := ?_)) | (refine zZ.isR (id := 5) ?_; refine zZ.rc [0, 1, 4, 5, 6] [6, 8, 18, 19, 21, 22, 23, 24, 26, 28, 32, 36, 45, 62, 71, 80, 84, 89, 90, 93, 109, 115, 124, 159, 191, 210, 229, 234, 243, 251] (r := (.v zO .e)) (h := ?_)) | refine zZ.y9 rfl bA ?_ | refine zZ.skip ?_ | refine zZ.block ?_) | refine zS.n ?_)
  refine zZ.loop (fun i => ldS l ks i (ldAt ks i)) (fun i => i ≤ 8) (fun i => 8 - i) 0 ?h0 (Nat.zero_le _) ?rd
  case h0 =>
    have e1 : wds (ofM 73 (memOf (newW 1 8))) = wds (newW 1 8) := congrArg wds (by have := ofM_mem (newW 1 8); rwa [newW_len] at this)
    show Sub _ (ldS l ks 0 (memOf (newW 1 8)))
    unfold ldS
    rw [e1]
    refine zN (is := [0, 1, 5, 6, 7]) (js := [6, 36]) ?_ ?_
    repeat' first | exact zW.nil | apply zW.p rfl | apply zW.ptr rfl | apply zW.own rfl | apply zW.clo rfl | apply zW.ifp rfl | apply zW.pt rfl | apply zW.tup rfl | apply zW.skip
    repeat' first | exact zX.nil | apply zX.boxP rfl rfl | apply zX.yG rfl | (apply zX.at0; exact zK rfl (H.nk _).1 (by repeat' fail)) | (apply zX.at1; exact zK rfl (H.nk _).2.1 (by repeat' fail)) | (apply zX.at2; exact zK rfl (H.nk _).2.2 (by repeat' fail)) | apply zX.some rfl | apply zX.skip
  case rd =>
    intro i hi
    have hld := ldAt_ok hk hb i hi
    by_cases hlt : i < 8
    case neg =>
      obtain rfl : i = 8 := by omega
      have f3 : decide (((8 : Nat) : Int) + 1 ≤ 8) = false := rfl
      have hI := ldI0 hld
      show zZ _ _ _ (ldS l ks 8 (ldAt ks 8)) _
      generalize ldAt ks 8 = m at *
      have hR : wds (ldW m).ws = wds (ofM 73 m) := rfl
      have g1 := q8 (ofM 73 m)
      have hRl : (wds (ofM 73 m)).length = 73 := by rw [vF, ofM_len]
      have g2 : (([] : List PV).length + (wds (ofM 73 m)).length) * 8 ≤ 140737488355328 ∧ ([] : List PV).length + (wds (ofM 73 m)).length ≤ maxLen := by rw [hRl]; decide
      generalize hRw : wds (ofM 73 m) = R at *
      unfold ldS
      rw [hRw]
      have cD := direct_fn (ldW m)
      dsimp only [dwB, Wd.pv, xB, ldW] at cD
      rw [hRw] at cD
      have hL : 9 * 1 ≤ 16777216 ∧ 1 * 9 ≤ 281474976710656 ∧ 9 ≤ maxLen := by decide
      repeat' (first | refine zZ.hold (id := 11) ?_ | (refine zY.nil ?_) | (refine zZ.is ?_; first | refine zZ.seq ?_ | (refine zZ.isR (id := 6) ?_; refine zZ.rc [0, 1, 4, 5, 6, 7, 38] [6, 8, 18, 19, 21, 22, 23, 24, 26, 28, 32, 36, 45, 62, 71, 80, 84, 89, 90, 93, 109, 115, 124, 159, 191, 210, 229, 234, 243, 251] (r := (.v zB (.v v44_0 .e))) (h := ?_)) | refine zZ.y9 rfl bA ?_ | refine zZ.exit ?_) | refine zS.n ?_ | refine yE.eY ?_ | refine zS.e ?_)
      refine Hold.go ?_
      refine zZ.sub (sub_frzE 36 27 1 R rfl) ?_
      refine zZ.cutR (id := 11) (M := { t := [(0, .p (.sl (byts l))), (5, .p (.val (.bool true))), (6, .ptr 6 0), (8, .ptr 8 0)], s := [(6, .box 33 ([.val (.int .i64 1), .val (.int .i64 8), .sl R, .val (.int .u64 0), .sl (strs [([], 0)]), .sl (strs [([], 0)])].map AV.p)), (8, .box 33 ([.p (.val (.int .i64 1)), .p (.val (.int .i64 8)), .own 80] ++ (w9 0 [([], 0)] [([], 0)]).cells.map .p)), (80, yS 27 1 R)] }) ?k1 ?k2
      case k1 =>
        refine zZ.rk [0, 5, 6] [6] ?_
        refine zZ.drawGo (by kernel_rfl) ?_
        refine DGo.fr 1 ?_
        refine DGo.fr 2 ?_
        refine DGo.fr 6 ?_
        refine DGo.share (fu' := 1) (D' := [9, 8, 7, 5, 4, 3, 0, 6, 2, 1]) (F' := { t := [(0, .p (.sl (byts l))), (5, .p (.val (.bool true))), (6, .ptr 6 0), (81, .ptr 6 (0 + 0)), (82, .ptr 6 (0 + 0 + 2)), (86, .ptr 6 (0 + 3)), (83, .p (.sl R)), (84, .own 80), (85, .ag [.p (.val (.int .i64 1)), .p (.val (.int .i64 8)), .o 80]), (87, .p (.agg [.val (.int .u64 0), .sl (strs [([], 0)]), .sl (strs [([], 0)])])), (88, .ag [.p (.val (.int .i64 1)), .p (.val (.int .i64 8)), .o 80, .p (.val (.int .u64 0)), .p (.sl (strs [([], 0)])), .p (.sl (strs [([], 0)]))]), (8, .ptr 8 0)], s := [(6, .box 33 ([.val (.int .i64 1), .val (.int .i64 8), .sl R, .val (.int .u64 0), .sl (strs [([], 0)]), .sl (strs [([], 0)])].map AV.p)), (80, yS 27 1 R), (8, .box 33 ([.val (.int .i64 0), .val (.int .i64 0), .val (.slice none 0 0), .val (.int .u64 0), .val (.slice none 0 0), .val (.slice none 0 0)].map AV.p))] }) ?H0345789 (fun H0345789 => ?_)
        case H0345789 =>
          refine DGo.all [10] (by kernel_rfl) ?_
          refine yV.cons ?_ (yV.nil)
          · refine yK.at_ 10 ?_
            refine yK.w rfl rfl (by exact zT rfl rfl rfl rfl rfl (by rfl) (by exact Nat.le_of_ble_eq_true rfl) rfl rfl) ?_
            refine DGo.fin (by kernel_rfl) (zS.n ?_)
            refine zN (is := [0, 5, 6, 8]) (js := [6, 8, 80]) ?_ ?_
            case refine_1 =>
              repeat' first | exact zW.nil | apply zW.p rfl | apply zW.ptr rfl | apply zW.own rfl | apply zW.ag rfl
            case refine_2 =>
              repeat' first | exact zX.nil | apply zX.boxP rfl rfl | apply zX.yG rfl | (apply zX.at0; exact zK rfl (H.nk _).1 (by repeat' fail)) | (apply zX.at1; exact zK rfl (H.nk _).2.1 (by repeat' fail)) | (apply zX.at2; exact zK rfl (H.nk _).2.2 (by repeat' fail)) | apply zX.some rfl | apply zX.skip
        refine DGo.share (fu' := 2) (D' := [8, 7, 5, 4, 3, 0, 6, 2, 1]) (F' := { t := [(0, .p (.sl (byts l))), (5, .p (.val (.bool true))), (6, .ptr 6 0), (81, .ptr 6 (0 + 0)), (82, .ptr 6 (0 + 0 + 2)), (86, .ptr 6 (0 + 3)), (83, .p (.sl R)), (84, .own 80), (85, .ag [.p (.val (.int .i64 1)), .p (.val (.int .i64 8)), .o 80]), (87, .p (.agg [.val (.int .u64 0), .sl (strs [([], 0)]), .sl (strs [([], 0)])])), (88, .ag [.p (.val (.int .i64 1)), .p (.val (.int .i64 8)), .o 80, .p (.val (.int .u64 0)), .p (.sl (strs [([], 0)])), .p (.sl (strs [([], 0)]))])], s := [(6, .box 33 ([.val (.int .i64 1), .val (.int .i64 8), .sl R, .val (.int .u64 0), .sl (strs [([], 0)]), .sl (strs [([], 0)])].map AV.p)), (80, yS 27 1 R)] }) ?H034578 (fun H034578 => ?_)
        case H034578 =>
          refine DGo.all [9] (by kernel_rfl) ?_
          refine yV.cons ?_ (yV.nil)
          · refine yK.at_ 9 ?_
            refine yK.m rfl rfl rfl (yQ rfl (by decide) rfl (by decide)) ?_
            refine DGo.subp (by kernel_rfl) (S' := { t := [(0, .p (.sl (byts l))), (5, .p (.val (.bool true))), (6, .ptr 6 0), (81, .ptr 6 (0 + 0)), (82, .ptr 6 (0 + 0 + 2)), (86, .ptr 6 (0 + 3)), (83, .p (.sl R)), (84, .own 80), (85, .ag [.p (.val (.int .i64 1)), .p (.val (.int .i64 8)), .o 80]), (87, .p (.agg [.val (.int .u64 0), .sl (strs [([], 0)]), .sl (strs [([], 0)])])), (88, .ag [.p (.val (.int .i64 1)), .p (.val (.int .i64 8)), .o 80, .p (.val (.int .u64 0)), .p (.sl (strs [([], 0)])), .p (.sl (strs [([], 0)]))]), (8, .ptr 8 0)], s := [(6, .box 33 ([.val (.int .i64 1), .val (.int .i64 8), .sl R, .val (.int .u64 0), .sl (strs [([], 0)]), .sl (strs [([], 0)])].map AV.p)), (80, yS 27 1 R), (8, .box 33 ([.val (.int .i64 0), .val (.int .i64 0), .val (.slice none 0 0), .val (.int .u64 0), .val (.slice none 0 0), .val (.slice none 0 0)].map AV.p))] }) ?_ H0345789
            refine zN (is := [0, 5, 6, 81, 82, 86, 83, 84, 85, 87, 88, 8]) (js := [6, 80, 8]) ?_ ?_
            case refine_1 =>
              repeat' first | exact zW.nil | apply zW.p rfl | apply zW.ptr rfl | apply zW.own rfl | apply zW.ag rfl
            case refine_2 =>
              repeat' first | exact zX.nil | apply zX.boxP rfl rfl | apply zX.yG rfl | (apply zX.at0; exact zK rfl (H.nk _).1 (by repeat' fail)) | (apply zX.at1; exact zK rfl (H.nk _).2.1 (by repeat' fail)) | (apply zX.at2; exact zK rfl (H.nk _).2.2 (by repeat' fail)) | apply zX.some rfl | apply zX.skip
        refine DGo.share (fu' := 2) (D' := [9, 7, 5, 4, 3, 0, 6, 2, 1]) (F' := { t := [(0, .p (.sl (byts l))), (5, .p (.val (.bool true))), (6, .ptr 6 0), (81, .ptr 6 (0 + 0)), (82, .ptr 6 (0 + 0 + 2)), (86, .ptr 6 (0 + 3)), (83, .p (.sl R)), (84, .own 80), (85, .ag [.p (.val (.int .i64 1)), .p (.val (.int .i64 8)), .o 80]), (87, .p (.agg [.val (.int .u64 0), .sl (strs [([], 0)]), .sl (strs [([], 0)])])), (8, .ptr 8 0)], s := [(6, .box 33 ([.val (.int .i64 1), .val (.int .i64 8), .sl R, .val (.int .u64 0), .sl (strs [([], 0)]), .sl (strs [([], 0)])].map AV.p)), (80, yS 27 1 R), (8, .box 33 ([.val (.int .i64 0), .val (.int .i64 0), .val (.slice none 0 0), .val (.int .u64 0), .val (.slice none 0 0), .val (.slice none 0 0)].map AV.p))] }) ?H034579 (fun H034579 => ?_)
        case H034579 =>
          refine DGo.all [8] (by kernel_rfl) ?_
          refine yV.cons ?_ (yV.nil)
          · refine yK.at_ 8 ?_
            refine yK.v rfl rfl rfl (w_buildAg0 rfl (by rfl) (by rfl) (by rfl) (by rfl) rfl (by decide)) ?_
            refine DGo.subp (by kernel_rfl) (S' := { t := [(0, .p (.sl (byts l))), (5, .p (.val (.bool true))), (6, .ptr 6 0), (81, .ptr 6 (0 + 0)), (82, .ptr 6 (0 + 0 + 2)), (86, .ptr 6 (0 + 3)), (83, .p (.sl R)), (84, .own 80), (85, .ag [.p (.val (.int .i64 1)), .p (.val (.int .i64 8)), .o 80]), (87, .p (.agg [.val (.int .u64 0), .sl (strs [([], 0)]), .sl (strs [([], 0)])])), (88, .ag [.p (.val (.int .i64 1)), .p (.val (.int .i64 8)), .o 80, .p (.val (.int .u64 0)), .p (.sl (strs [([], 0)])), .p (.sl (strs [([], 0)]))]), (8, .ptr 8 0)], s := [(6, .box 33 ([.val (.int .i64 1), .val (.int .i64 8), .sl R, .val (.int .u64 0), .sl (strs [([], 0)]), .sl (strs [([], 0)])].map AV.p)), (80, yS 27 1 R), (8, .box 33 ([.val (.int .i64 0), .val (.int .i64 0), .val (.slice none 0 0), .val (.int .u64 0), .val (.slice none 0 0), .val (.slice none 0 0)].map AV.p))] }) ?_ H0345789
            refine zN (is := [0, 5, 6, 81, 82, 86, 83, 84, 85, 87, 88, 8]) (js := [6, 80, 8]) ?_ ?_
            case refine_1 =>
              repeat' first | exact zW.nil | apply zW.p rfl | apply zW.ptr rfl | apply zW.own rfl | apply zW.ag rfl
            case refine_2 =>
              repeat' first | exact zX.nil | apply zX.boxP rfl rfl | apply zX.yG rfl | (apply zX.at0; exact zK rfl (H.nk _).1 (by repeat' fail)) | (apply zX.at1; exact zK rfl (H.nk _).2.1 (by repeat' fail)) | (apply zX.at2; exact zK rfl (H.nk _).2.2 (by repeat' fail)) | apply zX.some rfl | apply zX.skip
        refine DGo.share (fu' := 3) (D' := [7, 5, 4, 3, 0, 6, 2, 1]) (F' := { t := [(0, .p (.sl (byts l))), (5, .p (.val (.bool true))), (6, .ptr 6 0), (81, .ptr 6 (0 + 0)), (82, .ptr 6 (0 + 0 + 2)), (86, .ptr 6 (0 + 3)), (83, .p (.sl R)), (84, .own 80), (85, .ag [.p (.val (.int .i64 1)), .p (.val (.int .i64 8)), .o 80]), (87, .p (.agg [.val (.int .u64 0), .sl (strs [([], 0)]), .sl (strs [([], 0)])]))], s := [(6, .box 33 ([.val (.int .i64 1), .val (.int .i64 8), .sl R, .val (.int .u64 0), .sl (strs [([], 0)]), .sl (strs [([], 0)])].map AV.p)), (80, yS 27 1 R)] }) ?H03457 (fun H03457 => ?_)
        case H03457 =>
          refine DGo.all [8, 9] (by kernel_rfl) ?_
          refine yV.cons ?_ (yV.cons ?_ (yV.nil))
          · refine yK.at_ 8 ?_
            refine yK.v rfl rfl rfl (w_buildAg0 rfl (by rfl) (by rfl) (by rfl) (by rfl) rfl (by decide)) ?_
            refine DGo.subp (by kernel_rfl) (S' := { t := [(0, .p (.sl (byts l))), (5, .p (.val (.bool true))), (6, .ptr 6 0), (81, .ptr 6 (0 + 0)), (82, .ptr 6 (0 + 0 + 2)), (86, .ptr 6 (0 + 3)), (83, .p (.sl R)), (84, .own 80), (85, .ag [.p (.val (.int .i64 1)), .p (.val (.int .i64 8)), .o 80]), (87, .p (.agg [.val (.int .u64 0), .sl (strs [([], 0)]), .sl (strs [([], 0)])])), (88, .ag [.p (.val (.int .i64 1)), .p (.val (.int .i64 8)), .o 80, .p (.val (.int .u64 0)), .p (.sl (strs [([], 0)])), .p (.sl (strs [([], 0)]))])], s := [(6, .box 33 ([.val (.int .i64 1), .val (.int .i64 8), .sl R, .val (.int .u64 0), .sl (strs [([], 0)]), .sl (strs [([], 0)])].map AV.p)), (80, yS 27 1 R)] }) ?_ H034578
            refine zN (is := [0, 5, 6, 81, 82, 86, 83, 84, 85, 87, 88]) (js := [6, 80]) ?_ ?_
            case refine_1 =>
              repeat' first | exact zW.nil | apply zW.p rfl | apply zW.ptr rfl | apply zW.own rfl | apply zW.ag rfl
            case refine_2 =>
              repeat' first | exact zX.nil | apply zX.boxP rfl rfl | apply zX.yG rfl | (apply zX.at0; exact zK rfl (H.nk _).1 (by repeat' fail)) | (apply zX.at1; exact zK rfl (H.nk _).2.1 (by repeat' fail)) | (apply zX.at2; exact zK rfl (H.nk _).2.2 (by repeat' fail)) | apply zX.some rfl | apply zX.skip
          · refine yK.at_ 9 ?_
            refine yK.m rfl rfl rfl (yQ rfl (by decide) rfl (by decide)) ?_
            refine DGo.subp (by kernel_rfl) (S' := { t := [(0, .p (.sl (byts l))), (5, .p (.val (.bool true))), (6, .ptr 6 0), (81, .ptr 6 (0 + 0)), (82, .ptr 6 (0 + 0 + 2)), (86, .ptr 6 (0 + 3)), (83, .p (.sl R)), (84, .own 80), (85, .ag [.p (.val (.int .i64 1)), .p (.val (.int .i64 8)), .o 80]), (87, .p (.agg [.val (.int .u64 0), .sl (strs [([], 0)]), .sl (strs [([], 0)])])), (8, .ptr 8 0)], s := [(6, .box 33 ([.val (.int .i64 1), .val (.int .i64 8), .sl R, .val (.int .u64 0), .sl (strs [([], 0)]), .sl (strs [([], 0)])].map AV.p)), (80, yS 27 1 R), (8, .box 33 ([.val (.int .i64 0), .val (.int .i64 0), .val (.slice none 0 0), .val (.int .u64 0), .val (.slice none 0 0), .val (.slice none 0 0)].map AV.p))] }) ?_ H034579
            refine zN (is := [0, 5, 6, 81, 82, 86, 83, 84, 85, 87, 8]) (js := [6, 80, 8]) ?_ ?_
            case refine_1 =>
              repeat' first | exact zW.nil | apply zW.p rfl | apply zW.ptr rfl | apply zW.own rfl | apply zW.ag rfl
            case refine_2 =>
              repeat' first | exact zX.nil | apply zX.boxP rfl rfl | apply zX.yG rfl | (apply zX.at0; exact zK rfl (H.nk _).1 (by repeat' fail)) | (apply zX.at1; exact zK rfl (H.nk _).2.1 (by repeat' fail)) | (apply zX.at2; exact zK rfl (H.nk _).2.2 (by repeat' fail)) | apply zX.some rfl | apply zX.skip
        refine DGo.share (fu' := 3) (D' := [9, 5, 4, 3, 0, 6, 2, 1]) (F' := { t := [(0, .p (.sl (byts l))), (5, .p (.val (.bool true))), (6, .ptr 6 0), (81, .ptr 6 (0 + 0)), (82, .ptr 6 (0 + 0 + 2)), (86, .ptr 6 (0 + 3)), (83, .p (.sl R)), (84, .own 80), (85, .ag [.p (.val (.int .i64 1)), .p (.val (.int .i64 8)), .o 80]), (8, .ptr 8 0)], s := [(6, .box 33 ([.val (.int .i64 1), .val (.int .i64 8), .sl R, .val (.int .u64 0), .sl (strs [([], 0)]), .sl (strs [([], 0)])].map AV.p)), (80, yS 27 1 R), (8, .box 33 ([.val (.int .i64 0), .val (.int .i64 0), .val (.slice none 0 0), .val (.int .u64 0), .val (.slice none 0 0), .val (.slice none 0 0)].map AV.p))] }) ?H03459 (fun H03459 => ?_)
        case H03459 =>
          refine DGo.all [7] (by kernel_rfl) ?_
          refine yV.cons ?_ (yV.nil)
          · refine yK.at_ 7 ?_
            refine yK.v rfl rfl rfl (zR rfl rfl rfl (by rfl) (by rfl) rfl (by decide)) ?_
            refine DGo.subp (by kernel_rfl) (S' := { t := [(0, .p (.sl (byts l))), (5, .p (.val (.bool true))), (6, .ptr 6 0), (81, .ptr 6 (0 + 0)), (82, .ptr 6 (0 + 0 + 2)), (86, .ptr 6 (0 + 3)), (83, .p (.sl R)), (84, .own 80), (85, .ag [.p (.val (.int .i64 1)), .p (.val (.int .i64 8)), .o 80]), (87, .p (.agg [.val (.int .u64 0), .sl (strs [([], 0)]), .sl (strs [([], 0)])])), (8, .ptr 8 0)], s := [(6, .box 33 ([.val (.int .i64 1), .val (.int .i64 8), .sl R, .val (.int .u64 0), .sl (strs [([], 0)]), .sl (strs [([], 0)])].map AV.p)), (80, yS 27 1 R), (8, .box 33 ([.val (.int .i64 0), .val (.int .i64 0), .val (.slice none 0 0), .val (.int .u64 0), .val (.slice none 0 0), .val (.slice none 0 0)].map AV.p))] }) ?_ H034579
            refine zN (is := [0, 5, 6, 81, 82, 86, 83, 84, 85, 87, 8]) (js := [6, 80, 8]) ?_ ?_
            case refine_1 =>
              repeat' first | exact zW.nil | apply zW.p rfl | apply zW.ptr rfl | apply zW.own rfl | apply zW.ag rfl
            case refine_2 =>
              repeat' first | exact zX.nil | apply zX.boxP rfl rfl | apply zX.yG rfl | (apply zX.at0; exact zK rfl (H.nk _).1 (by repeat' fail)) | (apply zX.at1; exact zK rfl (H.nk _).2.1 (by repeat' fail)) | (apply zX.at2; exact zK rfl (H.nk _).2.2 (by repeat' fail)) | apply zX.some rfl | apply zX.skip
        refine DGo.share (fu' := 3) (D' := [9, 7, 4, 3, 0, 6, 2, 1]) (F' := { t := [(0, .p (.sl (byts l))), (5, .p (.val (.bool true))), (6, .ptr 6 0), (81, .ptr 6 (0 + 0)), (82, .ptr 6 (0 + 0 + 2)), (86, .ptr 6 (0 + 3)), (83, .p (.sl R)), (84, .own 80), (87, .p (.agg [.val (.int .u64 0), .sl (strs [([], 0)]), .sl (strs [([], 0)])])), (8, .ptr 8 0)], s := [(6, .box 33 ([.val (.int .i64 1), .val (.int .i64 8), .sl R, .val (.int .u64 0), .sl (strs [([], 0)]), .sl (strs [([], 0)])].map AV.p)), (80, yS 27 1 R), (8, .box 33 ([.val (.int .i64 0), .val (.int .i64 0), .val (.slice none 0 0), .val (.int .u64 0), .val (.slice none 0 0), .val (.slice none 0 0)].map AV.p))] }) ?H03479 (fun H03479 => ?_)
        case H03479 =>
          refine DGo.all [5] (by kernel_rfl) ?_
          refine yV.cons ?_ (yV.nil)
          · refine yK.at_ 5 ?_
            refine yK.v rfl rfl rfl (w_buildAg 80 rfl (by rfl) (by rfl) rfl rfl (by rfl) (by rfl) rfl (by decide)) ?_
            refine DGo.subp (by kernel_rfl) (S' := { t := [(0, .p (.sl (byts l))), (5, .p (.val (.bool true))), (6, .ptr 6 0), (81, .ptr 6 (0 + 0)), (82, .ptr 6 (0 + 0 + 2)), (86, .ptr 6 (0 + 3)), (83, .p (.sl R)), (84, .own 80), (85, .ag [.p (.val (.int .i64 1)), .p (.val (.int .i64 8)), .o 80]), (87, .p (.agg [.val (.int .u64 0), .sl (strs [([], 0)]), .sl (strs [([], 0)])])), (8, .ptr 8 0)], s := [(6, .box 33 ([.val (.int .i64 1), .val (.int .i64 8), .sl R, .val (.int .u64 0), .sl (strs [([], 0)]), .sl (strs [([], 0)])].map AV.p)), (80, yS 27 1 R), (8, .box 33 ([.val (.int .i64 0), .val (.int .i64 0), .val (.slice none 0 0), .val (.int .u64 0), .val (.slice none 0 0), .val (.slice none 0 0)].map AV.p))] }) ?_ H034579
            refine zN (is := [0, 5, 6, 81, 82, 86, 83, 84, 85, 87, 8]) (js := [6, 80, 8]) ?_ ?_
            case refine_1 =>
              repeat' first | exact zW.nil | apply zW.p rfl | apply zW.ptr rfl | apply zW.own rfl | apply zW.ag rfl
            case refine_2 =>
              repeat' first | exact zX.nil | apply zX.boxP rfl rfl | apply zX.yG rfl | (apply zX.at0; exact zK rfl (H.nk _).1 (by repeat' fail)) | (apply zX.at1; exact zK rfl (H.nk _).2.1 (by repeat' fail)) | (apply zX.at2; exact zK rfl (H.nk _).2.2 (by repeat' fail)) | apply zX.some rfl | apply zX.skip
        refine DGo.share (fu' := 4) (D' := [5, 4, 3, 0, 6, 2, 1]) (F' := { t := [(0, .p (.sl (byts l))), (5, .p (.val (.bool true))), (6, .ptr 6 0), (81, .ptr 6 (0 + 0)), (82, .ptr 6 (0 + 0 + 2)), (86, .ptr 6 (0 + 3)), (83, .p (.sl R)), (84, .own 80), (85, .ag [.p (.val (.int .i64 1)), .p (.val (.int .i64 8)), .o 80])], s := [(6, .box 33 ([.val (.int .i64 1), .val (.int .i64 8), .sl R, .val (.int .u64 0), .sl (strs [([], 0)]), .sl (strs [([], 0)])].map AV.p)), (80, yS 27 1 R)] }) ?H0345 (fun H0345 => ?_)
        case H0345 =>
          refine DGo.all [7, 9] (by kernel_rfl) ?_
          refine yV.cons ?_ (yV.cons ?_ (yV.nil))
          · refine yK.at_ 7 ?_
            refine yK.v rfl rfl rfl (zR rfl rfl rfl (by rfl) (by rfl) rfl (by decide)) ?_
            refine DGo.subp (by kernel_rfl) (S' := { t := [(0, .p (.sl (byts l))), (5, .p (.val (.bool true))), (6, .ptr 6 0), (81, .ptr 6 (0 + 0)), (82, .ptr 6 (0 + 0 + 2)), (86, .ptr 6 (0 + 3)), (83, .p (.sl R)), (84, .own 80), (85, .ag [.p (.val (.int .i64 1)), .p (.val (.int .i64 8)), .o 80]), (87, .p (.agg [.val (.int .u64 0), .sl (strs [([], 0)]), .sl (strs [([], 0)])]))], s := [(6, .box 33 ([.val (.int .i64 1), .val (.int .i64 8), .sl R, .val (.int .u64 0), .sl (strs [([], 0)]), .sl (strs [([], 0)])].map AV.p)), (80, yS 27 1 R)] }) ?_ H03457
            refine zN (is := [0, 5, 6, 81, 82, 86, 83, 84, 85, 87]) (js := [6, 80]) ?_ ?_
            case refine_1 =>
              repeat' first | exact zW.nil | apply zW.p rfl | apply zW.ptr rfl | apply zW.own rfl | apply zW.ag rfl
            case refine_2 =>
              repeat' first | exact zX.nil | apply zX.boxP rfl rfl | apply zX.yG rfl | (apply zX.at0; exact zK rfl (H.nk _).1 (by repeat' fail)) | (apply zX.at1; exact zK rfl (H.nk _).2.1 (by repeat' fail)) | (apply zX.at2; exact zK rfl (H.nk _).2.2 (by repeat' fail)) | apply zX.some rfl | apply zX.skip
          · refine yK.at_ 9 ?_
            refine yK.m rfl rfl rfl (yQ rfl (by decide) rfl (by decide)) ?_
            refine DGo.subp (by kernel_rfl) (S' := { t := [(0, .p (.sl (byts l))), (5, .p (.val (.bool true))), (6, .ptr 6 0), (81, .ptr 6 (0 + 0)), (82, .ptr 6 (0 + 0 + 2)), (86, .ptr 6 (0 + 3)), (83, .p (.sl R)), (84, .own 80), (85, .ag [.p (.val (.int .i64 1)), .p (.val (.int .i64 8)), .o 80]), (8, .ptr 8 0)], s := [(6, .box 33 ([.val (.int .i64 1), .val (.int .i64 8), .sl R, .val (.int .u64 0), .sl (strs [([], 0)]), .sl (strs [([], 0)])].map AV.p)), (80, yS 27 1 R), (8, .box 33 ([.val (.int .i64 0), .val (.int .i64 0), .val (.slice none 0 0), .val (.int .u64 0), .val (.slice none 0 0), .val (.slice none 0 0)].map AV.p))] }) ?_ H03459
            refine zN (is := [0, 5, 6, 81, 82, 86, 83, 84, 85, 8]) (js := [6, 80, 8]) ?_ ?_
            case refine_1 =>
              repeat' first | exact zW.nil | apply zW.p rfl | apply zW.ptr rfl | apply zW.own rfl | apply zW.ag rfl
            case refine_2 =>
              repeat' first | exact zX.nil | apply zX.boxP rfl rfl | apply zX.yG rfl | (apply zX.at0; exact zK rfl (H.nk _).1 (by repeat' fail)) | (apply zX.at1; exact zK rfl (H.nk _).2.1 (by repeat' fail)) | (apply zX.at2; exact zK rfl (H.nk _).2.2 (by repeat' fail)) | apply zX.some rfl | apply zX.skip
        refine DGo.share (fu' := 4) (D' := [7, 4, 3, 0, 6, 2, 1]) (F' := { t := [(0, .p (.sl (byts l))), (5, .p (.val (.bool true))), (6, .ptr 6 0), (81, .ptr 6 (0 + 0)), (82, .ptr 6 (0 + 0 + 2)), (86, .ptr 6 (0 + 3)), (83, .p (.sl R)), (84, .own 80), (87, .p (.agg [.val (.int .u64 0), .sl (strs [([], 0)]), .sl (strs [([], 0)])]))], s := [(6, .box 33 ([.val (.int .i64 1), .val (.int .i64 8), .sl R, .val (.int .u64 0), .sl (strs [([], 0)]), .sl (strs [([], 0)])].map AV.p)), (80, yS 27 1 R)] }) ?H0347 (fun H0347 => ?_)
        case H0347 =>
          refine DGo.all [5, 9] (by kernel_rfl) ?_
          refine yV.cons ?_ (yV.cons ?_ (yV.nil))
          · refine yK.at_ 5 ?_
            refine yK.v rfl rfl rfl (w_buildAg 80 rfl (by rfl) (by rfl) rfl rfl (by rfl) (by rfl) rfl (by decide)) ?_
            refine DGo.subp (by kernel_rfl) (S' := { t := [(0, .p (.sl (byts l))), (5, .p (.val (.bool true))), (6, .ptr 6 0), (81, .ptr 6 (0 + 0)), (82, .ptr 6 (0 + 0 + 2)), (86, .ptr 6 (0 + 3)), (83, .p (.sl R)), (84, .own 80), (85, .ag [.p (.val (.int .i64 1)), .p (.val (.int .i64 8)), .o 80]), (87, .p (.agg [.val (.int .u64 0), .sl (strs [([], 0)]), .sl (strs [([], 0)])]))], s := [(6, .box 33 ([.val (.int .i64 1), .val (.int .i64 8), .sl R, .val (.int .u64 0), .sl (strs [([], 0)]), .sl (strs [([], 0)])].map AV.p)), (80, yS 27 1 R)] }) ?_ H03457
            refine zN (is := [0, 5, 6, 81, 82, 86, 83, 84, 85, 87]) (js := [6, 80]) ?_ ?_
            case refine_1 =>
              repeat' first | exact zW.nil | apply zW.p rfl | apply zW.ptr rfl | apply zW.own rfl | apply zW.ag rfl
            case refine_2 =>
              repeat' first | exact zX.nil | apply zX.boxP rfl rfl | apply zX.yG rfl | (apply zX.at0; exact zK rfl (H.nk _).1 (by repeat' fail)) | (apply zX.at1; exact zK rfl (H.nk _).2.1 (by repeat' fail)) | (apply zX.at2; exact zK rfl (H.nk _).2.2 (by repeat' fail)) | apply zX.some rfl | apply zX.skip
          · refine yK.at_ 9 ?_
            refine yK.m rfl rfl rfl (yQ rfl (by decide) rfl (by decide)) ?_
            refine DGo.subp (by kernel_rfl) (S' := { t := [(0, .p (.sl (byts l))), (5, .p (.val (.bool true))), (6, .ptr 6 0), (81, .ptr 6 (0 + 0)), (82, .ptr 6 (0 + 0 + 2)), (86, .ptr 6 (0 + 3)), (83, .p (.sl R)), (84, .own 80), (87, .p (.agg [.val (.int .u64 0), .sl (strs [([], 0)]), .sl (strs [([], 0)])])), (8, .ptr 8 0)], s := [(6, .box 33 ([.val (.int .i64 1), .val (.int .i64 8), .sl R, .val (.int .u64 0), .sl (strs [([], 0)]), .sl (strs [([], 0)])].map AV.p)), (80, yS 27 1 R), (8, .box 33 ([.val (.int .i64 0), .val (.int .i64 0), .val (.slice none 0 0), .val (.int .u64 0), .val (.slice none 0 0), .val (.slice none 0 0)].map AV.p))] }) ?_ H03479
            refine zN (is := [0, 5, 6, 81, 82, 86, 83, 84, 87, 8]) (js := [6, 80, 8]) ?_ ?_
            case refine_1 =>
              repeat' first | exact zW.nil | apply zW.p rfl | apply zW.ptr rfl | apply zW.own rfl | apply zW.ag rfl
            case refine_2 =>
              repeat' first | exact zX.nil | apply zX.boxP rfl rfl | apply zX.yG rfl | (apply zX.at0; exact zK rfl (H.nk _).1 (by repeat' fail)) | (apply zX.at1; exact zK rfl (H.nk _).2.1 (by repeat' fail)) | (apply zX.at2; exact zK rfl (H.nk _).2.2 (by repeat' fail)) | apply zX.some rfl | apply zX.skip
        refine DGo.share (fu' := 4) (D' := [9, 4, 3, 0, 6, 2, 1]) (F' := { t := [(0, .p (.sl (byts l))), (5, .p (.val (.bool true))), (6, .ptr 6 0), (81, .ptr 6 (0 + 0)), (82, .ptr 6 (0 + 0 + 2)), (86, .ptr 6 (0 + 3)), (83, .p (.sl R)), (84, .own 80), (8, .ptr 8 0)], s := [(6, .box 33 ([.val (.int .i64 1), .val (.int .i64 8), .sl R, .val (.int .u64 0), .sl (strs [([], 0)]), .sl (strs [([], 0)])].map AV.p)), (80, yS 27 1 R), (8, .box 33 ([.val (.int .i64 0), .val (.int .i64 0), .val (.slice none 0 0), .val (.int .u64 0), .val (.slice none 0 0), .val (.slice none 0 0)].map AV.p))] }) ?H0349 (fun H0349 => ?_)
        case H0349 =>
          refine DGo.all [5, 7] (by kernel_rfl) ?_
          refine yV.cons ?_ (yV.cons ?_ (yV.nil))
          · refine yK.at_ 5 ?_
            refine yK.v rfl rfl rfl (w_buildAg 80 rfl (by rfl) (by rfl) rfl rfl (by rfl) (by rfl) rfl (by decide)) ?_
            refine DGo.subp (by kernel_rfl) (S' := { t := [(0, .p (.sl (byts l))), (5, .p (.val (.bool true))), (6, .ptr 6 0), (81, .ptr 6 (0 + 0)), (82, .ptr 6 (0 + 0 + 2)), (86, .ptr 6 (0 + 3)), (83, .p (.sl R)), (84, .own 80), (85, .ag [.p (.val (.int .i64 1)), .p (.val (.int .i64 8)), .o 80]), (8, .ptr 8 0)], s := [(6, .box 33 ([.val (.int .i64 1), .val (.int .i64 8), .sl R, .val (.int .u64 0), .sl (strs [([], 0)]), .sl (strs [([], 0)])].map AV.p)), (80, yS 27 1 R), (8, .box 33 ([.val (.int .i64 0), .val (.int .i64 0), .val (.slice none 0 0), .val (.int .u64 0), .val (.slice none 0 0), .val (.slice none 0 0)].map AV.p))] }) ?_ H03459
            refine zN (is := [0, 5, 6, 81, 82, 86, 83, 84, 85, 8]) (js := [6, 80, 8]) ?_ ?_
            case refine_1 =>
              repeat' first | exact zW.nil | apply zW.p rfl | apply zW.ptr rfl | apply zW.own rfl | apply zW.ag rfl
            case refine_2 =>
              repeat' first | exact zX.nil | apply zX.boxP rfl rfl | apply zX.yG rfl | (apply zX.at0; exact zK rfl (H.nk _).1 (by repeat' fail)) | (apply zX.at1; exact zK rfl (H.nk _).2.1 (by repeat' fail)) | (apply zX.at2; exact zK rfl (H.nk _).2.2 (by repeat' fail)) | apply zX.some rfl | apply zX.skip
          · refine yK.at_ 7 ?_
            refine yK.v rfl rfl rfl (zR rfl rfl rfl (by rfl) (by rfl) rfl (by decide)) ?_
            refine DGo.subp (by kernel_rfl) (S' := { t := [(0, .p (.sl (byts l))), (5, .p (.val (.bool true))), (6, .ptr 6 0), (81, .ptr 6 (0 + 0)), (82, .ptr 6 (0 + 0 + 2)), (86, .ptr 6 (0 + 3)), (83, .p (.sl R)), (84, .own 80), (87, .p (.agg [.val (.int .u64 0), .sl (strs [([], 0)]), .sl (strs [([], 0)])])), (8, .ptr 8 0)], s := [(6, .box 33 ([.val (.int .i64 1), .val (.int .i64 8), .sl R, .val (.int .u64 0), .sl (strs [([], 0)]), .sl (strs [([], 0)])].map AV.p)), (80, yS 27 1 R), (8, .box 33 ([.val (.int .i64 0), .val (.int .i64 0), .val (.slice none 0 0), .val (.int .u64 0), .val (.slice none 0 0), .val (.slice none 0 0)].map AV.p))] }) ?_ H03479
            refine zN (is := [0, 5, 6, 81, 82, 86, 83, 84, 87, 8]) (js := [6, 80, 8]) ?_ ?_
            case refine_1 =>
              repeat' first | exact zW.nil | apply zW.p rfl | apply zW.ptr rfl | apply zW.own rfl | apply zW.ag rfl
            case refine_2 =>
              repeat' first | exact zX.nil | apply zX.boxP rfl rfl | apply zX.yG rfl | (apply zX.at0; exact zK rfl (H.nk _).1 (by repeat' fail)) | (apply zX.at1; exact zK rfl (H.nk _).2.1 (by repeat' fail)) | (apply zX.at2; exact zK rfl (H.nk _).2.2 (by repeat' fail)) | apply zX.some rfl | apply zX.skip
        refine DGo.share (fu' := 4) (D' := [9, 7, 3, 0, 6, 2, 1]) (F' := { t := [(0, .p (.sl (byts l))), (5, .p (.val (.bool true))), (6, .ptr 6 0), (81, .ptr 6 (0 + 0)), (82, .ptr 6 (0 + 0 + 2)), (86, .ptr 6 (0 + 3)), (80, .own 80), (83, .p (.sl R)), (87, .p (.agg [.val (.int .u64 0), .sl (strs [([], 0)]), .sl (strs [([], 0)])])), (8, .ptr 8 0)], s := [(6, .box 33 ([.val (.int .i64 1), .val (.int .i64 8), .sl R, .val (.int .u64 0), .sl (strs [([], 0)]), .sl (strs [([], 0)])].map AV.p)), (80, yS 27 1 []), (8, .box 33 ([.val (.int .i64 0), .val (.int .i64 0), .val (.slice none 0 0), .val (.int .u64 0), .val (.slice none 0 0), .val (.slice none 0 0)].map AV.p))] }) ?H0379 (fun H0379 => ?_)
        case H0379 =>
          refine DGo.all [4] (by kernel_rfl) ?_
          refine yV.cons ?_ (yV.nil)
          · refine yK.at_ 4 ?_
            refine yK.w rfl rfl (by exact w_appV rfl rfl rfl rfl g1 g2 rfl (by decide) rfl (by decide)) ?_
            refine DGo.subp (by kernel_rfl) (S' := { t := [(0, .p (.sl (byts l))), (5, .p (.val (.bool true))), (6, .ptr 6 0), (81, .ptr 6 (0 + 0)), (82, .ptr 6 (0 + 0 + 2)), (86, .ptr 6 (0 + 3)), (83, .p (.sl R)), (84, .own 80), (87, .p (.agg [.val (.int .u64 0), .sl (strs [([], 0)]), .sl (strs [([], 0)])])), (8, .ptr 8 0)], s := [(6, .box 33 ([.val (.int .i64 1), .val (.int .i64 8), .sl R, .val (.int .u64 0), .sl (strs [([], 0)]), .sl (strs [([], 0)])].map AV.p)), (80, yS 27 1 R), (8, .box 33 ([.val (.int .i64 0), .val (.int .i64 0), .val (.slice none 0 0), .val (.int .u64 0), .val (.slice none 0 0), .val (.slice none 0 0)].map AV.p))] }) ?_ H03479
            refine zN (is := [0, 5, 6, 81, 82, 86, 83, 84, 87, 8]) (js := [6, 80, 8]) ?_ ?_
            case refine_1 =>
              repeat' first | exact zW.nil | apply zW.p rfl | apply zW.ptr rfl | apply zW.own rfl | apply zW.ag rfl
            case refine_2 =>
              repeat' first | exact zX.nil | apply zX.boxP rfl rfl | apply zX.yG rfl | (apply zX.at0; exact zK rfl (H.nk _).1 (by repeat' fail)) | (apply zX.at1; exact zK rfl (H.nk _).2.1 (by repeat' fail)) | (apply zX.at2; exact zK rfl (H.nk _).2.2 (by repeat' fail)) | apply zX.some rfl | apply zX.skip
        refine DGo.share (fu' := 5) (D' := [4, 3, 0, 6, 2, 1]) (F' := { t := [(0, .p (.sl (byts l))), (5, .p (.val (.bool true))), (6, .ptr 6 0), (81, .ptr 6 (0 + 0)), (82, .ptr 6 (0 + 0 + 2)), (86, .ptr 6 (0 + 3)), (83, .p (.sl R)), (84, .own 80)], s := [(6, .box 33 ([.val (.int .i64 1), .val (.int .i64 8), .sl R, .val (.int .u64 0), .sl (strs [([], 0)]), .sl (strs [([], 0)])].map AV.p)), (80, yS 27 1 R)] }) ?H034 (fun H034 => ?_)
        case H034 =>
          refine DGo.all [5, 7, 9] (by kernel_rfl) ?_
          refine yV.cons ?_ (yV.cons ?_ (yV.cons ?_ (yV.nil)))
          · refine yK.at_ 5 ?_
            refine yK.v rfl rfl rfl (w_buildAg 80 rfl (by rfl) (by rfl) rfl rfl (by rfl) (by rfl) rfl (by decide)) ?_
            refine DGo.subp (by kernel_rfl) (S' := { t := [(0, .p (.sl (byts l))), (5, .p (.val (.bool true))), (6, .ptr 6 0), (81, .ptr 6 (0 + 0)), (82, .ptr 6 (0 + 0 + 2)), (86, .ptr 6 (0 + 3)), (83, .p (.sl R)), (84, .own 80), (85, .ag [.p (.val (.int .i64 1)), .p (.val (.int .i64 8)), .o 80])], s := [(6, .box 33 ([.val (.int .i64 1), .val (.int .i64 8), .sl R, .val (.int .u64 0), .sl (strs [([], 0)]), .sl (strs [([], 0)])].map AV.p)), (80, yS 27 1 R)] }) ?_ H0345
            refine zN (is := [0, 5, 6, 81, 82, 86, 83, 84, 85]) (js := [6, 80]) ?_ ?_
            case refine_1 =>
              repeat' first | exact zW.nil | apply zW.p rfl | apply zW.ptr rfl | apply zW.own rfl | apply zW.ag rfl
            case refine_2 =>
              repeat' first | exact zX.nil | apply zX.boxP rfl rfl | apply zX.yG rfl | (apply zX.at0; exact zK rfl (H.nk _).1 (by repeat' fail)) | (apply zX.at1; exact zK rfl (H.nk _).2.1 (by repeat' fail)) | (apply zX.at2; exact zK rfl (H.nk _).2.2 (by repeat' fail)) | apply zX.some rfl | apply zX.skip
          · refine yK.at_ 7 ?_
            refine yK.v rfl rfl rfl (zR rfl rfl rfl (by rfl) (by rfl) rfl (by decide)) ?_
            refine DGo.subp (by kernel_rfl) (S' := { t := [(0, .p (.sl (byts l))), (5, .p (.val (.bool true))), (6, .ptr 6 0), (81, .ptr 6 (0 + 0)), (82, .ptr 6 (0 + 0 + 2)), (86, .ptr 6 (0 + 3)), (83, .p (.sl R)), (84, .own 80), (87, .p (.agg [.val (.int .u64 0), .sl (strs [([], 0)]), .sl (strs [([], 0)])]))], s := [(6, .box 33 ([.val (.int .i64 1), .val (.int .i64 8), .sl R, .val (.int .u64 0), .sl (strs [([], 0)]), .sl (strs [([], 0)])].map AV.p)), (80, yS 27 1 R)] }) ?_ H0347
            refine zN (is := [0, 5, 6, 81, 82, 86, 83, 84, 87]) (js := [6, 80]) ?_ ?_
            case refine_1 =>
              repeat' first | exact zW.nil | apply zW.p rfl | apply zW.ptr rfl | apply zW.own rfl | apply zW.ag rfl
            case refine_2 =>
              repeat' first | exact zX.nil | apply zX.boxP rfl rfl | apply zX.yG rfl | (apply zX.at0; exact zK rfl (H.nk _).1 (by repeat' fail)) | (apply zX.at1; exact zK rfl (H.nk _).2.1 (by repeat' fail)) | (apply zX.at2; exact zK rfl (H.nk _).2.2 (by repeat' fail)) | apply zX.some rfl | apply zX.skip
          · refine yK.at_ 9 ?_
            refine yK.m rfl rfl rfl (yQ rfl (by decide) rfl (by decide)) ?_
            refine DGo.subp (by kernel_rfl) (S' := { t := [(0, .p (.sl (byts l))), (5, .p (.val (.bool true))), (6, .ptr 6 0), (81, .ptr 6 (0 + 0)), (82, .ptr 6 (0 + 0 + 2)), (86, .ptr 6 (0 + 3)), (83, .p (.sl R)), (84, .own 80), (8, .ptr 8 0)], s := [(6, .box 33 ([.val (.int .i64 1), .val (.int .i64 8), .sl R, .val (.int .u64 0), .sl (strs [([], 0)]), .sl (strs [([], 0)])].map AV.p)), (80, yS 27 1 R), (8, .box 33 ([.val (.int .i64 0), .val (.int .i64 0), .val (.slice none 0 0), .val (.int .u64 0), .val (.slice none 0 0), .val (.slice none 0 0)].map AV.p))] }) ?_ H0349
            refine zN (is := [0, 5, 6, 81, 82, 86, 83, 84, 8]) (js := [6, 80, 8]) ?_ ?_
            case refine_1 =>
              repeat' first | exact zW.nil | apply zW.p rfl | apply zW.ptr rfl | apply zW.own rfl | apply zW.ag rfl
            case refine_2 =>
              repeat' first | exact zX.nil | apply zX.boxP rfl rfl | apply zX.yG rfl | (apply zX.at0; exact zK rfl (H.nk _).1 (by repeat' fail)) | (apply zX.at1; exact zK rfl (H.nk _).2.1 (by repeat' fail)) | (apply zX.at2; exact zK rfl (H.nk _).2.2 (by repeat' fail)) | apply zX.some rfl | apply zX.skip
        refine DGo.share (fu' := 5) (D' := [7, 3, 0, 6, 2, 1]) (F' := { t := [(0, .p (.sl (byts l))), (5, .p (.val (.bool true))), (6, .ptr 6 0), (81, .ptr 6 (0 + 0)), (82, .ptr 6 (0 + 0 + 2)), (86, .ptr 6 (0 + 3)), (80, .own 80), (83, .p (.sl R)), (87, .p (.agg [.val (.int .u64 0), .sl (strs [([], 0)]), .sl (strs [([], 0)])]))], s := [(6, .box 33 ([.val (.int .i64 1), .val (.int .i64 8), .sl R, .val (.int .u64 0), .sl (strs [([], 0)]), .sl (strs [([], 0)])].map AV.p)), (80, yS 27 1 [])] }) ?H037 (fun H037 => ?_)
        case H037 =>
          refine DGo.all [4, 9] (by kernel_rfl) ?_
          refine yV.cons ?_ (yV.cons ?_ (yV.nil))
          · refine yK.at_ 4 ?_
            refine yK.w rfl rfl (by exact w_appV rfl rfl rfl rfl g1 g2 rfl (by decide) rfl (by decide)) ?_
            refine DGo.subp (by kernel_rfl) (S' := { t := [(0, .p (.sl (byts l))), (5, .p (.val (.bool true))), (6, .ptr 6 0), (81, .ptr 6 (0 + 0)), (82, .ptr 6 (0 + 0 + 2)), (86, .ptr 6 (0 + 3)), (83, .p (.sl R)), (84, .own 80), (87, .p (.agg [.val (.int .u64 0), .sl (strs [([], 0)]), .sl (strs [([], 0)])]))], s := [(6, .box 33 ([.val (.int .i64 1), .val (.int .i64 8), .sl R, .val (.int .u64 0), .sl (strs [([], 0)]), .sl (strs [([], 0)])].map AV.p)), (80, yS 27 1 R)] }) ?_ H0347
            refine zN (is := [0, 5, 6, 81, 82, 86, 83, 84, 87]) (js := [6, 80]) ?_ ?_
            case refine_1 =>
              repeat' first | exact zW.nil | apply zW.p rfl | apply zW.ptr rfl | apply zW.own rfl | apply zW.ag rfl
            case refine_2 =>
              repeat' first | exact zX.nil | apply zX.boxP rfl rfl | apply zX.yG rfl | (apply zX.at0; exact zK rfl (H.nk _).1 (by repeat' fail)) | (apply zX.at1; exact zK rfl (H.nk _).2.1 (by repeat' fail)) | (apply zX.at2; exact zK rfl (H.nk _).2.2 (by repeat' fail)) | apply zX.some rfl | apply zX.skip
          · refine yK.at_ 9 ?_
            refine yK.m rfl rfl rfl (yQ rfl (by decide) rfl (by decide)) ?_
            refine DGo.subp (by kernel_rfl) (S' := { t := [(0, .p (.sl (byts l))), (5, .p (.val (.bool true))), (6, .ptr 6 0), (81, .ptr 6 (0 + 0)), (82, .ptr 6 (0 + 0 + 2)), (86, .ptr 6 (0 + 3)), (80, .own 80), (83, .p (.sl R)), (87, .p (.agg [.val (.int .u64 0), .sl (strs [([], 0)]), .sl (strs [([], 0)])])), (8, .ptr 8 0)], s := [(6, .box 33 ([.val (.int .i64 1), .val (.int .i64 8), .sl R, .val (.int .u64 0), .sl (strs [([], 0)]), .sl (strs [([], 0)])].map AV.p)), (80, yS 27 1 []), (8, .box 33 ([.val (.int .i64 0), .val (.int .i64 0), .val (.slice none 0 0), .val (.int .u64 0), .val (.slice none 0 0), .val (.slice none 0 0)].map AV.p))] }) ?_ H0379
            refine zN (is := [0, 5, 6, 81, 82, 86, 80, 83, 87, 8]) (js := [6, 80, 8]) ?_ ?_
            case refine_1 =>
              repeat' first | exact zW.nil | apply zW.p rfl | apply zW.ptr rfl | apply zW.own rfl | apply zW.ag rfl
            case refine_2 =>
              repeat' first | exact zX.nil | apply zX.boxP rfl rfl | apply zX.yG rfl | (apply zX.at0; exact zK rfl (H.nk _).1 (by repeat' fail)) | (apply zX.at1; exact zK rfl (H.nk _).2.1 (by repeat' fail)) | (apply zX.at2; exact zK rfl (H.nk _).2.2 (by repeat' fail)) | apply zX.some rfl | apply zX.skip
        refine DGo.share (fu' := 5) (D' := [9, 3, 0, 6, 2, 1]) (F' := { t := [(0, .p (.sl (byts l))), (5, .p (.val (.bool true))), (6, .ptr 6 0), (81, .ptr 6 (0 + 0)), (82, .ptr 6 (0 + 0 + 2)), (86, .ptr 6 (0 + 3)), (80, .own 80), (83, .p (.sl R)), (8, .ptr 8 0)], s := [(6, .box 33 ([.val (.int .i64 1), .val (.int .i64 8), .sl R, .val (.int .u64 0), .sl (strs [([], 0)]), .sl (strs [([], 0)])].map AV.p)), (80, yS 27 1 []), (8, .box 33 ([.val (.int .i64 0), .val (.int .i64 0), .val (.slice none 0 0), .val (.int .u64 0), .val (.slice none 0 0), .val (.slice none 0 0)].map AV.p))] }) ?H039 (fun H039 => ?_)
        case H039 =>
          refine DGo.all [4, 7] (by kernel_rfl) ?_
          refine yV.cons ?_ (yV.cons ?_ (yV.nil))
          · refine yK.at_ 4 ?_
            refine yK.w rfl rfl (by exact w_appV rfl rfl rfl rfl g1 g2 rfl (by decide) rfl (by decide)) ?_
            refine DGo.subp (by kernel_rfl) (S' := { t := [(0, .p (.sl (byts l))), (5, .p (.val (.bool true))), (6, .ptr 6 0), (81, .ptr 6 (0 + 0)), (82, .ptr 6 (0 + 0 + 2)), (86, .ptr 6 (0 + 3)), (83, .p (.sl R)), (84, .own 80), (8, .ptr 8 0)], s := [(6, .box 33 ([.val (.int .i64 1), .val (.int .i64 8), .sl R, .val (.int .u64 0), .sl (strs [([], 0)]), .sl (strs [([], 0)])].map AV.p)), (80, yS 27 1 R), (8, .box 33 ([.val (.int .i64 0), .val (.int .i64 0), .val (.slice none 0 0), .val (.int .u64 0), .val (.slice none 0 0), .val (.slice none 0 0)].map AV.p))] }) ?_ H0349
            refine zN (is := [0, 5, 6, 81, 82, 86, 83, 84, 8]) (js := [6, 80, 8]) ?_ ?_
            case refine_1 =>
              repeat' first | exact zW.nil | apply zW.p rfl | apply zW.ptr rfl | apply zW.own rfl | apply zW.ag rfl
            case refine_2 =>
              repeat' first | exact zX.nil | apply zX.boxP rfl rfl | apply zX.yG rfl | (apply zX.at0; exact zK rfl (H.nk _).1 (by repeat' fail)) | (apply zX.at1; exact zK rfl (H.nk _).2.1 (by repeat' fail)) | (apply zX.at2; exact zK rfl (H.nk _).2.2 (by repeat' fail)) | apply zX.some rfl | apply zX.skip
          · refine yK.at_ 7 ?_
            refine yK.v rfl rfl rfl (zR rfl rfl rfl (by rfl) (by rfl) rfl (by decide)) ?_
            refine DGo.subp (by kernel_rfl) (S' := { t := [(0, .p (.sl (byts l))), (5, .p (.val (.bool true))), (6, .ptr 6 0), (81, .ptr 6 (0 + 0)), (82, .ptr 6 (0 + 0 + 2)), (86, .ptr 6 (0 + 3)), (80, .own 80), (83, .p (.sl R)), (87, .p (.agg [.val (.int .u64 0), .sl (strs [([], 0)]), .sl (strs [([], 0)])])), (8, .ptr 8 0)], s := [(6, .box 33 ([.val (.int .i64 1), .val (.int .i64 8), .sl R, .val (.int .u64 0), .sl (strs [([], 0)]), .sl (strs [([], 0)])].map AV.p)), (80, yS 27 1 []), (8, .box 33 ([.val (.int .i64 0), .val (.int .i64 0), .val (.slice none 0 0), .val (.int .u64 0), .val (.slice none 0 0), .val (.slice none 0 0)].map AV.p))] }) ?_ H0379
            refine zN (is := [0, 5, 6, 81, 82, 86, 80, 83, 87, 8]) (js := [6, 80, 8]) ?_ ?_
            case refine_1 =>
              repeat' first | exact zW.nil | apply zW.p rfl | apply zW.ptr rfl | apply zW.own rfl | apply zW.ag rfl
            case refine_2 =>
              repeat' first | exact zX.nil | apply zX.boxP rfl rfl | apply zX.yG rfl | (apply zX.at0; exact zK rfl (H.nk _).1 (by repeat' fail)) | (apply zX.at1; exact zK rfl (H.nk _).2.1 (by repeat' fail)) | (apply zX.at2; exact zK rfl (H.nk _).2.2 (by repeat' fail)) | apply zX.some rfl | apply zX.skip
        refine DGo.share (fu' := 5) (D' := [9, 7, 0, 6, 2, 1]) (F' := { t := [(0, .p (.sl (byts l))), (5, .p (.val (.bool true))), (6, .ptr 6 0), (81, .ptr 6 (0 + 0)), (82, .ptr 6 (0 + 0 + 2)), (86, .ptr 6 (0 + 3)), (80, .own 80), (87, .p (.agg [.val (.int .u64 0), .sl (strs [([], 0)]), .sl (strs [([], 0)])])), (8, .ptr 8 0)], s := [(6, .box 33 ([.val (.int .i64 1), .val (.int .i64 8), .sl R, .val (.int .u64 0), .sl (strs [([], 0)]), .sl (strs [([], 0)])].map AV.p)), (80, yS 27 1 []), (8, .box 33 ([.val (.int .i64 0), .val (.int .i64 0), .val (.slice none 0 0), .val (.int .u64 0), .val (.slice none 0 0), .val (.slice none 0 0)].map AV.p))] }) ?H079 (fun H079 => ?_)
        case H079 =>
          refine DGo.all [3] (by kernel_rfl) ?_
          refine yV.cons ?_ (yV.nil)
          · refine yK.at_ 3 ?_
            refine yK.v rfl rfl rfl (zD rfl rfl rfl rfl rfl (by decide)) ?_
            refine DGo.subp (by kernel_rfl) (S' := { t := [(0, .p (.sl (byts l))), (5, .p (.val (.bool true))), (6, .ptr 6 0), (81, .ptr 6 (0 + 0)), (82, .ptr 6 (0 + 0 + 2)), (86, .ptr 6 (0 + 3)), (80, .own 80), (83, .p (.sl R)), (87, .p (.agg [.val (.int .u64 0), .sl (strs [([], 0)]), .sl (strs [([], 0)])])), (8, .ptr 8 0)], s := [(6, .box 33 ([.val (.int .i64 1), .val (.int .i64 8), .sl R, .val (.int .u64 0), .sl (strs [([], 0)]), .sl (strs [([], 0)])].map AV.p)), (80, yS 27 1 []), (8, .box 33 ([.val (.int .i64 0), .val (.int .i64 0), .val (.slice none 0 0), .val (.int .u64 0), .val (.slice none 0 0), .val (.slice none 0 0)].map AV.p))] }) ?_ H0379
            refine zN (is := [0, 5, 6, 81, 82, 86, 80, 83, 87, 8]) (js := [6, 80, 8]) ?_ ?_
            case refine_1 =>
              repeat' first | exact zW.nil | apply zW.p rfl | apply zW.ptr rfl | apply zW.own rfl | apply zW.ag rfl
            case refine_2 =>
              repeat' first | exact zX.nil | apply zX.boxP rfl rfl | apply zX.yG rfl | (apply zX.at0; exact zK rfl (H.nk _).1 (by repeat' fail)) | (apply zX.at1; exact zK rfl (H.nk _).2.1 (by repeat' fail)) | (apply zX.at2; exact zK rfl (H.nk _).2.2 (by repeat' fail)) | apply zX.some rfl | apply zX.skip
        refine DGo.share (fu' := 5) (D' := [9, 7, 3, 6, 2, 1]) (F' := { t := [(0, .p (.sl (byts l))), (5, .p (.val (.bool true))), (6, .ptr 6 0), (81, .ptr 6 (0 + 0)), (82, .ptr 6 (0 + 0 + 2)), (86, .ptr 6 (0 + 3)), (83, .p (.sl R)), (87, .p (.agg [.val (.int .u64 0), .sl (strs [([], 0)]), .sl (strs [([], 0)])])), (8, .ptr 8 0)], s := [(6, .box 33 ([.val (.int .i64 1), .val (.int .i64 8), .sl R, .val (.int .u64 0), .sl (strs [([], 0)]), .sl (strs [([], 0)])].map AV.p)), (8, .box 33 ([.val (.int .i64 0), .val (.int .i64 0), .val (.slice none 0 0), .val (.int .u64 0), .val (.slice none 0 0), .val (.slice none 0 0)].map AV.p))] }) ?H379 (fun H379 => ?_)
        case H379 =>
          refine DGo.all [0] (by kernel_rfl) ?_
          refine yV.cons ?_ (yV.nil)
          · refine yK.at_ 0 ?_
            refine yK.m rfl rfl rfl (vI rfl rfl (by decide)) ?_
            refine DGo.subp (by kernel_rfl) (S' := { t := [(0, .p (.sl (byts l))), (5, .p (.val (.bool true))), (6, .ptr 6 0), (81, .ptr 6 (0 + 0)), (82, .ptr 6 (0 + 0 + 2)), (86, .ptr 6 (0 + 3)), (80, .own 80), (83, .p (.sl R)), (87, .p (.agg [.val (.int .u64 0), .sl (strs [([], 0)]), .sl (strs [([], 0)])])), (8, .ptr 8 0)], s := [(6, .box 33 ([.val (.int .i64 1), .val (.int .i64 8), .sl R, .val (.int .u64 0), .sl (strs [([], 0)]), .sl (strs [([], 0)])].map AV.p)), (80, yS 27 1 []), (8, .box 33 ([.val (.int .i64 0), .val (.int .i64 0), .val (.slice none 0 0), .val (.int .u64 0), .val (.slice none 0 0), .val (.slice none 0 0)].map AV.p))] }) ?_ H0379
            refine zN (is := [0, 5, 6, 81, 82, 86, 80, 83, 87, 8]) (js := [6, 80, 8]) ?_ ?_
            case refine_1 =>
              repeat' first | exact zW.nil | apply zW.p rfl | apply zW.ptr rfl | apply zW.own rfl | apply zW.ag rfl
            case refine_2 =>
              repeat' first | exact zX.nil | apply zX.boxP rfl rfl | apply zX.yG rfl | (apply zX.at0; exact zK rfl (H.nk _).1 (by repeat' fail)) | (apply zX.at1; exact zK rfl (H.nk _).2.1 (by repeat' fail)) | (apply zX.at2; exact zK rfl (H.nk _).2.2 (by repeat' fail)) | apply zX.some rfl | apply zX.skip
        refine DGo.share (fu' := 6) (D' := [3, 0, 6, 2, 1]) (F' := { t := [(0, .p (.sl (byts l))), (5, .p (.val (.bool true))), (6, .ptr 6 0), (81, .ptr 6 (0 + 0)), (82, .ptr 6 (0 + 0 + 2)), (86, .ptr 6 (0 + 3)), (80, .own 80), (83, .p (.sl R))], s := [(6, .box 33 ([.val (.int .i64 1), .val (.int .i64 8), .sl R, .val (.int .u64 0), .sl (strs [([], 0)]), .sl (strs [([], 0)])].map AV.p)), (80, yS 27 1 [])] }) ?H03 (fun H03 => ?_)
        case H03 =>
          refine DGo.all [4, 7, 9] (by kernel_rfl) ?_
          refine yV.cons ?_ (yV.cons ?_ (yV.cons ?_ (yV.nil)))
          · refine yK.at_ 4 ?_
            refine yK.w rfl rfl (by exact w_appV rfl rfl rfl rfl g1 g2 rfl (by decide) rfl (by decide)) ?_
            refine DGo.subp (by kernel_rfl) (S' := { t := [(0, .p (.sl (byts l))), (5, .p (.val (.bool true))), (6, .ptr 6 0), (81, .ptr 6 (0 + 0)), (82, .ptr 6 (0 + 0 + 2)), (86, .ptr 6 (0 + 3)), (83, .p (.sl R)), (84, .own 80)], s := [(6, .box 33 ([.val (.int .i64 1), .val (.int .i64 8), .sl R, .val (.int .u64 0), .sl (strs [([], 0)]), .sl (strs [([], 0)])].map AV.p)), (80, yS 27 1 R)] }) ?_ H034
            refine zN (is := [0, 5, 6, 81, 82, 86, 83, 84]) (js := [6, 80]) ?_ ?_
            case refine_1 =>
              repeat' first | exact zW.nil | apply zW.p rfl | apply zW.ptr rfl | apply zW.own rfl | apply zW.ag rfl
            case refine_2 =>
              repeat' first | exact zX.nil | apply zX.boxP rfl rfl | apply zX.yG rfl | (apply zX.at0; exact zK rfl (H.nk _).1 (by repeat' fail)) | (apply zX.at1; exact zK rfl (H.nk _).2.1 (by repeat' fail)) | (apply zX.at2; exact zK rfl (H.nk _).2.2 (by repeat' fail)) | apply zX.some rfl | apply zX.skip
          · refine yK.at_ 7 ?_
            refine yK.v rfl rfl rfl (zR rfl rfl rfl (by rfl) (by rfl) rfl (by decide)) ?_
            refine DGo.subp (by kernel_rfl) (S' := { t := [(0, .p (.sl (byts l))), (5, .p (.val (.bool true))), (6, .ptr 6 0), (81, .ptr 6 (0 + 0)), (82, .ptr 6 (0 + 0 + 2)), (86, .ptr 6 (0 + 3)), (80, .own 80), (83, .p (.sl R)), (87, .p (.agg [.val (.int .u64 0), .sl (strs [([], 0)]), .sl (strs [([], 0)])]))], s := [(6, .box 33 ([.val (.int .i64 1), .val (.int .i64 8), .sl R, .val (.int .u64 0), .sl (strs [([], 0)]), .sl (strs [([], 0)])].map AV.p)), (80, yS 27 1 [])] }) ?_ H037
            refine zN (is := [0, 5, 6, 81, 82, 86, 80, 83, 87]) (js := [6, 80]) ?_ ?_
            case refine_1 =>
              repeat' first | exact zW.nil | apply zW.p rfl | apply zW.ptr rfl | apply zW.own rfl | apply zW.ag rfl
            case refine_2 =>
              repeat' first | exact zX.nil | apply zX.boxP rfl rfl | apply zX.yG rfl | (apply zX.at0; exact zK rfl (H.nk _).1 (by repeat' fail)) | (apply zX.at1; exact zK rfl (H.nk _).2.1 (by repeat' fail)) | (apply zX.at2; exact zK rfl (H.nk _).2.2 (by repeat' fail)) | apply zX.some rfl | apply zX.skip
          · refine yK.at_ 9 ?_
            refine yK.m rfl rfl rfl (yQ rfl (by decide) rfl (by decide)) ?_
            refine DGo.subp (by kernel_rfl) (S' := { t := [(0, .p (.sl (byts l))), (5, .p (.val (.bool true))), (6, .ptr 6 0), (81, .ptr 6 (0 + 0)), (82, .ptr 6 (0 + 0 + 2)), (86, .ptr 6 (0 + 3)), (80, .own 80), (83, .p (.sl R)), (8, .ptr 8 0)], s := [(6, .box 33 ([.val (.int .i64 1), .val (.int .i64 8), .sl R, .val (.int .u64 0), .sl (strs [([], 0)]), .sl (strs [([], 0)])].map AV.p)), (80, yS 27 1 []), (8, .box 33 ([.val (.int .i64 0), .val (.int .i64 0), .val (.slice none 0 0), .val (.int .u64 0), .val (.slice none 0 0), .val (.slice none 0 0)].map AV.p))] }) ?_ H039
            refine zN (is := [0, 5, 6, 81, 82, 86, 80, 83, 8]) (js := [6, 80, 8]) ?_ ?_
            case refine_1 =>
              repeat' first | exact zW.nil | apply zW.p rfl | apply zW.ptr rfl | apply zW.own rfl | apply zW.ag rfl
            case refine_2 =>
              repeat' first | exact zX.nil | apply zX.boxP rfl rfl | apply zX.yG rfl | (apply zX.at0; exact zK rfl (H.nk _).1 (by repeat' fail)) | (apply zX.at1; exact zK rfl (H.nk _).2.1 (by repeat' fail)) | (apply zX.at2; exact zK rfl (H.nk _).2.2 (by repeat' fail)) | apply zX.some rfl | apply zX.skip
        refine DGo.share (fu' := 6) (D' := [7, 0, 6, 2, 1]) (F' := { t := [(0, .p (.sl (byts l))), (5, .p (.val (.bool true))), (6, .ptr 6 0), (81, .ptr 6 (0 + 0)), (82, .ptr 6 (0 + 0 + 2)), (86, .ptr 6 (0 + 3)), (80, .own 80), (87, .p (.agg [.val (.int .u64 0), .sl (strs [([], 0)]), .sl (strs [([], 0)])]))], s := [(6, .box 33 ([.val (.int .i64 1), .val (.int .i64 8), .sl R, .val (.int .u64 0), .sl (strs [([], 0)]), .sl (strs [([], 0)])].map AV.p)), (80, yS 27 1 [])] }) ?H07 (fun H07 => ?_)
        case H07 =>
          refine DGo.all [3, 9] (by kernel_rfl) ?_
          refine yV.cons ?_ (yV.cons ?_ (yV.nil))
          · refine yK.at_ 3 ?_
            refine yK.v rfl rfl rfl (zD rfl rfl rfl rfl rfl (by decide)) ?_
            refine DGo.subp (by kernel_rfl) (S' := { t := [(0, .p (.sl (byts l))), (5, .p (.val (.bool true))), (6, .ptr 6 0), (81, .ptr 6 (0 + 0)), (82, .ptr 6 (0 + 0 + 2)), (86, .ptr 6 (0 + 3)), (80, .own 80), (83, .p (.sl R)), (87, .p (.agg [.val (.int .u64 0), .sl (strs [([], 0)]), .sl (strs [([], 0)])]))], s := [(6, .box 33 ([.val (.int .i64 1), .val (.int .i64 8), .sl R, .val (.int .u64 0), .sl (strs [([], 0)]), .sl (strs [([], 0)])].map AV.p)), (80, yS 27 1 [])] }) ?_ H037
            refine zN (is := [0, 5, 6, 81, 82, 86, 80, 83, 87]) (js := [6, 80]) ?_ ?_
            case refine_1 =>
              repeat' first | exact zW.nil | apply zW.p rfl | apply zW.ptr rfl | apply zW.own rfl | apply zW.ag rfl
            case refine_2 =>
              repeat' first | exact zX.nil | apply zX.boxP rfl rfl | apply zX.yG rfl | (apply zX.at0; exact zK rfl (H.nk _).1 (by repeat' fail)) | (apply zX.at1; exact zK rfl (H.nk _).2.1 (by repeat' fail)) | (apply zX.at2; exact zK rfl (H.nk _).2.2 (by repeat' fail)) | apply zX.some rfl | apply zX.skip
          · refine yK.at_ 9 ?_
            refine yK.m rfl rfl rfl (yQ rfl (by decide) rfl (by decide)) ?_
            refine DGo.subp (by kernel_rfl) (S' := { t := [(0, .p (.sl (byts l))), (5, .p (.val (.bool true))), (6, .ptr 6 0), (81, .ptr 6 (0 + 0)), (82, .ptr 6 (0 + 0 + 2)), (86, .ptr 6 (0 + 3)), (80, .own 80), (87, .p (.agg [.val (.int .u64 0), .sl (strs [([], 0)]), .sl (strs [([], 0)])])), (8, .ptr 8 0)], s := [(6, .box 33 ([.val (.int .i64 1), .val (.int .i64 8), .sl R, .val (.int .u64 0), .sl (strs [([], 0)]), .sl (strs [([], 0)])].map AV.p)), (80, yS 27 1 []), (8, .box 33 ([.val (.int .i64 0), .val (.int .i64 0), .val (.slice none 0 0), .val (.int .u64 0), .val (.slice none 0 0), .val (.slice none 0 0)].map AV.p))] }) ?_ H079
            refine zN (is := [0, 5, 6, 81, 82, 86, 80, 87, 8]) (js := [6, 80, 8]) ?_ ?_
            case refine_1 =>
              repeat' first | exact zW.nil | apply zW.p rfl | apply zW.ptr rfl | apply zW.own rfl | apply zW.ag rfl
            case refine_2 =>
              repeat' first | exact zX.nil | apply zX.boxP rfl rfl | apply zX.yG rfl | (apply zX.at0; exact zK rfl (H.nk _).1 (by repeat' fail)) | (apply zX.at1; exact zK rfl (H.nk _).2.1 (by repeat' fail)) | (apply zX.at2; exact zK rfl (H.nk _).2.2 (by repeat' fail)) | apply zX.some rfl | apply zX.skip
        refine DGo.share (fu' := 6) (D' := [9, 0, 6, 2, 1]) (F' := { t := [(0, .p (.sl (byts l))), (5, .p (.val (.bool true))), (6, .ptr 6 0), (81, .ptr 6 (0 + 0)), (82, .ptr 6 (0 + 0 + 2)), (86, .ptr 6 (0 + 3)), (80, .own 80), (8, .ptr 8 0)], s := [(6, .box 33 ([.val (.int .i64 1), .val (.int .i64 8), .sl R, .val (.int .u64 0), .sl (strs [([], 0)]), .sl (strs [([], 0)])].map AV.p)), (80, yS 27 1 []), (8, .box 33 ([.val (.int .i64 0), .val (.int .i64 0), .val (.slice none 0 0), .val (.int .u64 0), .val (.slice none 0 0), .val (.slice none 0 0)].map AV.p))] }) ?H09 (fun H09 => ?_)
        case H09 =>
          refine DGo.all [3, 7] (by kernel_rfl) ?_
          refine yV.cons ?_ (yV.cons ?_ (yV.nil))
          · refine yK.at_ 3 ?_
            refine yK.v rfl rfl rfl (zD rfl rfl rfl rfl rfl (by decide)) ?_
            refine DGo.subp (by kernel_rfl) (S' := { t := [(0, .p (.sl (byts l))), (5, .p (.val (.bool true))), (6, .ptr 6 0), (81, .ptr 6 (0 + 0)), (82, .ptr 6 (0 + 0 + 2)), (86, .ptr 6 (0 + 3)), (80, .own 80), (83, .p (.sl R)), (8, .ptr 8 0)], s := [(6, .box 33 ([.val (.int .i64 1), .val (.int .i64 8), .sl R, .val (.int .u64 0), .sl (strs [([], 0)]), .sl (strs [([], 0)])].map AV.p)), (80, yS 27 1 []), (8, .box 33 ([.val (.int .i64 0), .val (.int .i64 0), .val (.slice none 0 0), .val (.int .u64 0), .val (.slice none 0 0), .val (.slice none 0 0)].map AV.p))] }) ?_ H039
            refine zN (is := [0, 5, 6, 81, 82, 86, 80, 83, 8]) (js := [6, 80, 8]) ?_ ?_
            case refine_1 =>
              repeat' first | exact zW.nil | apply zW.p rfl | apply zW.ptr rfl | apply zW.own rfl | apply zW.ag rfl
            case refine_2 =>
              repeat' first | exact zX.nil | apply zX.boxP rfl rfl | apply zX.yG rfl | (apply zX.at0; exact zK rfl (H.nk _).1 (by repeat' fail)) | (apply zX.at1; exact zK rfl (H.nk _).2.1 (by repeat' fail)) | (apply zX.at2; exact zK rfl (H.nk _).2.2 (by repeat' fail)) | apply zX.some rfl | apply zX.skip
          · refine yK.at_ 7 ?_
            refine yK.v rfl rfl rfl (zR rfl rfl rfl (by rfl) (by rfl) rfl (by decide)) ?_
            refine DGo.subp (by kernel_rfl) (S' := { t := [(0, .p (.sl (byts l))), (5, .p (.val (.bool true))), (6, .ptr 6 0), (81, .ptr 6 (0 + 0)), (82, .ptr 6 (0 + 0 + 2)), (86, .ptr 6 (0 + 3)), (80, .own 80), (87, .p (.agg [.val (.int .u64 0), .sl (strs [([], 0)]), .sl (strs [([], 0)])])), (8, .ptr 8 0)], s := [(6, .box 33 ([.val (.int .i64 1), .val (.int .i64 8), .sl R, .val (.int .u64 0), .sl (strs [([], 0)]), .sl (strs [([], 0)])].map AV.p)), (80, yS 27 1 []), (8, .box 33 ([.val (.int .i64 0), .val (.int .i64 0), .val (.slice none 0 0), .val (.int .u64 0), .val (.slice none 0 0), .val (.slice none 0 0)].map AV.p))] }) ?_ H079
            refine zN (is := [0, 5, 6, 81, 82, 86, 80, 87, 8]) (js := [6, 80, 8]) ?_ ?_
            case refine_1 =>
              repeat' first | exact zW.nil | apply zW.p rfl | apply zW.ptr rfl | apply zW.own rfl | apply zW.ag rfl
            case refine_2 =>
              repeat' first | exact zX.nil | apply zX.boxP rfl rfl | apply zX.yG rfl | (apply zX.at0; exact zK rfl (H.nk _).1 (by repeat' fail)) | (apply zX.at1; exact zK rfl (H.nk _).2.1 (by repeat' fail)) | (apply zX.at2; exact zK rfl (H.nk _).2.2 (by repeat' fail)) | apply zX.some rfl | apply zX.skip
        refine DGo.share (fu' := 6) (D' := [7, 3, 6, 2, 1]) (F' := { t := [(0, .p (.sl (byts l))), (5, .p (.val (.bool true))), (6, .ptr 6 0), (81, .ptr 6 (0 + 0)), (82, .ptr 6 (0 + 0 + 2)), (86, .ptr 6 (0 + 3)), (83, .p (.sl R)), (87, .p (.agg [.val (.int .u64 0), .sl (strs [([], 0)]), .sl (strs [([], 0)])]))], s := [(6, .box 33 ([.val (.int .i64 1), .val (.int .i64 8), .sl R, .val (.int .u64 0), .sl (strs [([], 0)]), .sl (strs [([], 0)])].map AV.p))] }) ?H37 (fun H37 => ?_)
        case H37 =>
          refine DGo.all [0, 9] (by kernel_rfl) ?_
          refine yV.cons ?_ (yV.cons ?_ (yV.nil))
          · refine yK.at_ 0 ?_
            refine yK.m rfl rfl rfl (vI rfl rfl (by decide)) ?_
            refine DGo.subp (by kernel_rfl) (S' := { t := [(0, .p (.sl (byts l))), (5, .p (.val (.bool true))), (6, .ptr 6 0), (81, .ptr 6 (0 + 0)), (82, .ptr 6 (0 + 0 + 2)), (86, .ptr 6 (0 + 3)), (80, .own 80), (83, .p (.sl R)), (87, .p (.agg [.val (.int .u64 0), .sl (strs [([], 0)]), .sl (strs [([], 0)])]))], s := [(6, .box 33 ([.val (.int .i64 1), .val (.int .i64 8), .sl R, .val (.int .u64 0), .sl (strs [([], 0)]), .sl (strs [([], 0)])].map AV.p)), (80, yS 27 1 [])] }) ?_ H037
            refine zN (is := [0, 5, 6, 81, 82, 86, 80, 83, 87]) (js := [6, 80]) ?_ ?_
            case refine_1 =>
              repeat' first | exact zW.nil | apply zW.p rfl | apply zW.ptr rfl | apply zW.own rfl | apply zW.ag rfl
            case refine_2 =>
              repeat' first | exact zX.nil | apply zX.boxP rfl rfl | apply zX.yG rfl | (apply zX.at0; exact zK rfl (H.nk _).1 (by repeat' fail)) | (apply zX.at1; exact zK rfl (H.nk _).2.1 (by repeat' fail)) | (apply zX.at2; exact zK rfl (H.nk _).2.2 (by repeat' fail)) | apply zX.some rfl | apply zX.skip
          · refine yK.at_ 9 ?_
            refine yK.m rfl rfl rfl (yQ rfl (by decide) rfl (by decide)) ?_
            refine DGo.subp (by kernel_rfl) (S' := { t := [(0, .p (.sl (byts l))), (5, .p (.val (.bool true))), (6, .ptr 6 0), (81, .ptr 6 (0 + 0)), (82, .ptr 6 (0 + 0 + 2)), (86, .ptr 6 (0 + 3)), (83, .p (.sl R)), (87, .p (.agg [.val (.int .u64 0), .sl (strs [([], 0)]), .sl (strs [([], 0)])])), (8, .ptr 8 0)], s := [(6, .box 33 ([.val (.int .i64 1), .val (.int .i64 8), .sl R, .val (.int .u64 0), .sl (strs [([], 0)]), .sl (strs [([], 0)])].map AV.p)), (8, .box 33 ([.val (.int .i64 0), .val (.int .i64 0), .val (.slice none 0 0), .val (.int .u64 0), .val (.slice none 0 0), .val (.slice none 0 0)].map AV.p))] }) ?_ H379
            refine zN (is := [0, 5, 6, 81, 82, 86, 83, 87, 8]) (js := [6, 8]) ?_ ?_
            case refine_1 =>
              repeat' first | exact zW.nil | apply zW.p rfl | apply zW.ptr rfl | apply zW.own rfl | apply zW.ag rfl
            case refine_2 =>
              repeat' first | exact zX.nil | apply zX.boxP rfl rfl | apply zX.yG rfl | (apply zX.at0; exact zK rfl (H.nk _).1 (by repeat' fail)) | (apply zX.at1; exact zK rfl (H.nk _).2.1 (by repeat' fail)) | (apply zX.at2; exact zK rfl (H.nk _).2.2 (by repeat' fail)) | apply zX.some rfl | apply zX.skip
        refine DGo.share (fu' := 6) (D' := [9, 3, 6, 2, 1]) (F' := { t := [(0, .p (.sl (byts l))), (5, .p (.val (.bool true))), (6, .ptr 6 0), (81, .ptr 6 (0 + 0)), (82, .ptr 6 (0 + 0 + 2)), (86, .ptr 6 (0 + 3)), (83, .p (.sl R)), (8, .ptr 8 0)], s := [(6, .box 33 ([.val (.int .i64 1), .val (.int .i64 8), .sl R, .val (.int .u64 0), .sl (strs [([], 0)]), .sl (strs [([], 0)])].map AV.p)), (8, .box 33 ([.val (.int .i64 0), .val (.int .i64 0), .val (.slice none 0 0), .val (.int .u64 0), .val (.slice none 0 0), .val (.slice none 0 0)].map AV.p))] }) ?H39 (fun H39 => ?_)
        case H39 =>
          refine DGo.all [0, 7] (by kernel_rfl) ?_
          refine yV.cons ?_ (yV.cons ?_ (yV.nil))
          · refine yK.at_ 0 ?_
            refine yK.m rfl rfl rfl (vI rfl rfl (by decide)) ?_
            refine DGo.subp (by kernel_rfl) (S' := { t := [(0, .p (.sl (byts l))), (5, .p (.val (.bool true))), (6, .ptr 6 0), (81, .ptr 6 (0 + 0)), (82, .ptr 6 (0 + 0 + 2)), (86, .ptr 6 (0 + 3)), (80, .own 80), (83, .p (.sl R)), (8, .ptr 8 0)], s := [(6, .box 33 ([.val (.int .i64 1), .val (.int .i64 8), .sl R, .val (.int .u64 0), .sl (strs [([], 0)]), .sl (strs [([], 0)])].map AV.p)), (80, yS 27 1 []), (8, .box 33 ([.val (.int .i64 0), .val (.int .i64 0), .val (.slice none 0 0), .val (.int .u64 0), .val (.slice none 0 0), .val (.slice none 0 0)].map AV.p))] }) ?_ H039
            refine zN (is := [0, 5, 6, 81, 82, 86, 80, 83, 8]) (js := [6, 80, 8]) ?_ ?_
            case refine_1 =>
              repeat' first | exact zW.nil | apply zW.p rfl | apply zW.ptr rfl | apply zW.own rfl | apply zW.ag rfl
            case refine_2 =>
              repeat' first | exact zX.nil | apply zX.boxP rfl rfl | apply zX.yG rfl | (apply zX.at0; exact zK rfl (H.nk _).1 (by repeat' fail)) | (apply zX.at1; exact zK rfl (H.nk _).2.1 (by repeat' fail)) | (apply zX.at2; exact zK rfl (H.nk _).2.2 (by repeat' fail)) | apply zX.some rfl | apply zX.skip
          · refine yK.at_ 7 ?_
            refine yK.v rfl rfl rfl (zR rfl rfl rfl (by rfl) (by rfl) rfl (by decide)) ?_
            refine DGo.subp (by kernel_rfl) (S' := { t := [(0, .p (.sl (byts l))), (5, .p (.val (.bool true))), (6, .ptr 6 0), (81, .ptr 6 (0 + 0)), (82, .ptr 6 (0 + 0 + 2)), (86, .ptr 6 (0 + 3)), (83, .p (.sl R)), (87, .p (.agg [.val (.int .u64 0), .sl (strs [([], 0)]), .sl (strs [([], 0)])])), (8, .ptr 8 0)], s := [(6, .box 33 ([.val (.int .i64 1), .val (.int .i64 8), .sl R, .val (.int .u64 0), .sl (strs [([], 0)]), .sl (strs [([], 0)])].map AV.p)), (8, .box 33 ([.val (.int .i64 0), .val (.int .i64 0), .val (.slice none 0 0), .val (.int .u64 0), .val (.slice none 0 0), .val (.slice none 0 0)].map AV.p))] }) ?_ H379
            refine zN (is := [0, 5, 6, 81, 82, 86, 83, 87, 8]) (js := [6, 8]) ?_ ?_
            case refine_1 =>
              repeat' first | exact zW.nil | apply zW.p rfl | apply zW.ptr rfl | apply zW.own rfl | apply zW.ag rfl
            case refine_2 =>
              repeat' first | exact zX.nil | apply zX.boxP rfl rfl | apply zX.yG rfl | (apply zX.at0; exact zK rfl (H.nk _).1 (by repeat' fail)) | (apply zX.at1; exact zK rfl (H.nk _).2.1 (by repeat' fail)) | (apply zX.at2; exact zK rfl (H.nk _).2.2 (by repeat' fail)) | apply zX.some rfl | apply zX.skip
        refine DGo.share (fu' := 6) (D' := [9, 7, 6, 2, 1]) (F' := { t := [(0, .p (.sl (byts l))), (5, .p (.val (.bool true))), (6, .ptr 6 0), (81, .ptr 6 (0 + 0)), (82, .ptr 6 (0 + 0 + 2)), (86, .ptr 6 (0 + 3)), (87, .p (.agg [.val (.int .u64 0), .sl (strs [([], 0)]), .sl (strs [([], 0)])])), (8, .ptr 8 0)], s := [(6, .box 33 ([.val (.int .i64 1), .val (.int .i64 8), .sl R, .val (.int .u64 0), .sl (strs [([], 0)]), .sl (strs [([], 0)])].map AV.p)), (8, .box 33 ([.val (.int .i64 0), .val (.int .i64 0), .val (.slice none 0 0), .val (.int .u64 0), .val (.slice none 0 0), .val (.slice none 0 0)].map AV.p))] }) ?H79 (fun H79 => ?_)
        case H79 =>
          refine DGo.all [0, 3] (by kernel_rfl) ?_
          refine yV.cons ?_ (yV.cons ?_ (yV.nil))
          · refine yK.at_ 0 ?_
            refine yK.m rfl rfl rfl (vI rfl rfl (by decide)) ?_
            refine DGo.subp (by kernel_rfl) (S' := { t := [(0, .p (.sl (byts l))), (5, .p (.val (.bool true))), (6, .ptr 6 0), (81, .ptr 6 (0 + 0)), (82, .ptr 6 (0 + 0 + 2)), (86, .ptr 6 (0 + 3)), (80, .own 80), (87, .p (.agg [.val (.int .u64 0), .sl (strs [([], 0)]), .sl (strs [([], 0)])])), (8, .ptr 8 0)], s := [(6, .box 33 ([.val (.int .i64 1), .val (.int .i64 8), .sl R, .val (.int .u64 0), .sl (strs [([], 0)]), .sl (strs [([], 0)])].map AV.p)), (80, yS 27 1 []), (8, .box 33 ([.val (.int .i64 0), .val (.int .i64 0), .val (.slice none 0 0), .val (.int .u64 0), .val (.slice none 0 0), .val (.slice none 0 0)].map AV.p))] }) ?_ H079
            refine zN (is := [0, 5, 6, 81, 82, 86, 80, 87, 8]) (js := [6, 80, 8]) ?_ ?_
            case refine_1 =>
              repeat' first | exact zW.nil | apply zW.p rfl | apply zW.ptr rfl | apply zW.own rfl | apply zW.ag rfl
            case refine_2 =>
              repeat' first | exact zX.nil | apply zX.boxP rfl rfl | apply zX.yG rfl | (apply zX.at0; exact zK rfl (H.nk _).1 (by repeat' fail)) | (apply zX.at1; exact zK rfl (H.nk _).2.1 (by repeat' fail)) | (apply zX.at2; exact zK rfl (H.nk _).2.2 (by repeat' fail)) | apply zX.some rfl | apply zX.skip
          · refine yK.at_ 3 ?_
            refine yK.v rfl rfl rfl (zD rfl rfl rfl rfl rfl (by decide)) ?_
            refine DGo.subp (by kernel_rfl) (S' := { t := [(0, .p (.sl (byts l))), (5, .p (.val (.bool true))), (6, .ptr 6 0), (81, .ptr 6 (0 + 0)), (82, .ptr 6 (0 + 0 + 2)), (86, .ptr 6 (0 + 3)), (83, .p (.sl R)), (87, .p (.agg [.val (.int .u64 0), .sl (strs [([], 0)]), .sl (strs [([], 0)])])), (8, .ptr 8 0)], s := [(6, .box 33 ([.val (.int .i64 1), .val (.int .i64 8), .sl R, .val (.int .u64 0), .sl (strs [([], 0)]), .sl (strs [([], 0)])].map AV.p)), (8, .box 33 ([.val (.int .i64 0), .val (.int .i64 0), .val (.slice none 0 0), .val (.int .u64 0), .val (.slice none 0 0), .val (.slice none 0 0)].map AV.p))] }) ?_ H379
            refine zN (is := [0, 5, 6, 81, 82, 86, 83, 87, 8]) (js := [6, 8]) ?_ ?_
            case refine_1 =>
              repeat' first | exact zW.nil | apply zW.p rfl | apply zW.ptr rfl | apply zW.own rfl | apply zW.ag rfl
            case refine_2 =>
              repeat' first | exact zX.nil | apply zX.boxP rfl rfl | apply zX.yG rfl | (apply zX.at0; exact zK rfl (H.nk _).1 (by repeat' fail)) | (apply zX.at1; exact zK rfl (H.nk _).2.1 (by repeat' fail)) | (apply zX.at2; exact zK rfl (H.nk _).2.2 (by repeat' fail)) | apply zX.some rfl | apply zX.skip
        refine DGo.share (fu' := 7) (D' := [0, 6, 2, 1]) (F' := { t := [(0, .p (.sl (byts l))), (5, .p (.val (.bool true))), (6, .ptr 6 0), (81, .ptr 6 (0 + 0)), (82, .ptr 6 (0 + 0 + 2)), (86, .ptr 6 (0 + 3)), (80, .own 80)], s := [(6, .box 33 ([.val (.int .i64 1), .val (.int .i64 8), .sl R, .val (.int .u64 0), .sl (strs [([], 0)]), .sl (strs [([], 0)])].map AV.p)), (80, yS 27 1 [])] }) ?H0 (fun H0 => ?_)
        case H0 =>
          refine DGo.all [3, 7, 9] (by kernel_rfl) ?_
          refine yV.cons ?_ (yV.cons ?_ (yV.cons ?_ (yV.nil)))
          · refine yK.at_ 3 ?_
            refine yK.v rfl rfl rfl (zD rfl rfl rfl rfl rfl (by decide)) ?_
            refine DGo.subp (by kernel_rfl) (S' := { t := [(0, .p (.sl (byts l))), (5, .p (.val (.bool true))), (6, .ptr 6 0), (81, .ptr 6 (0 + 0)), (82, .ptr 6 (0 + 0 + 2)), (86, .ptr 6 (0 + 3)), (80, .own 80), (83, .p (.sl R))], s := [(6, .box 33 ([.val (.int .i64 1), .val (.int .i64 8), .sl R, .val (.int .u64 0), .sl (strs [([], 0)]), .sl (strs [([], 0)])].map AV.p)), (80, yS 27 1 [])] }) ?_ H03
            refine zN (is := [0, 5, 6, 81, 82, 86, 80, 83]) (js := [6, 80]) ?_ ?_
            case refine_1 =>
              repeat' first | exact zW.nil | apply zW.p rfl | apply zW.ptr rfl | apply zW.own rfl | apply zW.ag rfl
            case refine_2 =>
              repeat' first | exact zX.nil | apply zX.boxP rfl rfl | apply zX.yG rfl | (apply zX.at0; exact zK rfl (H.nk _).1 (by repeat' fail)) | (apply zX.at1; exact zK rfl (H.nk _).2.1 (by repeat' fail)) | (apply zX.at2; exact zK rfl (H.nk _).2.2 (by repeat' fail)) | apply zX.some rfl | apply zX.skip
          · refine yK.at_ 7 ?_
            refine yK.v rfl rfl rfl (zR rfl rfl rfl (by rfl) (by rfl) rfl (by decide)) ?_
            refine DGo.subp (by kernel_rfl) (S' := { t := [(0, .p (.sl (byts l))), (5, .p (.val (.bool true))), (6, .ptr 6 0), (81, .ptr 6 (0 + 0)), (82, .ptr 6 (0 + 0 + 2)), (86, .ptr 6 (0 + 3)), (80, .own 80), (87, .p (.agg [.val (.int .u64 0), .sl (strs [([], 0)]), .sl (strs [([], 0)])]))], s := [(6, .box 33 ([.val (.int .i64 1), .val (.int .i64 8), .sl R, .val (.int .u64 0), .sl (strs [([], 0)]), .sl (strs [([], 0)])].map AV.p)), (80, yS 27 1 [])] }) ?_ H07
            refine zN (is := [0, 5, 6, 81, 82, 86, 80, 87]) (js := [6, 80]) ?_ ?_
            case refine_1 =>
              repeat' first | exact zW.nil | apply zW.p rfl | apply zW.ptr rfl | apply zW.own rfl | apply zW.ag rfl
            case refine_2 =>
              repeat' first | exact zX.nil | apply zX.boxP rfl rfl | apply zX.yG rfl | (apply zX.at0; exact zK rfl (H.nk _).1 (by repeat' fail)) | (apply zX.at1; exact zK rfl (H.nk _).2.1 (by repeat' fail)) | (apply zX.at2; exact zK rfl (H.nk _).2.2 (by repeat' fail)) | apply zX.some rfl | apply zX.skip
          · refine yK.at_ 9 ?_
            refine yK.m rfl rfl rfl (yQ rfl (by decide) rfl (by decide)) ?_
            refine DGo.subp (by kernel_rfl) (S' := { t := [(0, .p (.sl (byts l))), (5, .p (.val (.bool true))), (6, .ptr 6 0), (81, .ptr 6 (0 + 0)), (82, .ptr 6 (0 + 0 + 2)), (86, .ptr 6 (0 + 3)), (80, .own 80), (8, .ptr 8 0)], s := [(6, .box 33 ([.val (.int .i64 1), .val (.int .i64 8), .sl R, .val (.int .u64 0), .sl (strs [([], 0)]), .sl (strs [([], 0)])].map AV.p)), (80, yS 27 1 []), (8, .box 33 ([.val (.int .i64 0), .val (.int .i64 0), .val (.slice none 0 0), .val (.int .u64 0), .val (.slice none 0 0), .val (.slice none 0 0)].map AV.p))] }) ?_ H09
            refine zN (is := [0, 5, 6, 81, 82, 86, 80, 8]) (js := [6, 80, 8]) ?_ ?_
            case refine_1 =>
              repeat' first | exact zW.nil | apply zW.p rfl | apply zW.ptr rfl | apply zW.own rfl | apply zW.ag rfl
            case refine_2 =>
              repeat' first | exact zX.nil | apply zX.boxP rfl rfl | apply zX.yG rfl | (apply zX.at0; exact zK rfl (H.nk _).1 (by repeat' fail)) | (apply zX.at1; exact zK rfl (H.nk _).2.1 (by repeat' fail)) | (apply zX.at2; exact zK rfl (H.nk _).2.2 (by repeat' fail)) | apply zX.some rfl | apply zX.skip
        refine DGo.share (fu' := 7) (D' := [3, 6, 2, 1]) (F' := { t := [(0, .p (.sl (byts l))), (5, .p (.val (.bool true))), (6, .ptr 6 0), (81, .ptr 6 (0 + 0)), (82, .ptr 6 (0 + 0 + 2)), (86, .ptr 6 (0 + 3)), (83, .p (.sl R))], s := [(6, .box 33 ([.val (.int .i64 1), .val (.int .i64 8), .sl R, .val (.int .u64 0), .sl (strs [([], 0)]), .sl (strs [([], 0)])].map AV.p))] }) ?H3 (fun H3 => ?_)
        case H3 =>
          refine DGo.all [0, 7, 9] (by kernel_rfl) ?_
          refine yV.cons ?_ (yV.cons ?_ (yV.cons ?_ (yV.nil)))
          · refine yK.at_ 0 ?_
            refine yK.m rfl rfl rfl (vI rfl rfl (by decide)) ?_
            refine DGo.subp (by kernel_rfl) (S' := { t := [(0, .p (.sl (byts l))), (5, .p (.val (.bool true))), (6, .ptr 6 0), (81, .ptr 6 (0 + 0)), (82, .ptr 6 (0 + 0 + 2)), (86, .ptr 6 (0 + 3)), (80, .own 80), (83, .p (.sl R))], s := [(6, .box 33 ([.val (.int .i64 1), .val (.int .i64 8), .sl R, .val (.int .u64 0), .sl (strs [([], 0)]), .sl (strs [([], 0)])].map AV.p)), (80, yS 27 1 [])] }) ?_ H03
            refine zN (is := [0, 5, 6, 81, 82, 86, 80, 83]) (js := [6, 80]) ?_ ?_
            case refine_1 =>
              repeat' first | exact zW.nil | apply zW.p rfl | apply zW.ptr rfl | apply zW.own rfl | apply zW.ag rfl
            case refine_2 =>
              repeat' first | exact zX.nil | apply zX.boxP rfl rfl | apply zX.yG rfl | (apply zX.at0; exact zK rfl (H.nk _).1 (by repeat' fail)) | (apply zX.at1; exact zK rfl (H.nk _).2.1 (by repeat' fail)) | (apply zX.at2; exact zK rfl (H.nk _).2.2 (by repeat' fail)) | apply zX.some rfl | apply zX.skip
          · refine yK.at_ 7 ?_
            refine yK.v rfl rfl rfl (zR rfl rfl rfl (by rfl) (by rfl) rfl (by decide)) ?_
            refine DGo.subp (by kernel_rfl) (S' := { t := [(0, .p (.sl (byts l))), (5, .p (.val (.bool true))), (6, .ptr 6 0), (81, .ptr 6 (0 + 0)), (82, .ptr 6 (0 + 0 + 2)), (86, .ptr 6 (0 + 3)), (83, .p (.sl R)), (87, .p (.agg [.val (.int .u64 0), .sl (strs [([], 0)]), .sl (strs [([], 0)])]))], s := [(6, .box 33 ([.val (.int .i64 1), .val (.int .i64 8), .sl R, .val (.int .u64 0), .sl (strs [([], 0)]), .sl (strs [([], 0)])].map AV.p))] }) ?_ H37
            refine zN (is := [0, 5, 6, 81, 82, 86, 83, 87]) (js := [6]) ?_ ?_
            case refine_1 =>
              repeat' first | exact zW.nil | apply zW.p rfl | apply zW.ptr rfl | apply zW.own rfl | apply zW.ag rfl
            case refine_2 =>
              repeat' first | exact zX.nil | apply zX.boxP rfl rfl | apply zX.yG rfl | (apply zX.at0; exact zK rfl (H.nk _).1 (by repeat' fail)) | (apply zX.at1; exact zK rfl (H.nk _).2.1 (by repeat' fail)) | (apply zX.at2; exact zK rfl (H.nk _).2.2 (by repeat' fail)) | apply zX.some rfl | apply zX.skip
          · refine yK.at_ 9 ?_
            refine yK.m rfl rfl rfl (yQ rfl (by decide) rfl (by decide)) ?_
            refine DGo.subp (by kernel_rfl) (S' := { t := [(0, .p (.sl (byts l))), (5, .p (.val (.bool true))), (6, .ptr 6 0), (81, .ptr 6 (0 + 0)), (82, .ptr 6 (0 + 0 + 2)), (86, .ptr 6 (0 + 3)), (83, .p (.sl R)), (8, .ptr 8 0)], s := [(6, .box 33 ([.val (.int .i64 1), .val (.int .i64 8), .sl R, .val (.int .u64 0), .sl (strs [([], 0)]), .sl (strs [([], 0)])].map AV.p)), (8, .box 33 ([.val (.int .i64 0), .val (.int .i64 0), .val (.slice none 0 0), .val (.int .u64 0), .val (.slice none 0 0), .val (.slice none 0 0)].map AV.p))] }) ?_ H39
            refine zN (is := [0, 5, 6, 81, 82, 86, 83, 8]) (js := [6, 8]) ?_ ?_
            case refine_1 =>
              repeat' first | exact zW.nil | apply zW.p rfl | apply zW.ptr rfl | apply zW.own rfl | apply zW.ag rfl
            case refine_2 =>
              repeat' first | exact zX.nil | apply zX.boxP rfl rfl | apply zX.yG rfl | (apply zX.at0; exact zK rfl (H.nk _).1 (by repeat' fail)) | (apply zX.at1; exact zK rfl (H.nk _).2.1 (by repeat' fail)) | (apply zX.at2; exact zK rfl (H.nk _).2.2 (by repeat' fail)) | apply zX.some rfl | apply zX.skip
        refine DGo.share (fu' := 7) (D' := [7, 6, 2, 1]) (F' := { t := [(0, .p (.sl (byts l))), (5, .p (.val (.bool true))), (6, .ptr 6 0), (81, .ptr 6 (0 + 0)), (82, .ptr 6 (0 + 0 + 2)), (86, .ptr 6 (0 + 3)), (87, .p (.agg [.val (.int .u64 0), .sl (strs [([], 0)]), .sl (strs [([], 0)])]))], s := [(6, .box 33 ([.val (.int .i64 1), .val (.int .i64 8), .sl R, .val (.int .u64 0), .sl (strs [([], 0)]), .sl (strs [([], 0)])].map AV.p))] }) ?H7 (fun H7 => ?_)
        case H7 =>
          refine DGo.all [0, 3, 9] (by kernel_rfl) ?_
          refine yV.cons ?_ (yV.cons ?_ (yV.cons ?_ (yV.nil)))
          · refine yK.at_ 0 ?_
            refine yK.m rfl rfl rfl (vI rfl rfl (by decide)) ?_
            refine DGo.subp (by kernel_rfl) (S' := { t := [(0, .p (.sl (byts l))), (5, .p (.val (.bool true))), (6, .ptr 6 0), (81, .ptr 6 (0 + 0)), (82, .ptr 6 (0 + 0 + 2)), (86, .ptr 6 (0 + 3)), (80, .own 80), (87, .p (.agg [.val (.int .u64 0), .sl (strs [([], 0)]), .sl (strs [([], 0)])]))], s := [(6, .box 33 ([.val (.int .i64 1), .val (.int .i64 8), .sl R, .val (.int .u64 0), .sl (strs [([], 0)]), .sl (strs [([], 0)])].map AV.p)), (80, yS 27 1 [])] }) ?_ H07
            refine zN (is := [0, 5, 6, 81, 82, 86, 80, 87]) (js := [6, 80]) ?_ ?_
            case refine_1 =>
              repeat' first | exact zW.nil | apply zW.p rfl | apply zW.ptr rfl | apply zW.own rfl | apply zW.ag rfl
            case refine_2 =>
              repeat' first | exact zX.nil | apply zX.boxP rfl rfl | apply zX.yG rfl | (apply zX.at0; exact zK rfl (H.nk _).1 (by repeat' fail)) | (apply zX.at1; exact zK rfl (H.nk _).2.1 (by repeat' fail)) | (apply zX.at2; exact zK rfl (H.nk _).2.2 (by repeat' fail)) | apply zX.some rfl | apply zX.skip
          · refine yK.at_ 3 ?_
            refine yK.v rfl rfl rfl (zD rfl rfl rfl rfl rfl (by decide)) ?_
            refine DGo.subp (by kernel_rfl) (S' := { t := [(0, .p (.sl (byts l))), (5, .p (.val (.bool true))), (6, .ptr 6 0), (81, .ptr 6 (0 + 0)), (82, .ptr 6 (0 + 0 + 2)), (86, .ptr 6 (0 + 3)), (83, .p (.sl R)), (87, .p (.agg [.val (.int .u64 0), .sl (strs [([], 0)]), .sl (strs [([], 0)])]))], s := [(6, .box 33 ([.val (.int .i64 1), .val (.int .i64 8), .sl R, .val (.int .u64 0), .sl (strs [([], 0)]), .sl (strs [([], 0)])].map AV.p))] }) ?_ H37
            refine zN (is := [0, 5, 6, 81, 82, 86, 83, 87]) (js := [6]) ?_ ?_
            case refine_1 =>
              repeat' first | exact zW.nil | apply zW.p rfl | apply zW.ptr rfl | apply zW.own rfl | apply zW.ag rfl
            case refine_2 =>
              repeat' first | exact zX.nil | apply zX.boxP rfl rfl | apply zX.yG rfl | (apply zX.at0; exact zK rfl (H.nk _).1 (by repeat' fail)) | (apply zX.at1; exact zK rfl (H.nk _).2.1 (by repeat' fail)) | (apply zX.at2; exact zK rfl (H.nk _).2.2 (by repeat' fail)) | apply zX.some rfl | apply zX.skip
          · refine yK.at_ 9 ?_
            refine yK.m rfl rfl rfl (yQ rfl (by decide) rfl (by decide)) ?_
            refine DGo.subp (by kernel_rfl) (S' := { t := [(0, .p (.sl (byts l))), (5, .p (.val (.bool true))), (6, .ptr 6 0), (81, .ptr 6 (0 + 0)), (82, .ptr 6 (0 + 0 + 2)), (86, .ptr 6 (0 + 3)), (87, .p (.agg [.val (.int .u64 0), .sl (strs [([], 0)]), .sl (strs [([], 0)])])), (8, .ptr 8 0)], s := [(6, .box 33 ([.val (.int .i64 1), .val (.int .i64 8), .sl R, .val (.int .u64 0), .sl (strs [([], 0)]), .sl (strs [([], 0)])].map AV.p)), (8, .box 33 ([.val (.int .i64 0), .val (.int .i64 0), .val (.slice none 0 0), .val (.int .u64 0), .val (.slice none 0 0), .val (.slice none 0 0)].map AV.p))] }) ?_ H79
            refine zN (is := [0, 5, 6, 81, 82, 86, 87, 8]) (js := [6, 8]) ?_ ?_
            case refine_1 =>
              repeat' first | exact zW.nil | apply zW.p rfl | apply zW.ptr rfl | apply zW.own rfl | apply zW.ag rfl
            case refine_2 =>
              repeat' first | exact zX.nil | apply zX.boxP rfl rfl | apply zX.yG rfl | (apply zX.at0; exact zK rfl (H.nk _).1 (by repeat' fail)) | (apply zX.at1; exact zK rfl (H.nk _).2.1 (by repeat' fail)) | (apply zX.at2; exact zK rfl (H.nk _).2.2 (by repeat' fail)) | apply zX.some rfl | apply zX.skip
        refine DGo.share (fu' := 7) (D' := [9, 6, 2, 1]) (F' := { t := [(0, .p (.sl (byts l))), (5, .p (.val (.bool true))), (6, .ptr 6 0), (81, .ptr 6 (0 + 0)), (82, .ptr 6 (0 + 0 + 2)), (86, .ptr 6 (0 + 3)), (8, .ptr 8 0)], s := [(6, .box 33 ([.val (.int .i64 1), .val (.int .i64 8), .sl R, .val (.int .u64 0), .sl (strs [([], 0)]), .sl (strs [([], 0)])].map AV.p)), (8, .box 33 ([.val (.int .i64 0), .val (.int .i64 0), .val (.slice none 0 0), .val (.int .u64 0), .val (.slice none 0 0), .val (.slice none 0 0)].map AV.p))] }) ?H9 (fun H9 => ?_)
        case H9 =>
          refine DGo.all [0, 3, 7] (by kernel_rfl) ?_
          refine yV.cons ?_ (yV.cons ?_ (yV.cons ?_ (yV.nil)))
          · refine yK.at_ 0 ?_
            refine yK.m rfl rfl rfl (vI rfl rfl (by decide)) ?_
            refine DGo.subp (by kernel_rfl) (S' := { t := [(0, .p (.sl (byts l))), (5, .p (.val (.bool true))), (6, .ptr 6 0), (81, .ptr 6 (0 + 0)), (82, .ptr 6 (0 + 0 + 2)), (86, .ptr 6 (0 + 3)), (80, .own 80), (8, .ptr 8 0)], s := [(6, .box 33 ([.val (.int .i64 1), .val (.int .i64 8), .sl R, .val (.int .u64 0), .sl (strs [([], 0)]), .sl (strs [([], 0)])].map AV.p)), (80, yS 27 1 []), (8, .box 33 ([.val (.int .i64 0), .val (.int .i64 0), .val (.slice none 0 0), .val (.int .u64 0), .val (.slice none 0 0), .val (.slice none 0 0)].map AV.p))] }) ?_ H09
            refine zN (is := [0, 5, 6, 81, 82, 86, 80, 8]) (js := [6, 80, 8]) ?_ ?_
            case refine_1 =>
              repeat' first | exact zW.nil | apply zW.p rfl | apply zW.ptr rfl | apply zW.own rfl | apply zW.ag rfl
            case refine_2 =>
              repeat' first | exact zX.nil | apply zX.boxP rfl rfl | apply zX.yG rfl | (apply zX.at0; exact zK rfl (H.nk _).1 (by repeat' fail)) | (apply zX.at1; exact zK rfl (H.nk _).2.1 (by repeat' fail)) | (apply zX.at2; exact zK rfl (H.nk _).2.2 (by repeat' fail)) | apply zX.some rfl | apply zX.skip
          · refine yK.at_ 3 ?_
            refine yK.v rfl rfl rfl (zD rfl rfl rfl rfl rfl (by decide)) ?_
            refine DGo.subp (by kernel_rfl) (S' := { t := [(0, .p (.sl (byts l))), (5, .p (.val (.bool true))), (6, .ptr 6 0), (81, .ptr 6 (0 + 0)), (82, .ptr 6 (0 + 0 + 2)), (86, .ptr 6 (0 + 3)), (83, .p (.sl R)), (8, .ptr 8 0)], s := [(6, .box 33 ([.val (.int .i64 1), .val (.int .i64 8), .sl R, .val (.int .u64 0), .sl (strs [([], 0)]), .sl (strs [([], 0)])].map AV.p)), (8, .box 33 ([.val (.int .i64 0), .val (.int .i64 0), .val (.slice none 0 0), .val (.int .u64 0), .val (.slice none 0 0), .val (.slice none 0 0)].map AV.p))] }) ?_ H39
            refine zN (is := [0, 5, 6, 81, 82, 86, 83, 8]) (js := [6, 8]) ?_ ?_
            case refine_1 =>
              repeat' first | exact zW.nil | apply zW.p rfl | apply zW.ptr rfl | apply zW.own rfl | apply zW.ag rfl
            case refine_2 =>
              repeat' first | exact zX.nil | apply zX.boxP rfl rfl | apply zX.yG rfl | (apply zX.at0; exact zK rfl (H.nk _).1 (by repeat' fail)) | (apply zX.at1; exact zK rfl (H.nk _).2.1 (by repeat' fail)) | (apply zX.at2; exact zK rfl (H.nk _).2.2 (by repeat' fail)) | apply zX.some rfl | apply zX.skip
          · refine yK.at_ 7 ?_
            refine yK.v rfl rfl rfl (zR rfl rfl rfl (by rfl) (by rfl) rfl (by decide)) ?_
            refine DGo.subp (by kernel_rfl) (S' := { t := [(0, .p (.sl (byts l))), (5, .p (.val (.bool true))), (6, .ptr 6 0), (81, .ptr 6 (0 + 0)), (82, .ptr 6 (0 + 0 + 2)), (86, .ptr 6 (0 + 3)), (87, .p (.agg [.val (.int .u64 0), .sl (strs [([], 0)]), .sl (strs [([], 0)])])), (8, .ptr 8 0)], s := [(6, .box 33 ([.val (.int .i64 1), .val (.int .i64 8), .sl R, .val (.int .u64 0), .sl (strs [([], 0)]), .sl (strs [([], 0)])].map AV.p)), (8, .box 33 ([.val (.int .i64 0), .val (.int .i64 0), .val (.slice none 0 0), .val (.int .u64 0), .val (.slice none 0 0), .val (.slice none 0 0)].map AV.p))] }) ?_ H79
            refine zN (is := [0, 5, 6, 81, 82, 86, 87, 8]) (js := [6, 8]) ?_ ?_
            case refine_1 =>
              repeat' first | exact zW.nil | apply zW.p rfl | apply zW.ptr rfl | apply zW.own rfl | apply zW.ag rfl
            case refine_2 =>
              repeat' first | exact zX.nil | apply zX.boxP rfl rfl | apply zX.yG rfl | (apply zX.at0; exact zK rfl (H.nk _).1 (by repeat' fail)) | (apply zX.at1; exact zK rfl (H.nk _).2.1 (by repeat' fail)) | (apply zX.at2; exact zK rfl (H.nk _).2.2 (by repeat' fail)) | apply zX.some rfl | apply zX.skip
        refine DGo.share (fu' := 8) (D' := [6, 2, 1]) (F' := { t := [(0, .p (.sl (byts l))), (5, .p (.val (.bool true))), (6, .ptr 6 0), (81, .ptr 6 (0 + 0)), (82, .ptr 6 (0 + 0 + 2)), (86, .ptr 6 (0 + 3))], s := [(6, .box 33 ([.val (.int .i64 1), .val (.int .i64 8), .sl R, .val (.int .u64 0), .sl (strs [([], 0)]), .sl (strs [([], 0)])].map AV.p))] }) ?H (fun H => ?_)
        case H =>
          refine DGo.all [0, 3, 7, 9] (by kernel_rfl) ?_
          refine yV.cons ?_ (yV.cons ?_ (yV.cons ?_ (yV.cons ?_ (yV.nil))))
          · refine yK.at_ 0 ?_
            refine yK.m rfl rfl rfl (vI rfl rfl (by decide)) ?_
            refine DGo.subp (by kernel_rfl) (S' := { t := [(0, .p (.sl (byts l))), (5, .p (.val (.bool true))), (6, .ptr 6 0), (81, .ptr 6 (0 + 0)), (82, .ptr 6 (0 + 0 + 2)), (86, .ptr 6 (0 + 3)), (80, .own 80)], s := [(6, .box 33 ([.val (.int .i64 1), .val (.int .i64 8), .sl R, .val (.int .u64 0), .sl (strs [([], 0)]), .sl (strs [([], 0)])].map AV.p)), (80, yS 27 1 [])] }) ?_ H0
            refine zN (is := [0, 5, 6, 81, 82, 86, 80]) (js := [6, 80]) ?_ ?_
            case refine_1 =>
              repeat' first | exact zW.nil | apply zW.p rfl | apply zW.ptr rfl | apply zW.own rfl | apply zW.ag rfl
            case refine_2 =>
              repeat' first | exact zX.nil | apply zX.boxP rfl rfl | apply zX.yG rfl | (apply zX.at0; exact zK rfl (H.nk _).1 (by repeat' fail)) | (apply zX.at1; exact zK rfl (H.nk _).2.1 (by repeat' fail)) | (apply zX.at2; exact zK rfl (H.nk _).2.2 (by repeat' fail)) | apply zX.some rfl | apply zX.skip
          · refine yK.at_ 3 ?_
            refine yK.v rfl rfl rfl (zD rfl rfl rfl rfl rfl (by decide)) ?_
            refine DGo.subp (by kernel_rfl) (S' := { t := [(0, .p (.sl (byts l))), (5, .p (.val (.bool true))), (6, .ptr 6 0), (81, .ptr 6 (0 + 0)), (82, .ptr 6 (0 + 0 + 2)), (86, .ptr 6 (0 + 3)), (83, .p (.sl R))], s := [(6, .box 33 ([.val (.int .i64 1), .val (.int .i64 8), .sl R, .val (.int .u64 0), .sl (strs [([], 0)]), .sl (strs [([], 0)])].map AV.p))] }) ?_ H3
            refine zN (is := [0, 5, 6, 81, 82, 86, 83]) (js := [6]) ?_ ?_
            case refine_1 =>
              repeat' first | exact zW.nil | apply zW.p rfl | apply zW.ptr rfl | apply zW.own rfl | apply zW.ag rfl
            case refine_2 =>
              repeat' first | exact zX.nil | apply zX.boxP rfl rfl | apply zX.yG rfl | (apply zX.at0; exact zK rfl (H.nk _).1 (by repeat' fail)) | (apply zX.at1; exact zK rfl (H.nk _).2.1 (by repeat' fail)) | (apply zX.at2; exact zK rfl (H.nk _).2.2 (by repeat' fail)) | apply zX.some rfl | apply zX.skip
          · refine yK.at_ 7 ?_
            refine yK.v rfl rfl rfl (zR rfl rfl rfl (by rfl) (by rfl) rfl (by decide)) ?_
            refine DGo.subp (by kernel_rfl) (S' := { t := [(0, .p (.sl (byts l))), (5, .p (.val (.bool true))), (6, .ptr 6 0), (81, .ptr 6 (0 + 0)), (82, .ptr 6 (0 + 0 + 2)), (86, .ptr 6 (0 + 3)), (87, .p (.agg [.val (.int .u64 0), .sl (strs [([], 0)]), .sl (strs [([], 0)])]))], s := [(6, .box 33 ([.val (.int .i64 1), .val (.int .i64 8), .sl R, .val (.int .u64 0), .sl (strs [([], 0)]), .sl (strs [([], 0)])].map AV.p))] }) ?_ H7
            refine zN (is := [0, 5, 6, 81, 82, 86, 87]) (js := [6]) ?_ ?_
            case refine_1 =>
              repeat' first | exact zW.nil | apply zW.p rfl | apply zW.ptr rfl | apply zW.own rfl | apply zW.ag rfl
            case refine_2 =>
              repeat' first | exact zX.nil | apply zX.boxP rfl rfl | apply zX.yG rfl | (apply zX.at0; exact zK rfl (H.nk _).1 (by repeat' fail)) | (apply zX.at1; exact zK rfl (H.nk _).2.1 (by repeat' fail)) | (apply zX.at2; exact zK rfl (H.nk _).2.2 (by repeat' fail)) | apply zX.some rfl | apply zX.skip
          · refine yK.at_ 9 ?_
            refine yK.m rfl rfl rfl (yQ rfl (by decide) rfl (by decide)) ?_
            refine DGo.subp (by kernel_rfl) (S' := { t := [(0, .p (.sl (byts l))), (5, .p (.val (.bool true))), (6, .ptr 6 0), (81, .ptr 6 (0 + 0)), (82, .ptr 6 (0 + 0 + 2)), (86, .ptr 6 (0 + 3)), (8, .ptr 8 0)], s := [(6, .box 33 ([.val (.int .i64 1), .val (.int .i64 8), .sl R, .val (.int .u64 0), .sl (strs [([], 0)]), .sl (strs [([], 0)])].map AV.p)), (8, .box 33 ([.val (.int .i64 0), .val (.int .i64 0), .val (.slice none 0 0), .val (.int .u64 0), .val (.slice none 0 0), .val (.slice none 0 0)].map AV.p))] }) ?_ H9
            refine zN (is := [0, 5, 6, 81, 82, 86, 8]) (js := [6, 8]) ?_ ?_
            case refine_1 =>
              repeat' first | exact zW.nil | apply zW.p rfl | apply zW.ptr rfl | apply zW.own rfl | apply zW.ag rfl
            case refine_2 =>
              repeat' first | exact zX.nil | apply zX.boxP rfl rfl | apply zX.yG rfl | (apply zX.at0; exact zK rfl (H.nk _).1 (by repeat' fail)) | (apply zX.at1; exact zK rfl (H.nk _).2.1 (by repeat' fail)) | (apply zX.at2; exact zK rfl (H.nk _).2.2 (by repeat' fail)) | apply zX.some rfl | apply zX.skip
        refine DGo.subp (by kernel_rfl) (S' := { t := [(0, .p (.sl (byts l))), (5, .p (.val (.bool true))), (6, .ptr 6 0), (81, .ptr 6 (0 + 0)), (82, .ptr 6 (0 + 0 + 2)), (86, .ptr 6 (0 + 3))], s := [(6, .box 33 ([.val (.int .i64 1), .val (.int .i64 8), .sl R, .val (.int .u64 0), .sl (strs [([], 0)]), .sl (strs [([], 0)])].map AV.p))] }) ?_ H
        refine zN (is := [0, 5, 6, 81, 82, 86]) (js := [6]) ?_ ?_
        case refine_1 =>
          repeat' first | exact zW.nil | apply zW.p rfl | apply zW.ptr rfl | apply zW.own rfl | apply zW.clo rfl | apply zW.ifp rfl | apply zW.pt rfl | apply zW.tup rfl | apply zW.skip
        case refine_2 =>
          repeat' first | exact zX.nil | apply zX.boxP rfl rfl | apply zX.yG rfl | (apply zX.at0; exact zK rfl (H.nk _).1 (by repeat' fail)) | (apply zX.at1; exact zK rfl (H.nk _).2.1 (by repeat' fail)) | (apply zX.at2; exact zK rfl (H.nk _).2.2 (by repeat' fail)) | apply zX.some rfl | apply zX.skip
      case k2 =>
        repeat' (first | (refine zY.is ?_; first | refine zY.nil ?_ | (refine zY.at_ 9 rfl ?_; refine zY.rc (.v v1_5 .e) ?_) | (refine zY.ofT rfl (zP.eNew [6] [301, 302] (cD) rfl (by decide) (enters_fn rfl) (by rfl) (wM (by decide) rfl (by repeat' first | exact trivial | rfl | constructor)) (by decide) rfl rfl (by decide) rfl rfl rfl ?_))) | (refine zZ.is ?_; first | refine zZ.seq ?_ | (refine zZ.isR (id := 12) ?_; refine zZ.sub ((sub_frzE 80 27 1 R rfl)) ?_; refine zZ.rc [0, 4, 5, 6, 8] [6, 8, 18, 19, 21, 22, 23, 24, 26, 28, 32, 36, 45, 62, 71, 80, 84, 89, 90, 93, 109, 115, 124, 159, 191, 210, 229, 234, 243, 251, 301, 302] (r := .e) (h := ?_)) | (refine zZ.isR (id := 13) ?_; refine zZ.rc [0, 4, 5, 6, 8, 9] [6, 8, 18, 19, 21, 22, 23, 24, 26, 28, 32, 36, 45, 62, 71, 80, 84, 89, 90, 93, 109, 115, 124, 159, 191, 210, 229, 234, 243, 251, 301, 302] (r := (.m m21_0 (.v v1_1 .e))) (h := ?_)) | (refine zZ.isR (id := 14) ?_; refine zZ.rc [0, 4, 5, 6, 8, 9, 10] [6, 8, 18, 19, 21, 22, 23, 24, 26, 28, 32, 36, 45, 62, 71, 80, 84, 89, 90, 93, 109, 115, 124, 159, 191, 210, 229, 234, 243, 251, 301, 302] (r := (.v zO .e)) (h := ?_)) | refine zZ.block ?_) | refine zS.n ?_)
        refine zZ.loop (fun y : Nat × Wd × List Bool => ldT l y.1 y.2.1 y.2.2) (fun y => y.1 ≤ l.length ∧ ∃ mm lst, LdI y.2.1 mm lst (Sk y.2.2) (600 * y.1) ∧ lst.length ≤ y.1 ∧ y.2.2.length = 9) (fun y => l.length - y.1) (0, ldW m, List.replicate 9 false) ?h1 ⟨Nat.zero_le _, m, [], hI.weak (fun r hr => hr.1), Nat.le_refl _, rfl⟩ ?rd1
        case h1 =>
          show Sub _ (ldT l 0 (ldW m) (List.replicate 9 false))
          unfold ldT
          dsimp only [Wd.pv, xB, ldW]
          rw [hRw]
          refine zN (is := [0, 5, 6, 8, 9, 10, 11]) (js := [6, 8, 90, 301, 302]) ?_ ?_
          case refine_1 =>
            repeat' first | exact zW.nil | apply zW.p rfl | apply zW.ptr rfl | apply zW.own rfl | apply zW.clo rfl | apply zW.ifp rfl | apply zW.pt rfl | apply zW.tup rfl | apply zW.skip
          case refine_2 =>
            repeat' first | exact zX.nil | apply zX.boxP rfl rfl | apply zX.yG rfl | (apply zX.at0; exact zK rfl (H.nk _).1 (by repeat' fail)) | (apply zX.at1; exact zK rfl (H.nk _).2.1 (by repeat' fail)) | (apply zX.at2; exact zK rfl (H.nk _).2.2 (by repeat' fail)) | apply zX.some rfl | apply zX.skip
        case rd1 =>
          clear cD hR g1 g2 hRl hRw R hI hld m f3 hlt hi c0 c1 f1 f2 hb hm hk ks
          rintro ⟨i, W, lk⟩ ⟨hi, m, lst, hI, hll0, hlk⟩
          dsimp only at hi hI hll0 hlk
          change zZ _ _ _ (ldT l i W lk) _
          by_cases hlt : i < l.length
          case neg =>
            have f3 : decide ((i : Int) < (l.length : Nat)) = false := decide_eq_false (by omega)
            have cS := worldSame_fn W hI.ok.len hI.ok.rows (by have := hI.r1; omega)
            clear hI
            obtain ⟨t0, u0, ws0, root0, r00, r10⟩ := W
            dsimp only [Wd.pv, xB] at cS
            unfold ldT
            repeat' (first | (refine zY.is ?_; first | refine zY.nil ?_ | (refine zY.at_ 252 rfl ?_; refine zY.rc (.v kZ (.v zO .e)) ?_) | (refine zY.in_ [251] rfl ?_; refine zY.gY rfl rfl (by decide) rfl bA rfl (by decide) (yY (cS) rfl rfl rfl (by decide)) ?_)) | (refine zZ.is ?_; first | refine zZ.seq ?_ | (refine zZ.isR (id := 15) ?_; refine zZ.rc [0, 4, 5, 6, 8, 9, 10, 11, 12, 13, 14, 15, 16, 17, 18, 19, 20, 21, 22, 23, 24, 25, 94, 152, 164, 196, 212, 230, 245] [6, 8, 18, 19, 21, 22, 23, 24, 26, 28, 32, 36, 45, 62, 71, 80, 84, 89, 90, 93, 109, 115, 124, 159, 191, 210, 229, 234, 243, 251, 301, 302] (r := (.v zB (.v zB (.v v57_0 (.v v43_0 .e))))) (h := ?_)) | (refine zZ.isR (id := 41) ?_; refine zZ.rc [4, 5, 6, 8] [6, 8, 18, 19, 21, 22, 23, 24, 26, 28, 32, 36, 45, 62, 71, 80, 84, 89, 90, 93, 109, 115, 124, 159, 191, 210, 229, 234, 243, 251, 301, 302] (r := (.v zB (.v zB (.gY xI (.gY xI .e))))) (h := ?_)) | refine zZ.y9 rfl bA ?_ | refine zZ.exit ?_ | refine zZ.ret ?_) | refine zS.n ?_ | refine yE.eY ?_ | refine zS.e ?_)
            all_goals exact ⟨by first | exact .inl rfl | exact .inr rfl, _, Sub.refl _, .p rfl (.tmp rfl)⟩
          case pos =>
            have hgi : l.getD i 0 = l[i]'hlt := by simp [List.getD, hlt]
            have he := hl _ (List.getElem_mem hlt)
            rw [← hgi] at he
            have y0 : (0 : Int) ≤ (i : Int) ∧ (i : Int) < ((l.length : Nat) : Int) := by omega
            generalize hge : l.getD i 0 = e at *
            have hge : l.getD ((i : Int)).toNat 0 = e := hge
            clear hgi
            have f3 : decide ((i : Int) < (l.length : Nat)) = true := decide_eq_true (by omega)
            have g1 : IntKind.i64.wrap ((i : Int) + 1) = ((i + 1 : Nat) : Int) := by rw [wrap_i64 _ (by omega)]; omega
            have y1 : IntKind.i64.wrap e = e := wrap_i64 _ (by omega)
            have y2 : IntKind.i64.wrap (e.tdiv 8) = e / 8 := by rw [Int.tdiv_eq_ediv_of_nonneg he.1]; exact wrap_i64 _ (by omega)
            have y3 : (e / 8).tmod 8 = e / 8 % 8 := Int.tmod_eq_emod_of_nonneg (by omega)
            obtain ⟨r, hr⟩ : ∃ r, 1 + e / 8 % 8 = r := ⟨_, rfl⟩
            have hrb : 1 ≤ r ∧ r ≤ 8 := by omega
            have y4 : IntKind.i64.wrap (1 + e / 8 % 8) = r := by rw [hr]; exact wrap_i64 _ (by omega)
            have y5 : e.tmod 4 = e % 4 := Int.tmod_eq_emod_of_nonneg he.1
            have y6 : IntKind.u8.wrap (e.tdiv 64) = e / 64 := by rw [Int.tdiv_eq_ediv_of_nonneg he.1]; exact wrap_in _ (by simp only [IntKind.min, IntKind.max, IntKind.signed, IntKind.bits]; omega)
            have y7 : IntKind.u64.wrap (e / 64) = e / 64 := wrap_u64 _ (by omega)
            clear hr
            obtain ⟨pn, hpn⟩ : ∃ pn : Nat, zG 1 r 1 = (pn : Int) := ⟨(zG 1 r 1).toNat, by rw [xZ]; omega⟩
            have hpl : pn < 73 := by have := hpn; rw [xZ] at this; omega
            have c2 := qR 1 r 1 small1 (by omega) (by unfold Small; omega)
            rw [hpn] at c2
            obtain ⟨hKe, hKu⟩ := hI.word hpl
            have e2 : (wds W.ws)[pn]? = some (.val (.int .u64 (m (pn : Int)))) := wds_at hKe
            have x2 := q8 W.ws
            generalize m (pn : Int) = K at *
            clear hpn hpl hKe
            obtain ⟨W1, m1, fr, l1, l2, hI1, hl12, hcut, hp, hfd, hpb, hxb, cS⟩ := hI.search hKu (by omega)
            obtain ⟨p, x, fnd, fok⟩ := fr
            dsimp only at hcut hp hfd hpb hxb cS
            have hlr9 : r.toNat < lk.length := by omega
            have k1 : (0 : Int) ≤ r ∧ r < ((bools lk).length : Nat) := by unfold bools; rw [List.length_map]; omega
            have z1 : (!decide (x = x)) = false := by simp
            have z2 : (!decide (p = p)) = false := by simp
            have z3 : (!(fnd == fnd)) = false := by simp
            have z4 : IntKind.u64.wrap p = p := wrap_u64 _ (by omega)
            have z5 : IntKind.u64.wrap r = r := wrap_u64 _ (by omega)
            have k3 : ∀ e ∈ bools lk, e.cells = [e] := fun e he => by
              obtain ⟨b, _, rfl⟩ := List.mem_map.1 he
              rfl
            have k4 : ∀ e ∈ bools lk, e.cells.length = 1 := fun e he => by rw [k3 e he]; rfl
            have k5 : r.toNat < (bools lk).length := by unfold bools; rw [List.length_map]; exact hlr9
            obtain ⟨lkr, hlr⟩ : ∃ b, lk.getD r.toNat false = b := ⟨_, rfl⟩
            have k2 : (bools lk)[r.toNat * 1]? = some (.val (.bool lkr)) := by
              rw [Nat.mul_one, ← hlr]
              unfold bools
              rw [List.getElem?_map]
              simp [List.getD, hlr9]
            have ht4 : e % 4 = 0 ∨ e % 4 = 1 ∨ e % 4 = 2 ∨ e % 4 = 3 := by omega
            have hcS := cS
            obtain ⟨cSd, cSa⟩ := hcS
            obtain ⟨t0, u0, ws0, root0, r00, r10⟩ := W
            obtain ⟨t1, u1, ws1, root1, r01, r11⟩ := W1
            dsimp only [dwB, dpB, dmB, Wd.pv, xB] at cSd cSa e2 x2
            rcases ht4 with hte | hte | hte | hte
            case inl =>
              cases fnd
              case false =>
                cases lkr
                case false =>
                  have d0 : decide (e % 4 = 0) = true := by rw [hte]; rfl
                  have d1 : decide (e % 4 = 1) = false := by rw [hte]; rfl
                  have d2 : decide (e % 4 = 2) = false := by rw [hte]; rfl
                  obtain ⟨W2, m2, hI2, cO⟩ := hI1.link (by omega) hcut hp hpb hxb hrb ⟨hrb.2, hlr⟩ (by omega)
                  have hI2 : LdI W2 m2 (l1 ++ (r, false) :: l2) (Sk (lk.set r.toNat true)) (600 * i + 221 + 2) := hI2.weak fun q hq => sk_set hlk hrb hq
                  have hll : (l1 ++ (r, false) :: l2).length = (l1 ++ l2).length + 1 := by simp; omega
                  obtain ⟨cOd, cOa⟩ := cO
                  clear cS hI1 hI hcut
                  obtain ⟨t2, u2, ws2, root2, r02, r12⟩ := W2
                  dsimp only [dwB, dpB, dmB, Wd.pv, xB] at cOd cOa
                  have cU := outs_fn 0 true 0 0
                  have hset : (bools lk).set r.toNat (.val (.bool true)) = bools (lk.set r.toNat true) := by unfold bools; rw [List.map_set]
                  subst hge
                  unfold ldT
                  have ps_ := trivial
                  repeat' (first | (refine zY.is ?_; first | refine zY.nil ?_ | (refine zY.at_ 112 rfl ?_; refine zY.rc (.v vX (.v yF (.v yF (.v yF (.v yF (.v zO (.v zO (.v zO (.v zO .e))))))))) ?_) | (refine zY.at_ 120 rfl ?_; refine zY.rc (.v vX (.v yF (.v yF (.v yF (.m yD (.m yD (.w yZ (.w yZ (.v zO .e))))))))) ?_) | (refine zY.at_ 192 rfl ?_; refine zY.rc (.v yI (.w yZ .e)) ?_) | (refine zY.at_ 231 rfl ?_; refine zY.rc (.v vX (.v yF (.v yF (.v yF (.m yD (.m yD (.w yZ (.w yZ (.v zO .e))))))))) ?_) | (refine zY.at_ 244 rfl ?_; refine zY.rc (.gY wV (.v xL .e)) ?_) | (refine zY.in_ [124] rfl ?_; refine zY.v rfl rfl (yP (cSa) rfl rfl rfl (by decide)) ?_) | (refine zY.in_ [234] rfl ?_; refine zY.v rfl rfl (yP (cOa) rfl rfl rfl (by decide)) ?_) | (refine zY.in_ [115] rfl ?_; refine zY.ofT rfl (zP.eR [301, 302, 6] (cSd) ?_)) | (refine zY.in_ [191] rfl ?_; refine zY.ofT rfl (zP.eR [301, 302, 6] (cOd) ?_)) | (refine zY.in_ [243] rfl ?_; refine zY.gY rfl rfl (by decide) rfl bA rfl (by decide) (yY (cU) rfl rfl rfl (by decide)) ?_)) | (refine zZ.is ?_; first | refine zZ.seq ?_ | (refine zZ.isR (id := 15) ?_; refine zZ.rc [0, 4, 5, 6, 8, 9, 10, 11, 12, 13, 14, 15, 16, 17, 18, 19, 20, 21, 22, 23, 24, 25, 94, 152, 164, 196, 212, 230, 245] [6, 8, 18, 19, 21, 22, 23, 24, 26, 28, 32, 36, 45, 62, 71, 80, 84, 89, 90, 93, 109, 115, 124, 159, 191, 210, 229, 234, 243, 251, 301, 302] (r := (.v zB (.v zB (.v v57_0 (.v v43_0 .e))))) (h := ?_)) | (refine zZ.isR (id := 17) ?_; refine zZ.rc [0, 4, 5, 6, 8, 9, 10, 11, 12, 13, 14, 15, 16, 17, 18, 19, 20, 21, 22, 23, 24, 25, 94, 152, 164, 196, 212, 230, 245] [6, 8, 18, 19, 21, 22, 23, 24, 26, 28, 32, 36, 45, 62, 71, 80, 84, 89, 90, 93, 109, 115, 124, 159, 191, 210, 229, 234, 243, 251, 301, 302] (r := (.v zB (.v zB (.v v7_0 (.v vT (.v kQ (.v v33_0 (.v vK (.v vL (.v zO .e)))))))))) (h := ?_)) | (refine zZ.isR (id := 18) ?_; refine zZ.rk [0, 4, 5, 6, 8, 9, 10, 11, 12, 13, 14, 15, 16, 17, 18, 19, 20, 21, 22, 23, 24, 25, 94, 152, 164, 196, 212, 230, 245] [6, 8, 18, 19, 21, 22, 23, 24, 26, 28, 32, 36, 45, 62, 71, 80, 84, 89, 90, 93, 109, 115, 124, 159, 191, 210, 229, 234, 243, 251, 301, 302] ?_; refine zZ.draws ?_) | (refine zZ.isR (id := 19) ?_; refine zZ.rc [0, 4, 5, 6, 8, 9, 10, 11, 12, 13, 14, 15, 16, 17, 18, 19, 20, 21, 22, 23, 24, 25, 94, 152, 164, 196, 212, 230, 245] [6, 8, 18, 19, 21, 22, 23, 24, 26, 28, 32, 36, 45, 62, 71, 80, 84, 89, 90, 93, 109, 115, 124, 159, 191, 210, 229, 234, 243, 251, 301, 302] (r := (.v wC (.v zB .e))) (h := ?_)) | (refine zZ.isR (id := 20) ?_; refine zZ.rc [0, 4, 5, 6, 8, 9, 10, 11, 12, 13, 14, 15, 16, 17, 18, 19, 20, 21, 22, 23, 24, 25, 94, 152, 164, 196, 212, 230, 245] [6, 8, 18, 19, 21, 22, 23, 24, 26, 28, 32, 36, 45, 62, 71, 80, 84, 89, 90, 93, 109, 115, 124, 159, 191, 210, 229, 234, 243, 251, 301, 302] (r := (.v xI (.v zB (.v x9 .e)))) (h := ?_)) | (refine zZ.isR (id := 21) ?_; refine zZ.rc [0, 4, 5, 6, 8, 9, 10, 11, 12, 13, 14, 15, 16, 17, 18, 19, 20, 21, 22, 23, 24, 25, 94, 152, 164, 196, 212, 230, 245] [6, 8, 18, 19, 21, 22, 23, 24, 26, 28, 32, 36, 45, 62, 71, 80, 84, 89, 90, 93, 109, 115, 124, 159, 191, 210, 229, 234, 243, 251, 301, 302] (r := (.v zB (.v wV (.v zB (.gY zB (.gY wV (.v xL (.v zB (.gY yI (.gY yO (.gY zB (.gY qV (.v xL (.v zB (.gY yI (.gY yO (.gY zB (.gY kQ (.gY qV (.v xL (.v zB (.gY yI (.gY yO (.gY zB (.gY v42_9 (.v xL .e)))))))))))))))))))))))))) (h := ?_)) | (refine zZ.isR (id := 23) ?_; refine zZ.rc [0, 4, 5, 6, 8, 9, 10, 11, 12, 13, 14, 15, 16, 17, 18, 19, 20, 21, 22, 23, 24, 25, 94, 152, 164, 196, 212, 230, 245] [6, 8, 18, 19, 21, 22, 23, 24, 26, 28, 32, 36, 45, 62, 71, 80, 84, 89, 90, 93, 109, 115, 124, 159, 191, 210, 229, 234, 243, 251, 301, 302] (r := (.v zB (.v x9 (.m yD (.w yZ .e))))) (h := ?_)) | (refine zZ.isR (id := 24) ?_; refine zZ.rc [0, 4, 5, 6, 8, 9, 10, 11, 12, 13, 14, 15, 16, 17, 18, 19, 20, 21, 22, 23, 24, 25, 94, 152, 164, 196, 212, 230, 245] [6, 8, 18, 19, 21, 22, 23, 24, 26, 28, 32, 36, 45, 62, 71, 80, 84, 89, 90, 93, 109, 115, 124, 159, 191, 210, 229, 234, 243, 251, 301, 302] (r := (.v x9 (.m yD (.w yZ .e)))) (h := ?_)) | (refine zZ.isR (id := 26) ?_; refine zZ.rc [0, 4, 5, 6, 8, 9, 10, 11, 12, 13, 14, 15, 16, 17, 18, 19, 20, 21, 22, 23, 24, 25, 94, 152, 164, 196, 212, 230, 245] [6, 8, 18, 19, 21, 22, 23, 24, 26, 28, 32, 36, 45, 62, 71, 80, 84, 89, 90, 93, 109, 115, 124, 159, 191, 210, 229, 234, 243, 251, 301, 302] (r := (.v zB (.v zB (.v v7_0 (.v vT (.v vK (.v qC (.v zB (.gY zB (.gY v52_4 (.v kZ (.v zB (.gY v0_1 (.gY zB (.gY v7_38 (.gY v2_15 (.gY v52_4 (.v kZ (.v zO .e))))))))))))))))))) (h := ?_)) | (refine zZ.isR (id := 27) ?_; refine zZ.rc [0, 4, 5, 6, 8, 9, 10, 11, 12, 13, 14, 15, 16, 17, 18, 19, 20, 21, 22, 23, 24, 25, 94, 152, 164, 196, 212, 230, 245] [6, 8, 18, 19, 21, 22, 23, 24, 26, 28, 32, 36, 45, 62, 71, 80, 84, 89, 90, 93, 109, 115, 124, 159, 191, 210, 229, 234, 243, 251, 301, 302] (r := (.v zB (.v zB (.v zB (.v kQ (.v x9 (.w yZ .e))))))) (h := ?_)) | (refine zZ.isR (id := 28) ?_; refine zZ.rc [0, 4, 5, 6, 8, 9, 10, 11, 12, 13, 14, 15, 16, 17, 18, 19, 20, 21, 22, 23, 24, 25, 94, 152, 164, 196, 212, 230, 245] [6, 8, 18, 19, 21, 22, 23, 24, 26, 28, 32, 36, 45, 62, 71, 80, 84, 89, 90, 93, 109, 115, 124, 159, 191, 210, 229, 234, 243, 251, 301, 302] (r := (.v wC (.v zB (.v zB (.v zB .e))))) (h := ?_)) | (refine zZ.isR (id := 29) ?_; refine zZ.rc [0, 4, 5, 6, 8, 9, 10, 11, 12, 13, 14, 15, 16, 17, 18, 19, 20, 21, 22, 23, 24, 25, 94, 152, 164, 196, 212, 230, 245] [6, 8, 18, 19, 21, 22, 23, 24, 26, 28, 32, 36, 45, 62, 71, 80, 84, 89, 90, 93, 109, 115, 124, 159, 191, 210, 229, 234, 243, 251, 301, 302] (r := (.v v0_1 (.v zB (.v v7_38 (.w w24_1 .e))))) (h := ?_)) | (refine zZ.isR (id := 37) ?_; refine zZ.rc [0, 4, 5, 6, 8, 9, 10, 11, 12, 13, 14, 15, 16, 17, 18, 19, 20, 21, 22, 23, 24, 25, 94, 152, 164, 196, 212, 230, 245] [6, 8, 18, 19, 21, 22, 23, 24, 26, 28, 32, 36, 45, 62, 71, 80, 84, 89, 90, 93, 109, 115, 124, 159, 191, 210, 229, 234, 243, 251, 301, 302] (r := (.v xI (.v xI .e))) (h := ?_)) | (refine zZ.isR (id := 38) ?_; refine zZ.rc [0, 4, 5, 6, 8, 9, 10, 11, 12, 13, 14, 15, 16, 17, 18, 19, 20, 21, 22, 23, 24, 25, 94, 152, 164, 196, 212, 230, 245] [6, 8, 18, 19, 21, 22, 23, 24, 26, 28, 32, 36, 45, 62, 71, 80, 84, 89, 90, 93, 109, 115, 124, 159, 191, 210, 229, 234, 243, 251, 301, 302] (r := (.v zB (.v wV (.v zB (.gY xI (.gY xI .e)))))) (h := ?_)) | (refine zZ.isR (id := 40) ?_; refine zZ.rc [0, 4, 5, 6, 8, 9, 10, 11, 12, 13, 14, 15, 16, 17, 18, 19, 20, 21, 22, 23, 24, 25, 94, 152, 164, 196, 212, 230, 245] [6, 8, 18, 19, 21, 22, 23, 24, 26, 28, 32, 36, 45, 62, 71, 80, 84, 89, 90, 93, 109, 115, 124, 159, 191, 210, 229, 234, 243, 251, 301, 302] (r := (.v xI (.w yZ .e))) (h := ?_)) | (refine zZ.isR (id := 16) ?_; refine zZ.rc [0, 4, 5, 6, 8, 9, 10, 11, 12, 13, 14, 15, 16, 17, 18, 19, 20, 21, 22, 23, 24, 25, 94, 152, 164, 196, 212, 230, 245] [6, 8, 18, 19, 21, 22, 23, 24, 26, 28, 32, 36, 45, 62, 71, 80, 84, 89, 90, 93, 109, 115, 124, 159, 191, 210, 229, 234, 243, 251, 301, 302] (r := (.v zB (.v vL (.v zO .e)))) (h := ?_)) | refine zZ.xV rfl bA ?_ | refine zZ.y9 rfl bA ?_ | refine zZ.skip ?_ | refine zZ.block ?_) | refine zS.n ?_ | refine yE.n ?_ | (refine Draws.is ?_; first | refine Draws.rc (.v yI (.v yI (.v yO (.v zB .e)))) ?_ | refine Draws.rc (.v v7_18 (.v vT (.v zO .e))) ?_ | (refine Draws.in_ [109] rfl ?_; refine Draws.v rfl rfl (yY (c2) rfl rfl rfl (by decide)) ?_) | refine Draws.done (by kernel_rfl) (by kernel_rfl) (by kernel_rfl) ?_) | (refine zM.nil ?_))
                  all_goals
                    refine ⟨(i + 1, ⟨t2, u2, ws2, root2, r02, r12⟩, (lk.set r.toNat true)), ?_, ⟨by show i + 1 ≤ l.length; omega, _, _, hI2.le (by omega), by dsimp only; omega, by show (lk.set r.toNat true).length = 9; rw [List.length_set]; exact hlk⟩, by show l.length - (i + 1) < l.length - i; omega⟩
                    show Sub _ (ldT l (i + 1) ⟨t2, u2, ws2, root2, r02, r12⟩ (lk.set r.toNat true))
                    unfold ldT
                    rw [← hset]
                    refine zN (is := [0, 5, 6, 8, 9, 10, 11]) (js := [6, 8, 90, 301, 302]) ?_ ?_
                    case refine_1 =>
                      repeat' first | exact zW.nil | apply zW.p rfl | apply zW.ptr rfl | apply zW.own rfl | apply zW.clo rfl | apply zW.ifp rfl | apply zW.pt rfl | apply zW.tup rfl | apply zW.skip
                    case refine_2 =>
                      repeat' first | exact zX.nil | apply zX.boxP rfl rfl | apply zX.yG rfl | (apply zX.at0; exact zK rfl (H.nk _).1 (by repeat' fail)) | (apply zX.at1; exact zK rfl (H.nk _).2.1 (by repeat' fail)) | (apply zX.at2; exact zK rfl (H.nk _).2.2 (by repeat' fail)) | apply zX.some rfl | apply zX.skip
                case true =>
                  have d0 : decide (e % 4 = 0) = true := by rw [hte]; rfl
                  have d1 : decide (e % 4 = 1) = false := by rw [hte]; rfl
                  have d2 : decide (e % 4 = 2) = false := by rw [hte]; rfl
                  obtain ⟨W2, m2, x3, is3, hI2, cO⟩ := hI1.seek hKu (by omega)
                  have hll := hl12
                  obtain ⟨cOd, cOa⟩ := cO
                  clear cS hI1 hI hcut
                  obtain ⟨t2, u2, ws2, root2, r02, r12⟩ := W2
                  dsimp only [dwB, dpB, dmB, Wd.pv, xB] at cOd cOa
                  have cU := outs_fn 0 is3 x3 0
                  subst hge
                  unfold ldT
                  have ps_ := trivial
                  repeat' (first | (refine zY.is ?_; first | refine zY.nil ?_ | (refine zY.at_ 112 rfl ?_; refine zY.rc (.v vX (.v yF (.v yF (.v yF (.v yF (.v zO (.v zO (.v zO (.v zO .e))))))))) ?_) | (refine zY.at_ 120 rfl ?_; refine zY.rc (.v vX (.v yF (.v yF (.v yF (.m yD (.m yD (.w yZ (.w yZ (.v zO .e))))))))) ?_) | (refine zY.at_ 156 rfl ?_; refine zY.rc (.v vX (.v yF (.v yF (.v yI (.w yZ (.v yI (.w yZ .e))))))) ?_) | (refine zY.at_ 231 rfl ?_; refine zY.rc (.v vX (.v yF (.v yF (.v yF (.m yD (.m yD (.w yZ (.w yZ (.v zO .e))))))))) ?_) | (refine zY.at_ 244 rfl ?_; refine zY.rc (.gY wV (.v xL .e)) ?_) | (refine zY.in_ [124] rfl ?_; refine zY.v rfl rfl (yP (cSa) rfl rfl rfl (by decide)) ?_) | (refine zY.in_ [234] rfl ?_; refine zY.v rfl rfl (yP (cOa) rfl rfl rfl (by decide)) ?_) | (refine zY.in_ [115] rfl ?_; refine zY.ofT rfl (zP.eR [301, 302, 6] (cSd) ?_)) | (refine zY.in_ [159] rfl ?_; refine zY.ofT rfl (zP.eR [301, 302, 6] (cOd) ?_)) | (refine zY.in_ [243] rfl ?_; refine zY.gY rfl rfl (by decide) rfl bA rfl (by decide) (yY (cU) rfl rfl rfl (by decide)) ?_)) | (refine zZ.is ?_; first | refine zZ.seq ?_ | (refine zZ.isR (id := 15) ?_; refine zZ.rc [0, 4, 5, 6, 8, 9, 10, 11, 12, 13, 14, 15, 16, 17, 18, 19, 20, 21, 22, 23, 24, 25, 94, 152, 164, 196, 212, 230, 245] [6, 8, 18, 19, 21, 22, 23, 24, 26, 28, 32, 36, 45, 62, 71, 80, 84, 89, 90, 93, 109, 115, 124, 159, 191, 210, 229, 234, 243, 251, 301, 302] (r := (.v zB (.v zB (.v v57_0 (.v v43_0 .e))))) (h := ?_)) | (refine zZ.isR (id := 17) ?_; refine zZ.rc [0, 4, 5, 6, 8, 9, 10, 11, 12, 13, 14, 15, 16, 17, 18, 19, 20, 21, 22, 23, 24, 25, 94, 152, 164, 196, 212, 230, 245] [6, 8, 18, 19, 21, 22, 23, 24, 26, 28, 32, 36, 45, 62, 71, 80, 84, 89, 90, 93, 109, 115, 124, 159, 191, 210, 229, 234, 243, 251, 301, 302] (r := (.v zB (.v zB (.v v7_0 (.v vT (.v kQ (.v v33_0 (.v vK (.v vL (.v zO .e)))))))))) (h := ?_)) | (refine zZ.isR (id := 18) ?_; refine zZ.rk [0, 4, 5, 6, 8, 9, 10, 11, 12, 13, 14, 15, 16, 17, 18, 19, 20, 21, 22, 23, 24, 25, 94, 152, 164, 196, 212, 230, 245] [6, 8, 18, 19, 21, 22, 23, 24, 26, 28, 32, 36, 45, 62, 71, 80, 84, 89, 90, 93, 109, 115, 124, 159, 191, 210, 229, 234, 243, 251, 301, 302] ?_; refine zZ.draws ?_) | (refine zZ.isR (id := 19) ?_; refine zZ.rc [0, 4, 5, 6, 8, 9, 10, 11, 12, 13, 14, 15, 16, 17, 18, 19, 20, 21, 22, 23, 24, 25, 94, 152, 164, 196, 212, 230, 245] [6, 8, 18, 19, 21, 22, 23, 24, 26, 28, 32, 36, 45, 62, 71, 80, 84, 89, 90, 93, 109, 115, 124, 159, 191, 210, 229, 234, 243, 251, 301, 302] (r := (.v wC (.v zB .e))) (h := ?_)) | (refine zZ.isR (id := 20) ?_; refine zZ.rc [0, 4, 5, 6, 8, 9, 10, 11, 12, 13, 14, 15, 16, 17, 18, 19, 20, 21, 22, 23, 24, 25, 94, 152, 164, 196, 212, 230, 245] [6, 8, 18, 19, 21, 22, 23, 24, 26, 28, 32, 36, 45, 62, 71, 80, 84, 89, 90, 93, 109, 115, 124, 159, 191, 210, 229, 234, 243, 251, 301, 302] (r := (.v xI (.v zB (.v x9 .e)))) (h := ?_)) | (refine zZ.isR (id := 21) ?_; refine zZ.rc [0, 4, 5, 6, 8, 9, 10, 11, 12, 13, 14, 15, 16, 17, 18, 19, 20, 21, 22, 23, 24, 25, 94, 152, 164, 196, 212, 230, 245] [6, 8, 18, 19, 21, 22, 23, 24, 26, 28, 32, 36, 45, 62, 71, 80, 84, 89, 90, 93, 109, 115, 124, 159, 191, 210, 229, 234, 243, 251, 301, 302] (r := (.v zB (.v wV (.v zB (.gY zB (.gY wV (.v xL (.v zB (.gY yI (.gY yO (.gY zB (.gY qV (.v xL (.v zB (.gY yI (.gY yO (.gY zB (.gY kQ (.gY qV (.v xL (.v zB (.gY yI (.gY yO (.gY zB (.gY v42_9 (.v xL .e)))))))))))))))))))))))))) (h := ?_)) | (refine zZ.isR (id := 23) ?_; refine zZ.rc [0, 4, 5, 6, 8, 9, 10, 11, 12, 13, 14, 15, 16, 17, 18, 19, 20, 21, 22, 23, 24, 25, 94, 152, 164, 196, 212, 230, 245] [6, 8, 18, 19, 21, 22, 23, 24, 26, 28, 32, 36, 45, 62, 71, 80, 84, 89, 90, 93, 109, 115, 124, 159, 191, 210, 229, 234, 243, 251, 301, 302] (r := (.v zB (.v x9 (.m yD (.w yZ .e))))) (h := ?_)) | (refine zZ.isR (id := 24) ?_; refine zZ.rc [0, 4, 5, 6, 8, 9, 10, 11, 12, 13, 14, 15, 16, 17, 18, 19, 20, 21, 22, 23, 24, 25, 94, 152, 164, 196, 212, 230, 245] [6, 8, 18, 19, 21, 22, 23, 24, 26, 28, 32, 36, 45, 62, 71, 80, 84, 89, 90, 93, 109, 115, 124, 159, 191, 210, 229, 234, 243, 251, 301, 302] (r := (.v x9 (.m yD (.w yZ .e)))) (h := ?_)) | (refine zZ.isR (id := 26) ?_; refine zZ.rc [0, 4, 5, 6, 8, 9, 10, 11, 12, 13, 14, 15, 16, 17, 18, 19, 20, 21, 22, 23, 24, 25, 94, 152, 164, 196, 212, 230, 245] [6, 8, 18, 19, 21, 22, 23, 24, 26, 28, 32, 36, 45, 62, 71, 80, 84, 89, 90, 93, 109, 115, 124, 159, 191, 210, 229, 234, 243, 251, 301, 302] (r := (.v zB (.v zB (.v v7_0 (.v vT (.v vK (.v qC (.v zB (.gY zB (.gY v52_4 (.v kZ (.v zB (.gY v0_1 (.gY zB (.gY v7_38 (.gY v2_15 (.gY wV (.v kZ (.v zO .e))))))))))))))))))) (h := ?_)) | (refine zZ.isR (id := 30) ?_; refine zZ.rc [0, 4, 5, 6, 8, 9, 10, 11, 12, 13, 14, 15, 16, 17, 18, 19, 20, 21, 22, 23, 24, 25, 94, 152, 164, 196, 212, 230, 245] [6, 8, 18, 19, 21, 22, 23, 24, 26, 28, 32, 36, 45, 62, 71, 80, 84, 89, 90, 93, 109, 115, 124, 159, 191, 210, 229, 234, 243, 251, 301, 302] (r := (.v zB (.v zB (.v v7_0 (.v vT (.v vK (.v qC (.v zB (.gT (.v xL (.v zO .e))))))))))) (h := ?_)) | (refine zZ.isR (id := 33) ?_; refine zZ.rc [0, 4, 5, 6, 8, 9, 10, 11, 12, 13, 14, 15, 16, 17, 18, 19, 20, 21, 22, 23, 24, 25, 94, 152, 164, 196, 212, 230, 245] [6, 8, 18, 19, 21, 22, 23, 24, 26, 28, 32, 36, 45, 62, 71, 80, 84, 89, 90, 93, 109, 115, 124, 159, 191, 210, 229, 234, 243, 251, 301, 302] (r := (.v zB (.v zB (.v v7_0 (.v vT (.v vK (.v qC (.v zO .e)))))))) (h := ?_)) | (refine zZ.isR (id := 25) ?_; refine zZ.rc [0, 4, 5, 6, 8, 9, 10, 11, 12, 13, 14, 15, 16, 17, 18, 19, 20, 21, 22, 23, 24, 25, 94, 152, 164, 196, 212, 230, 245] [6, 8, 18, 19, 21, 22, 23, 24, 26, 28, 32, 36, 45, 62, 71, 80, 84, 89, 90, 93, 109, 115, 124, 159, 191, 210, 229, 234, 243, 251, 301, 302] (r := (.v wC (.v zB .e))) (h := ?_)) | (refine zZ.isR (id := 37) ?_; refine zZ.rc [0, 4, 5, 6, 8, 9, 10, 11, 12, 13, 14, 15, 16, 17, 18, 19, 20, 21, 22, 23, 24, 25, 94, 152, 164, 196, 212, 230, 245] [6, 8, 18, 19, 21, 22, 23, 24, 26, 28, 32, 36, 45, 62, 71, 80, 84, 89, 90, 93, 109, 115, 124, 159, 191, 210, 229, 234, 243, 251, 301, 302] (r := (.v xI (.v xI .e))) (h := ?_)) | (refine zZ.isR (id := 38) ?_; refine zZ.rc [0, 4, 5, 6, 8, 9, 10, 11, 12, 13, 14, 15, 16, 17, 18, 19, 20, 21, 22, 23, 24, 25, 94, 152, 164, 196, 212, 230, 245] [6, 8, 18, 19, 21, 22, 23, 24, 26, 28, 32, 36, 45, 62, 71, 80, 84, 89, 90, 93, 109, 115, 124, 159, 191, 210, 229, 234, 243, 251, 301, 302] (r := (.v zB (.v wV (.v zB (.gY xI (.gY xI .e)))))) (h := ?_)) | (refine zZ.isR (id := 40) ?_; refine zZ.rc [0, 4, 5, 6, 8, 9, 10, 11, 12, 13, 14, 15, 16, 17, 18, 19, 20, 21, 22, 23, 24, 25, 94, 152, 164, 196, 212, 230, 245] [6, 8, 18, 19, 21, 22, 23, 24, 26, 28, 32, 36, 45, 62, 71, 80, 84, 89, 90, 93, 109, 115, 124, 159, 191, 210, 229, 234, 243, 251, 301, 302] (r := (.v xI (.w yZ .e))) (h := ?_)) | (refine zZ.isR (id := 16) ?_; refine zZ.rc [0, 4, 5, 6, 8, 9, 10, 11, 12, 13, 14, 15, 16, 17, 18, 19, 20, 21, 22, 23, 24, 25, 94, 152, 164, 196, 212, 230, 245] [6, 8, 18, 19, 21, 22, 23, 24, 26, 28, 32, 36, 45, 62, 71, 80, 84, 89, 90, 93, 109, 115, 124, 159, 191, 210, 229, 234, 243, 251, 301, 302] (r := (.v zB (.v vL (.v zO .e)))) (h := ?_)) | refine zZ.xV rfl bA ?_ | refine zZ.y9 rfl bA ?_ | refine zZ.skip ?_ | refine zZ.block ?_) | refine zS.n ?_ | refine yE.n ?_ | (refine Draws.is ?_; first | refine Draws.rc (.v yI (.v yI (.v yO (.v zB .e)))) ?_ | refine Draws.rc (.v v7_18 (.v vT (.v zO .e))) ?_ | (refine Draws.in_ [109] rfl ?_; refine Draws.v rfl rfl (yY (c2) rfl rfl rfl (by decide)) ?_) | refine Draws.done (by kernel_rfl) (by kernel_rfl) (by kernel_rfl) ?_) | (refine zM.nil ?_))
                  all_goals
                    refine ⟨(i + 1, ⟨t2, u2, ws2, root2, r02, r12⟩, lk), ?_, ⟨by show i + 1 ≤ l.length; omega, _, _, hI2.le (by omega), by dsimp only; omega, hlk⟩, by show l.length - (i + 1) < l.length - i; omega⟩
                    show Sub _ (ldT l (i + 1) ⟨t2, u2, ws2, root2, r02, r12⟩ lk)
                    unfold ldT
                    refine zN (is := [0, 5, 6, 8, 9, 10, 11]) (js := [6, 8, 90, 301, 302]) ?_ ?_
                    case refine_1 =>
                      repeat' first | exact zW.nil | apply zW.p rfl | apply zW.ptr rfl | apply zW.own rfl | apply zW.clo rfl | apply zW.ifp rfl | apply zW.pt rfl | apply zW.tup rfl | apply zW.skip
                    case refine_2 =>
                      repeat' first | exact zX.nil | apply zX.boxP rfl rfl | apply zX.yG rfl | (apply zX.at0; exact zK rfl (H.nk _).1 (by repeat' fail)) | (apply zX.at1; exact zK rfl (H.nk _).2.1 (by repeat' fail)) | (apply zX.at2; exact zK rfl (H.nk _).2.2 (by repeat' fail)) | apply zX.some rfl | apply zX.skip
              case true =>
                have d0 : decide (e % 4 = 0) = true := by rw [hte]; rfl
                have d1 : decide (e % 4 = 1) = false := by rw [hte]; rfl
                have d2 : decide (e % 4 = 2) = false := by rw [hte]; rfl
                obtain ⟨W2, m2, x3, is3, hI2, cO⟩ := hI1.seek hKu (by omega)
                have hll := hl12
                obtain ⟨cOd, cOa⟩ := cO
                clear cS hI1 hI hcut
                obtain ⟨t2, u2, ws2, root2, r02, r12⟩ := W2
                dsimp only [dwB, dpB, dmB, Wd.pv, xB] at cOd cOa
                have cU := outs_fn 0 is3 x3 0
                subst hge
                unfold ldT
                have ps_ := trivial
                repeat' (first | (refine zY.is ?_; first | refine zY.nil ?_ | (refine zY.at_ 112 rfl ?_; refine zY.rc (.v vX (.v yF (.v yF (.v yF (.v yF (.v zO (.v zO (.v zO (.v zO .e))))))))) ?_) | (refine zY.at_ 120 rfl ?_; refine zY.rc (.v vX (.v yF (.v yF (.v yF (.m yD (.m yD (.w yZ (.w yZ (.v zO .e))))))))) ?_) | (refine zY.at_ 156 rfl ?_; refine zY.rc (.v vX (.v yF (.v yF (.v yI (.w yZ (.v yI (.w yZ .e))))))) ?_) | (refine zY.at_ 231 rfl ?_; refine zY.rc (.v vX (.v yF (.v yF (.v yF (.m yD (.m yD (.w yZ (.w yZ (.v zO .e))))))))) ?_) | (refine zY.at_ 244 rfl ?_; refine zY.rc (.gY wV (.v xL .e)) ?_) | (refine zY.in_ [124] rfl ?_; refine zY.v rfl rfl (yP (cSa) rfl rfl rfl (by decide)) ?_) | (refine zY.in_ [234] rfl ?_; refine zY.v rfl rfl (yP (cOa) rfl rfl rfl (by decide)) ?_) | (refine zY.in_ [115] rfl ?_; refine zY.ofT rfl (zP.eR [301, 302, 6] (cSd) ?_)) | (refine zY.in_ [159] rfl ?_; refine zY.ofT rfl (zP.eR [301, 302, 6] (cOd) ?_)) | (refine zY.in_ [243] rfl ?_; refine zY.gY rfl rfl (by decide) rfl bA rfl (by decide) (yY (cU) rfl rfl rfl (by decide)) ?_)) | (refine zZ.is ?_; first | refine zZ.seq ?_ | (refine zZ.isR (id := 15) ?_; refine zZ.rc [0, 4, 5, 6, 8, 9, 10, 11, 12, 13, 14, 15, 16, 17, 18, 19, 20, 21, 22, 23, 24, 25, 94, 152, 164, 196, 212, 230, 245] [6, 8, 18, 19, 21, 22, 23, 24, 26, 28, 32, 36, 45, 62, 71, 80, 84, 89, 90, 93, 109, 115, 124, 159, 191, 210, 229, 234, 243, 251, 301, 302] (r := (.v zB (.v zB (.v v57_0 (.v v43_0 .e))))) (h := ?_)) | (refine zZ.isR (id := 17) ?_; refine zZ.rc [0, 4, 5, 6, 8, 9, 10, 11, 12, 13, 14, 15, 16, 17, 18, 19, 20, 21, 22, 23, 24, 25, 94, 152, 164, 196, 212, 230, 245] [6, 8, 18, 19, 21, 22, 23, 24, 26, 28, 32, 36, 45, 62, 71, 80, 84, 89, 90, 93, 109, 115, 124, 159, 191, 210, 229, 234, 243, 251, 301, 302] (r := (.v zB (.v zB (.v v7_0 (.v vT (.v kQ (.v v33_0 (.v vK (.v vL (.v zO .e)))))))))) (h := ?_)) | (refine zZ.isR (id := 18) ?_; refine zZ.rk [0, 4, 5, 6, 8, 9, 10, 11, 12, 13, 14, 15, 16, 17, 18, 19, 20, 21, 22, 23, 24, 25, 94, 152, 164, 196, 212, 230, 245] [6, 8, 18, 19, 21, 22, 23, 24, 26, 28, 32, 36, 45, 62, 71, 80, 84, 89, 90, 93, 109, 115, 124, 159, 191, 210, 229, 234, 243, 251, 301, 302] ?_; refine zZ.draws ?_) | (refine zZ.isR (id := 19) ?_; refine zZ.rc [0, 4, 5, 6, 8, 9, 10, 11, 12, 13, 14, 15, 16, 17, 18, 19, 20, 21, 22, 23, 24, 25, 94, 152, 164, 196, 212, 230, 245] [6, 8, 18, 19, 21, 22, 23, 24, 26, 28, 32, 36, 45, 62, 71, 80, 84, 89, 90, 93, 109, 115, 124, 159, 191, 210, 229, 234, 243, 251, 301, 302] (r := (.v wC (.v zB .e))) (h := ?_)) | (refine zZ.isR (id := 20) ?_; refine zZ.rc [0, 4, 5, 6, 8, 9, 10, 11, 12, 13, 14, 15, 16, 17, 18, 19, 20, 21, 22, 23, 24, 25, 94, 152, 164, 196, 212, 230, 245] [6, 8, 18, 19, 21, 22, 23, 24, 26, 28, 32, 36, 45, 62, 71, 80, 84, 89, 90, 93, 109, 115, 124, 159, 191, 210, 229, 234, 243, 251, 301, 302] (r := (.v xI (.v zB (.v x9 .e)))) (h := ?_)) | (refine zZ.isR (id := 21) ?_; refine zZ.rc [0, 4, 5, 6, 8, 9, 10, 11, 12, 13, 14, 15, 16, 17, 18, 19, 20, 21, 22, 23, 24, 25, 94, 152, 164, 196, 212, 230, 245] [6, 8, 18, 19, 21, 22, 23, 24, 26, 28, 32, 36, 45, 62, 71, 80, 84, 89, 90, 93, 109, 115, 124, 159, 191, 210, 229, 234, 243, 251, 301, 302] (r := (.v zB (.v wV (.v zB (.gY zB (.gY wV (.v xL (.v zB (.gY yI (.gY yO (.gY zB (.gY qV (.v xL (.v zB (.gY yI (.gY yO (.gY zB (.gY kQ (.gY qV (.v xL (.v zB (.gY yI (.gY yO (.gY zB (.gY v42_9 (.v xL .e)))))))))))))))))))))))))) (h := ?_)) | (refine zZ.isR (id := 23) ?_; refine zZ.rc [0, 4, 5, 6, 8, 9, 10, 11, 12, 13, 14, 15, 16, 17, 18, 19, 20, 21, 22, 23, 24, 25, 94, 152, 164, 196, 212, 230, 245] [6, 8, 18, 19, 21, 22, 23, 24, 26, 28, 32, 36, 45, 62, 71, 80, 84, 89, 90, 93, 109, 115, 124, 159, 191, 210, 229, 234, 243, 251, 301, 302] (r := (.v zB (.v x9 (.m yD (.w yZ .e))))) (h := ?_)) | (refine zZ.isR (id := 24) ?_; refine zZ.rc [0, 4, 5, 6, 8, 9, 10, 11, 12, 13, 14, 15, 16, 17, 18, 19, 20, 21, 22, 23, 24, 25, 94, 152, 164, 196, 212, 230, 245] [6, 8, 18, 19, 21, 22, 23, 24, 26, 28, 32, 36, 45, 62, 71, 80, 84, 89, 90, 93, 109, 115, 124, 159, 191, 210, 229, 234, 243, 251, 301, 302] (r := (.v x9 (.m yD (.w yZ .e)))) (h := ?_)) | (refine zZ.isR (id := 26) ?_; refine zZ.rc [0, 4, 5, 6, 8, 9, 10, 11, 12, 13, 14, 15, 16, 17, 18, 19, 20, 21, 22, 23, 24, 25, 94, 152, 164, 196, 212, 230, 245] [6, 8, 18, 19, 21, 22, 23, 24, 26, 28, 32, 36, 45, 62, 71, 80, 84, 89, 90, 93, 109, 115, 124, 159, 191, 210, 229, 234, 243, 251, 301, 302] (r := (.v zB (.v zB (.v v7_0 (.v vT (.v vK (.v qC (.v zB (.gY zB (.gY wV (.v kZ (.v zB (.gT (.gT (.gT (.gT (.gT (.v xL (.v zO .e))))))))))))))))))) (h := ?_)) | (refine zZ.isR (id := 30) ?_; refine zZ.rc [0, 4, 5, 6, 8, 9, 10, 11, 12, 13, 14, 15, 16, 17, 18, 19, 20, 21, 22, 23, 24, 25, 94, 152, 164, 196, 212, 230, 245] [6, 8, 18, 19, 21, 22, 23, 24, 26, 28, 32, 36, 45, 62, 71, 80, 84, 89, 90, 93, 109, 115, 124, 159, 191, 210, 229, 234, 243, 251, 301, 302] (r := (.v zB (.v zB (.v v7_0 (.v vT (.v vK (.v qC (.v zB (.gT (.v xL (.v zO .e))))))))))) (h := ?_)) | (refine zZ.isR (id := 33) ?_; refine zZ.rc [0, 4, 5, 6, 8, 9, 10, 11, 12, 13, 14, 15, 16, 17, 18, 19, 20, 21, 22, 23, 24, 25, 94, 152, 164, 196, 212, 230, 245] [6, 8, 18, 19, 21, 22, 23, 24, 26, 28, 32, 36, 45, 62, 71, 80, 84, 89, 90, 93, 109, 115, 124, 159, 191, 210, 229, 234, 243, 251, 301, 302] (r := (.v zB (.v zB (.v v7_0 (.v vT (.v vK (.v qC (.v zO .e)))))))) (h := ?_)) | (refine zZ.isR (id := 25) ?_; refine zZ.rc [0, 4, 5, 6, 8, 9, 10, 11, 12, 13, 14, 15, 16, 17, 18, 19, 20, 21, 22, 23, 24, 25, 94, 152, 164, 196, 212, 230, 245] [6, 8, 18, 19, 21, 22, 23, 24, 26, 28, 32, 36, 45, 62, 71, 80, 84, 89, 90, 93, 109, 115, 124, 159, 191, 210, 229, 234, 243, 251, 301, 302] (r := (.v wC (.v zB .e))) (h := ?_)) | (refine zZ.isR (id := 37) ?_; refine zZ.rc [0, 4, 5, 6, 8, 9, 10, 11, 12, 13, 14, 15, 16, 17, 18, 19, 20, 21, 22, 23, 24, 25, 94, 152, 164, 196, 212, 230, 245] [6, 8, 18, 19, 21, 22, 23, 24, 26, 28, 32, 36, 45, 62, 71, 80, 84, 89, 90, 93, 109, 115, 124, 159, 191, 210, 229, 234, 243, 251, 301, 302] (r := (.v xI (.v xI .e))) (h := ?_)) | (refine zZ.isR (id := 38) ?_; refine zZ.rc [0, 4, 5, 6, 8, 9, 10, 11, 12, 13, 14, 15, 16, 17, 18, 19, 20, 21, 22, 23, 24, 25, 94, 152, 164, 196, 212, 230, 245] [6, 8, 18, 19, 21, 22, 23, 24, 26, 28, 32, 36, 45, 62, 71, 80, 84, 89, 90, 93, 109, 115, 124, 159, 191, 210, 229, 234, 243, 251, 301, 302] (r := (.v zB (.v wV (.v zB (.gY xI (.gY xI .e)))))) (h := ?_)) | (refine zZ.isR (id := 40) ?_; refine zZ.rc [0, 4, 5, 6, 8, 9, 10, 11, 12, 13, 14, 15, 16, 17, 18, 19, 20, 21, 22, 23, 24, 25, 94, 152, 164, 196, 212, 230, 245] [6, 8, 18, 19, 21, 22, 23, 24, 26, 28, 32, 36, 45, 62, 71, 80, 84, 89, 90, 93, 109, 115, 124, 159, 191, 210, 229, 234, 243, 251, 301, 302] (r := (.v xI (.w yZ .e))) (h := ?_)) | (refine zZ.isR (id := 16) ?_; refine zZ.rc [0, 4, 5, 6, 8, 9, 10, 11, 12, 13, 14, 15, 16, 17, 18, 19, 20, 21, 22, 23, 24, 25, 94, 152, 164, 196, 212, 230, 245] [6, 8, 18, 19, 21, 22, 23, 24, 26, 28, 32, 36, 45, 62, 71, 80, 84, 89, 90, 93, 109, 115, 124, 159, 191, 210, 229, 234, 243, 251, 301, 302] (r := (.v zB (.v vL (.v zO .e)))) (h := ?_)) | refine zZ.xV rfl bA ?_ | refine zZ.y9 rfl bA ?_ | refine zZ.skip ?_ | refine zZ.block ?_) | refine zS.n ?_ | refine yE.n ?_ | (refine Draws.is ?_; first | refine Draws.rc (.v yI (.v yI (.v yO (.v zB .e)))) ?_ | refine Draws.rc (.v v7_18 (.v vT (.v zO .e))) ?_ | (refine Draws.in_ [109] rfl ?_; refine Draws.v rfl rfl (yY (c2) rfl rfl rfl (by decide)) ?_) | refine Draws.done (by kernel_rfl) (by kernel_rfl) (by kernel_rfl) ?_) | (refine zM.nil ?_))
                all_goals
                  refine ⟨(i + 1, ⟨t2, u2, ws2, root2, r02, r12⟩, lk), ?_, ⟨by show i + 1 ≤ l.length; omega, _, _, hI2.le (by omega), by dsimp only; omega, hlk⟩, by show l.length - (i + 1) < l.length - i; omega⟩
                  show Sub _ (ldT l (i + 1) ⟨t2, u2, ws2, root2, r02, r12⟩ lk)
                  unfold ldT
                  refine zN (is := [0, 5, 6, 8, 9, 10, 11]) (js := [6, 8, 90, 301, 302]) ?_ ?_
                  case refine_1 =>
                    repeat' first | exact zW.nil | apply zW.p rfl | apply zW.ptr rfl | apply zW.own rfl | apply zW.clo rfl | apply zW.ifp rfl | apply zW.pt rfl | apply zW.tup rfl | apply zW.skip
                  case refine_2 =>
                    repeat' first | exact zX.nil | apply zX.boxP rfl rfl | apply zX.yG rfl | (apply zX.at0; exact zK rfl (H.nk _).1 (by repeat' fail)) | (apply zX.at1; exact zK rfl (H.nk _).2.1 (by repeat' fail)) | (apply zX.at2; exact zK rfl (H.nk _).2.2 (by repeat' fail)) | apply zX.some rfl | apply zX.skip
            case inr.inl =>
              cases fnd
              case false =>
                have d0 : decide (e % 4 = 0) = false := by rw [hte]; rfl
                have d1 : decide (e % 4 = 1) = true := by rw [hte]; rfl
                have d2 : decide (e % 4 = 2) = false := by rw [hte]; rfl
                obtain ⟨W2, m2, x3, is3, hI2, cO⟩ := hI1.seek hKu (by omega)
                have hll := hl12
                obtain ⟨cOd, cOa⟩ := cO
                clear cS hI1 hI hcut
                obtain ⟨t2, u2, ws2, root2, r02, r12⟩ := W2
                dsimp only [dwB, dpB, dmB, Wd.pv, xB] at cOd cOa
                have cU := outs_fn 0 is3 x3 0
                subst hge
                unfold ldT
                have ps_ := trivial
                repeat' (first | (refine zY.is ?_; first | refine zY.nil ?_ | (refine zY.at_ 112 rfl ?_; refine zY.rc (.v vX (.v yF (.v yF (.v yF (.v yF (.v zO (.v zO (.v zO (.v zO .e))))))))) ?_) | (refine zY.at_ 120 rfl ?_; refine zY.rc (.v vX (.v yF (.v yF (.v yF (.m yD (.m yD (.w yZ (.w yZ (.v zO .e))))))))) ?_) | (refine zY.at_ 156 rfl ?_; refine zY.rc (.v vX (.v yF (.v yF (.v yI (.w yZ (.v yI (.w yZ .e))))))) ?_) | (refine zY.at_ 231 rfl ?_; refine zY.rc (.v vX (.v yF (.v yF (.v yF (.m yD (.m yD (.w yZ (.w yZ (.v zO .e))))))))) ?_) | (refine zY.at_ 244 rfl ?_; refine zY.rc (.gY wV (.v xL .e)) ?_) | (refine zY.in_ [124] rfl ?_; refine zY.v rfl rfl (yP (cSa) rfl rfl rfl (by decide)) ?_) | (refine zY.in_ [234] rfl ?_; refine zY.v rfl rfl (yP (cOa) rfl rfl rfl (by decide)) ?_) | (refine zY.in_ [115] rfl ?_; refine zY.ofT rfl (zP.eR [301, 302, 6] (cSd) ?_)) | (refine zY.in_ [159] rfl ?_; refine zY.ofT rfl (zP.eR [301, 302, 6] (cOd) ?_)) | (refine zY.in_ [243] rfl ?_; refine zY.gY rfl rfl (by decide) rfl bA rfl (by decide) (yY (cU) rfl rfl rfl (by decide)) ?_)) | (refine zZ.is ?_; first | refine zZ.seq ?_ | (refine zZ.isR (id := 15) ?_; refine zZ.rc [0, 4, 5, 6, 8, 9, 10, 11, 12, 13, 14, 15, 16, 17, 18, 19, 20, 21, 22, 23, 24, 25, 94, 152, 164, 196, 212, 230, 245] [6, 8, 18, 19, 21, 22, 23, 24, 26, 28, 32, 36, 45, 62, 71, 80, 84, 89, 90, 93, 109, 115, 124, 159, 191, 210, 229, 234, 243, 251, 301, 302] (r := (.v zB (.v zB (.v v57_0 (.v v43_0 .e))))) (h := ?_)) | (refine zZ.isR (id := 17) ?_; refine zZ.rc [0, 4, 5, 6, 8, 9, 10, 11, 12, 13, 14, 15, 16, 17, 18, 19, 20, 21, 22, 23, 24, 25, 94, 152, 164, 196, 212, 230, 245] [6, 8, 18, 19, 21, 22, 23, 24, 26, 28, 32, 36, 45, 62, 71, 80, 84, 89, 90, 93, 109, 115, 124, 159, 191, 210, 229, 234, 243, 251, 301, 302] (r := (.v zB (.v zB (.v v7_0 (.v vT (.v kQ (.v v33_0 (.v vK (.v vL (.v zO .e)))))))))) (h := ?_)) | (refine zZ.isR (id := 18) ?_; refine zZ.rk [0, 4, 5, 6, 8, 9, 10, 11, 12, 13, 14, 15, 16, 17, 18, 19, 20, 21, 22, 23, 24, 25, 94, 152, 164, 196, 212, 230, 245] [6, 8, 18, 19, 21, 22, 23, 24, 26, 28, 32, 36, 45, 62, 71, 80, 84, 89, 90, 93, 109, 115, 124, 159, 191, 210, 229, 234, 243, 251, 301, 302] ?_; refine zZ.draws ?_) | (refine zZ.isR (id := 19) ?_; refine zZ.rc [0, 4, 5, 6, 8, 9, 10, 11, 12, 13, 14, 15, 16, 17, 18, 19, 20, 21, 22, 23, 24, 25, 94, 152, 164, 196, 212, 230, 245] [6, 8, 18, 19, 21, 22, 23, 24, 26, 28, 32, 36, 45, 62, 71, 80, 84, 89, 90, 93, 109, 115, 124, 159, 191, 210, 229, 234, 243, 251, 301, 302] (r := (.v wC (.v zB .e))) (h := ?_)) | (refine zZ.isR (id := 20) ?_; refine zZ.rc [0, 4, 5, 6, 8, 9, 10, 11, 12, 13, 14, 15, 16, 17, 18, 19, 20, 21, 22, 23, 24, 25, 94, 152, 164, 196, 212, 230, 245] [6, 8, 18, 19, 21, 22, 23, 24, 26, 28, 32, 36, 45, 62, 71, 80, 84, 89, 90, 93, 109, 115, 124, 159, 191, 210, 229, 234, 243, 251, 301, 302] (r := (.v xI (.v zB (.v x9 .e)))) (h := ?_)) | (refine zZ.isR (id := 21) ?_; refine zZ.rc [0, 4, 5, 6, 8, 9, 10, 11, 12, 13, 14, 15, 16, 17, 18, 19, 20, 21, 22, 23, 24, 25, 94, 152, 164, 196, 212, 230, 245] [6, 8, 18, 19, 21, 22, 23, 24, 26, 28, 32, 36, 45, 62, 71, 80, 84, 89, 90, 93, 109, 115, 124, 159, 191, 210, 229, 234, 243, 251, 301, 302] (r := (.v zB (.v wV (.v zB (.gY zB (.gY wV (.v xL (.v zB (.gY yI (.gY yO (.gY zB (.gY qV (.v xL (.v zB (.gY yI (.gY yO (.gY zB (.gY kQ (.gY qV (.v xL (.v zB (.gY yI (.gY yO (.gY zB (.gY v42_9 (.v xL .e)))))))))))))))))))))))))) (h := ?_)) | (refine zZ.isR (id := 23) ?_; refine zZ.rc [0, 4, 5, 6, 8, 9, 10, 11, 12, 13, 14, 15, 16, 17, 18, 19, 20, 21, 22, 23, 24, 25, 94, 152, 164, 196, 212, 230, 245] [6, 8, 18, 19, 21, 22, 23, 24, 26, 28, 32, 36, 45, 62, 71, 80, 84, 89, 90, 93, 109, 115, 124, 159, 191, 210, 229, 234, 243, 251, 301, 302] (r := (.v zB (.v x9 (.m yD (.w yZ .e))))) (h := ?_)) | (refine zZ.isR (id := 24) ?_; refine zZ.rc [0, 4, 5, 6, 8, 9, 10, 11, 12, 13, 14, 15, 16, 17, 18, 19, 20, 21, 22, 23, 24, 25, 94, 152, 164, 196, 212, 230, 245] [6, 8, 18, 19, 21, 22, 23, 24, 26, 28, 32, 36, 45, 62, 71, 80, 84, 89, 90, 93, 109, 115, 124, 159, 191, 210, 229, 234, 243, 251, 301, 302] (r := (.v x9 (.m yD (.w yZ .e)))) (h := ?_)) | (refine zZ.isR (id := 26) ?_; refine zZ.rc [0, 4, 5, 6, 8, 9, 10, 11, 12, 13, 14, 15, 16, 17, 18, 19, 20, 21, 22, 23, 24, 25, 94, 152, 164, 196, 212, 230, 245] [6, 8, 18, 19, 21, 22, 23, 24, 26, 28, 32, 36, 45, 62, 71, 80, 84, 89, 90, 93, 109, 115, 124, 159, 191, 210, 229, 234, 243, 251, 301, 302] (r := (.v zB (.v zB (.v v7_0 (.v vT (.v vK (.v qC (.v zB (.gT (.gT (.v xL (.v zB (.gT (.gT (.gT (.gT (.gT (.v xL (.v zO .e))))))))))))))))))) (h := ?_)) | (refine zZ.isR (id := 30) ?_; refine zZ.rc [0, 4, 5, 6, 8, 9, 10, 11, 12, 13, 14, 15, 16, 17, 18, 19, 20, 21, 22, 23, 24, 25, 94, 152, 164, 196, 212, 230, 245] [6, 8, 18, 19, 21, 22, 23, 24, 26, 28, 32, 36, 45, 62, 71, 80, 84, 89, 90, 93, 109, 115, 124, 159, 191, 210, 229, 234, 243, 251, 301, 302] (r := (.v zB (.v zB (.v v7_0 (.v vT (.v vK (.v qC (.v zB (.gY zB (.v kZ (.v zO .e))))))))))) (h := ?_)) | (refine zZ.isR (id := 33) ?_; refine zZ.rc [0, 4, 5, 6, 8, 9, 10, 11, 12, 13, 14, 15, 16, 17, 18, 19, 20, 21, 22, 23, 24, 25, 94, 152, 164, 196, 212, 230, 245] [6, 8, 18, 19, 21, 22, 23, 24, 26, 28, 32, 36, 45, 62, 71, 80, 84, 89, 90, 93, 109, 115, 124, 159, 191, 210, 229, 234, 243, 251, 301, 302] (r := (.v zB (.v zB (.v v7_0 (.v vT (.v vK (.v qC (.v zO .e)))))))) (h := ?_)) | (refine zZ.isR (id := 25) ?_; refine zZ.rc [0, 4, 5, 6, 8, 9, 10, 11, 12, 13, 14, 15, 16, 17, 18, 19, 20, 21, 22, 23, 24, 25, 94, 152, 164, 196, 212, 230, 245] [6, 8, 18, 19, 21, 22, 23, 24, 26, 28, 32, 36, 45, 62, 71, 80, 84, 89, 90, 93, 109, 115, 124, 159, 191, 210, 229, 234, 243, 251, 301, 302] (r := (.v wC (.v zB .e))) (h := ?_)) | (refine zZ.isR (id := 37) ?_; refine zZ.rc [0, 4, 5, 6, 8, 9, 10, 11, 12, 13, 14, 15, 16, 17, 18, 19, 20, 21, 22, 23, 24, 25, 94, 152, 164, 196, 212, 230, 245] [6, 8, 18, 19, 21, 22, 23, 24, 26, 28, 32, 36, 45, 62, 71, 80, 84, 89, 90, 93, 109, 115, 124, 159, 191, 210, 229, 234, 243, 251, 301, 302] (r := (.v xI (.v xI .e))) (h := ?_)) | (refine zZ.isR (id := 38) ?_; refine zZ.rc [0, 4, 5, 6, 8, 9, 10, 11, 12, 13, 14, 15, 16, 17, 18, 19, 20, 21, 22, 23, 24, 25, 94, 152, 164, 196, 212, 230, 245] [6, 8, 18, 19, 21, 22, 23, 24, 26, 28, 32, 36, 45, 62, 71, 80, 84, 89, 90, 93, 109, 115, 124, 159, 191, 210, 229, 234, 243, 251, 301, 302] (r := (.v zB (.v wV (.v zB (.gY xI (.gY xI .e)))))) (h := ?_)) | (refine zZ.isR (id := 40) ?_; refine zZ.rc [0, 4, 5, 6, 8, 9, 10, 11, 12, 13, 14, 15, 16, 17, 18, 19, 20, 21, 22, 23, 24, 25, 94, 152, 164, 196, 212, 230, 245] [6, 8, 18, 19, 21, 22, 23, 24, 26, 28, 32, 36, 45, 62, 71, 80, 84, 89, 90, 93, 109, 115, 124, 159, 191, 210, 229, 234, 243, 251, 301, 302] (r := (.v xI (.w yZ .e))) (h := ?_)) | (refine zZ.isR (id := 16) ?_; refine zZ.rc [0, 4, 5, 6, 8, 9, 10, 11, 12, 13, 14, 15, 16, 17, 18, 19, 20, 21, 22, 23, 24, 25, 94, 152, 164, 196, 212, 230, 245] [6, 8, 18, 19, 21, 22, 23, 24, 26, 28, 32, 36, 45, 62, 71, 80, 84, 89, 90, 93, 109, 115, 124, 159, 191, 210, 229, 234, 243, 251, 301, 302] (r := (.v zB (.v vL (.v zO .e)))) (h := ?_)) | refine zZ.xV rfl bA ?_ | refine zZ.y9 rfl bA ?_ | refine zZ.skip ?_ | refine zZ.block ?_) | refine zS.n ?_ | refine yE.n ?_ | (refine Draws.is ?_; first | refine Draws.rc (.v yI (.v yI (.v yO (.v zB .e)))) ?_ | refine Draws.rc (.v v7_18 (.v vT (.v zO .e))) ?_ | (refine Draws.in_ [109] rfl ?_; refine Draws.v rfl rfl (yY (c2) rfl rfl rfl (by decide)) ?_) | refine Draws.done (by kernel_rfl) (by kernel_rfl) (by kernel_rfl) ?_) | (refine zM.nil ?_))
                all_goals
                  refine ⟨(i + 1, ⟨t2, u2, ws2, root2, r02, r12⟩, lk), ?_, ⟨by show i + 1 ≤ l.length; omega, _, _, hI2.le (by omega), by dsimp only; omega, hlk⟩, by show l.length - (i + 1) < l.length - i; omega⟩
                  show Sub _ (ldT l (i + 1) ⟨t2, u2, ws2, root2, r02, r12⟩ lk)
                  unfold ldT
                  refine zN (is := [0, 5, 6, 8, 9, 10, 11]) (js := [6, 8, 90, 301, 302]) ?_ ?_
                  case refine_1 =>
                    repeat' first | exact zW.nil | apply zW.p rfl | apply zW.ptr rfl | apply zW.own rfl | apply zW.clo rfl | apply zW.ifp rfl | apply zW.pt rfl | apply zW.tup rfl | apply zW.skip
                  case refine_2 =>
                    repeat' first | exact zX.nil | apply zX.boxP rfl rfl | apply zX.yG rfl | (apply zX.at0; exact zK rfl (H.nk _).1 (by repeat' fail)) | (apply zX.at1; exact zK rfl (H.nk _).2.1 (by repeat' fail)) | (apply zX.at2; exact zK rfl (H.nk _).2.2 (by repeat' fail)) | apply zX.some rfl | apply zX.skip
              case true =>
                have d0 : decide (e % 4 = 0) = false := by rw [hte]; rfl
                have d1 : decide (e % 4 = 1) = true := by rw [hte]; rfl
                have d2 : decide (e % 4 = 2) = false := by rw [hte]; rfl
                obtain ⟨tl, htl⟩ := hfd rfl
                rw [htl] at hI1 hl12
                obtain ⟨W2, m2, hI2, cO⟩ := hI1.mark hxb (by omega)
                have hll : (l1 ++ (x, true) :: tl).length = (l1 ++ (x, false) :: tl).length := by simp
                obtain ⟨cOd, cOa⟩ := cO
                clear cS hI1 hI hcut
                obtain ⟨t2, u2, ws2, root2, r02, r12⟩ := W2
                dsimp only [dwB, dpB, dmB, Wd.pv, xB] at cOd cOa
                have cU := outs_fn 0 true 0 0
                subst hge
                unfold ldT
                have ps_ := trivial
                repeat' (first | (refine zY.is ?_; first | refine zY.nil ?_ | (refine zY.at_ 112 rfl ?_; refine zY.rc (.v vX (.v yF (.v yF (.v yF (.v yF (.v zO (.v zO (.v zO (.v zO .e))))))))) ?_) | (refine zY.at_ 120 rfl ?_; refine zY.rc (.v vX (.v yF (.v yF (.v yF (.m yD (.m yD (.w yZ (.w yZ (.v zO .e))))))))) ?_) | (refine zY.at_ 211 rfl ?_; refine zY.rc (.v yI (.w yZ .e)) ?_) | (refine zY.at_ 231 rfl ?_; refine zY.rc (.v vX (.v yF (.v yF (.v yF (.m yD (.m yD (.w yZ (.w yZ (.v zO .e))))))))) ?_) | (refine zY.at_ 244 rfl ?_; refine zY.rc (.gY wV (.v xL .e)) ?_) | (refine zY.in_ [124] rfl ?_; refine zY.v rfl rfl (yP (cSa) rfl rfl rfl (by decide)) ?_) | (refine zY.in_ [234] rfl ?_; refine zY.v rfl rfl (yP (cOa) rfl rfl rfl (by decide)) ?_) | (refine zY.in_ [115] rfl ?_; refine zY.ofT rfl (zP.eR [301, 302, 6] (cSd) ?_)) | (refine zY.in_ [210] rfl ?_; refine zY.ofT rfl (zP.eR [301, 302, 6] (cOd) ?_)) | (refine zY.in_ [243] rfl ?_; refine zY.gY rfl rfl (by decide) rfl bA rfl (by decide) (yY (cU) rfl rfl rfl (by decide)) ?_)) | (refine zZ.is ?_; first | refine zZ.seq ?_ | (refine zZ.isR (id := 15) ?_; refine zZ.rc [0, 4, 5, 6, 8, 9, 10, 11, 12, 13, 14, 15, 16, 17, 18, 19, 20, 21, 22, 23, 24, 25, 94, 152, 164, 196, 212, 230, 245] [6, 8, 18, 19, 21, 22, 23, 24, 26, 28, 32, 36, 45, 62, 71, 80, 84, 89, 90, 93, 109, 115, 124, 159, 191, 210, 229, 234, 243, 251, 301, 302] (r := (.v zB (.v zB (.v v57_0 (.v v43_0 .e))))) (h := ?_)) | (refine zZ.isR (id := 17) ?_; refine zZ.rc [0, 4, 5, 6, 8, 9, 10, 11, 12, 13, 14, 15, 16, 17, 18, 19, 20, 21, 22, 23, 24, 25, 94, 152, 164, 196, 212, 230, 245] [6, 8, 18, 19, 21, 22, 23, 24, 26, 28, 32, 36, 45, 62, 71, 80, 84, 89, 90, 93, 109, 115, 124, 159, 191, 210, 229, 234, 243, 251, 301, 302] (r := (.v zB (.v zB (.v v7_0 (.v vT (.v kQ (.v v33_0 (.v vK (.v vL (.v zO .e)))))))))) (h := ?_)) | (refine zZ.isR (id := 18) ?_; refine zZ.rk [0, 4, 5, 6, 8, 9, 10, 11, 12, 13, 14, 15, 16, 17, 18, 19, 20, 21, 22, 23, 24, 25, 94, 152, 164, 196, 212, 230, 245] [6, 8, 18, 19, 21, 22, 23, 24, 26, 28, 32, 36, 45, 62, 71, 80, 84, 89, 90, 93, 109, 115, 124, 159, 191, 210, 229, 234, 243, 251, 301, 302] ?_; refine zZ.draws ?_) | (refine zZ.isR (id := 19) ?_; refine zZ.rc [0, 4, 5, 6, 8, 9, 10, 11, 12, 13, 14, 15, 16, 17, 18, 19, 20, 21, 22, 23, 24, 25, 94, 152, 164, 196, 212, 230, 245] [6, 8, 18, 19, 21, 22, 23, 24, 26, 28, 32, 36, 45, 62, 71, 80, 84, 89, 90, 93, 109, 115, 124, 159, 191, 210, 229, 234, 243, 251, 301, 302] (r := (.v wC (.v zB .e))) (h := ?_)) | (refine zZ.isR (id := 20) ?_; refine zZ.rc [0, 4, 5, 6, 8, 9, 10, 11, 12, 13, 14, 15, 16, 17, 18, 19, 20, 21, 22, 23, 24, 25, 94, 152, 164, 196, 212, 230, 245] [6, 8, 18, 19, 21, 22, 23, 24, 26, 28, 32, 36, 45, 62, 71, 80, 84, 89, 90, 93, 109, 115, 124, 159, 191, 210, 229, 234, 243, 251, 301, 302] (r := (.v xI (.v zB (.v x9 .e)))) (h := ?_)) | (refine zZ.isR (id := 21) ?_; refine zZ.rc [0, 4, 5, 6, 8, 9, 10, 11, 12, 13, 14, 15, 16, 17, 18, 19, 20, 21, 22, 23, 24, 25, 94, 152, 164, 196, 212, 230, 245] [6, 8, 18, 19, 21, 22, 23, 24, 26, 28, 32, 36, 45, 62, 71, 80, 84, 89, 90, 93, 109, 115, 124, 159, 191, 210, 229, 234, 243, 251, 301, 302] (r := (.v zB (.v wV (.v zB (.gY zB (.gY wV (.v xL (.v zB (.gY yI (.gY yO (.gY zB (.gY qV (.v xL (.v zB (.gY yI (.gY yO (.gY zB (.gY kQ (.gY qV (.v xL (.v zB (.gY yI (.gY yO (.gY zB (.gY v42_9 (.v xL .e)))))))))))))))))))))))))) (h := ?_)) | (refine zZ.isR (id := 23) ?_; refine zZ.rc [0, 4, 5, 6, 8, 9, 10, 11, 12, 13, 14, 15, 16, 17, 18, 19, 20, 21, 22, 23, 24, 25, 94, 152, 164, 196, 212, 230, 245] [6, 8, 18, 19, 21, 22, 23, 24, 26, 28, 32, 36, 45, 62, 71, 80, 84, 89, 90, 93, 109, 115, 124, 159, 191, 210, 229, 234, 243, 251, 301, 302] (r := (.v zB (.v x9 (.m yD (.w yZ .e))))) (h := ?_)) | (refine zZ.isR (id := 24) ?_; refine zZ.rc [0, 4, 5, 6, 8, 9, 10, 11, 12, 13, 14, 15, 16, 17, 18, 19, 20, 21, 22, 23, 24, 25, 94, 152, 164, 196, 212, 230, 245] [6, 8, 18, 19, 21, 22, 23, 24, 26, 28, 32, 36, 45, 62, 71, 80, 84, 89, 90, 93, 109, 115, 124, 159, 191, 210, 229, 234, 243, 251, 301, 302] (r := (.v x9 (.m yD (.w yZ .e)))) (h := ?_)) | (refine zZ.isR (id := 26) ?_; refine zZ.rc [0, 4, 5, 6, 8, 9, 10, 11, 12, 13, 14, 15, 16, 17, 18, 19, 20, 21, 22, 23, 24, 25, 94, 152, 164, 196, 212, 230, 245] [6, 8, 18, 19, 21, 22, 23, 24, 26, 28, 32, 36, 45, 62, 71, 80, 84, 89, 90, 93, 109, 115, 124, 159, 191, 210, 229, 234, 243, 251, 301, 302] (r := (.v zB (.v zB (.v v7_0 (.v vT (.v vK (.v qC (.v zB (.gT (.gT (.v xL (.v zB (.gT (.gT (.gT (.gT (.gT (.v xL (.v zO .e))))))))))))))))))) (h := ?_)) | (refine zZ.isR (id := 30) ?_; refine zZ.rc [0, 4, 5, 6, 8, 9, 10, 11, 12, 13, 14, 15, 16, 17, 18, 19, 20, 21, 22, 23, 24, 25, 94, 152, 164, 196, 212, 230, 245] [6, 8, 18, 19, 21, 22, 23, 24, 26, 28, 32, 36, 45, 62, 71, 80, 84, 89, 90, 93, 109, 115, 124, 159, 191, 210, 229, 234, 243, 251, 301, 302] (r := (.v zB (.v zB (.v v7_0 (.v vT (.v vK (.v qC (.v zB (.gY zB (.v kZ (.v zO .e))))))))))) (h := ?_)) | (refine zZ.isR (id := 31) ?_; refine zZ.rc [0, 4, 5, 6, 8, 9, 10, 11, 12, 13, 14, 15, 16, 17, 18, 19, 20, 21, 22, 23, 24, 25, 94, 152, 164, 196, 212, 230, 245] [6, 8, 18, 19, 21, 22, 23, 24, 26, 28, 32, 36, 45, 62, 71, 80, 84, 89, 90, 93, 109, 115, 124, 159, 191, 210, 229, 234, 243, 251, 301, 302] (r := (.v zB (.v x9 (.w yZ .e)))) (h := ?_)) | (refine zZ.isR (id := 32) ?_; refine zZ.rc [0, 4, 5, 6, 8, 9, 10, 11, 12, 13, 14, 15, 16, 17, 18, 19, 20, 21, 22, 23, 24, 25, 94, 152, 164, 196, 212, 230, 245] [6, 8, 18, 19, 21, 22, 23, 24, 26, 28, 32, 36, 45, 62, 71, 80, 84, 89, 90, 93, 109, 115, 124, 159, 191, 210, 229, 234, 243, 251, 301, 302] (r := (.v wC (.v zB .e))) (h := ?_)) | (refine zZ.isR (id := 37) ?_; refine zZ.rc [0, 4, 5, 6, 8, 9, 10, 11, 12, 13, 14, 15, 16, 17, 18, 19, 20, 21, 22, 23, 24, 25, 94, 152, 164, 196, 212, 230, 245] [6, 8, 18, 19, 21, 22, 23, 24, 26, 28, 32, 36, 45, 62, 71, 80, 84, 89, 90, 93, 109, 115, 124, 159, 191, 210, 229, 234, 243, 251, 301, 302] (r := (.v xI (.v xI .e))) (h := ?_)) | (refine zZ.isR (id := 38) ?_; refine zZ.rc [0, 4, 5, 6, 8, 9, 10, 11, 12, 13, 14, 15, 16, 17, 18, 19, 20, 21, 22, 23, 24, 25, 94, 152, 164, 196, 212, 230, 245] [6, 8, 18, 19, 21, 22, 23, 24, 26, 28, 32, 36, 45, 62, 71, 80, 84, 89, 90, 93, 109, 115, 124, 159, 191, 210, 229, 234, 243, 251, 301, 302] (r := (.v zB (.v wV (.v zB (.gY xI (.gY xI .e)))))) (h := ?_)) | (refine zZ.isR (id := 40) ?_; refine zZ.rc [0, 4, 5, 6, 8, 9, 10, 11, 12, 13, 14, 15, 16, 17, 18, 19, 20, 21, 22, 23, 24, 25, 94, 152, 164, 196, 212, 230, 245] [6, 8, 18, 19, 21, 22, 23, 24, 26, 28, 32, 36, 45, 62, 71, 80, 84, 89, 90, 93, 109, 115, 124, 159, 191, 210, 229, 234, 243, 251, 301, 302] (r := (.v xI (.w yZ .e))) (h := ?_)) | (refine zZ.isR (id := 16) ?_; refine zZ.rc [0, 4, 5, 6, 8, 9, 10, 11, 12, 13, 14, 15, 16, 17, 18, 19, 20, 21, 22, 23, 24, 25, 94, 152, 164, 196, 212, 230, 245] [6, 8, 18, 19, 21, 22, 23, 24, 26, 28, 32, 36, 45, 62, 71, 80, 84, 89, 90, 93, 109, 115, 124, 159, 191, 210, 229, 234, 243, 251, 301, 302] (r := (.v zB (.v vL (.v zO .e)))) (h := ?_)) | refine zZ.xV rfl bA ?_ | refine zZ.y9 rfl bA ?_ | refine zZ.skip ?_ | refine zZ.block ?_) | refine zS.n ?_ | refine yE.n ?_ | (refine Draws.is ?_; first | refine Draws.rc (.v yI (.v yI (.v yO (.v zB .e)))) ?_ | refine Draws.rc (.v v7_18 (.v vT (.v zO .e))) ?_ | (refine Draws.in_ [109] rfl ?_; refine Draws.v rfl rfl (yY (c2) rfl rfl rfl (by decide)) ?_) | refine Draws.done (by kernel_rfl) (by kernel_rfl) (by kernel_rfl) ?_) | (refine zM.nil ?_))
                all_goals
                  refine ⟨(i + 1, ⟨t2, u2, ws2, root2, r02, r12⟩, lk), ?_, ⟨by show i + 1 ≤ l.length; omega, _, _, hI2.le (by omega), by dsimp only; omega, hlk⟩, by show l.length - (i + 1) < l.length - i; omega⟩
                  show Sub _ (ldT l (i + 1) ⟨t2, u2, ws2, root2, r02, r12⟩ lk)
                  unfold ldT
                  refine zN (is := [0, 5, 6, 8, 9, 10, 11]) (js := [6, 8, 90, 301, 302]) ?_ ?_
                  case refine_1 =>
                    repeat' first | exact zW.nil | apply zW.p rfl | apply zW.ptr rfl | apply zW.own rfl | apply zW.clo rfl | apply zW.ifp rfl | apply zW.pt rfl | apply zW.tup rfl | apply zW.skip
                  case refine_2 =>
                    repeat' first | exact zX.nil | apply zX.boxP rfl rfl | apply zX.yG rfl | (apply zX.at0; exact zK rfl (H.nk _).1 (by repeat' fail)) | (apply zX.at1; exact zK rfl (H.nk _).2.1 (by repeat' fail)) | (apply zX.at2; exact zK rfl (H.nk _).2.2 (by repeat' fail)) | apply zX.some rfl | apply zX.skip
            case inr.inr.inl =>
              have d0 : decide (e % 4 = 0) = false := by rw [hte]; rfl
              have d1 : decide (e % 4 = 1) = false := by rw [hte]; rfl
              have d2 : decide (e % 4 = 2) = true := by rw [hte]; rfl
              obtain ⟨W2, m2, l3, hI2, hll, cO⟩ := hI1.sweep (s := e / 64) ⟨by omega, by omega⟩ (by omega)
              obtain ⟨cOd, cOa⟩ := cO
              clear cS hI1 hI hcut
              obtain ⟨t2, u2, ws2, root2, r02, r12⟩ := W2
              dsimp only [dwB, dpB, dmB, Wd.pv, xB] at cOd cOa
              have cU := outs_fn 0 false 0 0
              subst hge
              unfold ldT
              have ps_ := trivial
              repeat' (first | (refine zY.is ?_; first | refine zY.nil ?_ | (refine zY.at_ 112 rfl ?_; refine zY.rc (.v vX (.v yF (.v yF (.v yF (.v yF (.v zO (.v zO (.v zO (.v zO .e))))))))) ?_) | (refine zY.at_ 120 rfl ?_; refine zY.rc (.v vX (.v yF (.v yF (.v yF (.m yD (.m yD (.w yZ (.w yZ (.v zO .e))))))))) ?_) | (refine zY.at_ 230 rfl ?_; refine zY.rc (.v wV .e) ?_) | (refine zY.at_ 231 rfl ?_; refine zY.rc (.v vX (.v yF (.v yF (.v yF (.m yD (.m yD (.w yZ (.w yZ (.v zO .e))))))))) ?_) | (refine zY.at_ 244 rfl ?_; refine zY.rc (.gY wV (.v xL .e)) ?_) | (refine zY.in_ [124] rfl ?_; refine zY.v rfl rfl (yP (cSa) rfl rfl rfl (by decide)) ?_) | (refine zY.in_ [234] rfl ?_; refine zY.v rfl rfl (yP (cOa) rfl rfl rfl (by decide)) ?_) | (refine zY.in_ [115] rfl ?_; refine zY.ofT rfl (zP.eR [301, 302, 6] (cSd) ?_)) | (refine zY.in_ [229] rfl ?_; refine zY.ofT rfl (zP.eR [301, 302, 6] (cOd) ?_)) | (refine zY.in_ [243] rfl ?_; refine zY.gY rfl rfl (by decide) rfl bA rfl (by decide) (yY (cU) rfl rfl rfl (by decide)) ?_)) | (refine zZ.is ?_; first | refine zZ.seq ?_ | (refine zZ.isR (id := 15) ?_; refine zZ.rc [0, 4, 5, 6, 8, 9, 10, 11, 12, 13, 14, 15, 16, 17, 18, 19, 20, 21, 22, 23, 24, 25, 94, 152, 164, 196, 212, 230, 245] [6, 8, 18, 19, 21, 22, 23, 24, 26, 28, 32, 36, 45, 62, 71, 80, 84, 89, 90, 93, 109, 115, 124, 159, 191, 210, 229, 234, 243, 251, 301, 302] (r := (.v zB (.v zB (.v v57_0 (.v v43_0 .e))))) (h := ?_)) | (refine zZ.isR (id := 17) ?_; refine zZ.rc [0, 4, 5, 6, 8, 9, 10, 11, 12, 13, 14, 15, 16, 17, 18, 19, 20, 21, 22, 23, 24, 25, 94, 152, 164, 196, 212, 230, 245] [6, 8, 18, 19, 21, 22, 23, 24, 26, 28, 32, 36, 45, 62, 71, 80, 84, 89, 90, 93, 109, 115, 124, 159, 191, 210, 229, 234, 243, 251, 301, 302] (r := (.v zB (.v zB (.v v7_0 (.v vT (.v kQ (.v v33_0 (.v vK (.v vL (.v zO .e)))))))))) (h := ?_)) | (refine zZ.isR (id := 18) ?_; refine zZ.rk [0, 4, 5, 6, 8, 9, 10, 11, 12, 13, 14, 15, 16, 17, 18, 19, 20, 21, 22, 23, 24, 25, 94, 152, 164, 196, 212, 230, 245] [6, 8, 18, 19, 21, 22, 23, 24, 26, 28, 32, 36, 45, 62, 71, 80, 84, 89, 90, 93, 109, 115, 124, 159, 191, 210, 229, 234, 243, 251, 301, 302] ?_; refine zZ.draws ?_) | (refine zZ.isR (id := 19) ?_; refine zZ.rc [0, 4, 5, 6, 8, 9, 10, 11, 12, 13, 14, 15, 16, 17, 18, 19, 20, 21, 22, 23, 24, 25, 94, 152, 164, 196, 212, 230, 245] [6, 8, 18, 19, 21, 22, 23, 24, 26, 28, 32, 36, 45, 62, 71, 80, 84, 89, 90, 93, 109, 115, 124, 159, 191, 210, 229, 234, 243, 251, 301, 302] (r := (.v wC (.v zB .e))) (h := ?_)) | (refine zZ.isR (id := 20) ?_; refine zZ.rc [0, 4, 5, 6, 8, 9, 10, 11, 12, 13, 14, 15, 16, 17, 18, 19, 20, 21, 22, 23, 24, 25, 94, 152, 164, 196, 212, 230, 245] [6, 8, 18, 19, 21, 22, 23, 24, 26, 28, 32, 36, 45, 62, 71, 80, 84, 89, 90, 93, 109, 115, 124, 159, 191, 210, 229, 234, 243, 251, 301, 302] (r := (.v xI (.v zB (.v x9 .e)))) (h := ?_)) | (refine zZ.isR (id := 21) ?_; refine zZ.rc [0, 4, 5, 6, 8, 9, 10, 11, 12, 13, 14, 15, 16, 17, 18, 19, 20, 21, 22, 23, 24, 25, 94, 152, 164, 196, 212, 230, 245] [6, 8, 18, 19, 21, 22, 23, 24, 26, 28, 32, 36, 45, 62, 71, 80, 84, 89, 90, 93, 109, 115, 124, 159, 191, 210, 229, 234, 243, 251, 301, 302] (r := (.v zB (.v wV (.v zB (.gY zB (.gY wV (.v xL (.v zB (.gY yI (.gY yO (.gY zB (.gY qV (.v xL (.v zB (.gY yI (.gY yO (.gY zB (.gY kQ (.gY qV (.v xL (.v zB (.gY yI (.gY yO (.gY zB (.gY v42_9 (.v xL .e)))))))))))))))))))))))))) (h := ?_)) | (refine zZ.isR (id := 23) ?_; refine zZ.rc [0, 4, 5, 6, 8, 9, 10, 11, 12, 13, 14, 15, 16, 17, 18, 19, 20, 21, 22, 23, 24, 25, 94, 152, 164, 196, 212, 230, 245] [6, 8, 18, 19, 21, 22, 23, 24, 26, 28, 32, 36, 45, 62, 71, 80, 84, 89, 90, 93, 109, 115, 124, 159, 191, 210, 229, 234, 243, 251, 301, 302] (r := (.v zB (.v x9 (.m yD (.w yZ .e))))) (h := ?_)) | (refine zZ.isR (id := 24) ?_; refine zZ.rc [0, 4, 5, 6, 8, 9, 10, 11, 12, 13, 14, 15, 16, 17, 18, 19, 20, 21, 22, 23, 24, 25, 94, 152, 164, 196, 212, 230, 245] [6, 8, 18, 19, 21, 22, 23, 24, 26, 28, 32, 36, 45, 62, 71, 80, 84, 89, 90, 93, 109, 115, 124, 159, 191, 210, 229, 234, 243, 251, 301, 302] (r := (.v x9 (.m yD (.w yZ .e)))) (h := ?_)) | (refine zZ.isR (id := 26) ?_; refine zZ.rc [0, 4, 5, 6, 8, 9, 10, 11, 12, 13, 14, 15, 16, 17, 18, 19, 20, 21, 22, 23, 24, 25, 94, 152, 164, 196, 212, 230, 245] [6, 8, 18, 19, 21, 22, 23, 24, 26, 28, 32, 36, 45, 62, 71, 80, 84, 89, 90, 93, 109, 115, 124, 159, 191, 210, 229, 234, 243, 251, 301, 302] (r := (.v zB (.v zB (.v v7_0 (.v vT (.v vK (.v qC (.v zB (.gT (.gT (.v xL (.v zB (.gT (.gT (.gT (.gT (.gT (.v xL (.v zO .e))))))))))))))))))) (h := ?_)) | (refine zZ.isR (id := 30) ?_; refine zZ.rc [0, 4, 5, 6, 8, 9, 10, 11, 12, 13, 14, 15, 16, 17, 18, 19, 20, 21, 22, 23, 24, 25, 94, 152, 164, 196, 212, 230, 245] [6, 8, 18, 19, 21, 22, 23, 24, 26, 28, 32, 36, 45, 62, 71, 80, 84, 89, 90, 93, 109, 115, 124, 159, 191, 210, 229, 234, 243, 251, 301, 302] (r := (.v zB (.v zB (.v v7_0 (.v vT (.v vK (.v qC (.v zB (.gT (.v xL (.v zO .e))))))))))) (h := ?_)) | (refine zZ.isR (id := 33) ?_; refine zZ.rc [0, 4, 5, 6, 8, 9, 10, 11, 12, 13, 14, 15, 16, 17, 18, 19, 20, 21, 22, 23, 24, 25, 94, 152, 164, 196, 212, 230, 245] [6, 8, 18, 19, 21, 22, 23, 24, 26, 28, 32, 36, 45, 62, 71, 80, 84, 89, 90, 93, 109, 115, 124, 159, 191, 210, 229, 234, 243, 251, 301, 302] (r := (.v zB (.v zB (.v v7_0 (.v vT (.v vK (.v qC (.v zO .e)))))))) (h := ?_)) | (refine zZ.isR (id := 34) ?_; refine zZ.rc [0, 4, 5, 6, 8, 9, 10, 11, 12, 13, 14, 15, 16, 17, 18, 19, 20, 21, 22, 23, 24, 25, 94, 152, 164, 196, 212, 230, 245] [6, 8, 18, 19, 21, 22, 23, 24, 26, 28, 32, 36, 45, 62, 71, 80, 84, 89, 90, 93, 109, 115, 124, 159, 191, 210, 229, 234, 243, 251, 301, 302] (r := (.v zB (.v zB (.v v7_0 (.v vT (.v v33_0 (.v kQ (.v x9 (.w yZ .e))))))))) (h := ?_)) | (refine zZ.isR (id := 35) ?_; refine zZ.rc [0, 4, 5, 6, 8, 9, 10, 11, 12, 13, 14, 15, 16, 17, 18, 19, 20, 21, 22, 23, 24, 25, 94, 152, 164, 196, 212, 230, 245] [6, 8, 18, 19, 21, 22, 23, 24, 26, 28, 32, 36, 45, 62, 71, 80, 84, 89, 90, 93, 109, 115, 124, 159, 191, 210, 229, 234, 243, 251, 301, 302] (r := (.v wC (.v yI (.v yO .e)))) (h := ?_)) | (refine zZ.isR (id := 37) ?_; refine zZ.rc [0, 4, 5, 6, 8, 9, 10, 11, 12, 13, 14, 15, 16, 17, 18, 19, 20, 21, 22, 23, 24, 25, 94, 152, 164, 196, 212, 230, 245] [6, 8, 18, 19, 21, 22, 23, 24, 26, 28, 32, 36, 45, 62, 71, 80, 84, 89, 90, 93, 109, 115, 124, 159, 191, 210, 229, 234, 243, 251, 301, 302] (r := (.v xI (.v xI .e))) (h := ?_)) | (refine zZ.isR (id := 38) ?_; refine zZ.rc [0, 4, 5, 6, 8, 9, 10, 11, 12, 13, 14, 15, 16, 17, 18, 19, 20, 21, 22, 23, 24, 25, 94, 152, 164, 196, 212, 230, 245] [6, 8, 18, 19, 21, 22, 23, 24, 26, 28, 32, 36, 45, 62, 71, 80, 84, 89, 90, 93, 109, 115, 124, 159, 191, 210, 229, 234, 243, 251, 301, 302] (r := (.v zB (.v wV (.v zB (.gY xI (.gY xI .e)))))) (h := ?_)) | (refine zZ.isR (id := 40) ?_; refine zZ.rc [0, 4, 5, 6, 8, 9, 10, 11, 12, 13, 14, 15, 16, 17, 18, 19, 20, 21, 22, 23, 24, 25, 94, 152, 164, 196, 212, 230, 245] [6, 8, 18, 19, 21, 22, 23, 24, 26, 28, 32, 36, 45, 62, 71, 80, 84, 89, 90, 93, 109, 115, 124, 159, 191, 210, 229, 234, 243, 251, 301, 302] (r := (.v xI (.w yZ .e))) (h := ?_)) | (refine zZ.isR (id := 16) ?_; refine zZ.rc [0, 4, 5, 6, 8, 9, 10, 11, 12, 13, 14, 15, 16, 17, 18, 19, 20, 21, 22, 23, 24, 25, 94, 152, 164, 196, 212, 230, 245] [6, 8, 18, 19, 21, 22, 23, 24, 26, 28, 32, 36, 45, 62, 71, 80, 84, 89, 90, 93, 109, 115, 124, 159, 191, 210, 229, 234, 243, 251, 301, 302] (r := (.v zB (.v vL (.v zO .e)))) (h := ?_)) | refine zZ.xV rfl bA ?_ | refine zZ.y9 rfl bA ?_ | refine zZ.skip ?_ | refine zZ.block ?_) | refine zS.n ?_ | refine yE.n ?_ | (refine Draws.is ?_; first | refine Draws.rc (.v yI (.v yI (.v yO (.v zB .e)))) ?_ | refine Draws.rc (.v v7_18 (.v vT (.v zO .e))) ?_ | (refine Draws.in_ [109] rfl ?_; refine Draws.v rfl rfl (yY (c2) rfl rfl rfl (by decide)) ?_) | refine Draws.done (by kernel_rfl) (by kernel_rfl) (by kernel_rfl) ?_) | (refine zM.nil ?_))
              all_goals
                refine ⟨(i + 1, ⟨t2, u2, ws2, root2, r02, r12⟩, lk), ?_, ⟨by show i + 1 ≤ l.length; omega, _, _, hI2.le (by omega), by dsimp only; omega, hlk⟩, by show l.length - (i + 1) < l.length - i; omega⟩
                show Sub _ (ldT l (i + 1) ⟨t2, u2, ws2, root2, r02, r12⟩ lk)
                unfold ldT
                refine zN (is := [0, 5, 6, 8, 9, 10, 11]) (js := [6, 8, 90, 301, 302]) ?_ ?_
                case refine_1 =>
                  repeat' first | exact zW.nil | apply zW.p rfl | apply zW.ptr rfl | apply zW.own rfl | apply zW.clo rfl | apply zW.ifp rfl | apply zW.pt rfl | apply zW.tup rfl | apply zW.skip
                case refine_2 =>
                  repeat' first | exact zX.nil | apply zX.boxP rfl rfl | apply zX.yG rfl | (apply zX.at0; exact zK rfl (H.nk _).1 (by repeat' fail)) | (apply zX.at1; exact zK rfl (H.nk _).2.1 (by repeat' fail)) | (apply zX.at2; exact zK rfl (H.nk _).2.2 (by repeat' fail)) | apply zX.some rfl | apply zX.skip
            case inr.inr.inr =>
              have d0 : decide (e % 4 = 0) = false := by rw [hte]; rfl
              have d1 : decide (e % 4 = 1) = false := by rw [hte]; rfl
              have d2 : decide (e % 4 = 2) = false := by rw [hte]; rfl
              obtain ⟨W2, m2, x3, is3, hI2, cO⟩ := hI1.seek hKu (by omega)
              have hll := hl12
              obtain ⟨cOd, cOa⟩ := cO
              clear cS hI1 hI hcut
              obtain ⟨t2, u2, ws2, root2, r02, r12⟩ := W2
              dsimp only [dwB, dpB, dmB, Wd.pv, xB] at cOd cOa
              have cU := outs_fn 0 is3 x3 0
              subst hge
              unfold ldT
              have ps_ := trivial
              repeat' (first | (refine zY.is ?_; first | refine zY.nil ?_ | (refine zY.at_ 112 rfl ?_; refine zY.rc (.v vX (.v yF (.v yF (.v yF (.v yF (.v zO (.v zO (.v zO (.v zO .e))))))))) ?_) | (refine zY.at_ 120 rfl ?_; refine zY.rc (.v vX (.v yF (.v yF (.v yF (.m yD (.m yD (.w yZ (.w yZ (.v zO .e))))))))) ?_) | (refine zY.at_ 156 rfl ?_; refine zY.rc (.v vX (.v yF (.v yF (.v yI (.w yZ (.v yI (.w yZ .e))))))) ?_) | (refine zY.at_ 231 rfl ?_; refine zY.rc (.v vX (.v yF (.v yF (.v yF (.m yD (.m yD (.w yZ (.w yZ (.v zO .e))))))))) ?_) | (refine zY.at_ 244 rfl ?_; refine zY.rc (.gY wV (.v xL .e)) ?_) | (refine zY.in_ [124] rfl ?_; refine zY.v rfl rfl (yP (cSa) rfl rfl rfl (by decide)) ?_) | (refine zY.in_ [234] rfl ?_; refine zY.v rfl rfl (yP (cOa) rfl rfl rfl (by decide)) ?_) | (refine zY.in_ [115] rfl ?_; refine zY.ofT rfl (zP.eR [301, 302, 6] (cSd) ?_)) | (refine zY.in_ [159] rfl ?_; refine zY.ofT rfl (zP.eR [301, 302, 6] (cOd) ?_)) | (refine zY.in_ [243] rfl ?_; refine zY.gY rfl rfl (by decide) rfl bA rfl (by decide) (yY (cU) rfl rfl rfl (by decide)) ?_)) | (refine zZ.is ?_; first | refine zZ.seq ?_ | (refine zZ.isR (id := 15) ?_; refine zZ.rc [0, 4, 5, 6, 8, 9, 10, 11, 12, 13, 14, 15, 16, 17, 18, 19, 20, 21, 22, 23, 24, 25, 94, 152, 164, 196, 212, 230, 245] [6, 8, 18, 19, 21, 22, 23, 24, 26, 28, 32, 36, 45, 62, 71, 80, 84, 89, 90, 93, 109, 115, 124, 159, 191, 210, 229, 234, 243, 251, 301, 302] (r := (.v zB (.v zB (.v v57_0 (.v v43_0 .e))))) (h := ?_)) | (refine zZ.isR (id := 17) ?_; refine zZ.rc [0, 4, 5, 6, 8, 9, 10, 11, 12, 13, 14, 15, 16, 17, 18, 19, 20, 21, 22, 23, 24, 25, 94, 152, 164, 196, 212, 230, 245] [6, 8, 18, 19, 21, 22, 23, 24, 26, 28, 32, 36, 45, 62, 71, 80, 84, 89, 90, 93, 109, 115, 124, 159, 191, 210, 229, 234, 243, 251, 301, 302] (r := (.v zB (.v zB (.v v7_0 (.v vT (.v kQ (.v v33_0 (.v vK (.v vL (.v zO .e)))))))))) (h := ?_)) | (refine zZ.isR (id := 18) ?_; refine zZ.rk [0, 4, 5, 6, 8, 9, 10, 11, 12, 13, 14, 15, 16, 17, 18, 19, 20, 21, 22, 23, 24, 25, 94, 152, 164, 196, 212, 230, 245] [6, 8, 18, 19, 21, 22, 23, 24, 26, 28, 32, 36, 45, 62, 71, 80, 84, 89, 90, 93, 109, 115, 124, 159, 191, 210, 229, 234, 243, 251, 301, 302] ?_; refine zZ.draws ?_) | (refine zZ.isR (id := 19) ?_; refine zZ.rc [0, 4, 5, 6, 8, 9, 10, 11, 12, 13, 14, 15, 16, 17, 18, 19, 20, 21, 22, 23, 24, 25, 94, 152, 164, 196, 212, 230, 245] [6, 8, 18, 19, 21, 22, 23, 24, 26, 28, 32, 36, 45, 62, 71, 80, 84, 89, 90, 93, 109, 115, 124, 159, 191, 210, 229, 234, 243, 251, 301, 302] (r := (.v wC (.v zB .e))) (h := ?_)) | (refine zZ.isR (id := 20) ?_; refine zZ.rc [0, 4, 5, 6, 8, 9, 10, 11, 12, 13, 14, 15, 16, 17, 18, 19, 20, 21, 22, 23, 24, 25, 94, 152, 164, 196, 212, 230, 245] [6, 8, 18, 19, 21, 22, 23, 24, 26, 28, 32, 36, 45, 62, 71, 80, 84, 89, 90, 93, 109, 115, 124, 159, 191, 210, 229, 234, 243, 251, 301, 302] (r := (.v xI (.v zB (.v x9 .e)))) (h := ?_)) | (refine zZ.isR (id := 21) ?_; refine zZ.rc [0, 4, 5, 6, 8, 9, 10, 11, 12, 13, 14, 15, 16, 17, 18, 19, 20, 21, 22, 23, 24, 25, 94, 152, 164, 196, 212, 230, 245] [6, 8, 18, 19, 21, 22, 23, 24, 26, 28, 32, 36, 45, 62, 71, 80, 84, 89, 90, 93, 109, 115, 124, 159, 191, 210, 229, 234, 243, 251, 301, 302] (r := (.v zB (.v wV (.v zB (.gY zB (.gY wV (.v xL (.v zB (.gY yI (.gY yO (.gY zB (.gY qV (.v xL (.v zB (.gY yI (.gY yO (.gY zB (.gY kQ (.gY qV (.v xL (.v zB (.gY yI (.gY yO (.gY zB (.gY v42_9 (.v xL .e)))))))))))))))))))))))))) (h := ?_)) | (refine zZ.isR (id := 23) ?_; refine zZ.rc [0, 4, 5, 6, 8, 9, 10, 11, 12, 13, 14, 15, 16, 17, 18, 19, 20, 21, 22, 23, 24, 25, 94, 152, 164, 196, 212, 230, 245] [6, 8, 18, 19, 21, 22, 23, 24, 26, 28, 32, 36, 45, 62, 71, 80, 84, 89, 90, 93, 109, 115, 124, 159, 191, 210, 229, 234, 243, 251, 301, 302] (r := (.v zB (.v x9 (.m yD (.w yZ .e))))) (h := ?_)) | (refine zZ.isR (id := 24) ?_; refine zZ.rc [0, 4, 5, 6, 8, 9, 10, 11, 12, 13, 14, 15, 16, 17, 18, 19, 20, 21, 22, 23, 24, 25, 94, 152, 164, 196, 212, 230, 245] [6, 8, 18, 19, 21, 22, 23, 24, 26, 28, 32, 36, 45, 62, 71, 80, 84, 89, 90, 93, 109, 115, 124, 159, 191, 210, 229, 234, 243, 251, 301, 302] (r := (.v x9 (.m yD (.w yZ .e)))) (h := ?_)) | (refine zZ.isR (id := 26) ?_; refine zZ.rc [0, 4, 5, 6, 8, 9, 10, 11, 12, 13, 14, 15, 16, 17, 18, 19, 20, 21, 22, 23, 24, 25, 94, 152, 164, 196, 212, 230, 245] [6, 8, 18, 19, 21, 22, 23, 24, 26, 28, 32, 36, 45, 62, 71, 80, 84, 89, 90, 93, 109, 115, 124, 159, 191, 210, 229, 234, 243, 251, 301, 302] (r := (.v zB (.v zB (.v v7_0 (.v vT (.v vK (.v qC (.v zB (.gT (.gT (.v xL (.v zB (.gT (.gT (.gT (.gT (.gT (.v xL (.v zO .e))))))))))))))))))) (h := ?_)) | (refine zZ.isR (id := 30) ?_; refine zZ.rc [0, 4, 5, 6, 8, 9, 10, 11, 12, 13, 14, 15, 16, 17, 18, 19, 20, 21, 22, 23, 24, 25, 94, 152, 164, 196, 212, 230, 245] [6, 8, 18, 19, 21, 22, 23, 24, 26, 28, 32, 36, 45, 62, 71, 80, 84, 89, 90, 93, 109, 115, 124, 159, 191, 210, 229, 234, 243, 251, 301, 302] (r := (.v zB (.v zB (.v v7_0 (.v vT (.v vK (.v qC (.v zB (.gT (.v xL (.v zO .e))))))))))) (h := ?_)) | (refine zZ.isR (id := 33) ?_; refine zZ.rc [0, 4, 5, 6, 8, 9, 10, 11, 12, 13, 14, 15, 16, 17, 18, 19, 20, 21, 22, 23, 24, 25, 94, 152, 164, 196, 212, 230, 245] [6, 8, 18, 19, 21, 22, 23, 24, 26, 28, 32, 36, 45, 62, 71, 80, 84, 89, 90, 93, 109, 115, 124, 159, 191, 210, 229, 234, 243, 251, 301, 302] (r := (.v zB (.v zB (.v v7_0 (.v vT (.v vK (.v qC (.v zO .e)))))))) (h := ?_)) | (refine zZ.isR (id := 25) ?_; refine zZ.rc [0, 4, 5, 6, 8, 9, 10, 11, 12, 13, 14, 15, 16, 17, 18, 19, 20, 21, 22, 23, 24, 25, 94, 152, 164, 196, 212, 230, 245] [6, 8, 18, 19, 21, 22, 23, 24, 26, 28, 32, 36, 45, 62, 71, 80, 84, 89, 90, 93, 109, 115, 124, 159, 191, 210, 229, 234, 243, 251, 301, 302] (r := (.v wC (.v zB .e))) (h := ?_)) | (refine zZ.isR (id := 37) ?_; refine zZ.rc [0, 4, 5, 6, 8, 9, 10, 11, 12, 13, 14, 15, 16, 17, 18, 19, 20, 21, 22, 23, 24, 25, 94, 152, 164, 196, 212, 230, 245] [6, 8, 18, 19, 21, 22, 23, 24, 26, 28, 32, 36, 45, 62, 71, 80, 84, 89, 90, 93, 109, 115, 124, 159, 191, 210, 229, 234, 243, 251, 301, 302] (r := (.v xI (.v xI .e))) (h := ?_)) | (refine zZ.isR (id := 38) ?_; refine zZ.rc [0, 4, 5, 6, 8, 9, 10, 11, 12, 13, 14, 15, 16, 17, 18, 19, 20, 21, 22, 23, 24, 25, 94, 152, 164, 196, 212, 230, 245] [6, 8, 18, 19, 21, 22, 23, 24, 26, 28, 32, 36, 45, 62, 71, 80, 84, 89, 90, 93, 109, 115, 124, 159, 191, 210, 229, 234, 243, 251, 301, 302] (r := (.v zB (.v wV (.v zB (.gY xI (.gY xI .e)))))) (h := ?_)) | (refine zZ.isR (id := 40) ?_; refine zZ.rc [0, 4, 5, 6, 8, 9, 10, 11, 12, 13, 14, 15, 16, 17, 18, 19, 20, 21, 22, 23, 24, 25, 94, 152, 164, 196, 212, 230, 245] [6, 8, 18, 19, 21, 22, 23, 24, 26, 28, 32, 36, 45, 62, 71, 80, 84, 89, 90, 93, 109, 115, 124, 159, 191, 210, 229, 234, 243, 251, 301, 302] (r := (.v xI (.w yZ .e))) (h := ?_)) | (refine zZ.isR (id := 16) ?_; refine zZ.rc [0, 4, 5, 6, 8, 9, 10, 11, 12, 13, 14, 15, 16, 17, 18, 19, 20, 21, 22, 23, 24, 25, 94, 152, 164, 196, 212, 230, 245] [6, 8, 18, 19, 21, 22, 23, 24, 26, 28, 32, 36, 45, 62, 71, 80, 84, 89, 90, 93, 109, 115, 124, 159, 191, 210, 229, 234, 243, 251, 301, 302] (r := (.v zB (.v vL (.v zO .e)))) (h := ?_)) | refine zZ.xV rfl bA ?_ | refine zZ.y9 rfl bA ?_ | refine zZ.skip ?_ | refine zZ.block ?_) | refine zS.n ?_ | refine yE.n ?_ | (refine Draws.is ?_; first | refine Draws.rc (.v yI (.v yI (.v yO (.v zB .e)))) ?_ | refine Draws.rc (.v v7_18 (.v vT (.v zO .e))) ?_ | (refine Draws.in_ [109] rfl ?_; refine Draws.v rfl rfl (yY (c2) rfl rfl rfl (by decide)) ?_) | refine Draws.done (by kernel_rfl) (by kernel_rfl) (by kernel_rfl) ?_) | (refine zM.nil ?_))
              all_goals
                refine ⟨(i + 1, ⟨t2, u2, ws2, root2, r02, r12⟩, lk), ?_, ⟨by show i + 1 ≤ l.length; omega, _, _, hI2.le (by omega), by dsimp only; omega, hlk⟩, by show l.length - (i + 1) < l.length - i; omega⟩
                show Sub _ (ldT l (i + 1) ⟨t2, u2, ws2, root2, r02, r12⟩ lk)
                unfold ldT
                refine zN (is := [0, 5, 6, 8, 9, 10, 11]) (js := [6, 8, 90, 301, 302]) ?_ ?_
                case refine_1 =>
                  repeat' first | exact zW.nil | apply zW.p rfl | apply zW.ptr rfl | apply zW.own rfl | apply zW.clo rfl | apply zW.ifp rfl | apply zW.pt rfl | apply zW.tup rfl | apply zW.skip
                case refine_2 =>
                  repeat' first | exact zX.nil | apply zX.boxP rfl rfl | apply zX.yG rfl | (apply zX.at0; exact zK rfl (H.nk _).1 (by repeat' fail)) | (apply zX.at1; exact zK rfl (H.nk _).2.1 (by repeat' fail)) | (apply zX.at2; exact zK rfl (H.nk _).2.2 (by repeat' fail)) | apply zX.some rfl | apply zX.skip
    case pos =>
      have hgi : ks.getD i 0 = ks[i]'(by omega) := by simp [List.getD, show i < ks.length by omega]
      have hg1 := hk _ (List.getElem_mem (show i < ks.length by omega))
      rw [← hgi] at hg1
      have hm1 : ldAt ks (i + 1) = ldM i (ks.getD i 0) (ldAt ks i) := rfl
      have i3 : (0 : Int) ≤ (i : Int) ∧ (i : Int) < (byts ks).length := by rw [kW]; omega
      show zZ _ _ _ (ldS l ks i (ldAt ks i)) _
      generalize ldAt ks i = m at *
      generalize hgg : ks.getD i 0 = e at *
      have hge : ks.getD ((i : Int)).toNat 0 = e := hgg
      have f3 : decide ((i : Int) + 1 ≤ 8) = true := decide_eq_true (by omega)
      have w0 : IntKind.i64.wrap ((i : Int) + 1 - 1) = (i : Int) := by rw [wrap_i64 _ (by omega)]; omega
      have w1 : IntKind.i64.wrap ((i : Int) + 1 + 1) = ((i + 1 : Nat) : Int) + 1 := by rw [wrap_i64 _ (by omega)]; omega
      have w2 : IntKind.u64.wrap ((i : Int) + 1) = (i : Int) + 1 := wrap_u64 _ (by omega)
      have w5 : IntKind.i64.wrap (4 * ((i : Int) + 1)) = 4 * ((i : Int) + 1) := wrap_i64 _ (by omega)
      have w6 : IntKind.u64.wrap (4 * ((i : Int) + 1)) = 4 * ((i : Int) + 1) := wrap_u64 _ (by omega)
      have u1 : e.tmod 4 = e % 4 := Int.tmod_eq_emod_of_nonneg hg1.1
      have u2 : IntKind.u8.wrap (e.tdiv 64) = e / 64 := by rw [Int.tdiv_eq_ediv_of_nonneg hg1.1]; exact wrap_in _ (by simp only [IntKind.min, IntKind.max, IntKind.signed, IntKind.bits]; omega)
      have u4 : IntKind.u64.wrap (e % 4) = e % 4 := wrap_u64 _ (by omega)
      have u5 : IntKind.u64.wrap (e / 64) = e / 64 := wrap_u64 _ (by omega)
      have u6 : IntKind.u64.wrap (8 * (e % 4)) = 8 * (e % 4) := wrap_u64 _ (by omega)
      have u7 : IntKind.u64.wrap ((i : Int) + 1 + 8 * (e % 4)) = (i : Int) + 1 + 8 * (e % 4) := wrap_u64 _ (by omega)
      have hsm : Small 1 := by unfold Small; omega
      have c2 := qR 1 ((i : Int) + 1) 1 hsm (by omega) (by unfold Small; omega)
      have c3 := qR 1 ((i : Int) + 1) 2 hsm (by omega) (by unfold Small; omega)
      have c4 := qR 1 ((i : Int) + 1) 4 hsm (by omega) (by unfold Small; omega)
      have a1 : 0 ≤ zG 1 ((i : Int) + 1) 1 ∧ zG 1 ((i : Int) + 1) 1 < (73 : Nat) := by rw [xZ]; omega
      have a2 : 0 ≤ zG 1 ((i : Int) + 1) 2 ∧ zG 1 ((i : Int) + 1) 2 < (73 : Nat) := by rw [xZ]; omega
      have a4 : 0 ≤ zG 1 ((i : Int) + 1) 4 ∧ zG 1 ((i : Int) + 1) 4 < (73 : Nat) := by rw [xZ]; omega
      have hM : ldM i e m = wN (wN (wN m (zG 1 ((i : Int) + 1) 1) ((i : Int) + 1 + 8 * (e % 4))) (zG 1 ((i : Int) + 1) 2) (4 * ((i : Int) + 1))) (zG 1 ((i : Int) + 1) 4) (e / 64) := rfl
      generalize hc1 : zG 1 ((i : Int) + 1) 1 = p1 at *
      generalize hc2 : zG 1 ((i : Int) + 1) 2 = p2 at *
      generalize hc4 : zG 1 ((i : Int) + 1) 4 = p4 at *
      have q0 := RowF.of 73 m
      have q1 := q0.set a1 ((i : Int) + 1 + 8 * (e % 4))
      have q2 := q1.set a2 (4 * ((i : Int) + 1))
      have q4 := q2.set a4 (e / 64)
      have q0k := q0.k
      have q0r := q0.r a1
      have q0i := q0.i a1
      have q1k := q1.k
      have q1r := q1.r a2
      have q1i := q1.i a2
      have q2k := q2.k
      have q2r := q2.r a4
      have q2i := q2.i a4
      have hR := q4.e
      rw [← hM] at hR
      clear q0 q1 q2 q4 hM hld hgg hgi hc1 hc2 hc4
      subst hge
      unfold ldS
      repeat' (first | (refine zY.nil ?_) | (refine zZ.is ?_; first | refine zZ.seq ?_ | (refine zZ.isR (id := 6) ?_; refine zZ.rc [0, 1, 4, 5, 6, 7, 38] [6, 8, 18, 19, 21, 22, 23, 24, 26, 28, 32, 36, 45, 62, 71, 80, 84, 89, 90, 93, 109, 115, 124, 159, 191, 210, 229, 234, 243, 251] (r := (.v zB (.v v44_0 .e))) (h := ?_)) | (refine zZ.isR (id := 8) ?_; refine zZ.rk [0, 1, 4, 5, 6, 7, 38] [6, 8, 18, 19, 21, 22, 23, 24, 26, 28, 32, 36, 45, 62, 71, 80, 84, 89, 90, 93, 109, 115, 124, 159, 191, 210, 229, 234, 243, 251] ?_; refine zZ.draws ?_) | (refine zZ.isR (id := 9) ?_; refine zZ.rk [0, 1, 4, 5, 6, 7, 38] [6, 8, 18, 19, 21, 22, 23, 24, 26, 28, 32, 36, 45, 62, 71, 80, 84, 89, 90, 93, 109, 115, 124, 159, 191, 210, 229, 234, 243, 251] ?_; refine zZ.draws ?_) | (refine zZ.isR (id := 10) ?_; refine zZ.rk [0, 1, 4, 5, 6, 7, 38] [6, 8, 18, 19, 21, 22, 23, 24, 26, 28, 32, 36, 45, 62, 71, 80, 84, 89, 90, 93, 109, 115, 124, 159, 191, 210, 229, 234, 243, 251] ?_; refine zZ.draws ?_) | (refine zZ.isR (id := 7) ?_; refine zZ.rc [0, 1, 4, 5, 6, 7, 38] [6, 8, 18, 19, 21, 22, 23, 24, 26, 28, 32, 36, 45, 62, 71, 80, 84, 89, 90, 93, 109, 115, 124, 159, 191, 210, 229, 234, 243, 251] (r := (.v zB (.v vL (.v zO .e)))) (h := ?_)) | refine zZ.xV rfl bA ?_ | refine zZ.skip ?_ | refine zZ.block ?_) | refine zS.n ?_ | refine yE.n ?_ | (refine Draws.is ?_; first | refine Draws.rc (.v zB (.v zB (.v v31_0 (.v v7_4 (.v vT (.v v33_0 (.v kQ (.v v7_38 .e)))))))) ?_ | refine Draws.rc (.v zB (.v kQ (.v zB (.v zB (.v v31_0 (.v v7_4 (.v vT (.v vK (.v kQ (.v v32_0 (.v vL (.v v7_38 .e)))))))))))) ?_ | refine Draws.rc (.v zB (.v v32_0 (.v kQ (.v v7_38 .e)))) ?_ | refine Draws.rc (.v yI (.v yI (.v v2_8 (.v zB .e)))) ?_ | (refine Draws.in_ [45] rfl ?_; refine Draws.v rfl rfl (yY (c2) rfl rfl rfl (by decide)) ?_) | (refine Draws.in_ [62] rfl ?_; refine Draws.v rfl rfl (yY (c3) rfl rfl rfl (by decide)) ?_) | (refine Draws.in_ [71] rfl ?_; refine Draws.v rfl rfl (yY (c4) rfl rfl rfl (by decide)) ?_) | refine Draws.done (by kernel_rfl) (by kernel_rfl) (by kernel_rfl) ?_) | (refine zM.is ?_; first | refine zM.nil ?_ | refine zM.rc (.w w24_1 .e) ?_))
      all_goals
        refine ⟨i + 1, ?_, by omega, by omega⟩
        show Sub _ (ldS l ks (i + 1) (ldAt ks (i + 1)))
        rw [hm1, hR]
        unfold ldS
        refine zN (is := [0, 1, 5, 6, 7]) (js := [6, 36]) ?_ ?_
        case refine_1 =>
          repeat' first | exact zW.nil | apply zW.p rfl | apply zW.ptr rfl | apply zW.own rfl | apply zW.clo rfl | apply zW.ifp rfl | apply zW.pt rfl | apply zW.tup rfl | apply zW.skip
        case refine_2 =>
          repeat' first | exact zX.nil | apply zX.boxP rfl rfl | apply zX.yG rfl | (apply zX.at0; exact zK rfl (H.nk _).1 (by repeat' fail)) | (apply zX.at1; exact zK rfl (H.nk _).2.1 (by repeat' fail)) | (apply zX.at2; exact zK rfl (H.nk _).2.2 (by repeat' fail)) | apply zX.some rfl | apply zX.skip
end Go.Proofs.YteadaggehndacaaDoor
/- The law ListDirect: its contract. -/
namespace Go.Proofs.YteadaggehndacaaDoor
set_option maxRecDepth 100000
set_option maxHeartbeats 16000000
open Go Go.RowKit
set_option linter.unusedSimpArgs false
set_option linter.unusedVariables false
attribute [local irreducible] zY zZ Step zQ Sub zM zP Fn zS yE
theorem listDirect_fn (l ks : List Int) (hl : ∀ x ∈ l, 0 ≤ x ∧ x < 256) (hll : l.length ≤ maxLen) (hk : ∀ x ∈ ks, 0 ≤ x ∧ x < 256) (hkl : ks.length ≤ maxLen) : Fn Tryd.prog 6 [.sl (byts l), .sl (byts ks)] (.p (.val (.bool true))) := by
  by_cases h1 : l.length ≤ 20 ∧ 8 ≤ ks.length
  · exact listDirect_start l ks hl hk h1.1 hkl h1.2
  · have c0 := shown15_fn
    by_cases h10 : l.length ≤ 20
    case pos =>
      have f1 : decide ((20 : Int) < (l.length : Nat)) = false := decide_eq_false (by omega)
      have f2 : decide (((ks.length : Nat) : Int) < 8) = true := decide_eq_true (by omega)
      refine yU Tryd.func6 rfl Tryd.ntmps6 (Nat.le_of_ble_eq_true rfl) ?_
      repeat' (first | (refine zY.is ?_; first | refine zY.nil ?_ | (refine zY.at_ 5 rfl ?_; refine zY.rc (.v zO .e) ?_) | (refine zY.in_ [26] rfl ?_; refine zY.v rfl rfl (yY (c0) rfl rfl rfl (by decide)) ?_)) | (refine zZ.is ?_; first | refine zZ.seq ?_ | (refine zZ.isR (id := 0) ?_; refine zZ.rc [0, 1] [6, 8, 18, 19, 21, 22, 23, 24, 80, 90] (r := (.v zO .e)) (h := ?_)) | (refine zZ.isR (id := 1) ?_; refine zZ.rc [0, 1, 4] [6, 8, 18, 19, 21, 22, 23, 24, 80, 90] (r := .e) (h := ?_)) | (refine zZ.isR (id := 2) ?_; refine zZ.rc [0, 1, 4, 5] [6, 8, 18, 19, 21, 22, 23, 24, 80, 90] (r := (.v zB (.v v57_0 (.v v45_0 (.v zB (.gY zB (.gY v57_0 (.gY v43_0 (.v xL .e))))))))) (h := ?_)) | (refine zZ.isR (id := 3) ?_; refine zZ.rc [0, 1, 4, 5] [6, 8, 18, 19, 21, 22, 23, 24, 80, 90] (r := (.v zB (.v zO .e))) (h := ?_)) | refine zZ.xV rfl bA ?_ | refine zZ.ret ?_) | refine zS.n ?_ | refine zS.r ?_)
      all_goals exact ⟨by first | exact .inl rfl | exact .inr rfl, _, Sub.refl _, .p rfl (.tmp rfl)⟩
    case neg =>
      have f1 : decide ((20 : Int) < (l.length : Nat)) = true := decide_eq_true (by omega)
      refine yU Tryd.func6 rfl Tryd.ntmps6 (Nat.le_of_ble_eq_true rfl) ?_
      repeat' (first | (refine zY.is ?_; first | refine zY.nil ?_ | (refine zY.at_ 5 rfl ?_; refine zY.rc (.v zO .e) ?_) | (refine zY.in_ [26] rfl ?_; refine zY.v rfl rfl (yY (c0) rfl rfl rfl (by decide)) ?_)) | (refine zZ.is ?_; first | refine zZ.seq ?_ | (refine zZ.isR (id := 0) ?_; refine zZ.rc [0, 1] [6, 8, 18, 19, 21, 22, 23, 24, 80, 90] (r := (.v zO .e)) (h := ?_)) | (refine zZ.isR (id := 1) ?_; refine zZ.rc [0, 1, 4] [6, 8, 18, 19, 21, 22, 23, 24, 80, 90] (r := .e) (h := ?_)) | (refine zZ.isR (id := 2) ?_; refine zZ.rc [0, 1, 4, 5] [6, 8, 18, 19, 21, 22, 23, 24, 80, 90] (r := (.v zB (.v v57_0 (.v v45_0 (.v zB (.gF (.gF (.gF (.v kZ .e))))))))) (h := ?_)) | (refine zZ.isR (id := 3) ?_; refine zZ.rc [0, 1, 4, 5] [6, 8, 18, 19, 21, 22, 23, 24, 80, 90] (r := (.v zB (.v zO .e))) (h := ?_)) | refine zZ.xV rfl bA ?_ | refine zZ.ret ?_) | refine zS.n ?_ | refine zS.r ?_)
      all_goals exact ⟨by first | exact .inl rfl | exact .inr rfl, _, Sub.refl _, .p rfl (.tmp rfl)⟩
end Go.Proofs.YteadaggehndacaaDoor
/- A law's arguments, as they come in, by their shapes. Generic over the program. -/
namespace Go.Proofs.YteadaggehndacaaDoor
set_option maxRecDepth 100000
set_option maxHeartbeats 16000000
open Go Go.RowKit Go.ChangeShapes Go.WideShapes Go.ChangeAt
def NoM : Nat → Nat → Prop := fun _ _ => False
/-- what a cell may hold -/
inductive Leaf where
  | int (k : IntKind)
  | bool
  | any
deriving DecidableEq
def leafOK : Leaf → Value → Prop
  | .int k, v => ∃ n, v = .int k n ∧ (Lit.int k n).wf = true
  | .bool, v => ∃ b, v = .bool b
  | .any, v => v.oneCell' = true
/-- type t's cells, one behind the other, are of these kinds (any: a slice) -/
def flatB (P : Program) : Nat → TypeId → List Leaf → Bool
  | 0, _, _ => false
  | d + 1, t, ls => match P.underlying t with
    | some (.int k) => decide (ls = [.int k])
    | some .bool => decide (ls = [.bool])
    | some (.slice _) => decide (ls = [.any])
    | some (.struct fs) => (ls.length == P.cellsOf t) && (fs.toList.all fun f => flatB P d f.type ((ls.drop f.offset).take (P.cellsOf f.type)) && (((ls.drop f.offset).take (P.cellsOf f.type)).length == P.cellsOf f.type)) &&
      (List.range ls.length).all fun c => fs.toList.any fun f => decide (f.offset ≤ c) && decide (c < f.offset + P.cellsOf f.type)
    | _ => false
section
variable {H : Type} {enc : TypeId × Value → H} {P : Program} {W : World} {base : Nat} {spare : Nat → Bool} {held : Bool}
theorem flat_trod : ∀ (d : Nat) {t : TypeId} {ls : List Leaf}, flatB P d t ls = true → ∀ {fuel : Nat} {cs : List Value} {x : DataW H × List MemPlace}, DataW.trod enc P W base spare held fuel t cs = some x →
    cs.length = ls.length ∧ ∀ (i : Nat) l v, ls[i]? = some l → cs[i]? = some v → leafOK l v
  | 0, _, _, h, _, _, _, _ => by cases h
  | d + 1, t, ls, h, fuel, cs, x, hx => by
    unfold flatB at h
    cases hu : P.underlying t with
    | none => rw [hu] at h; cases h
    | some ds =>
      rw [hu] at h
      cases ds with
      | int k =>
        obtain rfl : ls = [.int k] := of_decide_eq_true h
        obtain ⟨n, rfl, _, hw⟩ := DataW.trod_int hu hx
        refine ⟨rfl, fun i l v hl hv => ?_⟩
        match i with
        | 0 => simp at hl hv; subst hl hv; exact ⟨n, rfl, hw⟩
        | i + 1 => simp at hl
      | bool =>
        obtain rfl : ls = [.bool] := of_decide_eq_true h
        obtain ⟨b, rfl, _⟩ := DataW.trod_bool hu hx
        refine ⟨rfl, fun i l v hl hv => ?_⟩
        match i with
        | 0 => simp at hl hv; subst hl hv; exact ⟨b, rfl⟩
        | i + 1 => simp at hl
      | slice e =>
        obtain rfl : ls = [.any] := of_decide_eq_true h
        have key : ∀ w : Value, w.oneCell' = true → cs = [w] → cs.length = [Leaf.any].length ∧ ∀ (i : Nat) l v, [Leaf.any][i]? = some l → cs[i]? = some v → leafOK l v := fun w hw e => by
          subst e
          refine ⟨rfl, fun i l v hl hv => ?_⟩
          match i with
          | 0 => simp at hl hv; subst hl hv; exact hw
          | i + 1 => simp at hl
        rcases DataW.trod_slice hu hx with ⟨e, _⟩ | ⟨a, len, cap, _, _, _, _, e, _⟩
        · exact key _ rfl e
        · exact key _ rfl e
      | struct fs =>
        simp only [Bool.and_eq_true, beq_iff_eq, List.all_eq_true, List.mem_range, List.any_eq_true, decide_eq_true_eq] at h
        obtain ⟨⟨hlen, hfs⟩, hcov⟩ := h
        obtain ⟨xs, n, _, _, hcl, hxl, hg⟩ := DataW.trod_struct hu hx
        refine ⟨by omega, fun i l v hl hv => ?_⟩
        have hil : i < ls.length := (List.getElem?_eq_some_iff.1 hl).1
        obtain ⟨f, hf, hf1, hf2⟩ := hcov i hil
        obtain ⟨hfl, hfn⟩ := hfs f hf
        obtain ⟨j, hj, hfj⟩ := List.getElem_of_mem hf
        have hfj2 : fs[j]? = some f := by
          rw [← hfj, Array.getElem_toList]
          exact Array.getElem?_eq_getElem _
        have h2 := hg j f hfj2
        have hjx : j < xs.length := by rw [hxl]; simpa using hj
        rw [List.getElem?_eq_getElem hjx] at h2
        obtain ⟨_, h3⟩ := flat_trod d hfl h2
        refine h3 (i - f.offset) l v ?_ ?_
        · rw [List.getElem?_take_of_lt (by omega), List.getElem?_drop, show f.offset + (i - f.offset) = i by omega]
          exact hl
        · rw [List.getElem?_take_of_lt (by omega), List.getElem?_drop, show f.offset + (i - f.offset) = i by omega]
          exact hv
      | _ => cases h
theorem has_block {r : Reach} {a : Addr} {e : TypeId} {n : Nat} (h : W.has P r base a e n) : a.spot = none ∧ a.block < W.heap.size := by
  obtain ⟨_, h1, row, cells, h2, _⟩ := h
  refine ⟨h1, ?_⟩
  unfold World.shape? at h2
  cases hb : W.heap[a.block]? with
  | none => rw [hb] at h2; cases h2
  | some o => exact (Array.getElem?_eq_some_iff.1 hb).1
theorem cell_slice {t e : TypeId} {a : Addr} {len cap : Nat} (ht : P.underlying t = some (.slice e)) (h : Cell.okWide P W .any base t (.slice (some a) len cap)) : a.spot = none ∧ a.block < W.heap.size ∧ len ≤ cap := by
  simp only [Cell.okWide, ht, Cell.ok] at h
  exact ⟨(has_block h.2.2).1, (has_block h.2.2).2, h.1⟩
theorem wide_slice {t e : TypeId} {a : Addr} {len cap : Nat} (ht : P.underlying t = some (.slice e)) (h : Value.okWide P W .any base t (.slice (some a) len cap)) : a.spot = none ∧ a.block < W.heap.size ∧ len ≤ cap :=
  cell_slice ht (by simpa only [Value.okWide, ht] using h)
theorem leaf_one {l : Leaf} {v : Value} (h : leafOK l v) : v.oneCell' = true := by
  cases l with
  | int k => obtain ⟨n, rfl, _⟩ := h; rfl
  | bool => obtain ⟨b, rfl⟩ := h; rfl
  | any => exact h
theorem flatten_len {n : Nat} : ∀ {rs : List (List Value)}, (∀ r ∈ rs, r.length = n) → rs.flatten.length = rs.length * n
  | [], _ => by simp
  | r :: rs, h => by
    rw [List.flatten_cons, List.length_append, h r (by simp), flatten_len fun x hx => h x (by simp [hx]), List.length_cons, Nat.add_mul]
    omega
theorem flatten_get {n : Nat} : ∀ {rs : List (List Value)}, (∀ r ∈ rs, r.length = n) → ∀ (i c : Nat), c < n → rs.flatten[i * n + c]? = (rs[i]?).bind (·[c]?)
  | [], _, i, c, _ => by simp
  | r :: rs, h, 0, c, hc => by
    rw [List.flatten_cons, Nat.zero_mul, Nat.zero_add, List.getElem?_append_left (by rw [h r (by simp)]; exact hc)]
    rfl
  | r :: rs, h, i + 1, c, hc => by
    have hr := h r (by simp)
    rw [List.flatten_cons, List.getElem?_append_right (by rw [hr, Nat.add_mul]; omega), hr]
    have e : (i + 1) * n + c - n = i * n + c := by rw [Nat.add_mul]; omega
    rw [e, flatten_get (fun x hx => h x (by simp [hx])) i c hc]
    rfl
/-- a slice of plain structs (of slices, as they are) that came in -/
theorem arg_rows {t e : TypeId} {ls : List Leaf} {dep : Nat} {v : Value} {fuel : Nat} {x : DataW H × List MemPlace} (ht : P.underlying t = some (.slice e)) (hfl : flatB P dep e ls = true) (hn : P.cellsOf e = ls.length)
    (hok : ∀ a len cap, v = .slice (some a) len cap → a.spot = none ∧ a.block < W.heap.size) (h : DataW.trod enc P W base (fun _ => true) held fuel t [v] = some x) :
    ∃ rows : List (List Value), (∀ r ∈ rows, r.length = ls.length ∧ ∀ (i : Nat) l u, ls[i]? = some l → r[i]? = some u → leafOK l u) ∧ rows.length ≤ maxLen ∧
      ∀ es : List PV, es.map PV.cells = rows.map (fun r => r.map PV.val) → Rep NoM W (.sl es) v := by
  rcases DataW.trod_slice ht h with ⟨hv, _⟩ | ⟨a, len, cap, elems, rest, n, _, hv, _, hb, hlc, hm, hlen, hel, _⟩
  · simp only [List.cons.injEq, and_true] at hv
    subst hv
    refine ⟨[], fun r hr => by simp at hr, Nat.zero_le _, fun es he => ?_⟩
    have : es = [] := by simpa using he
    subst this
    exact .nil
  · simp only [List.cons.injEq, and_true] at hv
    subst hv
    obtain ⟨hs, hbk⟩ := hok a len cap rfl
    obtain ⟨g, off, spot⟩ := a
    simp only at hs hbk
    subst hs
    have row : ∀ i, i < len → ∃ r : List Value, W.cells? base (Addr.add ⟨g, off, none⟩ (i * P.cellsOf e)) (P.cellsOf e) = some r ∧ r.length = ls.length ∧ ∀ (j : Nat) l u, ls[j]? = some l → r[j]? = some u → leafOK l u := by
      intro i hi
      have h1 := hel i hi
      rw [List.getElem?_eq_getElem (by omega : i < elems.length)] at h1
      obtain ⟨r, hr, h2⟩ := Option.bind_eq_some_iff.1 h1
      obtain ⟨h3, h4⟩ := flat_trod dep hfl h2
      exact ⟨r, hr, h3, h4⟩
    have rows : ∀ m, m ≤ len → ∃ rs : List (List Value), rs.length = m ∧ ∀ (i : Nat) r, rs[i]? = some r → W.cells? base (Addr.add ⟨g, off, none⟩ (i * P.cellsOf e)) (P.cellsOf e) = some r ∧ r.length = ls.length ∧ ∀ (j : Nat) l u, ls[j]? = some l → r[j]? = some u → leafOK l u := by
      intro m
      induction m with
      | zero => exact fun _ => ⟨[], rfl, fun i r h => by simp at h⟩
      | succ m ih =>
        intro hm2
        obtain ⟨rs, h1, h2⟩ := ih (by omega)
        obtain ⟨r, hr⟩ := row m (by omega)
        refine ⟨rs ++ [r], by simp [h1], fun i r' hi => ?_⟩
        rcases Nat.lt_or_ge i rs.length with h3 | h3
        · rw [List.getElem?_append_left h3] at hi
          exact h2 i r' hi
        · rw [List.getElem?_append_right h3] at hi
          have e0 : i - rs.length = 0 := by
            rcases Nat.eq_zero_or_pos (i - rs.length) with h | h
            · exact h
            · rw [List.getElem?_eq_none (by simp; omega)] at hi; cases hi
          rw [e0] at hi
          simp at hi
          subst hi
          rw [show i = m by omega]
          exact hr
    obtain ⟨rs, hrl, hrs⟩ := rows len (Nat.le_refl _)
    refine ⟨rs, fun r hr => ?_, by omega, fun es he => ?_⟩
    · obtain ⟨i, hi, rfl⟩ := List.getElem_of_mem hr
      exact (hrs i _ (List.getElem?_eq_getElem hi)).2
    · have hn0 : P.cellsOf e = ls.length := hn
      have hesl : es.length = rs.length := by simpa using congrArg List.length he
      have hflat : flat es = rs.flatten.map PV.val := by
        show es.flatMap PV.cells = _
        rw [List.flatMap_def, he, List.map_flatten]
      have hrn : ∀ r ∈ rs, r.length = ls.length := fun r hr => by
        obtain ⟨i, hi, rfl⟩ := List.getElem_of_mem hr
        exact (hrs i _ (List.getElem?_eq_getElem hi)).2.1
      have hyl : rs.flatten.length = rs.length * ls.length := flatten_len hrn
      have at_ : ∀ (j : Nat) y, rs.flatten[j]? = some y → ∃ i c r, j = i * ls.length + c ∧ rs[i]? = some r ∧ r[c]? = some y := fun j y hy => by
        have hj : j < rs.length * ls.length := by rw [← hyl]; exact (List.getElem?_eq_some_iff.1 hy).1
        have hpos : 0 < ls.length := by
          rcases Nat.eq_zero_or_pos ls.length with h | h
          · rw [h] at hj; omega
          · exact h
        have e1 : j = (j / ls.length) * ls.length + j % ls.length := by
          have := Nat.div_add_mod j ls.length
          rw [Nat.mul_comm] at this
          omega
        have hi : j / ls.length < rs.length := (Nat.div_lt_iff_lt_mul hpos).2 hj
        have hc : j % ls.length < ls.length := Nat.mod_lt _ hpos
        have h1 := flatten_get hrn (j / ls.length) (j % ls.length) hc
        rw [← e1, hy, List.getElem?_eq_getElem hi] at h1
        exact ⟨_, _, _, e1, List.getElem?_eq_getElem hi, h1.symm⟩
      refine .sl es g off len cap rs.flatten (by omega) (by rw [hflat, List.length_map]) (fun j y hy => ?_) (fun j c y hc hy => ?_) (fun y hy => ?_) (fun _ _ h => h) hbk hlc hm
      · obtain ⟨i, c, r, rfl, hr, hc⟩ := at_ j y hy
        have h1 := World.cells?_some (hrs i r hr).1
        have hcl : c < P.cellsOf e := by
          rw [hn0, ← (hrs i r hr).2.1]
          exact (List.getElem?_eq_some_iff.1 hc).1
        have h2 := h1.2.2 c hcl
        rw [hc, add_lit, add_lit, hn0, Nat.add_assoc] at h2
        exact h2
      · rw [hflat, List.getElem?_map, hy] at hc
        simp only [Option.map_some, Option.some.injEq] at hc
        subst hc
        exact .val _
      · obtain ⟨j, hj, rfl⟩ := List.getElem_of_mem hy
        obtain ⟨i, c, r, _, hr, hc⟩ := at_ j _ (List.getElem?_eq_getElem hj)
        have hcl : c < ls.length := by
          rw [← (hrs i r hr).2.1]
          exact (List.getElem?_eq_some_iff.1 hc).1
        exact leaf_one ((hrs i r hr).2.2 c _ _ (List.getElem?_eq_getElem hcl) hc)
end
end Go.Proofs.YteadaggehndacaaDoor
/- A law's call, by its contract; the table that the row lists; a world that fits. -/
namespace Go.Proofs.YteadaggehndacaaDoor
set_option maxRecDepth 100000
set_option maxHeartbeats 16000000
open Go Go.RowKit Go.ChangeShapes Go.WideShapes Go.ChangeAt
set_option linter.unusedVariables false
theorem ownT : ownKnob Tryd.prog.godebug = none := by kernel_rfl
theorem laidOutT : laidOutB Tryd.prog = true := by kernel_rfl
section
variable {P : Program} {W : World}
/-- A law's call, by its contract. -/
theorem Fn.law {f : FuncId} {args : List PV} (h : Fn P f args (.p (.val (.bool true)))) (hlay : Lays W) {vs : List Value} (hl : vs.length = args.length) (hr : ∀ (i : Nat) x v, args[i]? = some x → vs[i]? = some v → Rep NoM W x v) :
    Calls P f vs.toArray W fun e W' => e = .returned (.bool true) ∧ Below W.heap.size W W' :=
  (h NoM W vs ⟨hlay, fun _ _ _ h => h⟩ (fun _ _ h => h.elim) hl hr).mono fun e W' ⟨v, he, hv, hb⟩ => by
    cases hv
    exact ⟨he, hb⟩
theorem reps1 {M : Nat → Nat → Prop} {x0 : PV} {v0 : Value} (h0 : Rep M W x0 v0) : ∀ (i : Nat) x v, [x0][i]? = some x → [v0][i]? = some v → Rep M W x v := by
  intro i x v hx hv
  match i with
  | 0 => simp at hx hv; subst hx; subst hv; exact h0
  | i + 1 => simp at hx
theorem repsC {M : Nat → Nat → Prop} {x0 : PV} {v0 : Value} {xs : List PV} {vs : List Value} (h0 : Rep M W x0 v0) (h : ∀ (i : Nat) x v, xs[i]? = some x → vs[i]? = some v → Rep M W x v) : ∀ (i : Nat) x v, (x0 :: xs)[i]? = some x → (v0 :: vs)[i]? = some v → Rep M W x v := by
  intro i x v hx hv
  match i with
  | 0 => simp at hx hv; subst hx; subst hv; exact h0
  | i + 1 => exact h i x v (by simpa using hx) (by simpa using hv)
end
/-! ### The listed table -/
theorem gTbl : Tryd.prog.globalNamed "weald/crc.halves" = some 0 := by kernel_rfl
theorem tTbl : (Tryd.prog.globals[0]?).map (·.type) = some 161 := by kernel_rfl
def laidL : List (String × DataW Unit) := [("weald/crc.halves", Rows.laid_weald_crc_halves)]
theorem lays_of_laid {W : World} (h : laidMetH Tryd.prog laidL W) : Lays W := by
  rw [MakeChecks.laidMetH_plain _ _ _ (by kernel_rfl)] at h
  obtain ⟨ps, ⟨g0, t0, cs0, f0, p0, q0, hg0, ht0, hv0, hd0, _, _⟩, _⟩ := h
  obtain rfl := Option.some.inj (gTbl.symm.trans hg0)
  obtain rfl := Option.some.inj (tTbl.symm.trans ht0)
  have hcell := World.var?_cell hg0 hv0
  obtain ⟨xs, m1, _, hx1, hlen, hn, hel⟩ := DataW.trod_array Tryd.underlying161 hd0
  have c1 : Tryd.prog.cellsOf 155 = 1 := by kernel_rfl
  have c16 : Tryd.prog.cellsOf 161 = 16 := by kernel_rfl
  rw [c16] at hlen
  have hdat : Rows.laid_weald_crc_halves (H := Unit) = .agg (tbl0.map fun p => .lit (.int p.1 p.2)) := by kernel_rfl
  simp only [Prod.mk.injEq] at hx1
  have hxs : xs.map (·.1) = tbl0.map fun p => .lit (.int p.1 p.2) := by
    have := hx1.1
    rw [hdat] at this
    simpa using this.symm
  have hk : ∀ p ∈ tbl0, p.1 = .u32 := by decide +kernel
  intro g ys hg
  have hgy : g = 0 ∧ ys = tbl0 := by
    unfold seatTbl at hg
    split at hg
    · next h => exact ⟨h, (Option.some.inj hg).symm⟩
    · cases hg
  obtain ⟨rfl, rfl⟩ := hgy
  have at_ : ∀ (j : Nat) p, tbl0[j]? = some p → W.cell? ⟨0, j, none⟩ = some (.int p.1 p.2) := by
    intro j p hp
    have hj : j < 16 := (List.getElem?_eq_some_iff.1 hp).1
    have h1 := hel j hj
    have hxj : xs[j]? = some xs[j] := List.getElem?_eq_getElem (by omega)
    rw [hxj, c1, Nat.mul_one] at h1
    obtain ⟨k, e1, e2, _⟩ := DataW.trod_int Tryd.underlying155 h1
    have h3 : (xs.map (·.1))[j]? = some (.lit (.int .u32 k)) := by rw [List.getElem?_map, hxj, e2]; rfl
    rw [hxs, List.getElem?_map, hp] at h3
    simp only [Option.map_some, Option.some.injEq, DataW.lit.injEq, Lit.int.injEq] at h3
    obtain ⟨h4, h5⟩ := h3
    have h6 : cs0[j]? = some (.int .u32 k) := by
      have : (cs0.toList.drop j).take 1 = [cs0.toList[j]'(by rw [hlen]; exact hj)] := by
        rw [List.drop_eq_getElem_cons (by rw [hlen]; exact hj)]
        rfl
      rw [this] at e1
      simp only [List.cons.injEq, and_true] at e1
      rw [← e1]
      simp [Array.getElem?_eq_getElem (show j < cs0.size by simpa using (by rw [hlen]; exact hj : j < cs0.toList.length))]
    rw [hcell j, h6, h4, h5]
  refine ⟨?_, at_⟩
  have h0 := at_ 0 _ rfl
  unfold World.cell? at h0
  cases hh : W.heap[0]? with
  | none => rw [hh] at h0; cases h0
  | some o => exact (Array.getElem?_eq_some_iff.1 hh).1
/-- The door's own heap fits. -/
theorem door_met (os : Os) (args : Array Value) : laidMetH Tryd.prog laidL ((World.doorLaid Tryd.prog 400 os).forCall (fun _ _ => 0) ⟨#[], args, []⟩).memory :=
  laidMetH_of_parts3 (fuel := 8) (laidMet_of_run' 8 (by kernel_rfl) (by kernel_rfl)) (by kernel_rfl) (by kernel_rfl)
end Go.Proofs.YteadaggehndacaaDoor
/- Arguments: rows of truth values, and of bytes. Generic over the program. -/
namespace Go.Proofs.YteadaggehndacaaDoor
set_option maxRecDepth 100000
set_option maxHeartbeats 16000000
open Go Go.RowKit Go.ChangeShapes Go.WideShapes Go.ChangeAt
set_option linter.unusedVariables false
section
variable {P : Program} {W : World} {H : Type} {enc : TypeId × Value → H}
theorem arg_one {t e : TypeId} {l : Leaf} {v : Value} {d : DataW H} {p : List MemPlace} {base : Nat} (ht : P.underlying t = some (.slice e)) (hfl : flatB P 3 e [l] = true) (hn : P.cellsOf e = 1) (hv : Value.okWide P W .any base t v)
    (h : DataW.Trod enc P W 0 (fun _ => true) true t v d p) : ∃ xs : List Value, (∀ x ∈ xs, leafOK l x) ∧ xs.length ≤ maxLen ∧ Rep NoM W (.sl (xs.map PV.val)) v := by
  obtain ⟨a, len, cap, rfl⟩ := okWide_slice ht hv
  obtain ⟨fuel, hf⟩ := h
  have hf' : DataW.trod enc P W 0 (fun _ => true) true fuel t [Value.slice a len cap] = some (d, p) := hf
  obtain ⟨rows, h1, h2, h3⟩ := arg_rows (ls := [l]) ht hfl hn (fun a' len' cap' e' => by
    injection e' with e1 e2 e3
    subst e1 e2 e3
    have := wide_slice ht hv
    exact ⟨this.1, this.2.1⟩) hf'
  have hr : ∀ r ∈ rows, ∃ x, r = [x] ∧ leafOK l x := fun r hr => by
    obtain ⟨hl, hx⟩ := h1 r hr
    match r, hl with
    | [x], _ => exact ⟨x, rfl, hx 0 l x rfl rfl⟩
  refine ⟨rows.flatten, fun x hx => ?_, ?_, h3 _ ?_⟩
  · obtain ⟨r, h4, h5⟩ := List.mem_flatten.1 hx
    obtain ⟨y, rfl, h6⟩ := hr r h4
    simp at h5; subst h5; exact h6
  · have : rows.flatten.length = rows.length * 1 := flatten_len fun r h => (h1 r h).1
    omega
  · clear h3 h2 h1 hf hf'
    induction rows with
    | nil => rfl
    | cons r rs ih =>
      obtain ⟨y, rfl, _⟩ := hr r (by simp)
      have := ih fun r h => hr r (by simp [h])
      show (PV.val y).cells :: (rs.flatten.map PV.val).map PV.cells = [PV.val y] :: rs.map fun r => r.map PV.val
      rw [this]
      rfl
theorem arg_u8s {t e : TypeId} {v : Value} {d : DataW H} {p : List MemPlace} {base : Nat} (ht : P.underlying t = some (.slice e)) (hfl : flatB P 3 e [.int .u8] = true) (hn : P.cellsOf e = 1) (hv : Value.okWide P W .any base t v)
    (h : DataW.Trod enc P W 0 (fun _ => true) true t v d p) : ∃ l : List Int, Rep NoM W (.sl (byts l)) v ∧ (∀ x ∈ l, 0 ≤ x ∧ x < 256) ∧ l.length ≤ maxLen := by
  obtain ⟨xs, h1, h2, h3⟩ := arg_one ht hfl hn hv h
  suffices ∃ l : List Int, xs = l.map (Value.int .u8) ∧ ∀ x ∈ l, 0 ≤ x ∧ x < 256 by
    obtain ⟨l, rfl, h4⟩ := this
    exact ⟨l, by rw [List.map_map] at h3; exact h3, h4, by simpa using h2⟩
  clear h3 h2
  induction xs with
  | nil => exact ⟨[], rfl, fun x hx => by simp at hx⟩
  | cons x r ih =>
    obtain ⟨b, rfl, hb⟩ := h1 x (by simp)
    obtain ⟨l, rfl, hl⟩ := ih fun y hy => h1 y (by simp [hy])
    refine ⟨b :: l, rfl, fun y hy => ?_⟩
    rcases List.mem_cons.1 hy with rfl | hy
    · have := bounds_u8 hb
      omega
    · exact hl y hy
end
end Go.Proofs.YteadaggehndacaaDoor
/- For every input ListDirect returns true, and leaves its arguments as they were; tied: Rows.ListDirectCardSaid. Conditions: none beyond the given statement's own. -/
namespace Go.Proofs.YteadaggehndacaaDoor
set_option maxRecDepth 100000
set_option maxHeartbeats 16000000
open Go Go.RowKit Go.ChangeShapes Go.WideShapes Go.ChangeAt
set_option linter.unusedVariables false
theorem listDirect_lifted (os : Os) (started : os.Started) (H : Type) (enc : TypeId × Value → H) :
    ReturnsInHanded {} Tryd.checked os 6 .any (fun w args => (Rows.listDirectSpec.pre enc Tryd.prog Tryd.f6 [] false w args ∧ laidMetH Tryd.prog laidL w) ∧ sizedMet enc Tryd.prog Tryd.f6 (OpenSpec.ofChange Rows.listDirectSpec) false w args)
      (Rows.listDirectSpec.post enc Tryd.prog Tryd.f6 false true false false) := by
  refine returnsInHanded_of_change_and (C := Tryd.checked) (X := fun w _ => laidMetH Tryd.prog laidL w) (fun _ _ _ hh h => h.of_heap hh) ownT started (by kernel_rfl) Tryd.func6
    (ChangeSpec.witness_shaped (enc := enc) (C := Tryd.checked) (os := os) (X := fun w _ => laidMetH Tryd.prog laidL w) false (World.doorLaid Tryd.prog 400 os) #[.slice none 0 0, .slice none 0 0] 8 rfl (World.shaped_of_RefB (by kernel_rfl) (by kernel_rfl)) (by kernel_rfl) (by kernel_rfl) (by kernel_rfl) (door_met os _)) ?_
  intro W base args ds gs before hval0 hW hcnd hwt hL _
  have hval : ∀ (j : Nat) t v, Tryd.f6.params[j]? = some t → args[j]? = some v → Value.okWide Tryd.prog W .any base t v := hval0
  have hW' := hW
  obtain ⟨p, q, hA0, hV, rfl, hfz, hnd⟩ := hW
  have hA : DataW.TrodAll enc Tryd.prog W 0 (fun _ => true) true Tryd.f6.params.toList args.toList ds p := hA0
  rw [Tryd.params6] at hA hval
  obtain ⟨v0, vs0, d0, ds0, p0, q0, hargs, rfl, rfl, h0, r0⟩ := trodAll_cons hA
  obtain ⟨v1, vs1, d1, ds1, p1, q1, rfl, rfl, rfl, h1, r1⟩ := trodAll_cons r0
  obtain ⟨rfl, rfl, rfl⟩ := trodAll_nil r1
  obtain rfl : args = #[v0, v1] := by cases args; simp_all
  obtain ⟨rfl, rfl⟩ := trodVars_none hV
  have lt0 : ∀ x ∈ p0, x.block < W.heap.size := by obtain ⟨m, hm⟩ := h0; exact DataW.trod_lt m _ _ _ hm
  have lt1 : ∀ x ∈ p1, x.block < W.heap.size := by obtain ⟨m, hm⟩ := h1; exact DataW.trod_lt m _ _ _ hm
  have o0 := hval 0 22 v0 rfl rfl
  obtain ⟨a0, rp0, g0, l0⟩ := arg_u8s Tryd.underlying22 (by kernel_rfl) (by kernel_rfl) o0 h0
  have o1 := hval 1 22 v1 rfl rfl
  obtain ⟨a1, rp1, g1, l1⟩ := arg_u8s Tryd.underlying22 (by kernel_rfl) (by kernel_rfl) o1 h1
  clear hA0 hval0
  refine ((listDirect_fn a0 a1 g0 l0 g1 l1).law (lays_of_laid hL) (vs := [v0, v1]) rfl (repsC rp0 (reps1 rp1))).mono fun e W' ⟨he, bel⟩ => ?_
  subst he
  exact ⟨_, rfl, _, _, _, [], _, [], hW', trodAll_mk1 (shut_bool Tryd.underlying4 _), (trodAll_cons_mk (Below.trod laidOutT (by kernel_rfl) (of_decide_eq_true (by kernel_rfl)) h0 bel lt0) (trodAll_cons_mk (Below.trod laidOutT (by kernel_rfl) (of_decide_eq_true (by kernel_rfl)) h1 bel lt1) trodAll_mk0)), rfl, bel.frame _, fun h => by cases h⟩
theorem listDirect_holds : Rows.ListDirectSaid :=
  OpenClaim.holds_of_wide 6 Tryd.f6 rfl rfl rfl rfl rfl rfl rfl ⟨rfl, rfl, rfl, rfl, rfl⟩ rfl rfl rfl rfl rfl (by kernel_rfl) Tryd.func6 (by kernel_rfl)
    (of_decide_eq_true (by kernel_rfl)) (by unfold Func.isWrapper; first | (rw [if_pos (by decide +kernel)]; kernel_rfl) | (rw [if_neg (by decide +kernel)]; exact ⟨rfl, rfl⟩))
    (fun os started H enc _ => listDirect_lifted os started H enc)
theorem listDirectCard_holds : Rows.ListDirectCardSaid :=
  Claim7.holds_tied_plain_at .later [] [.data] true _ true
    listDirect_holds (fun _ h => by cases h) (by kernel_rfl) (fun _ h => by cases h) listDirect_row_tie rfl ⟨rfl, rfl⟩ (by kernel_rfl) rfl
    (fun f fn hf hfn => by
      obtain rfl : f = 6 := Option.some.inj ((show Tryd.prog.funcNamed "weald/wealdlaw15.ListDirect" = some 6 by kernel_rfl).symm.trans hf) |>.symm
      obtain rfl : fn = Tryd.f6 := (Option.some.inj (Tryd.func6.symm.trans hfn)).symm
      exact ⟨by kernel_rfl, fun j t ht => by
        rw [Tryd.params6] at ht
        have hm : t ∈ [22, 22] := by simpa using Array.mem_of_getElem? ht
        have hall : ([22, 22].all fun u => !Tryd.prog.wantsStandIn u) = true := by kernel_rfl
        exact (show Tryd.prog.wantsStandIn t = false by simpa using List.all_eq_true.1 hall t hm)⟩)
    (by kernel_rfl)
#print axioms listDirectCard_holds
end Go.Proofs.YteadaggehndacaaDoor
