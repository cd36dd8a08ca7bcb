/- Operations on vertices that step alone, one behind the other, by any threads, answer as a set of vertices does. (Part 10 of 10.) -/
import Derived.Test.YtmfbamiciieooaaGreatDoorVa9
import Derived.ProofKit
import Derived.OpenShut
import Derived.Below
import Derived.LaidMore
import Derived.Deep.Fields
import Derived.Deep.Slices
import Derived.Test.YtmfbamiciieooaaGreatDoorRows
import Derived.LaidLaws
import Derived.ChangeSame
import Derived.ChangeVars
import Derived.JoinedOf
import Derived.Stop.Joined
import Derived.RowKitTokens
import Derived.Test.YtmfbamiciieooaaGreatDoorCards
import Derived.Test.YtmfbamiciieooaaGreatDoorTie
import Derived.SevenTiedAt
/- The law VertAlone: its walk. -/
namespace Go.Proofs.YtmfbamiciieooaaGreatDoor
set_option maxRecDepth 100000
set_option maxHeartbeats 16000000
open Go Go.RowKit
set_option linter.unusedSimpArgs false
set_option linter.unusedVariables false
attribute [local irreducible] zY zZ Step zX Sub zD zG Fn zF zR
def bools (l : List Bool) : List PV := l.map fun b => .val (.bool b)
theorem bools_len (l : List Bool) : (bools l).length = l.length := by simp [bools]
def alF (l : List Int) (n i : Nat) (W : Wd) (many : Int) (ins : List Bool) : AS :=
  { t := [(1, .p (.sl (byts l))), (5, .p (.val (.bool true))), (6, .p (.val (.int .i64 (n : Nat)))), (7, .ptr 7 0), (8, .own 28), (9, .p (.val (.int .i64 many))), (10, .p (.val (.int .i64 (i : Nat))))],
    s := [(7, .box 33 (W.pv.cells.map AV.p)), (28, vG 4 1 (bools ins))] }
structure AlS (l : List Int) (n i : Nat) (W : Wd) (many : Int) (ins : List Bool) : Prop where
  le : i ≤ l.length
  h : ∃ M R, LwV n (400000 * i) W M R (3 * i) ∧ AlI 6 M R ins ∧ many = R.length
theorem vertAlone_start (c : Int) (l : List Int) (hc : 0 ≤ c ∧ c < 256) (hn : l.length ≤ 24) (hl : ∀ x ∈ l, 0 ≤ x ∧ x < 256) : Fn Tryz.prog 3 [.val (.int .u8 c), .sl (byts l)] (.p (.val (.bool true))) := by
  have c0 := shown16_fn
  obtain ⟨n, hn5, hnc⟩ : ∃ n : Nat, n < 5 ∧ c.tmod 5 = (n : Int) := ⟨(c % 5).toNat, by omega, by rw [Int.tmod_eq_emod_of_nonneg hc.1]; omega⟩
  have c1 := new10V_fn n (by omega)
  have f1 : decide ((24 : Int) < (l.length : Nat)) = false := decide_eq_false (by omega)
  have y9 : IntKind.i64.wrap c = c := wrap_i64 _ (by omega)
  have g3 : 6 * 1 ≤ 16777216 ∧ 1 * 6 ≤ 281474976710656 ∧ 6 ≤ maxLen := by simp only [maxLen]; omega
  refine yP Tryz.func3 rfl Tryz.ntmps3 (Nat.le_of_ble_eq_true rfl) ?_
  repeat' (first | (refine zY.is ?_; first | refine zY.nil ?_ | (refine zY.at_ 5 rfl ?_; refine zY.rc (.v zB .e) ?_) | (refine zY.at_ 7 rfl ?_; refine zY.rc (.m zT (.w zS .e)) ?_) | (refine zY.in_ [18] rfl ?_; refine zY.v rfl rfl (zP (c0) rfl rfl rfl (by decide)) ?_) | (refine zY.in_ [27] rfl ?_; refine zY.m rfl rfl (w_callAg c1 rfl rfl rfl (by decide)) ?_)) | (refine zZ.is ?_; first | refine zZ.seq ?_ | (refine zZ.isR (id := 0) ?_; refine zZ.rc [0, 1] [7, 12, 13, 14, 18, 20, 27, 28, 31, 61, 138] (r := (.v zB .e)) (h := ?_)) | (refine zZ.isR (id := 1) ?_; refine zZ.rc [0, 1, 4] [7, 12, 13, 14, 18, 20, 27, 28, 31, 61, 138] (r := .e) (h := ?_)) | (refine zZ.isR (id := 2) ?_; refine zZ.rc [0, 1, 4, 5] [7, 12, 13, 14, 18, 20, 27, 28, 31, 61, 138] (r := (.v zV (.v v57_0 (.v v45_0 .e)))) (h := ?_)) | (refine zZ.isR (id := 4) ?_; refine zZ.rc [0, 1, 4, 5] [7, 12, 13, 14, 18, 20, 27, 28, 31, 61, 138] (r := (.v zV (.v v6_0 (.v v34_0 (.v zB .e))))) (h := ?_)) | (refine zZ.isR (id := 5) ?_; refine zZ.rc [1, 4, 5, 6] [7, 12, 13, 14, 18, 20, 27, 28, 31, 61, 138] (r := (.v zV .e)) (h := ?_)) | (refine zZ.isR (id := 6) ?_; refine zZ.sub ((sub_frzE 27 27 1 (wds (newV n)) rfl)) ?_; refine zZ.rc [1, 4, 5, 6, 7] [7, 12, 13, 14, 18, 20, 27, 28, 31, 61, 138] (r := (.m m21_0 (.v v1_1 .e))) (h := ?_)) | (refine zZ.isR (id := 7) ?_; refine zZ.rc [1, 4, 5, 6, 7, 8] [7, 12, 13, 14, 18, 20, 27, 28, 31, 61, 138] (r := (.v zB .e)) (h := ?_)) | (refine zZ.isR (id := 8) ?_; refine zZ.rc [1, 4, 5, 6, 7, 8, 9] [7, 12, 13, 14, 18, 20, 27, 28, 31, 61, 138] (r := (.v zB .e)) (h := ?_)) | refine zZ.yG rfl bA ?_ | refine zZ.skip ?_ | refine zZ.block ?_) | refine zF.n ?_)
  refine zZ.loop (fun s : Nat × Wd × Int × List Bool => alF l n s.1 s.2.1 s.2.2.1 s.2.2.2) (fun s => AlS l n s.1 s.2.1 s.2.2.1 s.2.2.2) (fun s => l.length - s.1) (0, wNewV n, 0, List.replicate 6 false) ?h0 ?i0 ?rd
  case i0 => exact ⟨Nat.zero_le _, _, [], lwV_newV (by omega), ⟨rfl, fun u => ⟨fun h => absurd (List.eq_of_mem_replicate (List.mem_of_getElem? h)) (by decide), fun h => (by cases h)⟩⟩, rfl⟩
  case h0 =>
    unfold alF
    exact z8 K_6 K_7
  case rd =>
    rintro ⟨i, W, many, ins⟩ ⟨hi, M, R, hW, hI, hm⟩
    dsimp only at hi hW hI hm ⊢
    have hmem := hW.mem
    have hRl := hW.vs.len
    have hli := hI.len
    by_cases hlt : i < l.length
    case pos =>
      have hgi : l.getD i 0 = l[i]'hlt := by simp [List.getD, hlt]
      have he := hl _ (List.getElem_mem hlt)
      rw [← hgi] at he
      have y0 : (0 : Int) ≤ (i : Int) ∧ (i : Int) < ((l.length : Nat) : Int) := by omega
      generalize hge : l.getD i 0 = e at *
      have hge : l.getD ((i : Int)).toNat 0 = e := hge
      clear hgi
      have f3 : decide ((i : Int) < (l.length : Nat)) = true := decide_eq_true (by omega)
      have g1 : IntKind.i64.wrap ((i : Int) + 1) = ((i + 1 : Nat) : Int) := by rw [wrap_i64 _ (by omega)]; omega
      obtain ⟨u, hu6, hq⟩ : ∃ q : Nat, q < 6 ∧ e / 6 % 6 = (q : Int) := ⟨(e / 6 % 6).toNat, by omega, by omega⟩
      obtain ⟨me, hme, hq2⟩ : ∃ q : Nat, q < 2 ∧ e / 36 % 2 = (q : Int) := ⟨(e / 36 % 2).toNat, by omega, by omega⟩
      obtain ⟨k, hk, hk3⟩ : ∃ k : Int, (k = 11 ∨ k = 12 ∨ k = 13) ∧ e % 3 = k - 11 := ⟨e % 3 + 11, by omega, by omega⟩
      have y1 : IntKind.i64.wrap e = e := wrap_i64 _ (by omega)
      have y2 : IntKind.i64.wrap (e.tdiv 6) = e / 6 := by rw [Int.tdiv_eq_ediv_of_nonneg he.1]; exact wrap_i64 _ (by omega)
      have y3 : (e / 6).tmod 6 = (u : Int) := by rw [Int.tmod_eq_emod_of_nonneg (by omega), hq]
      have y4 : IntKind.i64.wrap (e.tdiv 36) = e / 36 := by rw [Int.tdiv_eq_ediv_of_nonneg he.1]; exact wrap_i64 _ (by omega)
      have y5 : (e / 36).tmod 2 = (me : Int) := by rw [Int.tmod_eq_emod_of_nonneg (by omega), hq2]
      have y6 : e.tmod 3 = k - 11 := by rw [Int.tmod_eq_emod_of_nonneg he.1, hk3]
      have y7 : IntKind.i64.wrap (11 + (k - 11)) = k := by rw [show 11 + (k - 11) = k by omega]; exact wrap_i64 _ (by omega)
      obtain ⟨b, hb⟩ : ∃ b, ins[u]? = some b := ⟨_, List.getElem?_eq_getElem (show u < ins.length by omega)⟩
      obtain ⟨v1, v2⟩ := vkF_nat (u := u) (by omega)
      obtain ⟨x, W', M', R', c2, hW', hv⟩ := hW.op (by omega) hme hk v1 (most := 400) (by omega) (by decide) (by omega) (by omega)
      obtain ⟨ins', hI', hA⟩ := hI.op (by decide) hb hW.vs.so hv
      have hS : AlS l n (i + 1) W' (R'.length : Nat) ins' := ⟨hlt, M', R', by
        have e : 400000 * i + 1000 * 400 = 400000 * (i + 1) := by omega
        have e' : 3 * (i : Int) + 3 = 3 * ((i + 1 : Nat) : Int) := by omega
        rw [e, e'] at hW'
        exact hW', hI', rfl⟩
      have k1 : (0 : Int) ≤ (u : Int) ∧ (u : Int) < ((bools ins).length : Nat) := by rw [bools_len]; omega
      have k2 : (bools ins)[((u : Nat) : Int).toNat * 1]? = some (.val (.bool b)) := by rw [Int.toNat_natCast, Nat.mul_one]; unfold bools; rw [List.getElem?_map, hb]; rfl
      have k3 : ∀ e ∈ bools ins, e.cells = [e] := fun e he => by
        obtain ⟨b, _, rfl⟩ := List.mem_map.1 he
        rfl
      have k4 : ∀ e ∈ bools ins, e.cells.length = 1 := fun e he => by rw [k3 e he]; rfl
      have k5 : ((u : Nat) : Int).toNat < (bools ins).length := by rw [bools_len]; omega
      have hset : ∀ z : Bool, (bools ins).set ((u : Nat) : Int).toNat (.val (.bool z)) = bools (ins.set u z) := fun z => by
        unfold bools
        rw [Int.toNat_natCast, List.map_set]
      clear hW hW' hI hI' hv hmem hq hq2 hk3 hk v1 v2 hlt he
      obtain ⟨xe, is, ok, alt⟩ := x
      obtain ⟨t, c', ws, root, r0, r1⟩ := W
      obtain ⟨t', c'', ws', root', r0', r1'⟩ := W'
      generalize hm' : ((R'.length : Nat) : Int) = many' at *
      subst hge
      unfold alF
      dsimp only at c2 ⊢
      repeat' (first | refine zZ.hold (id := 14) ?_ | (refine zY.nil ?_) | (refine zZ.is ?_; first | refine zZ.seq ?_ | (refine zZ.isR (id := 9) ?_; refine zZ.rc [1, 4, 5, 6, 7, 8, 9, 10, 11, 12, 13, 14, 15, 16, 17, 32, 66, 83, 90, 97, 111, 117, 128] [7, 12, 13, 14, 18, 20, 27, 28, 31, 61, 138] (r := (.v zV (.v zV (.v v57_0 (.v xI .e))))) (h := ?_)) | (refine zZ.isR (id := 11) ?_; refine zZ.rc [1, 4, 5, 6, 7, 8, 9, 10, 11, 12, 13, 14, 15, 16, 17, 32, 66, 83, 90, 97, 111, 117, 128] [7, 12, 13, 14, 18, 20, 27, 28, 31, 61, 138] (r := (.v zV (.v zV (.v v7_0 (.v v2_1 (.v v6_0 (.v v33_0 (.v v34_0 (.v zB .e))))))))) (h := ?_)) | (refine zZ.isR (id := 12) ?_; refine zZ.rc [1, 4, 5, 6, 7, 8, 9, 10, 11, 12, 13, 14, 15, 16, 17, 32, 66, 83, 90, 97, 111, 117, 128] [7, 12, 13, 14, 18, 20, 27, 28, 31, 61, 138] (r := (.v zV (.v zV (.v v7_0 (.v v2_1 (.v v6_0 (.v v34_0 (.v wM (.v zV (.v xV (.m zT (.w zS .e)))))))))))) (h := ?_)) | (refine zZ.isR (id := 13) ?_; refine zZ.regionD [1, 4, 5, 6, 7, 8, 9, 10, 11, 12, 13, 14, 15, 16, 17, 32, 66, 83, 90, 97, 111, 117, 128] [7, 12, 13, 14, 18, 20, 27, 28, 31, 61, 138] (by repeat' first | exact zH.nil | apply zH.p rfl | apply zH.ptr rfl | apply zH.own rfl | apply zH.skip) (by repeat' first | exact zN.nil | apply zN.boxP rfl rfl | apply zN.some rfl | apply zN.skip) (zZ.drawsL [[], [], [], [], [], [], [], [], [], [], [], [], [], [], [], [], [12, 13], [13]] ?_); all_goals (refine xC.v rfl rfl (yR rfl rfl rfl (by rfl) (by rfl) rfl (by decide)) ?_); all_goals (refine xC.v rfl rfl (wT rfl rfl rfl (by decide)) ?_); all_goals (refine xC.v rfl rfl (wT rfl rfl rfl (by decide)) ?_); all_goals (refine xC.v rfl rfl (by exact w_indexB rfl rfl rfl (by exact y0) rfl (by decide)) ?_); all_goals (refine xC.v rfl rfl (w_load1 rfl rfl rfl rfl (by decide)) ?_); all_goals (refine xC.v rfl rfl (by exact w_conv rfl rfl (by exact y1) rfl (by decide)) ?_); all_goals (refine xC.v rfl rfl (by exact a_quo rfl rfl rfl (by decide) (by exact y4) rfl (by decide)) ?_); all_goals (refine xC.v rfl rfl (by exact a_rem rfl rfl rfl (by decide) (by exact y5) rfl (by decide)) ?_); all_goals (refine xC.v rfl rfl (yR rfl rfl rfl (by rfl) (by rfl) rfl (by decide)) ?_); all_goals (refine xC.v rfl rfl (by exact xY (c2) rfl rfl rfl (by decide)) ?_); all_goals (refine xC.v rfl rfl (a_moveT rfl rfl rfl (by decide)) ?_); all_goals (refine xC.v rfl rfl (a_extract rfl rfl rfl rfl (by decide)) ?_); all_goals (refine xC.v rfl rfl (a_extract rfl rfl rfl rfl (by decide)) ?_); all_goals (refine xC.v rfl rfl (a_extract rfl rfl rfl rfl (by decide)) ?_); all_goals (refine xC.m rfl rfl (w_alloc rfl (by decide) rfl (by decide)) ?_); all_goals (refine xC.m rfl rfl (w_alloc rfl (by decide) rfl (by decide)) ?_); all_goals ((refine xC.done (by kernel_rfl) (by kernel_rfl) (by kernel_rfl) (by kernel_rfl) ?_; refine zD.w rfl (by exact yO rfl rfl rfl rfl rfl (by rfl) (by exact Nat.le_of_ble_eq_true rfl) rfl rfl) ?_)); all_goals (refine zD.w rfl (by exact yO rfl rfl rfl rfl rfl (by rfl) (by exact Nat.le_of_ble_eq_true rfl) rfl rfl) ?_); all_goals (refine zD.v rfl rfl (wE rfl rfl rfl (by decide)) ?_); all_goals (refine zD.nil ?_)) | refine zZ.yN rfl bA ?_ | refine zZ.skip ?_ | refine zZ.block ?_) | refine zF.n ?_)
      refine Hold.go ?_
      clear y1 y2 y3 y4 y5 y6 y7 f3 c2 hme
      cases hA with
      | old hk hb1 he hi hR hins =>
        dsimp only at he hi
        subst hk hb1 he hi hins
        rw [← hm', hR, ← hm] at hS
        have d1 := True.intro
        have g2 := True.intro
        repeat' (first | (refine zY.nil ?_) | (refine zZ.is ?_; first | refine zZ.seq ?_ | (refine zZ.isR (id := 14) ?_; refine zZ.rc [1, 4, 5, 6, 7, 8, 9, 10, 11, 12, 13, 14, 15, 16, 17, 32, 66, 83, 90, 97, 111, 117, 128] [7, 12, 13, 14, 18, 20, 27, 28, 31, 61, 138] (r := (.v zV (.v kQ .e))) (h := ?_)) | (refine zZ.isR (id := 16) ?_; refine zZ.rc [1, 4, 5, 6, 7, 8, 9, 10, 11, 12, 13, 14, 15, 16, 17, 32, 66, 83, 90, 97, 111, 117, 128] [7, 12, 13, 14, 18, 20, 27, 28, 31, 61, 138] (r := (.v xU (.w zS .e))) (h := ?_)) | (refine zZ.isR (id := 17) ?_; refine zZ.rc [1, 4, 5, 6, 7, 8, 9, 10, 11, 12, 13, 14, 15, 16, 17, 32, 66, 83, 90, 97, 111, 117, 128] [7, 12, 13, 14, 18, 20, 27, 28, 31, 61, 138] (r := (.v zM (.v zO (.v v41_4 (.v zV (.gY v0_1 (.gY zV (.gY kV (.gY v2_15 (.gY kQ (.v xR (.v zV (.gT (.gT (.gT (.v wW (.v zB .e))))))))))))))))) (h := ?_)) | (refine zZ.isR (id := 18) ?_; refine zZ.rc [1, 4, 5, 6, 7, 8, 9, 10, 11, 12, 13, 14, 15, 16, 17, 32, 66, 83, 90, 97, 111, 117, 128] [7, 12, 13, 14, 18, 20, 27, 28, 31, 61, 138] (r := (.v zV .e)) (h := ?_)) | (refine zZ.isR (id := 21) ?_; refine zZ.rc [1, 4, 5, 6, 7, 8, 9, 10, 11, 12, 13, 14, 15, 16, 17, 32, 66, 83, 90, 97, 111, 117, 128] [7, 12, 13, 14, 18, 20, 27, 28, 31, 61, 138] (r := (.v v0_1 (.v zV (.v kV (.v v2_15 (.v zB .e)))))) (h := ?_)) | (refine zZ.isR (id := 22) ?_; refine zZ.rc [1, 4, 5, 6, 7, 8, 9, 10, 11, 12, 13, 14, 15, 16, 17, 32, 66, 83, 90, 97, 111, 117, 128] [7, 12, 13, 14, 18, 20, 27, 28, 31, 61, 138] (r := (.v zM (.v zO (.v v41_4 .e)))) (h := ?_)) | (refine zZ.isR (id := 23) ?_; refine zZ.rc [1, 4, 5, 6, 7, 8, 9, 10, 11, 12, 13, 14, 15, 16, 17, 32, 66, 83, 90, 97, 111, 117, 128] [7, 12, 13, 14, 18, 20, 27, 28, 31, 61, 138] (r := (.v v0_1 (.v zV (.v kV (.v v2_15 (.v kQ (.v zB .e))))))) (h := ?_)) | (refine zZ.isR (id := 24) ?_; refine zZ.rc [1, 4, 5, 6, 7, 8, 9, 10, 11, 12, 13, 14, 15, 16, 17, 32, 66, 83, 90, 97, 111, 117, 128] [7, 12, 13, 14, 18, 20, 27, 28, 31, 61, 138] (r := (.v zM (.v zO (.v v42_5 (.v zV (.gY zM (.gY zO (.gY zV (.gY v42_14 (.v wW .e)))))))))) (h := ?_)) | (refine zZ.isR (id := 26) ?_; refine zZ.rc [1, 4, 5, 6, 7, 8, 9, 10, 11, 12, 13, 14, 15, 16, 17, 32, 66, 83, 90, 97, 111, 117, 128] [7, 12, 13, 14, 18, 20, 27, 28, 31, 61, 138] (r := (.v zV (.v zV (.gT (.gT (.gT (.v wW .e))))))) (h := ?_)) | (refine zZ.isR (id := 29) ?_; refine zZ.rc [1, 4, 5, 6, 7, 8, 9, 10, 11, 12, 13, 14, 15, 16, 17, 32, 66, 83, 90, 97, 111, 117, 128] [7, 12, 13, 14, 18, 20, 27, 28, 31, 61, 138] (r := (.v zV (.v zV (.gT (.gT (.gT (.v wW .e))))))) (h := ?_)) | (refine zZ.isR (id := 10) ?_; refine zZ.rc [1, 4, 5, 6, 7, 8, 9, 10, 11, 12, 13, 14, 15, 16, 17, 32, 66, 83, 90, 97, 111, 117, 128] [7, 12, 13, 14, 18, 20, 27, 28, 31, 61, 138] (r := (.v zV (.v wM (.v zB .e)))) (h := ?_)) | refine zZ.yN rfl bA ?_ | refine zZ.yG rfl bA ?_ | refine zZ.skip ?_) | refine zF.n ?_ | refine zR.n ?_)
        all_goals
          refine ⟨(i + 1, ⟨t', c'', ws', root', r0', r1'⟩, many, ins'), ?_, hS, by dsimp only; omega⟩
          exact z8 K_6 K_7
      | full hk hb1 hnn he hi hR hins =>
        dsimp only at he hi
        subst hk hb1 he hi hins
        rw [← hm', hR, ← hm] at hS
        have d1 : decide (many = (n : Int)) = true := decide_eq_true (by omega)
        have g2 := True.intro
        repeat' (first | (refine zY.nil ?_) | (refine zZ.is ?_; first | refine zZ.seq ?_ | (refine zZ.isR (id := 14) ?_; refine zZ.rc [1, 4, 5, 6, 7, 8, 9, 10, 11, 12, 13, 14, 15, 16, 17, 32, 66, 83, 90, 97, 111, 117, 128] [7, 12, 13, 14, 18, 20, 27, 28, 31, 61, 138] (r := (.v zV (.v kQ .e))) (h := ?_)) | (refine zZ.isR (id := 16) ?_; refine zZ.rc [1, 4, 5, 6, 7, 8, 9, 10, 11, 12, 13, 14, 15, 16, 17, 32, 66, 83, 90, 97, 111, 117, 128] [7, 12, 13, 14, 18, 20, 27, 28, 31, 61, 138] (r := (.v xU (.w zS .e))) (h := ?_)) | (refine zZ.isR (id := 17) ?_; refine zZ.rc [1, 4, 5, 6, 7, 8, 9, 10, 11, 12, 13, 14, 15, 16, 17, 32, 66, 83, 90, 97, 111, 117, 128] [7, 12, 13, 14, 18, 20, 27, 28, 31, 61, 138] (r := (.v zM (.v zO (.v v41_4 (.v zV (.gY v0_1 (.gY zV (.gY kV (.gY v2_15 (.gY v52_4 (.v xR (.v zV (.gY zV (.gY zV (.gY v41_0 (.v xR (.v zB .e))))))))))))))))) (h := ?_)) | (refine zZ.isR (id := 18) ?_; refine zZ.rc [1, 4, 5, 6, 7, 8, 9, 10, 11, 12, 13, 14, 15, 16, 17, 32, 66, 83, 90, 97, 111, 117, 128] [7, 12, 13, 14, 18, 20, 27, 28, 31, 61, 138] (r := (.v zV .e)) (h := ?_)) | (refine zZ.isR (id := 19) ?_; refine zZ.rc [1, 4, 5, 6, 7, 8, 9, 10, 11, 12, 13, 14, 15, 16, 17, 32, 66, 83, 90, 97, 111, 117, 128] [7, 12, 13, 14, 18, 20, 27, 28, 31, 61, 138] (r := (.v zM (.v zO (.v v42_5 (.v zV (.gY zM (.gY zO (.v wW .e)))))))) (h := ?_)) | (refine zZ.isR (id := 10) ?_; refine zZ.rc [1, 4, 5, 6, 7, 8, 9, 10, 11, 12, 13, 14, 15, 16, 17, 32, 66, 83, 90, 97, 111, 117, 128] [7, 12, 13, 14, 18, 20, 27, 28, 31, 61, 138] (r := (.v zV (.v wM (.v zB .e)))) (h := ?_)) | refine zZ.yN rfl bA ?_ | refine zZ.yG rfl bA ?_ | refine zZ.skip ?_ | refine zZ.exit ?_) | refine zF.n ?_ | refine zR.eY ?_ | refine zF.e ?_)
        all_goals
          refine ⟨(i + 1, ⟨t', c'', ws', root', r0', r1'⟩, many, ins'), ?_, hS, by dsimp only; omega⟩
          exact z8 K_6 K_7
      | new hk hb1 hnn he hi hR hins =>
        dsimp only at he hi
        subst hk hb1 he hi hins
        rw [show many' = many + 1 by omega] at hS
        have d1 : decide (many = (n : Int)) = false := decide_eq_false (by omega)
        have g2 : IntKind.i64.wrap (many + 1) = many + 1 := wrap_i64 _ (by omega)
        repeat' (first | (refine zY.nil ?_) | (refine zZ.is ?_; first | refine zZ.seq ?_ | (refine zZ.isR (id := 14) ?_; refine zZ.rc [1, 4, 5, 6, 7, 8, 9, 10, 11, 12, 13, 14, 15, 16, 17, 32, 66, 83, 90, 97, 111, 117, 128] [7, 12, 13, 14, 18, 20, 27, 28, 31, 61, 138] (r := (.v zV (.v kQ .e))) (h := ?_)) | (refine zZ.isR (id := 16) ?_; refine zZ.rc [1, 4, 5, 6, 7, 8, 9, 10, 11, 12, 13, 14, 15, 16, 17, 32, 66, 83, 90, 97, 111, 117, 128] [7, 12, 13, 14, 18, 20, 27, 28, 31, 61, 138] (r := (.v xU (.w zS .e))) (h := ?_)) | (refine zZ.isR (id := 17) ?_; refine zZ.rc [1, 4, 5, 6, 7, 8, 9, 10, 11, 12, 13, 14, 15, 16, 17, 32, 66, 83, 90, 97, 111, 117, 128] [7, 12, 13, 14, 18, 20, 27, 28, 31, 61, 138] (r := (.v zM (.v zO (.v v41_4 (.v zV (.gY v0_1 (.gY zV (.gY kV (.gY v2_15 (.gY v52_4 (.v xR (.v zV (.gY zV (.gY zV (.gY v41_0 (.v xR (.v zB .e))))))))))))))))) (h := ?_)) | (refine zZ.isR (id := 18) ?_; refine zZ.rc [1, 4, 5, 6, 7, 8, 9, 10, 11, 12, 13, 14, 15, 16, 17, 32, 66, 83, 90, 97, 111, 117, 128] [7, 12, 13, 14, 18, 20, 27, 28, 31, 61, 138] (r := (.v zV .e)) (h := ?_)) | (refine zZ.isR (id := 21) ?_; refine zZ.rc [1, 4, 5, 6, 7, 8, 9, 10, 11, 12, 13, 14, 15, 16, 17, 32, 66, 83, 90, 97, 111, 117, 128] [7, 12, 13, 14, 18, 20, 27, 28, 31, 61, 138] (r := (.v v0_1 (.v zV (.v kV (.v v2_15 (.v zB .e)))))) (h := ?_)) | (refine zZ.isR (id := 22) ?_; refine zZ.rc [1, 4, 5, 6, 7, 8, 9, 10, 11, 12, 13, 14, 15, 16, 17, 32, 66, 83, 90, 97, 111, 117, 128] [7, 12, 13, 14, 18, 20, 27, 28, 31, 61, 138] (r := (.v zM (.v zO (.v v41_4 .e)))) (h := ?_)) | (refine zZ.isR (id := 23) ?_; refine zZ.rc [1, 4, 5, 6, 7, 8, 9, 10, 11, 12, 13, 14, 15, 16, 17, 32, 66, 83, 90, 97, 111, 117, 128] [7, 12, 13, 14, 18, 20, 27, 28, 31, 61, 138] (r := (.v v0_1 (.v zV (.v kV (.v v2_15 (.v v52_4 (.v zB .e))))))) (h := ?_)) | (refine zZ.isR (id := 24) ?_; refine zZ.rc [1, 4, 5, 6, 7, 8, 9, 10, 11, 12, 13, 14, 15, 16, 17, 32, 66, 83, 90, 97, 111, 117, 128] [7, 12, 13, 14, 18, 20, 27, 28, 31, 61, 138] (r := (.v zM (.v zO (.v v42_5 (.v zV (.gY zM (.gY zO (.gY zV (.gY v42_14 (.v wW .e)))))))))) (h := ?_)) | (refine zZ.isR (id := 26) ?_; refine zZ.rc [1, 4, 5, 6, 7, 8, 9, 10, 11, 12, 13, 14, 15, 16, 17, 32, 66, 83, 90, 97, 111, 117, 128] [7, 12, 13, 14, 18, 20, 27, 28, 31, 61, 138] (r := (.v zV (.v zV (.gY zM (.gY zO (.gY v41_4 (.v xR .e))))))) (h := ?_)) | (refine zZ.isR (id := 27) ?_; refine zZ.rc [1, 4, 5, 6, 7, 8, 9, 10, 11, 12, 13, 14, 15, 16, 17, 32, 66, 83, 90, 97, 111, 117, 128] [7, 12, 13, 14, 18, 20, 27, 28, 31, 61, 138] (r := (.v v0_1 (.v zV (.v kV (.w w24_1 .e))))) (h := ?_)) | (refine zZ.isR (id := 28) ?_; refine zZ.rc [1, 4, 5, 6, 7, 8, 9, 10, 11, 12, 13, 14, 15, 16, 17, 32, 66, 83, 90, 97, 111, 117, 128] [7, 12, 13, 14, 18, 20, 27, 28, 31, 61, 138] (r := (.v zV (.v wM (.v zB .e)))) (h := ?_)) | (refine zZ.isR (id := 29) ?_; refine zZ.rc [1, 4, 5, 6, 7, 8, 9, 10, 11, 12, 13, 14, 15, 16, 17, 32, 66, 83, 90, 97, 111, 117, 128] [7, 12, 13, 14, 18, 20, 27, 28, 31, 61, 138] (r := (.v zV (.v zV (.gY zM (.gY zO (.gY v41_5 (.v xR .e))))))) (h := ?_)) | (refine zZ.isR (id := 10) ?_; refine zZ.rc [1, 4, 5, 6, 7, 8, 9, 10, 11, 12, 13, 14, 15, 16, 17, 32, 66, 83, 90, 97, 111, 117, 128] [7, 12, 13, 14, 18, 20, 27, 28, 31, 61, 138] (r := (.v zV (.v wM (.v zB .e)))) (h := ?_)) | refine zZ.yN rfl bA ?_ | refine zZ.yG rfl bA ?_ | refine zZ.skip ?_) | refine zF.n ?_ | refine zR.n ?_)
        all_goals
          refine ⟨(i + 1, ⟨t', c'', ws', root', r0', r1'⟩, many + 1, ins.set u true), ?_, hS, by dsimp only; omega⟩
          rw [← hset]
          exact z8 K_6 K_7
      | gone hk hb1 he hi hR hins =>
        dsimp only at he hi
        subst hk hb1 he hi hins
        rw [show many' = many - 1 by omega] at hS
        have d1 := True.intro
        have g2 : IntKind.i64.wrap (many - 1) = many - 1 := wrap_i64 _ (by omega)
        repeat' (first | (refine zY.nil ?_) | (refine zZ.is ?_; first | refine zZ.seq ?_ | (refine zZ.isR (id := 14) ?_; refine zZ.rc [1, 4, 5, 6, 7, 8, 9, 10, 11, 12, 13, 14, 15, 16, 17, 32, 66, 83, 90, 97, 111, 117, 128] [7, 12, 13, 14, 18, 20, 27, 28, 31, 61, 138] (r := (.v zV (.v kQ .e))) (h := ?_)) | (refine zZ.isR (id := 16) ?_; refine zZ.rc [1, 4, 5, 6, 7, 8, 9, 10, 11, 12, 13, 14, 15, 16, 17, 32, 66, 83, 90, 97, 111, 117, 128] [7, 12, 13, 14, 18, 20, 27, 28, 31, 61, 138] (r := (.v xU (.w zS .e))) (h := ?_)) | (refine zZ.isR (id := 17) ?_; refine zZ.rc [1, 4, 5, 6, 7, 8, 9, 10, 11, 12, 13, 14, 15, 16, 17, 32, 66, 83, 90, 97, 111, 117, 128] [7, 12, 13, 14, 18, 20, 27, 28, 31, 61, 138] (r := (.v zM (.v zO (.v v41_5 (.v zV (.gT (.gT (.gT (.gT (.gT (.v wW (.v zV (.gT (.gT (.gT (.v wW (.v zB .e))))))))))))))))) (h := ?_)) | (refine zZ.isR (id := 18) ?_; refine zZ.rc [1, 4, 5, 6, 7, 8, 9, 10, 11, 12, 13, 14, 15, 16, 17, 32, 66, 83, 90, 97, 111, 117, 128] [7, 12, 13, 14, 18, 20, 27, 28, 31, 61, 138] (r := (.v zV .e)) (h := ?_)) | (refine zZ.isR (id := 21) ?_; refine zZ.rc [1, 4, 5, 6, 7, 8, 9, 10, 11, 12, 13, 14, 15, 16, 17, 32, 66, 83, 90, 97, 111, 117, 128] [7, 12, 13, 14, 18, 20, 27, 28, 31, 61, 138] (r := (.v v0_1 (.v zV (.v kV (.v v2_15 (.v zB .e)))))) (h := ?_)) | (refine zZ.isR (id := 22) ?_; refine zZ.rc [1, 4, 5, 6, 7, 8, 9, 10, 11, 12, 13, 14, 15, 16, 17, 32, 66, 83, 90, 97, 111, 117, 128] [7, 12, 13, 14, 18, 20, 27, 28, 31, 61, 138] (r := (.v zM (.v zO (.v v41_5 .e)))) (h := ?_)) | (refine zZ.isR (id := 24) ?_; refine zZ.rc [1, 4, 5, 6, 7, 8, 9, 10, 11, 12, 13, 14, 15, 16, 17, 32, 66, 83, 90, 97, 111, 117, 128] [7, 12, 13, 14, 18, 20, 27, 28, 31, 61, 138] (r := (.v zM (.v zO (.v v42_5 (.v zV (.gY zM (.gY zO (.gY zV (.gY v42_14 (.v wW .e)))))))))) (h := ?_)) | (refine zZ.isR (id := 26) ?_; refine zZ.rc [1, 4, 5, 6, 7, 8, 9, 10, 11, 12, 13, 14, 15, 16, 17, 32, 66, 83, 90, 97, 111, 117, 128] [7, 12, 13, 14, 18, 20, 27, 28, 31, 61, 138] (r := (.v zV (.v zV (.gY zM (.gY zO (.gY v41_5 (.v xR .e))))))) (h := ?_)) | (refine zZ.isR (id := 29) ?_; refine zZ.rc [1, 4, 5, 6, 7, 8, 9, 10, 11, 12, 13, 14, 15, 16, 17, 32, 66, 83, 90, 97, 111, 117, 128] [7, 12, 13, 14, 18, 20, 27, 28, 31, 61, 138] (r := (.v zV (.v zV (.gY zM (.gY zO (.gY v41_4 (.v xR .e))))))) (h := ?_)) | (refine zZ.isR (id := 30) ?_; refine zZ.rc [1, 4, 5, 6, 7, 8, 9, 10, 11, 12, 13, 14, 15, 16, 17, 32, 66, 83, 90, 97, 111, 117, 128] [7, 12, 13, 14, 18, 20, 27, 28, 31, 61, 138] (r := (.v v0_1 (.v zV (.v kV (.w w24_1 .e))))) (h := ?_)) | (refine zZ.isR (id := 31) ?_; refine zZ.rc [1, 4, 5, 6, 7, 8, 9, 10, 11, 12, 13, 14, 15, 16, 17, 32, 66, 83, 90, 97, 111, 117, 128] [7, 12, 13, 14, 18, 20, 27, 28, 31, 61, 138] (r := (.v zV (.v v31_0 (.v zB .e)))) (h := ?_)) | (refine zZ.isR (id := 10) ?_; refine zZ.rc [1, 4, 5, 6, 7, 8, 9, 10, 11, 12, 13, 14, 15, 16, 17, 32, 66, 83, 90, 97, 111, 117, 128] [7, 12, 13, 14, 18, 20, 27, 28, 31, 61, 138] (r := (.v zV (.v wM (.v zB .e)))) (h := ?_)) | refine zZ.yN rfl bA ?_ | refine zZ.yG rfl bA ?_ | refine zZ.skip ?_) | refine zF.n ?_ | refine zR.n ?_)
        all_goals
          refine ⟨(i + 1, ⟨t', c'', ws', root', r0', r1'⟩, many - 1, ins.set u false), ?_, hS, by dsimp only; omega⟩
          rw [← hset]
          exact z8 K_6 K_7
      | none hk hb1 he hi hR hins =>
        dsimp only at he hi
        subst hk hb1 he hi hins
        rw [← hm', hR, ← hm] at hS
        have d1 := True.intro
        have g2 := True.intro
        repeat' (first | (refine zY.nil ?_) | (refine zZ.is ?_; first | refine zZ.seq ?_ | (refine zZ.isR (id := 14) ?_; refine zZ.rc [1, 4, 5, 6, 7, 8, 9, 10, 11, 12, 13, 14, 15, 16, 17, 32, 66, 83, 90, 97, 111, 117, 128] [7, 12, 13, 14, 18, 20, 27, 28, 31, 61, 138] (r := (.v zV (.v kQ .e))) (h := ?_)) | (refine zZ.isR (id := 16) ?_; refine zZ.rc [1, 4, 5, 6, 7, 8, 9, 10, 11, 12, 13, 14, 15, 16, 17, 32, 66, 83, 90, 97, 111, 117, 128] [7, 12, 13, 14, 18, 20, 27, 28, 31, 61, 138] (r := (.v xU (.w zS .e))) (h := ?_)) | (refine zZ.isR (id := 17) ?_; refine zZ.rc [1, 4, 5, 6, 7, 8, 9, 10, 11, 12, 13, 14, 15, 16, 17, 32, 66, 83, 90, 97, 111, 117, 128] [7, 12, 13, 14, 18, 20, 27, 28, 31, 61, 138] (r := (.v zM (.v zO (.v v41_5 (.v zV (.gT (.gT (.gT (.gT (.gT (.v wW (.v zV (.gT (.gT (.gT (.v wW (.v zB .e))))))))))))))))) (h := ?_)) | (refine zZ.isR (id := 18) ?_; refine zZ.rc [1, 4, 5, 6, 7, 8, 9, 10, 11, 12, 13, 14, 15, 16, 17, 32, 66, 83, 90, 97, 111, 117, 128] [7, 12, 13, 14, 18, 20, 27, 28, 31, 61, 138] (r := (.v zV .e)) (h := ?_)) | (refine zZ.isR (id := 21) ?_; refine zZ.rc [1, 4, 5, 6, 7, 8, 9, 10, 11, 12, 13, 14, 15, 16, 17, 32, 66, 83, 90, 97, 111, 117, 128] [7, 12, 13, 14, 18, 20, 27, 28, 31, 61, 138] (r := (.v v0_1 (.v zV (.v kV (.v v2_15 (.v zB .e)))))) (h := ?_)) | (refine zZ.isR (id := 22) ?_; refine zZ.rc [1, 4, 5, 6, 7, 8, 9, 10, 11, 12, 13, 14, 15, 16, 17, 32, 66, 83, 90, 97, 111, 117, 128] [7, 12, 13, 14, 18, 20, 27, 28, 31, 61, 138] (r := (.v zM (.v zO (.v v41_5 .e)))) (h := ?_)) | (refine zZ.isR (id := 24) ?_; refine zZ.rc [1, 4, 5, 6, 7, 8, 9, 10, 11, 12, 13, 14, 15, 16, 17, 32, 66, 83, 90, 97, 111, 117, 128] [7, 12, 13, 14, 18, 20, 27, 28, 31, 61, 138] (r := (.v zM (.v zO (.v v42_5 (.v zV (.gY zM (.gY zO (.gY zV (.gY v42_14 (.v wW .e)))))))))) (h := ?_)) | (refine zZ.isR (id := 26) ?_; refine zZ.rc [1, 4, 5, 6, 7, 8, 9, 10, 11, 12, 13, 14, 15, 16, 17, 32, 66, 83, 90, 97, 111, 117, 128] [7, 12, 13, 14, 18, 20, 27, 28, 31, 61, 138] (r := (.v zV (.v zV (.gT (.gT (.gT (.v wW .e))))))) (h := ?_)) | (refine zZ.isR (id := 29) ?_; refine zZ.rc [1, 4, 5, 6, 7, 8, 9, 10, 11, 12, 13, 14, 15, 16, 17, 32, 66, 83, 90, 97, 111, 117, 128] [7, 12, 13, 14, 18, 20, 27, 28, 31, 61, 138] (r := (.v zV (.v zV (.gT (.gT (.gT (.v wW .e))))))) (h := ?_)) | (refine zZ.isR (id := 10) ?_; refine zZ.rc [1, 4, 5, 6, 7, 8, 9, 10, 11, 12, 13, 14, 15, 16, 17, 32, 66, 83, 90, 97, 111, 117, 128] [7, 12, 13, 14, 18, 20, 27, 28, 31, 61, 138] (r := (.v zV (.v wM (.v zB .e)))) (h := ?_)) | refine zZ.yG rfl bA ?_ | refine zZ.skip ?_) | refine zF.n ?_ | refine zR.n ?_)
        all_goals
          refine ⟨(i + 1, ⟨t', c'', ws', root', r0', r1'⟩, many, ins'), ?_, hS, by dsimp only; omega⟩
          exact z8 K_6 K_7
      | has hk he hi hR hins =>
        dsimp only at he hi
        subst hk he hi hins
        rw [← hm', hR, ← hm] at hS
        have d1 := True.intro
        have g2 := True.intro
        cases is
        all_goals
          repeat' (first | (refine zY.nil ?_) | (refine zZ.is ?_; first | refine zZ.seq ?_ | (refine zZ.isR (id := 14) ?_; refine zZ.rc [1, 4, 5, 6, 7, 8, 9, 10, 11, 12, 13, 14, 15, 16, 17, 32, 66, 83, 90, 97, 111, 117, 128] [7, 12, 13, 14, 18, 20, 27, 28, 31, 61, 138] (r := (.v zV (.v kQ .e))) (h := ?_)) | (refine zZ.isR (id := 16) ?_; refine zZ.rc [1, 4, 5, 6, 7, 8, 9, 10, 11, 12, 13, 14, 15, 16, 17, 32, 66, 83, 90, 97, 111, 117, 128] [7, 12, 13, 14, 18, 20, 27, 28, 31, 61, 138] (r := (.v xU (.w zS .e))) (h := ?_)) | (refine zZ.isR (id := 17) ?_; refine zZ.rc [1, 4, 5, 6, 7, 8, 9, 10, 11, 12, 13, 14, 15, 16, 17, 32, 66, 83, 90, 97, 111, 117, 128] [7, 12, 13, 14, 18, 20, 27, 28, 31, 61, 138] (r := (.v zM (.v zO (.v v41_5 (.v zV (.gT (.gT (.gT (.gT (.gT (.v wW (.v zV (.gT (.gT (.gT (.v wW (.v zB .e))))))))))))))))) (h := ?_)) | (refine zZ.isR (id := 18) ?_; refine zZ.rc [1, 4, 5, 6, 7, 8, 9, 10, 11, 12, 13, 14, 15, 16, 17, 32, 66, 83, 90, 97, 111, 117, 128] [7, 12, 13, 14, 18, 20, 27, 28, 31, 61, 138] (r := (.v zV .e)) (h := ?_)) | (refine zZ.isR (id := 21) ?_; refine zZ.rc [1, 4, 5, 6, 7, 8, 9, 10, 11, 12, 13, 14, 15, 16, 17, 32, 66, 83, 90, 97, 111, 117, 128] [7, 12, 13, 14, 18, 20, 27, 28, 31, 61, 138] (r := (.v v0_1 (.v zV (.v kV (.v v2_15 (.v zB .e)))))) (h := ?_)) | (refine zZ.isR (id := 22) ?_; refine zZ.rc [1, 4, 5, 6, 7, 8, 9, 10, 11, 12, 13, 14, 15, 16, 17, 32, 66, 83, 90, 97, 111, 117, 128] [7, 12, 13, 14, 18, 20, 27, 28, 31, 61, 138] (r := (.v zM (.v zO (.v v41_5 .e)))) (h := ?_)) | (refine zZ.isR (id := 24) ?_; refine zZ.rc [1, 4, 5, 6, 7, 8, 9, 10, 11, 12, 13, 14, 15, 16, 17, 32, 66, 83, 90, 97, 111, 117, 128] [7, 12, 13, 14, 18, 20, 27, 28, 31, 61, 138] (r := (.v zM (.v zO (.v v42_5 (.v zV (.gY zM (.gY zO (.gY zV (.gY v42_14 (.v wW .e)))))))))) (h := ?_)) | (refine zZ.isR (id := 26) ?_; refine zZ.rc [1, 4, 5, 6, 7, 8, 9, 10, 11, 12, 13, 14, 15, 16, 17, 32, 66, 83, 90, 97, 111, 117, 128] [7, 12, 13, 14, 18, 20, 27, 28, 31, 61, 138] (r := (.v zV (.v zV (.gY zM (.gY zO (.gY v41_5 (.v xR .e))))))) (h := ?_)) | (refine zZ.isR (id := 26) ?_; refine zZ.rc [1, 4, 5, 6, 7, 8, 9, 10, 11, 12, 13, 14, 15, 16, 17, 32, 66, 83, 90, 97, 111, 117, 128] [7, 12, 13, 14, 18, 20, 27, 28, 31, 61, 138] (r := (.v zV (.v zV (.gT (.gT (.gT (.v wW .e))))))) (h := ?_)) | (refine zZ.isR (id := 29) ?_; refine zZ.rc [1, 4, 5, 6, 7, 8, 9, 10, 11, 12, 13, 14, 15, 16, 17, 32, 66, 83, 90, 97, 111, 117, 128] [7, 12, 13, 14, 18, 20, 27, 28, 31, 61, 138] (r := (.v zV (.v zV (.gY zM (.gY zO (.gY v41_5 (.v xR .e))))))) (h := ?_)) | (refine zZ.isR (id := 29) ?_; refine zZ.rc [1, 4, 5, 6, 7, 8, 9, 10, 11, 12, 13, 14, 15, 16, 17, 32, 66, 83, 90, 97, 111, 117, 128] [7, 12, 13, 14, 18, 20, 27, 28, 31, 61, 138] (r := (.v zV (.v zV (.gT (.gT (.gT (.v wW .e))))))) (h := ?_)) | (refine zZ.isR (id := 10) ?_; refine zZ.rc [1, 4, 5, 6, 7, 8, 9, 10, 11, 12, 13, 14, 15, 16, 17, 32, 66, 83, 90, 97, 111, 117, 128] [7, 12, 13, 14, 18, 20, 27, 28, 31, 61, 138] (r := (.v zV (.v wM (.v zB .e)))) (h := ?_)) | refine zZ.yG rfl bA ?_ | refine zZ.skip ?_) | refine zF.n ?_ | refine zR.n ?_)
          all_goals
            refine ⟨(i + 1, ⟨t', c'', ws', root', r0', r1'⟩, many, ins'), ?_, hS, by dsimp only; omega⟩
            exact z8 K_6 K_7
    case neg =>
      have f3 : decide ((i : Int) < (l.length : Nat)) = false := decide_eq_false (by omega)
      have hso := hW.vs.so
      have hat := hmem.at_
      have hwt := hmem.t
      have hwc := hmem.c
      obtain ⟨t, c', ws, root, r0, r1⟩ := W
      obtain rfl : t = 2 := hwt
      obtain rfl : c' = (n : Nat) := hwc
      have c3 := sortedV_fn (C := n) (by omega) hW.vs.lk (by rw [cl_len]; exact hRl) (ws := ws) hat (by
        rw [cl_nms]
        intro j x y hx hy
        exact rise_of hso hx hy)
      clear hW hI hmem
      unfold alF
      repeat' (first | (refine zY.is ?_; first | refine zY.nil ?_ | (refine zY.at_ 139 rfl ?_; refine zY.rc (.v xR (.v zB .e)) ?_) | (refine zY.in_ [138] rfl ?_; refine zY.gY rfl rfl (by decide) rfl bA rfl (by decide) (zP (c3) rfl rfl rfl (by decide)) ?_)) | (refine zZ.is ?_; first | refine zZ.seq ?_ | (refine zZ.isR (id := 9) ?_; refine zZ.rc [1, 4, 5, 6, 7, 8, 9, 10, 11, 12, 13, 14, 15, 16, 17, 32, 66, 83, 90, 97, 111, 117, 128] [7, 12, 13, 14, 18, 20, 27, 28, 31, 61, 138] (r := (.v zV (.v zV (.v v57_0 (.v xI .e))))) (h := ?_)) | (refine zZ.isR (id := 32) ?_; refine zZ.rc [4, 5, 7] [7, 12, 13, 14, 18, 20, 27, 28, 31, 61, 138] (r := (.v zV (.v zV (.gY zM (.gY xU .e))))) (h := ?_)) | refine zZ.yG rfl bA ?_ | refine zZ.exit ?_ | refine zZ.ret ?_) | refine zF.n ?_ | refine zR.eY ?_ | refine zF.e ?_)
      all_goals exact ⟨by first | exact .inl rfl | exact .inr rfl, _, Sub.refl _, .p rfl (.tmp rfl)⟩
theorem vertAlone_fn (c : Int) (l : List Int) (hc : 0 ≤ c ∧ c < 256) (hl : ∀ x ∈ l, 0 ≤ x ∧ x < 256) (hm : l.length ≤ maxLen) : Fn Tryz.prog 3 [.val (.int .u8 c), .sl (byts l)] (.p (.val (.bool true))) := by
  by_cases hn : l.length ≤ 24
  · exact vertAlone_start c l hc hn hl
  · have c0 := shown16_fn
    have f1 : decide ((24 : Int) < (l.length : Nat)) = true := decide_eq_true (by omega)
    refine yP Tryz.func3 rfl Tryz.ntmps3 (Nat.le_of_ble_eq_true rfl) ?_
    repeat' (first | (refine zY.is ?_; first | refine zY.nil ?_ | (refine zY.at_ 5 rfl ?_; refine zY.rc (.v zB .e) ?_) | (refine zY.in_ [18] rfl ?_; refine zY.v rfl rfl (zP (c0) rfl rfl rfl (by decide)) ?_)) | (refine zZ.is ?_; first | refine zZ.seq ?_ | (refine zZ.isR (id := 0) ?_; refine zZ.rc [0, 1] [7, 12, 13, 14, 18, 20, 27, 28, 31, 61, 138] (r := (.v zB .e)) (h := ?_)) | (refine zZ.isR (id := 1) ?_; refine zZ.rc [0, 1, 4] [7, 12, 13, 14, 18, 20, 27, 28, 31, 61, 138] (r := .e) (h := ?_)) | (refine zZ.isR (id := 2) ?_; refine zZ.rc [0, 1, 4, 5] [7, 12, 13, 14, 18, 20, 27, 28, 31, 61, 138] (r := (.v zV (.v v57_0 (.v v45_0 .e)))) (h := ?_)) | (refine zZ.isR (id := 3) ?_; refine zZ.rc [0, 1, 4, 5] [7, 12, 13, 14, 18, 20, 27, 28, 31, 61, 138] (r := (.v zV (.v zB .e))) (h := ?_)) | refine zZ.yN rfl bA ?_ | refine zZ.ret ?_) | refine zF.n ?_ | refine zF.r ?_)
    all_goals exact ⟨by first | exact .inl rfl | exact .inr rfl, _, Sub.refl _, .p rfl (.tmp rfl)⟩
end Go.Proofs.YtmfbamiciieooaaGreatDoor
/- A law's arguments, as they come in, by their shapes. Generic over the program. -/
namespace Go.Proofs.YtmfbamiciieooaaGreatDoor
set_option maxRecDepth 100000
set_option maxHeartbeats 16000000
open Go Go.RowKit Go.ChangeShapes Go.WideShapes Go.ChangeAt
def NoM : Nat → Nat → Prop := fun _ _ => False
/-- what a cell may hold -/
inductive Leaf where
  | int (k : IntKind)
  | bool
  | any
deriving DecidableEq
def leafOK : Leaf → Value → Prop
  | .int k, v => ∃ n, v = .int k n ∧ (Lit.int k n).wf = true
  | .bool, v => ∃ b, v = .bool b
  | .any, v => v.oneCell' = true
/-- type t's cells, one behind the other, are of these kinds (any: a slice) -/
def flatB (P : Program) : Nat → TypeId → List Leaf → Bool
  | 0, _, _ => false
  | d + 1, t, ls => match P.underlying t with
    | some (.int k) => decide (ls = [.int k])
    | some .bool => decide (ls = [.bool])
    | some (.slice _) => decide (ls = [.any])
    | some (.struct fs) => (ls.length == P.cellsOf t) && (fs.toList.all fun f => flatB P d f.type ((ls.drop f.offset).take (P.cellsOf f.type)) && (((ls.drop f.offset).take (P.cellsOf f.type)).length == P.cellsOf f.type)) &&
      (List.range ls.length).all fun c => fs.toList.any fun f => decide (f.offset ≤ c) && decide (c < f.offset + P.cellsOf f.type)
    | _ => false
section
variable {H : Type} {enc : TypeId × Value → H} {P : Program} {W : World} {base : Nat} {spare : Nat → Bool} {held : Bool}
theorem flat_trod : ∀ (d : Nat) {t : TypeId} {ls : List Leaf}, flatB P d t ls = true → ∀ {fuel : Nat} {cs : List Value} {x : DataW H × List MemPlace}, DataW.trod enc P W base spare held fuel t cs = some x →
    cs.length = ls.length ∧ ∀ (i : Nat) l v, ls[i]? = some l → cs[i]? = some v → leafOK l v
  | 0, _, _, h, _, _, _, _ => by cases h
  | d + 1, t, ls, h, fuel, cs, x, hx => by
    unfold flatB at h
    cases hu : P.underlying t with
    | none => rw [hu] at h; cases h
    | some ds =>
      rw [hu] at h
      cases ds with
      | int k =>
        obtain rfl : ls = [.int k] := of_decide_eq_true h
        obtain ⟨n, rfl, _, hw⟩ := DataW.trod_int hu hx
        refine ⟨rfl, fun i l v hl hv => ?_⟩
        match i with
        | 0 => simp at hl hv; subst hl hv; exact ⟨n, rfl, hw⟩
        | i + 1 => simp at hl
      | bool =>
        obtain rfl : ls = [.bool] := of_decide_eq_true h
        obtain ⟨b, rfl, _⟩ := DataW.trod_bool hu hx
        refine ⟨rfl, fun i l v hl hv => ?_⟩
        match i with
        | 0 => simp at hl hv; subst hl hv; exact ⟨b, rfl⟩
        | i + 1 => simp at hl
      | slice e =>
        obtain rfl : ls = [.any] := of_decide_eq_true h
        have key : ∀ w : Value, w.oneCell' = true → cs = [w] → cs.length = [Leaf.any].length ∧ ∀ (i : Nat) l v, [Leaf.any][i]? = some l → cs[i]? = some v → leafOK l v := fun w hw e => by
          subst e
          refine ⟨rfl, fun i l v hl hv => ?_⟩
          match i with
          | 0 => simp at hl hv; subst hl hv; exact hw
          | i + 1 => simp at hl
        rcases DataW.trod_slice hu hx with ⟨e, _⟩ | ⟨a, len, cap, _, _, _, _, e, _⟩
        · exact key _ rfl e
        · exact key _ rfl e
      | struct fs =>
        simp only [Bool.and_eq_true, beq_iff_eq, List.all_eq_true, List.mem_range, List.any_eq_true, decide_eq_true_eq] at h
        obtain ⟨⟨hlen, hfs⟩, hcov⟩ := h
        obtain ⟨xs, n, _, _, hcl, hxl, hg⟩ := DataW.trod_struct hu hx
        refine ⟨by omega, fun i l v hl hv => ?_⟩
        have hil : i < ls.length := (List.getElem?_eq_some_iff.1 hl).1
        obtain ⟨f, hf, hf1, hf2⟩ := hcov i hil
        obtain ⟨hfl, hfn⟩ := hfs f hf
        obtain ⟨j, hj, hfj⟩ := List.getElem_of_mem hf
        have hfj2 : fs[j]? = some f := by
          rw [← hfj, Array.getElem_toList]
          exact Array.getElem?_eq_getElem _
        have h2 := hg j f hfj2
        have hjx : j < xs.length := by rw [hxl]; simpa using hj
        rw [List.getElem?_eq_getElem hjx] at h2
        obtain ⟨_, h3⟩ := flat_trod d hfl h2
        refine h3 (i - f.offset) l v ?_ ?_
        · rw [List.getElem?_take_of_lt (by omega), List.getElem?_drop, show f.offset + (i - f.offset) = i by omega]
          exact hl
        · rw [List.getElem?_take_of_lt (by omega), List.getElem?_drop, show f.offset + (i - f.offset) = i by omega]
          exact hv
      | _ => cases h
theorem has_block {r : Reach} {a : Addr} {e : TypeId} {n : Nat} (h : W.has P r base a e n) : a.spot = none ∧ a.block < W.heap.size := by
  obtain ⟨_, h1, row, cells, h2, _⟩ := h
  refine ⟨h1, ?_⟩
  unfold World.shape? at h2
  cases hb : W.heap[a.block]? with
  | none => rw [hb] at h2; cases h2
  | some o => exact (Array.getElem?_eq_some_iff.1 hb).1
theorem cell_slice {t e : TypeId} {a : Addr} {len cap : Nat} (ht : P.underlying t = some (.slice e)) (h : Cell.okWide P W .any base t (.slice (some a) len cap)) : a.spot = none ∧ a.block < W.heap.size ∧ len ≤ cap := by
  simp only [Cell.okWide, ht, Cell.ok] at h
  exact ⟨(has_block h.2.2).1, (has_block h.2.2).2, h.1⟩
theorem wide_slice {t e : TypeId} {a : Addr} {len cap : Nat} (ht : P.underlying t = some (.slice e)) (h : Value.okWide P W .any base t (.slice (some a) len cap)) : a.spot = none ∧ a.block < W.heap.size ∧ len ≤ cap :=
  cell_slice ht (by simpa only [Value.okWide, ht] using h)
theorem leaf_one {l : Leaf} {v : Value} (h : leafOK l v) : v.oneCell' = true := by
  cases l with
  | int k => obtain ⟨n, rfl, _⟩ := h; rfl
  | bool => obtain ⟨b, rfl⟩ := h; rfl
  | any => exact h
theorem flatten_len {n : Nat} : ∀ {rs : List (List Value)}, (∀ r ∈ rs, r.length = n) → rs.flatten.length = rs.length * n
  | [], _ => by simp
  | r :: rs, h => by
    rw [List.flatten_cons, List.length_append, h r (by simp), flatten_len fun x hx => h x (by simp [hx]), List.length_cons, Nat.add_mul]
    omega
theorem flatten_get {n : Nat} : ∀ {rs : List (List Value)}, (∀ r ∈ rs, r.length = n) → ∀ (i c : Nat), c < n → rs.flatten[i * n + c]? = (rs[i]?).bind (·[c]?)
  | [], _, i, c, _ => by simp
  | r :: rs, h, 0, c, hc => by
    rw [List.flatten_cons, Nat.zero_mul, Nat.zero_add, List.getElem?_append_left (by rw [h r (by simp)]; exact hc)]
    rfl
  | r :: rs, h, i + 1, c, hc => by
    have hr := h r (by simp)
    rw [List.flatten_cons, List.getElem?_append_right (by rw [hr, Nat.add_mul]; omega), hr]
    have e : (i + 1) * n + c - n = i * n + c := by rw [Nat.add_mul]; omega
    rw [e, flatten_get (fun x hx => h x (by simp [hx])) i c hc]
    rfl
/-- a slice of plain structs (of slices, as they are) that came in -/
theorem arg_rows {t e : TypeId} {ls : List Leaf} {dep : Nat} {v : Value} {fuel : Nat} {x : DataW H × List MemPlace} (ht : P.underlying t = some (.slice e)) (hfl : flatB P dep e ls = true) (hn : P.cellsOf e = ls.length)
    (hok : ∀ a len cap, v = .slice (some a) len cap → a.spot = none ∧ a.block < W.heap.size) (h : DataW.trod enc P W base (fun _ => true) held fuel t [v] = some x) :
    ∃ rows : List (List Value), (∀ r ∈ rows, r.length = ls.length ∧ ∀ (i : Nat) l u, ls[i]? = some l → r[i]? = some u → leafOK l u) ∧ rows.length ≤ maxLen ∧
      ∀ es : List PV, es.map PV.cells = rows.map (fun r => r.map PV.val) → Rep NoM W (.sl es) v := by
  rcases DataW.trod_slice ht h with ⟨hv, _⟩ | ⟨a, len, cap, elems, rest, n, _, hv, _, hb, hlc, hm, hlen, hel, _⟩
  · simp only [List.cons.injEq, and_true] at hv
    subst hv
    refine ⟨[], fun r hr => by simp at hr, Nat.zero_le _, fun es he => ?_⟩
    have : es = [] := by simpa using he
    subst this
    exact .nil
  · simp only [List.cons.injEq, and_true] at hv
    subst hv
    obtain ⟨hs, hbk⟩ := hok a len cap rfl
    obtain ⟨g, off, spot⟩ := a
    simp only at hs hbk
    subst hs
    have row : ∀ i, i < len → ∃ r : List Value, W.cells? base (Addr.add ⟨g, off, none⟩ (i * P.cellsOf e)) (P.cellsOf e) = some r ∧ r.length = ls.length ∧ ∀ (j : Nat) l u, ls[j]? = some l → r[j]? = some u → leafOK l u := by
      intro i hi
      have h1 := hel i hi
      rw [List.getElem?_eq_getElem (by omega : i < elems.length)] at h1
      obtain ⟨r, hr, h2⟩ := Option.bind_eq_some_iff.1 h1
      obtain ⟨h3, h4⟩ := flat_trod dep hfl h2
      exact ⟨r, hr, h3, h4⟩
    have rows : ∀ m, m ≤ len → ∃ rs : List (List Value), rs.length = m ∧ ∀ (i : Nat) r, rs[i]? = some r → W.cells? base (Addr.add ⟨g, off, none⟩ (i * P.cellsOf e)) (P.cellsOf e) = some r ∧ r.length = ls.length ∧ ∀ (j : Nat) l u, ls[j]? = some l → r[j]? = some u → leafOK l u := by
      intro m
      induction m with
      | zero => exact fun _ => ⟨[], rfl, fun i r h => by simp at h⟩
      | succ m ih =>
        intro hm2
        obtain ⟨rs, h1, h2⟩ := ih (by omega)
        obtain ⟨r, hr⟩ := row m (by omega)
        refine ⟨rs ++ [r], by simp [h1], fun i r' hi => ?_⟩
        rcases Nat.lt_or_ge i rs.length with h3 | h3
        · rw [List.getElem?_append_left h3] at hi
          exact h2 i r' hi
        · rw [List.getElem?_append_right h3] at hi
          have e0 : i - rs.length = 0 := by
            rcases Nat.eq_zero_or_pos (i - rs.length) with h | h
            · exact h
            · rw [List.getElem?_eq_none (by simp; omega)] at hi; cases hi
          rw [e0] at hi
          simp at hi
          subst hi
          rw [show i = m by omega]
          exact hr
    obtain ⟨rs, hrl, hrs⟩ := rows len (Nat.le_refl _)
    refine ⟨rs, fun r hr => ?_, by omega, fun es he => ?_⟩
    · obtain ⟨i, hi, rfl⟩ := List.getElem_of_mem hr
      exact (hrs i _ (List.getElem?_eq_getElem hi)).2
    · have hn0 : P.cellsOf e = ls.length := hn
      have hesl : es.length = rs.length := by simpa using congrArg List.length he
      have hflat : flat es = rs.flatten.map PV.val := by
        show es.flatMap PV.cells = _
        rw [List.flatMap_def, he, List.map_flatten]
      have hrn : ∀ r ∈ rs, r.length = ls.length := fun r hr => by
        obtain ⟨i, hi, rfl⟩ := List.getElem_of_mem hr
        exact (hrs i _ (List.getElem?_eq_getElem hi)).2.1
      have hyl : rs.flatten.length = rs.length * ls.length := flatten_len hrn
      have at_ : ∀ (j : Nat) y, rs.flatten[j]? = some y → ∃ i c r, j = i * ls.length + c ∧ rs[i]? = some r ∧ r[c]? = some y := fun j y hy => by
        have hj : j < rs.length * ls.length := by rw [← hyl]; exact (List.getElem?_eq_some_iff.1 hy).1
        have hpos : 0 < ls.length := by
          rcases Nat.eq_zero_or_pos ls.length with h | h
          · rw [h] at hj; omega
          · exact h
        have e1 : j = (j / ls.length) * ls.length + j % ls.length := by
          have := Nat.div_add_mod j ls.length
          rw [Nat.mul_comm] at this
          omega
        have hi : j / ls.length < rs.length := (Nat.div_lt_iff_lt_mul hpos).2 hj
        have hc : j % ls.length < ls.length := Nat.mod_lt _ hpos
        have h1 := flatten_get hrn (j / ls.length) (j % ls.length) hc
        rw [← e1, hy, List.getElem?_eq_getElem hi] at h1
        exact ⟨_, _, _, e1, List.getElem?_eq_getElem hi, h1.symm⟩
      refine .sl es g off len cap rs.flatten (by omega) (by rw [hflat, List.length_map]) (fun j y hy => ?_) (fun j c y hc hy => ?_) (fun y hy => ?_) (fun _ _ h => h) hbk hlc hm
      · obtain ⟨i, c, r, rfl, hr, hc⟩ := at_ j y hy
        have h1 := World.cells?_some (hrs i r hr).1
        have hcl : c < P.cellsOf e := by
          rw [hn0, ← (hrs i r hr).2.1]
          exact (List.getElem?_eq_some_iff.1 hc).1
        have h2 := h1.2.2 c hcl
        rw [hc, add_lit, add_lit, hn0, Nat.add_assoc] at h2
        exact h2
      · rw [hflat, List.getElem?_map, hy] at hc
        simp only [Option.map_some, Option.some.injEq] at hc
        subst hc
        exact .val _
      · obtain ⟨j, hj, rfl⟩ := List.getElem_of_mem hy
        obtain ⟨i, c, r, _, hr, hc⟩ := at_ j _ (List.getElem?_eq_getElem hj)
        have hcl : c < ls.length := by
          rw [← (hrs i r hr).2.1]
          exact (List.getElem?_eq_some_iff.1 hc).1
        exact leaf_one ((hrs i r hr).2.2 c _ _ (List.getElem?_eq_getElem hcl) hc)
end
end Go.Proofs.YtmfbamiciieooaaGreatDoor
/- A law's call, by its contract; the table that the row lists; a world that fits. -/
namespace Go.Proofs.YtmfbamiciieooaaGreatDoor
set_option maxRecDepth 100000
set_option maxHeartbeats 16000000
open Go Go.RowKit Go.ChangeShapes Go.WideShapes Go.ChangeAt
set_option linter.unusedVariables false
theorem ownT : ownKnob Tryz.prog.godebug = none := by kernel_rfl
theorem laidOutT : laidOutB Tryz.prog = true := by kernel_rfl
section
variable {P : Program} {W : World}
/-- A law's call, by its contract. -/
theorem Fn.law {f : FuncId} {args : List PV} (h : Fn P f args (.p (.val (.bool true)))) (hlay : Lays W) {vs : List Value} (hl : vs.length = args.length) (hr : ∀ (i : Nat) x v, args[i]? = some x → vs[i]? = some v → Rep NoM W x v) :
    Calls P f vs.toArray W fun e W' => e = .returned (.bool true) ∧ Below W.heap.size W W' :=
  (h NoM W vs ⟨hlay, fun _ _ _ h => h⟩ (fun _ _ h => h.elim) hl hr).mono fun e W' ⟨v, he, hv, hb⟩ => by
    cases hv
    exact ⟨he, hb⟩
theorem reps1 {M : Nat → Nat → Prop} {x0 : PV} {v0 : Value} (h0 : Rep M W x0 v0) : ∀ (i : Nat) x v, [x0][i]? = some x → [v0][i]? = some v → Rep M W x v := by
  intro i x v hx hv
  match i with
  | 0 => simp at hx hv; subst hx; subst hv; exact h0
  | i + 1 => simp at hx
theorem repsC {M : Nat → Nat → Prop} {x0 : PV} {v0 : Value} {xs : List PV} {vs : List Value} (h0 : Rep M W x0 v0) (h : ∀ (i : Nat) x v, xs[i]? = some x → vs[i]? = some v → Rep M W x v) : ∀ (i : Nat) x v, (x0 :: xs)[i]? = some x → (v0 :: vs)[i]? = some v → Rep M W x v := by
  intro i x v hx hv
  match i with
  | 0 => simp at hx hv; subst hx; subst hv; exact h0
  | i + 1 => exact h i x v (by simpa using hx) (by simpa using hv)
end
/-! ### The listed table -/
theorem gTbl : Tryz.prog.globalNamed "weald/crc.halves" = some 0 := by kernel_rfl
theorem tTbl : (Tryz.prog.globals[0]?).map (·.type) = some 202 := by kernel_rfl
def laidL : List (String × DataW Unit) := [("weald/crc.halves", Rows.laid_weald_crc_halves)]
theorem lays_of_laid {W : World} (h : laidMetH Tryz.prog laidL W) : Lays W := by
  rw [MakeChecks.laidMetH_plain _ _ _ (by kernel_rfl)] at h
  obtain ⟨ps, ⟨g0, t0, cs0, f0, p0, q0, hg0, ht0, hv0, hd0, _, _⟩, _⟩ := h
  obtain rfl := Option.some.inj (gTbl.symm.trans hg0)
  obtain rfl := Option.some.inj (tTbl.symm.trans ht0)
  have hcell := World.var?_cell hg0 hv0
  obtain ⟨xs, m1, _, hx1, hlen, hn, hel⟩ := DataW.trod_array Tryz.underlying202 hd0
  have c1 : Tryz.prog.cellsOf 150 = 1 := by kernel_rfl
  have c16 : Tryz.prog.cellsOf 202 = 16 := by kernel_rfl
  rw [c16] at hlen
  have hdat : Rows.laid_weald_crc_halves (H := Unit) = .agg (tbl0.map fun p => .lit (.int p.1 p.2)) := by kernel_rfl
  simp only [Prod.mk.injEq] at hx1
  have hxs : xs.map (·.1) = tbl0.map fun p => .lit (.int p.1 p.2) := by
    have := hx1.1
    rw [hdat] at this
    simpa using this.symm
  have hk : ∀ p ∈ tbl0, p.1 = .u32 := by decide +kernel
  intro g ys hg
  have hgy : g = 0 ∧ ys = tbl0 := by
    unfold seatTbl at hg
    split at hg
    · next h => exact ⟨h, (Option.some.inj hg).symm⟩
    · cases hg
  obtain ⟨rfl, rfl⟩ := hgy
  have at_ : ∀ (j : Nat) p, tbl0[j]? = some p → W.cell? ⟨0, j, none⟩ = some (.int p.1 p.2) := by
    intro j p hp
    have hj : j < 16 := (List.getElem?_eq_some_iff.1 hp).1
    have h1 := hel j hj
    have hxj : xs[j]? = some xs[j] := List.getElem?_eq_getElem (by omega)
    rw [hxj, c1, Nat.mul_one] at h1
    obtain ⟨k, e1, e2, _⟩ := DataW.trod_int Tryz.underlying150 h1
    have h3 : (xs.map (·.1))[j]? = some (.lit (.int .u32 k)) := by rw [List.getElem?_map, hxj, e2]; rfl
    rw [hxs, List.getElem?_map, hp] at h3
    simp only [Option.map_some, Option.some.injEq, DataW.lit.injEq, Lit.int.injEq] at h3
    obtain ⟨h4, h5⟩ := h3
    have h6 : cs0[j]? = some (.int .u32 k) := by
      have : (cs0.toList.drop j).take 1 = [cs0.toList[j]'(by rw [hlen]; exact hj)] := by
        rw [List.drop_eq_getElem_cons (by rw [hlen]; exact hj)]
        rfl
      rw [this] at e1
      simp only [List.cons.injEq, and_true] at e1
      rw [← e1]
      simp [Array.getElem?_eq_getElem (show j < cs0.size by simpa using (by rw [hlen]; exact hj : j < cs0.toList.length))]
    rw [hcell j, h6, h4, h5]
  refine ⟨?_, at_⟩
  have h0 := at_ 0 _ rfl
  unfold World.cell? at h0
  cases hh : W.heap[0]? with
  | none => rw [hh] at h0; cases h0
  | some o => exact (Array.getElem?_eq_some_iff.1 hh).1
/-- The door's own heap fits. -/
theorem door_met (os : Os) (args : Array Value) : laidMetH Tryz.prog laidL ((World.doorLaid Tryz.prog 400 os).forCall (fun _ _ => 0) ⟨#[], args, []⟩).memory :=
  laidMetH_of_parts3 (fuel := 8) (laidMet_of_run' 8 (by kernel_rfl) (by kernel_rfl)) (by kernel_rfl) (by kernel_rfl)
end Go.Proofs.YtmfbamiciieooaaGreatDoor
/- Arguments: rows of truth values, and of bytes. Generic over the program. -/
namespace Go.Proofs.YtmfbamiciieooaaGreatDoor
set_option maxRecDepth 100000
set_option maxHeartbeats 16000000
open Go Go.RowKit Go.ChangeShapes Go.WideShapes Go.ChangeAt
set_option linter.unusedVariables false
section
variable {P : Program} {W : World} {H : Type} {enc : TypeId × Value → H}
theorem arg_one {t e : TypeId} {l : Leaf} {v : Value} {d : DataW H} {p : List MemPlace} {base : Nat} (ht : P.underlying t = some (.slice e)) (hfl : flatB P 3 e [l] = true) (hn : P.cellsOf e = 1) (hv : Value.okWide P W .any base t v)
    (h : DataW.Trod enc P W 0 (fun _ => true) true t v d p) : ∃ xs : List Value, (∀ x ∈ xs, leafOK l x) ∧ xs.length ≤ maxLen ∧ Rep NoM W (.sl (xs.map PV.val)) v := by
  obtain ⟨a, len, cap, rfl⟩ := okWide_slice ht hv
  obtain ⟨fuel, hf⟩ := h
  have hf' : DataW.trod enc P W 0 (fun _ => true) true fuel t [Value.slice a len cap] = some (d, p) := hf
  obtain ⟨rows, h1, h2, h3⟩ := arg_rows (ls := [l]) ht hfl hn (fun a' len' cap' e' => by
    injection e' with e1 e2 e3
    subst e1 e2 e3
    have := wide_slice ht hv
    exact ⟨this.1, this.2.1⟩) hf'
  have hr : ∀ r ∈ rows, ∃ x, r = [x] ∧ leafOK l x := fun r hr => by
    obtain ⟨hl, hx⟩ := h1 r hr
    match r, hl with
    | [x], _ => exact ⟨x, rfl, hx 0 l x rfl rfl⟩
  refine ⟨rows.flatten, fun x hx => ?_, ?_, h3 _ ?_⟩
  · obtain ⟨r, h4, h5⟩ := List.mem_flatten.1 hx
    obtain ⟨y, rfl, h6⟩ := hr r h4
    simp at h5; subst h5; exact h6
  · have : rows.flatten.length = rows.length * 1 := flatten_len fun r h => (h1 r h).1
    omega
  · clear h3 h2 h1 hf hf'
    induction rows with
    | nil => rfl
    | cons r rs ih =>
      obtain ⟨y, rfl, _⟩ := hr r (by simp)
      have := ih fun r h => hr r (by simp [h])
      show (PV.val y).cells :: (rs.flatten.map PV.val).map PV.cells = [PV.val y] :: rs.map fun r => r.map PV.val
      rw [this]
      rfl
theorem arg_u8s {t e : TypeId} {v : Value} {d : DataW H} {p : List MemPlace} {base : Nat} (ht : P.underlying t = some (.slice e)) (hfl : flatB P 3 e [.int .u8] = true) (hn : P.cellsOf e = 1) (hv : Value.okWide P W .any base t v)
    (h : DataW.Trod enc P W 0 (fun _ => true) true t v d p) : ∃ l : List Int, Rep NoM W (.sl (byts l)) v ∧ (∀ x ∈ l, 0 ≤ x ∧ x < 256) ∧ l.length ≤ maxLen := by
  obtain ⟨xs, h1, h2, h3⟩ := arg_one ht hfl hn hv h
  suffices ∃ l : List Int, xs = l.map (Value.int .u8) ∧ ∀ x ∈ l, 0 ≤ x ∧ x < 256 by
    obtain ⟨l, rfl, h4⟩ := this
    exact ⟨l, by rw [List.map_map] at h3; exact h3, h4, by simpa using h2⟩
  clear h3 h2
  induction xs with
  | nil => exact ⟨[], rfl, fun x hx => by simp at hx⟩
  | cons x r ih =>
    obtain ⟨b, rfl, hb⟩ := h1 x (by simp)
    obtain ⟨l, rfl, hl⟩ := ih fun y hy => h1 y (by simp [hy])
    refine ⟨b :: l, rfl, fun y hy => ?_⟩
    rcases List.mem_cons.1 hy with rfl | hy
    · have := bounds_u8 hb
      omega
    · exact hl y hy
end
end Go.Proofs.YtmfbamiciieooaaGreatDoor
/- For every input VertAlone returns true, and leaves its arguments as they were; tied: Rows.VertAloneCardSaid. Conditions: none beyond the given statement's own. -/
namespace Go.Proofs.YtmfbamiciieooaaGreatDoor
set_option maxRecDepth 100000
set_option maxHeartbeats 16000000
open Go Go.RowKit Go.ChangeShapes Go.WideShapes Go.ChangeAt
set_option linter.unusedVariables false
theorem vertAlone_lifted (os : Os) (started : os.Started) (H : Type) (enc : TypeId × Value → H) :
    ReturnsInHanded {} Tryz.checked os 3 .any (fun w args => (Rows.vertAloneSpec.pre enc Tryz.prog Tryz.f3 [] false w args ∧ laidMetH Tryz.prog laidL w) ∧ sizedMet enc Tryz.prog Tryz.f3 (OpenSpec.ofChange Rows.vertAloneSpec) false w args)
      (Rows.vertAloneSpec.post enc Tryz.prog Tryz.f3 false true false false) := by
  refine returnsInHanded_of_change_and (C := Tryz.checked) (X := fun w _ => laidMetH Tryz.prog laidL w) (fun _ _ _ hh h => h.of_heap hh) ownT started (by kernel_rfl) Tryz.func3
    (ChangeSpec.witness_shaped (enc := enc) (C := Tryz.checked) (os := os) (X := fun w _ => laidMetH Tryz.prog laidL w) false (World.doorLaid Tryz.prog 400 os) #[.int .u8 0, .slice none 0 0] 8 rfl (World.shaped_of_RefB (by kernel_rfl) (by kernel_rfl)) (by kernel_rfl) (by kernel_rfl) (by kernel_rfl) (door_met os _)) ?_
  intro W base args ds gs before hval0 hW hcnd hwt hL _
  have hval : ∀ (j : Nat) t v, Tryz.f3.params[j]? = some t → args[j]? = some v → Value.okWide Tryz.prog W .any base t v := hval0
  have hW' := hW
  obtain ⟨p, q, hA0, hV, rfl, hfz, hnd⟩ := hW
  have hA : DataW.TrodAll enc Tryz.prog W 0 (fun _ => true) true Tryz.f3.params.toList args.toList ds p := hA0
  rw [Tryz.params3] at hA hval
  obtain ⟨v0, vs0, d0, ds0, p0, q0, hargs, rfl, rfl, h0, r0⟩ := trodAll_cons hA
  obtain ⟨v1, vs1, d1, ds1, p1, q1, rfl, rfl, rfl, h1, r1⟩ := trodAll_cons r0
  obtain ⟨rfl, rfl, rfl⟩ := trodAll_nil r1
  obtain rfl : args = #[v0, v1] := by cases args; simp_all
  obtain ⟨rfl, rfl⟩ := trodVars_none hV
  have lt0 : ∀ x ∈ p0, x.block < W.heap.size := by obtain ⟨m, hm⟩ := h0; exact DataW.trod_lt m _ _ _ hm
  have lt1 : ∀ x ∈ p1, x.block < W.heap.size := by obtain ⟨m, hm⟩ := h1; exact DataW.trod_lt m _ _ _ hm
  have o0 := hval 0 5 v0 rfl rfl
  obtain ⟨a0, e0, _, _, wf0⟩ := open_int Tryz.underlying5 o0 h0
  have rp0 : Rep NoM W (.val (.int .u8 a0)) v0 := e0 ▸ .val _
  have g0 := bounds_u8 wf0
  have o1 := hval 1 22 v1 rfl rfl
  obtain ⟨a1, rp1, g1, l1⟩ := arg_u8s Tryz.underlying22 (by kernel_rfl) (by kernel_rfl) o1 h1
  clear hA0 hval0
  refine ((vertAlone_fn a0 a1 (by omega) g1 l1).law (lays_of_laid hL) (vs := [v0, v1]) rfl (repsC rp0 (reps1 rp1))).mono fun e W' ⟨he, bel⟩ => ?_
  subst he
  exact ⟨_, rfl, _, _, _, [], _, [], hW', trodAll_mk1 (shut_bool Tryz.underlying4 _), (trodAll_cons_mk (Below.trod laidOutT (by kernel_rfl) (of_decide_eq_true (by kernel_rfl)) h0 bel lt0) (trodAll_cons_mk (Below.trod laidOutT (by kernel_rfl) (of_decide_eq_true (by kernel_rfl)) h1 bel lt1) trodAll_mk0)), rfl, bel.frame _, fun h => by cases h⟩
theorem vertAlone_holds : Rows.VertAloneSaid :=
  OpenClaim.holds_of_wide 3 Tryz.f3 rfl rfl rfl rfl rfl rfl rfl ⟨rfl, rfl, rfl, rfl, rfl⟩ rfl rfl rfl rfl rfl (by kernel_rfl) Tryz.func3 (by kernel_rfl)
    (of_decide_eq_true (by kernel_rfl)) (by unfold Func.isWrapper; first | (rw [if_pos (by decide +kernel)]; kernel_rfl) | (rw [if_neg (by decide +kernel)]; exact ⟨rfl, rfl⟩))
    (fun os started H enc _ => vertAlone_lifted os started H enc)
theorem vertAloneCard_holds : Rows.VertAloneCardSaid :=
  Claim7.holds_tied_plain_at .later [] [.data] true _ true
    vertAlone_holds (fun _ h => by cases h) (by kernel_rfl) (fun _ h => by cases h) vertAlone_row_tie rfl ⟨rfl, rfl⟩ (by kernel_rfl) rfl
    (fun f fn hf hfn => by
      obtain rfl : f = 3 := Option.some.inj ((show Tryz.prog.funcNamed "weald/wealdlaw16.VertAlone" = some 3 by kernel_rfl).symm.trans hf) |>.symm
      obtain rfl : fn = Tryz.f3 := (Option.some.inj (Tryz.func3.symm.trans hfn)).symm
      exact ⟨by kernel_rfl, fun j t ht => by
        rw [Tryz.params3] at ht
        have hm : t ∈ [5, 22] := by simpa using Array.mem_of_getElem? ht
        have hall : ([5, 22].all fun u => !Tryz.prog.wantsStandIn u) = true := by kernel_rfl
        exact (show Tryz.prog.wantsStandIn t = false by simpa using List.all_eq_true.1 hall t hm)⟩)
    (by kernel_rfl)
#print axioms vertAloneCard_holds
end Go.Proofs.YtmfbamiciieooaaGreatDoor
