/- For every input ListNext returns true, and leaves its argument as it was. Conditions: none beyond the given statement. (Part 8 of 8.) -/
import Derived.Test.YtohlllohmoojiaaGreatDoorLn7
import Derived.ProofKit
import Derived.OpenShut
import Derived.Below
import Derived.LaidMore
import Derived.Deep.Fields
import Derived.Deep.Slices
import Derived.Test.YtohlllohmoojiaaGreatDoorRows
import Derived.LaidLaws
import Derived.ChangeSame
import Derived.ChangeVars
import Derived.JoinedOf
import Derived.Stop.Joined
import Derived.RowKitTokens
import Derived.Test.YtohlllohmoojiaaGreatDoorCards
import Derived.Test.YtohlllohmoojiaaGreatDoorTie
import Derived.SevenTiedAt
/- New worlds (reference), that their callers may write into: contracts. -/
namespace Go.Proofs.YtohlllohmoojiaaGreatDoor
set_option maxRecDepth 100000
set_option maxHeartbeats 16000000
open Go Go.RowKit
set_option linter.unusedSimpArgs false
attribute [local irreducible] zY zZ Step zK Sub zS zH Fn
/-- the free list's words -/
def freeW (t : Nat) : Nat → List Int → List Int
  | 0, l => l
  | k + 1, l => (freeW t k l).set (8 + t + 8 * k + 7) ((k : Int) + 2)
theorem freeW_len (t : Nat) (l : List Int) : ∀ k, (freeW t k l).length = l.length
  | 0 => rfl
  | k + 1 => by rw [freeW, List.length_set, freeW_len t l k]
def newW (t c : Nat) : List Int := freeW t (c - 1) ((List.replicate (8 + t + 8 * c) 0).set 1 1)
def newS (t c : Nat) (k : Nat) : AS :=
  { t := [(0, .p (.val (.int .i64 (t : Nat)))), (1, .p (.val (.int .i64 (c : Nat)))), (4, .ptr 4 0), (5, .p (.val (.int .i64 0))), (6, .ptr 6 0), (7, .p (.val (.int .i64 ((k + 1 : Nat) : Int))))],
    s := [(4, .box 53 ([.val (.int .i64 0), .val (.int .i64 0), .val (.slice none 0 0)].map AV.p)), (6, .box 53 [.p (.val (.int .i64 (t : Nat))), .p (.val (.int .i64 (c : Nat))), .own 30]), (30, qP 22 1 (wds (freeW t k ((List.replicate (8 + t + 8 * c) 0).set 1 1))))] }
theorem new9A_fn (t c : Nat) (h1 : 1 ≤ t) (h64 : t ≤ 64) (hc1 : 1 ≤ c) (hc : c ≤ 65536) : FnAg Tryz.prog 70 [.val (.int .i64 t), .val (.int .i64 c)] [.p (.val (.int .i64 t)), .p (.val (.int .i64 c)), .o 0] 22 1 (wds (newW t c)) (some (.int .i64 0)) := by
  have g1 : decide ((t : Int) < 1) = false := decide_eq_false (by omega)
  have g2 : decide ((64 : Int) < t) = false := decide_eq_false (by omega)
  have f1 : decide ((c : Int) < 0) = false := decide_eq_false (by omega)
  have f2 : decide ((65536 : Int) < c) = false := decide_eq_false (by omega)
  have g3 : (8 + t + 8 * c) * 1 ≤ 16777216 ∧ 8 * (8 + t + 8 * c) ≤ 281474976710656 ∧ 8 + t + 8 * c ≤ maxLen := by simp only [maxLen]; omega
  have g4 : IntKind.i64.wrap (8 + (t : Int)) = 8 + (t : Int) := wrap_i64 _ (by omega)
  have g4b : IntKind.i64.wrap (8 * (c : Int)) = 8 * (c : Int) := wrap_i64 _ (by omega)
  have g5 : IntKind.i64.wrap (8 + (t : Int) + 8 * (c : Int)) = ((8 + t + 8 * c : Nat) : Int) := by rw [wrap_i64 _ (by omega)]; omega
  have g6 : ∀ e ∈ List.replicate (8 + t + 8 * c) (PV.val (.int .u64 0)), e.cells.length = 1 := fun e he => by rw [List.eq_of_mem_replicate he]; rfl
  have g7 : (0 : Int) ≤ 1 ∧ (1 : Int) < (List.replicate (8 + t + 8 * c) (PV.val (.int .u64 0))).length := by simp; omega
  have g8 : (1 : Int).toNat < (List.replicate (8 + t + 8 * c) (PV.val (.int .u64 0))).length := by simp; omega
  have g9 : decide ((0 : Int) < c) = true := decide_eq_true (by omega)
  refine fn_ofAg Tryz.func70 rfl Tryz.ntmps70 (Nat.le_of_ble_eq_true rfl) ?_
  repeat' (first | (refine zY.at_ 31 rfl ?_; refine zY.v rfl rfl (w_buildAg 30 rfl (by rfl) (by rfl) rfl rfl (by rfl) (by rfl) rfl (by decide)) ?_) | (refine zY.is ?_; first | refine zY.nil ?_ | (refine zY.at_ 6 rfl ?_; refine zY.rc (.m yG (.w yQ .e)) ?_)) | (refine zZ.is ?_; first | refine zZ.seq ?_ | (refine zZ.isR (id := 0) ?_; refine zZ.rc [0, 1] [4, 6, 30] (r := (.m yG (.v zC .e))) (h := ?_)) | (refine zZ.isR (id := 1) ?_; refine zZ.rc [0, 1, 4, 5] [4, 6, 30] (r := (.v zJ (.v v43_0 (.v zJ (.gY zJ (.gY v45_0 (.v xD (.v zJ (.gY zJ (.gY v43_0 (.v xD (.v zJ (.gY zJ (.gY v45_0 (.v xD .e))))))))))))))) (h := ?_)) | (refine zZ.isR (id := 3) ?_; refine zZ.rc [0, 1, 4, 5] [4, 6, 30] (r := (.v zJ (.v zJ (.v zJ (.v v30_0 (.v zJ (.v v32_0 (.v v30_0 (.m m21_0 .e))))))))) (h := ?_)) | (refine zZ.isR (id := 4) ?_; refine zZ.rc [0, 1, 4, 5, 6] [4, 6, 30] (r := (.v zJ (.v v45_0 .e))) (h := ?_)) | (refine zZ.isR (id := 5) ?_; refine zZ.rc [0, 1, 4, 5, 6] [4, 6, 30] (r := (.v zU (.v v2_8 (.v v7_38 (.w w24_1 .e))))) (h := ?_)) | (refine zZ.isR (id := 6) ?_; refine zZ.rc [0, 1, 4, 5, 6] [4, 6, 30] (r := (.v zC .e)) (h := ?_)) | refine zZ.yM rfl bA ?_ | refine zZ.yI rfl bA ?_ | refine zZ.skip ?_ | refine zZ.block ?_))
  refine zZ.loop (newS t c) (fun k => k + 1 ≤ c) (fun k => c - k) 0 ?h0 (by omega) ?rd
  case h0 =>
    have e0 : wds (freeW t 0 ((List.replicate (8 + t + 8 * c) 0).set 1 1)) = (List.replicate (8 + t + 8 * c) (PV.val (.int .u64 0))).set (1 : Int).toNat (.val (.int .u64 1)) := by simp [wds, freeW, List.map_set]
    unfold newS
    rw [e0]
    exact yR K_1q K_1r
  case rd =>
    rintro k hk
    have hfl : (freeW t k ((List.replicate (8 + t + 8 * c) 0).set 1 1)).length = 8 + t + 8 * c := by rw [freeW_len]; simp
    unfold newS
    by_cases hkc : k + 1 < c
    case pos =>
      have f3 : decide (((k + 1 : Nat) : Int) < c) = true := decide_eq_true (by omega)
      have c3 : Fn Tryz.prog 24 [.val (.int .i64 (t : Nat)), .val (.int .i64 ((k + 1 : Nat) : Int)), .val (.int .i64 7)] (.p (.val (.int .i64 ((8 + t + 8 * k + 7 : Nat) : Int)))) := by
        have h := fieldRef_fn t ((k + 1 : Nat) : Int) 7 (by unfold Small; omega) (by omega) (by unfold Small; omega)
        have e : yC t ((k + 1 : Nat) : Int) 7 = ((8 + t + 8 * k + 7 : Nat) : Int) := by unfold yC; omega
        rw [← e]; exact h
      have g10 : IntKind.i64.wrap (((k + 1 : Nat) : Int) + 1) = ((k + 2 : Nat) : Int) := by rw [wrap_i64 _ (by omega)]; omega
      have g11 : IntKind.u64.wrap ((k + 2 : Nat) : Int) = (k : Int) + 2 := by rw [wrap_u64 _ (by omega)]; omega
      have g12 := wds_cells (freeW t k ((List.replicate (8 + t + 8 * c) 0).set 1 1))
      have g13 : (0 : Int) ≤ ((8 + t + 8 * k + 7 : Nat) : Int) ∧ ((8 + t + 8 * k + 7 : Nat) : Int) < (wds (freeW t k ((List.replicate (8 + t + 8 * c) 0).set 1 1))).length := by rw [wds_len, hfl]; omega
      have g14 : ((8 + t + 8 * k + 7 : Nat) : Int).toNat < (wds (freeW t k ((List.replicate (8 + t + 8 * c) 0).set 1 1))).length := by rw [wds_len, hfl]; omega
      repeat' (first | (refine zY.nil ?_) | (refine zZ.is ?_; first | refine zZ.seq ?_ | (refine zZ.isR (id := 7) ?_; refine zZ.rc [0, 1, 4, 5, 6, 7, 39] [4, 6, 30] (r := (.v zJ (.v zJ (.v v43_0 .e)))) (h := ?_)) | (refine zZ.isR (id := 9) ?_; refine zZ.rk [0, 1, 4, 5, 6, 7, 39] [4, 6, 30] ?_; refine zZ.draws ?_) | (refine zZ.isR (id := 8) ?_; refine zZ.rc [0, 1, 4, 5, 6, 7, 39] [4, 6, 30] (r := (.v zJ (.v v30_0 (.v zC .e)))) (h := ?_)) | refine zZ.yM rfl bA ?_ | refine zZ.skip ?_ | refine zZ.block ?_) | refine zG.n ?_ | (refine Draws.is ?_; first | refine Draws.rc (.v zJ (.v v30_0 (.v v6_0 (.v v7_38 .e)))) ?_ | refine Draws.rc (.v zU (.v v2_8 (.v zJ (.v zJ .e)))) ?_ | (refine Draws.in_ [46] rfl ?_; refine Draws.v rfl rfl (zO (c3) rfl rfl rfl (by decide)) ?_) | refine Draws.done (by kernel_rfl) (by kernel_rfl) (by kernel_rfl) ?_) | (refine zS.is ?_; first | refine zS.nil ?_ | refine zS.rc (.w w24_1 .e) ?_))
      refine ⟨k + 1, ?_, by omega, by omega⟩
      have e1 : wds (freeW t (k + 1) ((List.replicate (8 + t + 8 * c) 0).set 1 1)) = (wds (freeW t k ((List.replicate (8 + t + 8 * c) 0).set 1 1))).set ((8 + t + 8 * k + 7 : Nat) : Int).toNat (.val (.int .u64 ((k : Int) + 2))) := by rw [wds_set, Int.toNat_natCast]; rfl
      show Sub _ (newS t c (k + 1))
      unfold newS
      rw [e1]
      exact yR K_1q K_1r
    case neg =>
      obtain rfl : k = c - 1 := by omega
      have f3 : decide (((c - 1 + 1 : Nat) : Int) < c) = false := decide_eq_false (by omega)
      repeat' (first | (refine zY.nil ?_) | (refine zZ.is ?_; first | refine zZ.seq ?_ | (refine zZ.isR (id := 7) ?_; refine zZ.rc [0, 1, 4, 5, 6, 7, 39] [4, 6, 30] (r := (.v zJ (.v zJ (.v v43_0 .e)))) (h := ?_)) | (refine zZ.isR (id := 10) ?_; refine zZ.rc [4, 5, 6] [4, 6, 30] (r := (.v v2_19 (.w yQ (.v zC .e)))) (h := ?_)) | refine zZ.yI rfl bA ?_ | refine zZ.exit ?_ | refine zZ.ret ?_))
      all_goals exact ⟨by first | exact .inl rfl | exact .inr rfl, .two (k := 30) rfl rfl rfl (by rfl) (by rfl) rfl rfl⟩
theorem new10A_fn (t c : Nat) (h1 : 1 ≤ t) (h64 : t ≤ 64) (hc1 : 1 ≤ c) (hc : c ≤ 65536) : FnAg Tryz.prog 23 [.val (.int .i64 t), .val (.int .i64 c)] ([.p (.val (.int .i64 t)), .p (.val (.int .i64 c)), .o 0] ++ (vC 0 (List.replicate t ([], 0)) (List.replicate t ([], 0))).cells.map .p) 22 1 (wds (newW t c)) none := by
  have c1 := new9A_fn t c h1 h64 hc1 hc
  have c2 := new7_fn t h1 h64
  refine fn_ofAg Tryz.func23 rfl Tryz.ntmps23 (Nat.le_of_ble_eq_true rfl) ?_
  repeat' (first | (refine zY.is ?_; first | refine zY.nil ?_ | (refine zY.at_ 15 rfl ?_; refine zY.rc (.v v0_4 (.v y9 (.v y9 (.m yG (.w yQ (.v zC .e)))))) ?_) | (refine zY.at_ 9 rfl ?_; refine zY.rc (.v v0_4 (.v v9_2 (.v y9 (.m yG (.w yQ (.v zC .e)))))) ?_) | (refine zY.in_ [17] rfl ?_; refine zY.v rfl rfl (xJ (c2) rfl rfl rfl (by decide)) ?_) | (refine zY.in_ [12] rfl ?_; refine zY.m rfl rfl (w_callAg c1 rfl rfl rfl (by decide)) ?_)) | (refine zZ.is ?_; first | refine zZ.seq ?_ | (refine zZ.isR (id := 0) ?_; refine zZ.rc [0, 1] [4, 5, 7, 12, 17] (r := (.m yG .e)) (h := ?_)) | (refine zZ.isR (id := 1) ?_; refine zZ.rc [0, 1, 4] [4, 5, 7, 12, 17] (r := (.v zJ (.v zJ .e))) (h := ?_)) | (refine zZ.isR (id := 2) ?_; refine zZ.rc [0, 4, 5] [4, 5, 7, 12, 17] (r := (.v zJ .e)) (h := ?_)) | (refine zZ.isR (id := 3) ?_; refine zZ.rc [4, 5, 7] [4, 5, 7, 12, 17] (r := (.v v2_19 (.v vN (.v v10_2 (.w yQ .e))))) (h := ?_)) | refine zZ.ret ?_))
  all_goals exact ⟨by first | exact .inl rfl | exact .inr rfl, .one (k := 12) rfl rfl rfl (by rfl) (by rfl) rfl⟩
end Go.Proofs.YtohlllohmoojiaaGreatDoor
/- The list's example: by evaluation, and its contracts. -/
namespace Go.Proofs.YtohlllohmoojiaaGreatDoor
set_option maxRecDepth 100000
set_option maxHeartbeats 16000000
open Go Go.RowKit
set_option linter.unusedSimpArgs false
theorem run_keeps {α : Type} {good : α → Prop} {me : Nat} {f : Nat → Bool} : ∀ {p : Pr α} {n b i j : Nat} {W W' : Wd} {x : α}, p.xL good n → WdOK b W → p.run (wSt me f) (W, i) = .done x (W', j) →
    i ≤ j ∧ WdOK (b + 1000 * (j - i)) W' ∧ W'.t = W.t ∧ W'.c = W.c ∧ W'.r0.length = W.r0.length ∧ W'.ws.length = W.ws.length ∧ good x
  | .ret _, n, b, i, j, W, W', x, hf, h, hr => by
    rw [zP] at hr
    injection hr with e1 e2
    injection e2 with e2 e3
    subst e1 e2 e3
    exact ⟨Nat.le_refl _, h.le (by omega), rfl, rfl, rfl, rfl, hf⟩
  | .stuck, _, _, _, _, _, _, _, _, _, hr => by cases hr
  | .ask q k, n, b, i, j, W, W', x, hf, h, hr => by
    rw [wU] at hr
    have hr2 : (k (doX W me q (f i)).2).run (wSt me f) ((doX W me q (f i)).1, i + 1) = .done x (W', j) := hr
    obtain ⟨h1, h2⟩ := doX_ok h hf.1 me (f i)
    obtain ⟨k1, k2, k3, k4, _⟩ := doX_keeps W me q (f i)
    obtain ⟨a1, a2, a3, a4, a5, a6, a7⟩ := run_keeps (hf.2 _ h2) h1 hr2
    exact ⟨by omega, a2.le (by omega), a3.trans k1, a4.trans k2, a5.trans k3, a6.trans k4, a7⟩
def wd0 : Wd := ⟨0, 0, [], 0, [], []⟩
structure ResN where
  o : OutN
  W : Wd
  m : Nat
/-- what an operation answers, that steps alone -/
def rsN (p : Pr OutN) (me : Nat) (W : Wd) : ResN := match p.run (wSt me noFail) (W, 0) with
  | .done o s => ⟨o, s.1, s.2⟩
  | _ => ⟨⟨0, false, 0, 0⟩, wd0, 1000⟩
theorem freeW_U (t : Nat) {l : List Int} (hl : ∀ x ∈ l, U x) : ∀ k, k ≤ 65536 → ∀ x ∈ freeW t k l, U x
  | 0, _, x, hx => hl x hx
  | k + 1, hk, x, hx => by
    rw [freeW] at hx
    rcases List.mem_or_eq_of_mem_set hx with hx | rfl
    · exact freeW_U t hl k (by omega) x hx
    · unfold U; omega
theorem newW_U {t c : Nat} (h2 : c ≤ 65536) : ∀ x ∈ newW t c, U x := freeW_U t (fun x hx => by
    rcases List.mem_or_eq_of_mem_set hx with hx | rfl
    · rw [List.eq_of_mem_replicate hx]; exact U.zero
    · unfold U; decide) _ (by omega)
theorem newW_len (t c : Nat) : (newW t c).length = 8 + t + 8 * c := by rw [newW, freeW_len]; simp
/-- an operation that steps alone, in a world: its contract, and what is kept -/
structure AlN (B : Nat) (me : Nat) (k u v w : Int) (most : Nat) (W : Wd) (R : ResN) : Prop where
  fn : Fn Tryz.prog 25 [W.pv, .val (.int .i64 me), opV k u v w, .val (.int .i64 most)] (.tup [R.W.pv, outV R.o.e R.o.is R.o.n R.o.w, .val (.bool true)])
  ok : WdOK (B + 20000) R.W
  t : R.W.t = W.t
  c : R.W.c = W.c
  r0 : R.W.r0.length = W.r0.length
  ws : R.W.ws.length = W.ws.length
theorem alN_of {B me : Nat} {k u v w : Int} {most : Nat} {W : Wd} {R : ResN} (hr : (opL W.t k u v w).run (wSt me noFail) (W, 0) = .done R.o (R.W, R.m)) (ht : Small W.t) (hop : OpL k u v w) (hW : WdOK B W) (hme : me < W.r0.length) (hm : R.m ≤ most) (h20 : most ≤ 20) (hB : B ≤ 500000) : AlN B me k u v w most W R := by
  have hk := run_keeps (fine_opL (t := W.t) hop) hW hr
  exact ⟨alone_fn B W R.W me k u v w most R.m R.o hW ht hme hop hr hm (by omega) (by omega) (by omega), hk.2.1.le (by omega), hk.2.2.1, hk.2.2.2.1, hk.2.2.2.2.1, hk.2.2.2.2.2.1⟩
/-! ### The document's example -/
def slW : Wd := ⟨1, 2, (newW 1 2).set 10 5, 0, [([], 0)], [([], 0)]⟩
def slV : ResN := rsN (opL 1 24 0 0 1) 0 slW
def slB : ResN := rsN (opL 1 8 0 0 5) 0 slV.W
def slD : ResN := rsN (opL 1 8 0 0 4) 0 slV.W
def slE : ResN := rsN (opL 1 8 0 0 6) 0 slV.W
def slF : ResN := rsN (opL 1 25 0 0 5) 0 slV.W
theorem sl1 : (opL 1 24 0 0 1).run (wSt 0 noFail) (slW, 0) = .done slV.o (slV.W, slV.m) := by kernel_rfl
theorem sl2 : (opL 1 8 0 0 5).run (wSt 0 noFail) (slV.W, 0) = .done slB.o (slB.W, slB.m) := by kernel_rfl
theorem sl3 : (opL 1 8 0 0 4).run (wSt 0 noFail) (slV.W, 0) = .done slD.o (slD.W, slD.m) := by kernel_rfl
theorem sl4 : (opL 1 8 0 0 6).run (wSt 0 noFail) (slV.W, 0) = .done slE.o (slE.W, slE.m) := by kernel_rfl
theorem sl5 : (opL 1 25 0 0 5).run (wSt 0 noFail) (slV.W, 0) = .done slF.o (slF.W, slF.m) := by kernel_rfl
theorem sl6 : slV.o.is = true ∧ (slB.o.n = 1 ∧ slB.o.w = 0 ∧ slB.o.is = true) ∧ (slD.o.n = 1 ∧ slD.o.is = false) ∧ (slE.o.n = 0 ∧ slE.o.w = 1 ∧ slE.o.is = false) ∧ slF.o.n = 1 ∧ slF.o.is = true := by refine ⟨?_, ⟨?_, ?_, ?_⟩, ⟨?_, ?_⟩, ⟨?_, ?_, ?_⟩, ?_, ?_⟩ <;> kernel_rfl
theorem sl7 : slV.m ≤ 9 ∧ slB.m ≤ 9 ∧ slD.m ≤ 9 ∧ slE.m ≤ 9 ∧ slF.m ≤ 9 := by refine ⟨?_, ?_, ?_, ?_, ?_⟩ <;> exact Nat.le_of_ble_eq_true (by kernel_rfl)
theorem slW_ok : WdOK 0 slW := ⟨fun x hx => by
    rcases List.mem_or_eq_of_mem_set hx with hx | rfl
    · exact newW_U (by decide) x hx
    · unfold U; decide, by show ((newW 1 2).set 10 5).length ≤ _; rw [List.length_set, newW_len]; decide, rfl, by decide, fun p hp => by
    have hp : p ∈ [(([] : List Int), (0 : Int))] := hp
    rw [List.mem_singleton] at hp
    subst hp
    exact Nat.le_refl _⟩
theorem al_sl : AlN 0 0 24 0 0 1 9 slW slV ∧ AlN 20000 0 8 0 0 5 9 slV.W slB ∧ AlN 20000 0 8 0 0 4 9 slV.W slD ∧ AlN 20000 0 8 0 0 6 9 slV.W slE ∧ AlN 20000 0 25 0 0 5 9 slV.W slF := by
  obtain ⟨m1, m2, m3, m4, m5⟩ := sl7
  have z : Rf 0 := ⟨by decide, by decide⟩
  have z1 : Rf 1 := ⟨by decide, by decide⟩
  have hu : ∀ n : Int, 0 ≤ n → n ≤ 9 → U n := fun n h1 h2 => by unfold U; omega
  have hs : Small 1 := by unfold Small; omega
  have a1 : AlN 0 0 24 0 0 1 9 slW slV := alN_of sl1 hs ⟨fun _ => z, fun _ => ⟨z, z1⟩, hu _ (by decide) (by decide)⟩ slW_ok (by decide) m1 (by decide) (by decide)
  have ht : slV.W.t = 1 := a1.t
  have hr : 0 < slV.W.r0.length := by rw [a1.r0]; decide
  exact ⟨a1, alN_of (by rw [ht]; exact sl2) (by rw [ht]; exact hs) ⟨fun _ => z, fun h => absurd h (by decide), hu _ (by decide) (by decide)⟩ a1.ok hr m2 (by decide) (by decide),
    alN_of (by rw [ht]; exact sl3) (by rw [ht]; exact hs) ⟨fun _ => z, fun h => absurd h (by decide), hu _ (by decide) (by decide)⟩ a1.ok hr m3 (by decide) (by decide),
    alN_of (by rw [ht]; exact sl4) (by rw [ht]; exact hs) ⟨fun _ => z, fun h => absurd h (by decide), hu _ (by decide) (by decide)⟩ a1.ok hr m4 (by decide) (by decide),
    alN_of (by rw [ht]; exact sl5) (by rw [ht]; exact hs) ⟨fun _ => z, fun h => absurd h (by decide), hu _ (by decide) (by decide)⟩ a1.ok hr m5 (by decide) (by decide)⟩
end Go.Proofs.YtohlllohmoojiaaGreatDoor
/- The list's example: contract. -/
namespace Go.Proofs.YtohlllohmoojiaaGreatDoor
set_option maxRecDepth 100000
set_option maxHeartbeats 16000000
open Go Go.RowKit
set_option linter.unusedSimpArgs false
set_option linter.unusedVariables false
attribute [local irreducible] zY zZ Step zK Sub zS zH Fn zG yZ
theorem shown15_fn : Fn Tryz.prog 7 [] (.p (.val (.bool true))) := by
  have c0 := new10A_fn 1 2 (by decide) (by decide) (by decide) (by decide)
  have c6 : Fn Tryz.prog 24 [.val (.int .i64 1), .val (.int .i64 1), .val (.int .i64 1)] (.p (.val (.int .i64 10))) := fieldRef_fn 1 1 1 (by unfold Small; omega) (by omega) (by unfold Small; omega)
  obtain ⟨a1, a2, a3, a4, a5⟩ := al_sl
  have c1 := a1.fn
  have c2 := a2.fn
  have c3 := a3.fn
  have c4 := a4.fn
  have c5 := a5.fn
  clear a1 a2 a3 a4 a5
  obtain ⟨z1, ⟨z2, z3, z4⟩, ⟨z5, z6⟩, ⟨z7, z8, z9⟩, z10, z11⟩ := sl6
  generalize slV = q1 at *
  generalize slB = q2 at *
  generalize slD = q3 at *
  generalize slE = q4 at *
  generalize slF = q5 at *
  obtain ⟨⟨e1, s1, n1, w1⟩, ⟨t1, u1, ws1, root1, r01, r11⟩, m1⟩ := q1
  obtain ⟨⟨e2, s2, n2, w2⟩, ⟨t2, u2, ws2, root2, r02, r12⟩, m2⟩ := q2
  obtain ⟨⟨e3, s3, n3, w3⟩, ⟨t3, u3, ws3, root3, r03, r13⟩, m3⟩ := q3
  obtain ⟨⟨e4, s4, n4, w4⟩, ⟨t4, u4, ws4, root4, r04, r14⟩, m4⟩ := q4
  obtain ⟨⟨e5, s5, n5, w5⟩, ⟨t5, u5, ws5, root5, r05, r15⟩, m5⟩ := q5
  dsimp only at z1 z2 z3 z4 z5 z6 z7 z8 z9 z10 z11
  subst z1 z2 z3 z4 z5 z6 z7 z8 z9 z10 z11
  have hl := newW_len 1 2
  have g0 : slW = ⟨1, 2, (newW 1 2).set 10 5, 0, [([], 0)], [([], 0)]⟩ := rfl
  rw [g0] at c1
  have e0 : (wds (newW 1 2)).set (10 : Int).toNat (.val (.int .u64 5)) = wds ((newW 1 2).set 10 5) := wds_set _ _ _
  unfold Wd.pv wR at c1
  dsimp only at c1
  rw [← e0] at c1
  have g1 := wds_cells (newW 1 2)
  have g2 : (0 : Int) ≤ 10 ∧ (10 : Int) < (wds (newW 1 2)).length := by rw [wds_len, hl]; omega
  have g3 : (10 : Int).toNat < (wds (newW 1 2)).length := by rw [wds_len, hl]; decide
  generalize newW 1 2 = nw at *
  clear e0 g0
  dsimp only [Wd.pv, wR] at c2 c3 c4 c5
  refine yS Tryz.func7 rfl Tryz.ntmps7 (Nat.le_of_ble_eq_true rfl) ?_
  repeat' (first | (refine zY.is ?_; first | refine zY.nil ?_ | (refine zY.at_ 1 rfl ?_; refine zY.rc (.m yG (.w yQ .e)) ?_) | (refine zY.at_ 23 rfl ?_; refine zY.rc (.v v0_4 (.v y9 (.v y9 (.v y9 (.m yG (.m yG (.w yQ (.w yQ (.v zC .e))))))))) ?_) | (refine zY.at_ 30 rfl ?_; refine zY.rc (.v v0_4 (.v y9 (.v y9 (.v y9 (.m yG (.m yG (.w yQ (.w yQ (.v zC .e))))))))) ?_) | (refine zY.at_ 37 rfl ?_; refine zY.rc (.v v0_4 (.v y9 (.v y9 (.v y9 (.m yG (.m yG (.w yQ (.w yQ (.v zC .e))))))))) ?_) | (refine zY.at_ 44 rfl ?_; refine zY.rc (.v v0_4 (.v y9 (.v y9 (.v y9 (.m yG (.m yG (.w yQ (.w yQ (.v zC .e))))))))) ?_) | (refine zY.at_ 51 rfl ?_; refine zY.rc (.v v0_4 (.v y9 (.v y9 (.v y9 (.m yG (.m yG (.w yQ (.w yQ (.v zC .e))))))))) ?_) | (refine zY.in_ [26] rfl ?_; refine zY.v rfl rfl (xJ (c1) rfl rfl rfl (by decide)) ?_) | (refine zY.in_ [33] rfl ?_; refine zY.v rfl rfl (xJ (c2) rfl rfl rfl (by decide)) ?_) | (refine zY.in_ [40] rfl ?_; refine zY.v rfl rfl (xJ (c3) rfl rfl rfl (by decide)) ?_) | (refine zY.in_ [47] rfl ?_; refine zY.v rfl rfl (xJ (c4) rfl rfl rfl (by decide)) ?_) | (refine zY.in_ [54] rfl ?_; refine zY.v rfl rfl (xJ (c5) rfl rfl rfl (by decide)) ?_) | (refine zY.in_ [17] rfl ?_; refine zY.m rfl rfl (w_callAg c0 rfl rfl rfl (by decide)) ?_)) | (refine zZ.is ?_; first | refine zZ.seq ?_ | (refine zZ.isR (id := 0) ?_; refine zZ.rc [] [1, 2, 3, 5, 6, 8, 9, 11, 12, 14, 15, 17, 21, 26, 33, 40, 47, 54] (r := (.v zC .e)) (h := ?_)) | (refine zZ.isR (id := 1) ?_; refine zZ.rc [0] [1, 2, 3, 5, 6, 8, 9, 11, 12, 14, 15, 17, 21, 26, 33, 40, 47, 54] (r := .e) (h := ?_)) | (refine zZ.isR (id := 2) ?_; refine zZ.rk [0, 1] [1, 2, 3, 5, 6, 8, 9, 11, 12, 14, 15, 17, 21, 26, 33, 40, 47, 54] ?_; refine zZ.draws ?_) | (refine zZ.isR (id := 3) ?_; refine zZ.sub ((sub_frzE 17 22 1 ((wds nw).set (Int.toNat 10) (.val (.int .u64 5))) rfl)) ?_; refine zZ.rc [0, 1] [1, 2, 3, 5, 6, 8, 9, 11, 12, 14, 15, 17, 21, 26, 33, 40, 47, 54] (r := (.v vN (.v wH .e))) (h := ?_)) | (refine zZ.isR (id := 4) ?_; refine zZ.rc [0, 2, 3, 4] [1, 2, 3, 5, 6, 8, 9, 11, 12, 14, 15, 17, 21, 26, 33, 40, 47, 54] (r := (.v vN (.v wH .e))) (h := ?_)) | (refine zZ.isR (id := 5) ?_; refine zZ.rc [0, 2, 3, 4, 6, 7] [1, 2, 3, 5, 6, 8, 9, 11, 12, 14, 15, 17, 21, 26, 33, 40, 47, 54] (r := (.v vN (.v wH .e))) (h := ?_)) | (refine zZ.isR (id := 6) ?_; refine zZ.rc [0, 2, 3, 4, 6, 7, 9, 10] [1, 2, 3, 5, 6, 8, 9, 11, 12, 14, 15, 17, 21, 26, 33, 40, 47, 54] (r := (.v vN (.v wH .e))) (h := ?_)) | (refine zZ.isR (id := 7) ?_; refine zZ.rc [0, 2, 3, 4, 6, 7, 9, 10, 12, 13] [1, 2, 3, 5, 6, 8, 9, 11, 12, 14, 15, 17, 21, 26, 33, 40, 47, 54] (r := (.v vN (.v wH .e))) (h := ?_)) | (refine zZ.isR (id := 8) ?_; refine zZ.rc [0, 3, 4, 6, 7, 9, 10, 12, 13, 15, 16] [1, 2, 3, 5, 6, 8, 9, 11, 12, 14, 15, 17, 21, 26, 33, 40, 47, 54] (r := (.v zJ (.v zJ (.gY zJ (.v xA (.v zJ (.gY zJ (.v xA (.v zJ (.gY zJ (.v xA (.v zJ (.gY zJ (.v xA (.v zJ (.gY zU (.gY yV (.v xA (.v zJ (.gY zU (.gY yV (.gY v41_4 (.v xA (.v zJ (.gY zU (.gY yV (.gY v41_4 (.v xA (.v zJ (.gY zU (.gY yV (.v xA (.v zJ (.gY zU (.gY yV (.gY v41_4 (.v xA (.v zJ (.gY zU (.gY yV (.gY qX (.v xA (.v zJ (.gY zU (.gY yV (.gY v41_4 (.v xA (.v zJ (.gY zU (.gY yV (.gY v41_4 (.v xA (.v zJ (.gY zU (.gY yV (.gY qX (.v xA (.v zJ (.gY zU (.gY yV (.gY v41_4 (.v xA (.v zJ (.gY zU (.gY yV (.v xA (.v zC .e))))))))))))))))))))))))))))))))))))))))))))))))))))))))))))))))))) (h := ?_)) | refine zZ.ret ?_) | refine zG.n ?_ | (refine Draws.is ?_; first | refine Draws.rc (.v zU (.v zU (.v v2_8 .e))) ?_ | refine Draws.rc (.v v7_38 .e) ?_ | (refine Draws.in_ [21] rfl ?_; refine Draws.v rfl rfl (zO (c6) rfl rfl rfl (by decide)) ?_) | refine Draws.done (by kernel_rfl) (by kernel_rfl) (by kernel_rfl) ?_) | (refine zS.is ?_; first | refine zS.nil ?_ | refine zS.rc (.w w24_1 .e) ?_))
  all_goals exact ⟨by first | exact .inl rfl | exact .inr rfl, _, Sub.refl _, .p rfl (.tmp rfl)⟩
end Go.Proofs.YtohlllohmoojiaaGreatDoor
/- The document's log: its accesses, as trees. -/
namespace Go.Proofs.YtohlllohmoojiaaGreatDoor
set_option maxRecDepth 100000
set_option maxHeartbeats 16000000
open Go Go.RowKit
set_option linter.unusedSimpArgs false
set_option linter.unusedVariables false
attribute [local irreducible] zY zZ Step zK Sub zS zH Fn
theorem cdo_ret (L : List yE) (i : Nat) (r : yE) (q : Ned) (hr : L[i]? = some r) (hL : L.length ≤ 1000000) (kind cell a b : Int) (data : PV) :
    FnE Tryz.prog 149 [.ptr 1000 0, .p (accV kind cell a b data)] [curB L i false q] (.ret (.p (qR r))) [curB L (i + 1) false q] := by
  have hi : i < L.length := (List.getElem?_eq_some_iff.1 hr).1
  have g1 : decide ((i : Int) < ((L.map qR).length : Int)) = true := decide_eq_true (by simp; omega)
  have g2 : IntKind.i64.wrap ((i : Int) + 1) = ((i + 1 : Nat) : Int) := by rw [wrap_i64 _ (by omega)]; omega
  have g3 : IntKind.i64.wrap (((i + 1 : Nat) : Int) - 1) = (i : Int) := by rw [wrap_i64 _ (by omega)]; omega
  have g4 := resV_cells L
  have g5 : (L.map qR)[i]? = some (qR r) := by rw [List.getElem?_map, hr]; rfl
  refine fn_ofE Tryz.func149 rfl Tryz.ntmps149 (Nat.le_of_ble_eq_true rfl) (by decide) ?_
  repeat' (first | (refine zY.nil ?_) | (refine zZ.is ?_; first | refine zZ.seq ?_ | (refine zZ.isR (id := 0) ?_; refine zZ.rc [0, 1] [3, 4, 1000] (r := (.m qE (.m yG .e))) (h := ?_)) | (refine zZ.isR (id := 1) ?_; refine zZ.rc [0, 3, 4] [3, 4, 1000] (r := (.v yL (.v xO (.v zU (.v yV .e))))) (h := ?_)) | (refine zZ.isR (id := 3) ?_; refine zZ.dc [0, 3, 4] [3, 4, 1000] (r := (.v yL (.v xO (.v zU (.v yV (.v yL (.v xO (.v zU (.v yV (.v v57_1 (.v v43_0 .e))))))))))) (q := .e) (h := ?_)) | (refine zZ.isR (id := 4) ?_; refine zZ.rc [0, 3, 4] [3, 4, 1000] (r := (.v yL (.v yL (.v xO (.v zU (.v yV (.v v30_0 (.v xO (.v zU (.w yQ .e)))))))))) (h := ?_)) | (refine zZ.isR (id := 5) ?_; refine zZ.dc [0, 3, 4] [3, 4, 1000] (r := (.v yL (.v xO (.v zU (.v yV (.v yL (.v xO (.v zU (.v yV (.v v31_0 (.v v7_18 (.v v2_7 .e)))))))))))) (q := (.w yQ .e)) (h := ?_)) | refine zZ.yM rfl bA ?_ | refine zZ.yI rfl bA ?_ | refine zZ.skip ?_ | refine zZ.ret ?_) | refine zG.r ?_ | (refine zS.nil ?_))
  all_goals exact ⟨(by exact .inl rfl), _, Sub.refl _, .p (r := .cell 4 125) rfl (.cellN rfl rfl (by rfl) (by rfl)), wD (by repeat' first | exact trivial | rfl | constructor)⟩
theorem cdo_end (L : List yE) (q : Ned) (_ : L.length ≤ 1000000) (kind cell a b : Int) (data : PV) :
    FnE Tryz.prog 149 [.ptr 1000 0, .p (accV kind cell a b data)] [curB L L.length false q] (.ret (.p zeroRes)) [curB L L.length true (qJ kind cell a b data)] := by
  have g1 : decide ((L.length : Int) < ((L.map qR).length : Int)) = false := decide_eq_false (by simp)
  refine fn_ofE Tryz.func149 rfl Tryz.ntmps149 (Nat.le_of_ble_eq_true rfl) (by decide) ?_
  repeat' (first | (refine zY.nil ?_) | (refine zZ.is ?_; first | refine zZ.seq ?_ | (refine zZ.isR (id := 0) ?_; refine zZ.rc [0, 1] [3, 4, 1000] (r := (.m qE (.m yG .e))) (h := ?_)) | (refine zZ.isR (id := 1) ?_; refine zZ.rc [0, 3, 4] [3, 4, 1000] (r := (.v yL (.v xO (.v zU (.v yV .e))))) (h := ?_)) | (refine zZ.isR (id := 3) ?_; refine zZ.dc [0, 3, 4] [3, 4, 1000] (r := (.v yL (.v xO (.v zU (.v yV (.v yL (.v xO (.v zU (.v yV (.v v57_1 (.v v43_0 .e))))))))))) (q := .e) (h := ?_)) | (refine zZ.isR (id := 6) ?_; refine zZ.rc [0, 3, 4] [3, 4, 1000] (r := (.v yL (.v xO (.v zU (.w yQ .e))))) (h := ?_)) | (refine zZ.isR (id := 7) ?_; refine zZ.rc [0, 3, 4] [3, 4, 1000] (r := (.v yL (.v vN (.v xO (.v zU (.w yQ .e)))))) (h := ?_)) | (refine zZ.isR (id := 8) ?_; refine zZ.rc [4] [3, 4, 1000] (r := (.v wH (.w yQ .e))) (h := ?_)) | refine zZ.yI rfl bA ?_ | refine zZ.skip ?_ | refine zZ.ret ?_) | (refine zS.nil ?_))
  all_goals exact ⟨(by exact .inl rfl), _, Sub.refl _, .p (r := .cell 4 125) rfl (.cellN rfl rfl (by rfl) (by rfl)), wD (by repeat' first | exact trivial | rfl | constructor)⟩
theorem cdo_stop (L : List yE) (i : Nat) (q : Ned) (kind cell a b : Int) (data : PV) :
    FnE Tryz.prog 149 [.ptr 1000 0, .p (accV kind cell a b data)] [curB L i true q] (.ret (.p zeroRes)) [curB L i true q] := by
  refine fn_ofE Tryz.func149 rfl Tryz.ntmps149 (Nat.le_of_ble_eq_true rfl) (by decide) ?_
  repeat' (first | (refine zY.nil ?_) | (refine zZ.is ?_; first | refine zZ.seq ?_ | (refine zZ.isR (id := 0) ?_; refine zZ.rc [0, 1] [3, 4, 1000] (r := (.m qE (.m yG .e))) (h := ?_)) | (refine zZ.isR (id := 1) ?_; refine zZ.rc [0, 3, 4] [3, 4, 1000] (r := (.v yL (.v xO (.v zU (.v yV .e))))) (h := ?_)) | (refine zZ.isR (id := 2) ?_; refine zZ.rc [0, 3, 4] [3, 4, 1000] (r := (.v wH (.w yQ .e))) (h := ?_)) | refine zZ.yM rfl bA ?_ | refine zZ.ret ?_) | refine zG.r ?_)
  all_goals exact ⟨(by exact .inl rfl), _, Sub.refl _, .p (r := .cell 4 125) rfl (.cellN rfl rfl (by rfl) (by rfl)), wD (by repeat' first | exact trivial | rfl | constructor)⟩
def zeroL : yE := ⟨0, xW, false⟩
theorem FnE.weakR {P : Program} {f : FuncId} {args : List AV} {B B' : List Blk} {x y : AV} (h : FnE P f args B (.ret x) B') (hw : ∀ M ρ w v, yD M ρ w x v → yD M ρ w y v) : FnE P f args B (.ret y) B' :=
  fun M hh ρ vs a b c d => (h M hh ρ vs a b c d).mono fun _ _ ⟨ρ', s, v, e, r⟩ => ⟨ρ', s, v, e, hw _ _ _ _ r⟩
theorem zero_rep (M : Nat → Nat → Prop) (ρ : Nat → Value) (w : World) (v : Value) (h : yD M ρ w (.p zeroRes) v) : yD M ρ w (.p (qR zeroL)) v := h
theorem cdo_c (L : List yE) (hL : wF L) (q : Ned) (hw : q.w = xW) : FnC 149 [.p (accV q.kind q.cell q.a q.b q.d)] [] (fun r => .p (qR r)) (fun _ => []) (fun r => U r.n) L (.ask q .ret) := by
  intro σ hi
  obtain ⟨i, stop, q0⟩ := σ
  obtain ⟨k, c, a, b, d, w⟩ := q
  obtain rfl : w = xW := hw
  have hi : i ≤ L.length := hi
  cases stop with
  | true => exact ((cdo_stop L i q0 k c a b d).weakR zero_rep).q ⟨zeroL, _, rfl, rfl, U.zero, hi, .stop rfl⟩
  | false =>
    cases e : L[i]? with
    | some r => exact (cdo_ret L i r q0 e hL.1 k c a b d).q ⟨r, ⟨i + 1, false, q0⟩, rfl, rfl, hL.at e, (List.getElem?_eq_some_iff.1 e).1, (fun h => by cases h), (fun _ y j h => by
        rw [wU] at h
        have e0 : y5 L i ⟨k, c, a, b, d, xW⟩ = .ret r (i + 1) := by unfold y5; rw [e]
        rw [e0] at h
        cases h
        exact ⟨rfl, rfl⟩), (fun _ p j h => by
        rw [wU] at h
        have e0 : y5 L i ⟨k, c, a, b, d, xW⟩ = .ret r (i + 1) := by unfold y5; rw [e]
        rw [e0] at h
        cases h)⟩
    | none =>
      obtain rfl : i = L.length := by have := List.getElem?_eq_none_iff.1 e; omega
      exact ((cdo_end L q0 hL.1 k c a b d).weakR zero_rep).q ⟨zeroL, ⟨L.length, true, qJ k c a b d⟩, rfl, rfl, U.zero, Nat.le_refl _, (fun h => by cases h), (fun _ y j h => by
        rw [wU] at h
        have e0 : y5 L L.length ⟨k, c, a, b, d, xW⟩ = .need ⟨k, c, a, b, d, xW⟩ L.length := by unfold y5; rw [e]
        rw [e0] at h
        cases h), (fun _ p j h => by
        rw [wU] at h
        have e0 : y5 L L.length ⟨k, c, a, b, d, xW⟩ = .need ⟨k, c, a, b, d, xW⟩ L.length := by unfold y5; rw [e]
        rw [e0] at h
        cases h
        rfl)⟩
theorem vF (L : List yE) (hL : wF L) (c : Int) : FnC 91 [.p (.val (.int .i64 c))] [] (fun x => .p (.val (.int .u64 x))) (fun _ => []) U L (xU c) := by
  refine q8 Tryz.func91 rfl Tryz.ntmps91 (Nat.le_of_ble_eq_true rfl) (by decide) fun σ hi => ?_
  repeat' (first | (refine zY.is ?_; first | refine zY.nil ?_ | (refine zY.at_ 5 rfl ?_; refine zY.rc (.m yG (.w yQ .e)) ?_) | (refine zY.in_ [9] rfl ?_; refine zY.ofT rfl (zH.cu (i := [1000]) (f := cdo_c L hL (qJ 0 c 0 0 xW) rfl) (r := fun x τ e g hj => ?_)))) | (refine zZ.is ?_; first | refine zZ.seq ?_ | (refine zZ.isR (id := 0) ?_; refine zZ.rc [0, 1] [5, 1000] (r := (.v zC .e)) (h := ?_)) | (refine zZ.isR (id := 1) ?_; refine zZ.rc [0, 1, 4] [5, 1000] (r := (.v yL (.v zJ (.v wH .e)))) (h := ?_)) | (refine zZ.isR (id := 2) ?_; refine zZ.rc [4, 5] [5, 1000] (r := (.v zU (.v yV (.v zC .e)))) (h := ?_)) | refine zZ.ret ?_))
  all_goals exact .ret (by exact .inl rfl) (.one rfl rfl) (by repeat' first | exact trivial | rfl | constructor) (by assumption) (by assumption) (Rel.map (fun r : yE => r.n) e)
theorem cstore_c (L : List yE) (hL : wF L) (c v : Int) : FnC 95 [.p (.val (.int .i64 c)), .p (.val (.int .u64 v))] [] (fun _ => .any) (fun _ => []) yes L (storeP c v) := by
  refine q8 Tryz.func95 rfl Tryz.ntmps95 (Nat.le_of_ble_eq_true rfl) (by decide) fun σ hi => ?_
  repeat' (first | (refine zY.is ?_; first | refine zY.nil ?_ | (refine zY.in_ [10] rfl ?_; refine zY.ofT rfl (zH.cu (i := [1000]) (f := cdo_c L hL (qJ 1 c v 0 xW) rfl) (r := fun x τ e g hj => ?_)))) | (refine zZ.is ?_; (refine zZ.isR (id := 0) ?_; refine zZ.rc [0, 1, 2] [1000] (r := (.v yL (.v zJ (.v zJ (.v wH .e))))) (h := ?_))))
  all_goals exact .ret (by exact .inr rfl) (.none rfl) (by repeat' first | exact trivial | rfl | constructor) trivial (by assumption) (Rel.map (fun _ : yE => ()) e)
theorem ccas_c (L : List yE) (hL : wF L) (c a b : Int) : FnC 97 [.p (.val (.int .i64 c)), .p (.val (.int .u64 a)), .p (.val (.int .u64 b))] [] (fun x => .p (.val (.bool x))) (fun _ => []) yes L (casP c a b) := by
  refine q8 Tryz.func97 rfl Tryz.ntmps97 (Nat.le_of_ble_eq_true rfl) (by decide) fun σ hi => ?_
  repeat' (first | (refine zY.is ?_; first | refine zY.nil ?_ | (refine zY.at_ 9 rfl ?_; refine zY.rc (.m yG (.w yQ .e)) ?_) | (refine zY.in_ [15] rfl ?_; refine zY.ofT rfl (zH.cu (i := [1000]) (f := cdo_c L hL (qJ 2 c a b xW) rfl) (r := fun x τ e g hj => ?_)))) | (refine zZ.is ?_; first | refine zZ.seq ?_ | (refine zZ.isR (id := 0) ?_; refine zZ.rc [0, 1, 2, 3] [9, 1000] (r := (.v zC .e)) (h := ?_)) | (refine zZ.isR (id := 1) ?_; refine zZ.rc [0, 1, 2, 3, 8] [9, 1000] (r := (.v yL (.v zJ (.v zJ (.v zJ (.v wH .e)))))) (h := ?_)) | (refine zZ.isR (id := 2) ?_; refine zZ.rc [8, 9] [9, 1000] (r := (.v zU (.v yV (.v vZ (.v zC .e))))) (h := ?_)) | refine zZ.ret ?_))
  all_goals exact .ret (by exact .inl rfl) (.one rfl rfl) (by repeat' first | exact trivial | rfl | constructor) trivial (by assumption) (Rel.map (fun r : yE => decide (r.n = 1)) e)
end Go.Proofs.YtohlllohmoojiaaGreatDoor
/- The document's functions of chapters 13 and 14, over a log, as trees: contracts. -/
namespace Go.Proofs.YtohlllohmoojiaaGreatDoor
set_option maxRecDepth 100000
set_option maxHeartbeats 16000000
open Go Go.RowKit
set_option linter.unusedSimpArgs false
set_option linter.unusedVariables false
attribute [local irreducible] zY zZ Step zK Sub zS zH Fn zG yZ
theorem fieldC {t r : Int} (h : Rc t r) (f : Int) (hf : 0 ≤ f ∧ f ≤ 7) : Fn Tryz.prog 24 [.val (.int .i64 t), .val (.int .i64 r), .val (.int .i64 f)] (.p (.val (.int .i64 (yC t r f)))) := fieldRef_fn t r f h.1 h.2 (by unfold Small; omega)
def setF (L : List yE) (t r b : Int) (σ : CSt) : AS := { t := [(0, .ptr 1000 0), (1, .p (.val (.int .i64 t))), (2, .p (.val (.int .i64 r))), (3, .p (.val (.int .i64 b)))], s := [(1000, curS L σ)] }
def entC (k s y u v x : Int) : Blk := .box 158 [.p (.val (.int .i64 k)), .p (.val (.int .u64 s)), .p (.val (.int .u64 y)), .p (.val (.int .u64 u)), .p (.val (.int .u64 v)), .p (.val (.int .u64 x))]
theorem setRef_c (L : List yE) (hL : wF L) {t r b : Int} (hR : Rc t r) (hb : b = 1 ∨ b = 2) :
    FnC 98 [.p (.val (.int .i64 t)), .p (.val (.int .i64 r)), .p (.val (.int .i64 b))] [] (fun _ => .any) (fun _ => []) yes L (setP (ov1 b) (yC t r 2) b) := by
  have cf := fieldC hR 2 (by decide)
  refine q8 Tryz.func98 rfl Tryz.ntmps98 (Nat.le_of_ble_eq_true rfl) (by decide) fun σ0 hi0 => ?_
  repeat' ((refine zZ.is ?_; refine zZ.block ?_))
  have hm0 := left_many hL (σ := σ0)
  refine zZ.loop (fun q : Nat × CSt => setF L t r b q.2) (fun q => At L (setP (ov1 b) (yC t r 2) b) σ0 (.loop (y8 (ov1 b) (yC t r 2) b) q.1 ()) q.2 ∧ wI L q.2 ≤ q.1) (fun q => wI L q.2) (many, σ0) ?h0 ⟨.refl hi0, hm0⟩ ?rd
  case h0 =>
    refine yJ (is := [0, 1, 2, 3]) (js := [1000]) ?_ ?_
    repeat' first | exact zX.nil | apply zX.p rfl | apply zX.ptr rfl | apply zX.own rfl | apply zX.clo rfl | apply zX.ifp rfl | apply zX.pt rfl | apply zX.tup rfl | apply zX.skip
    repeat' first | exact zW.nil | apply zW.boxP rfl rfl | apply zW.y7 rfl | (apply zW.at0; exact zI rfl (H.nk _).1 (by repeat' fail)) | (apply zW.at1; exact zI rfl (H.nk _).2.1 (by repeat' fail)) | (apply zW.at2; exact zI rfl (H.nk _).2.2 (by repeat' fail)) | apply zW.some rfl | apply zW.skip
  case rd =>
    rintro ⟨m, ω⟩ ⟨ha, hm⟩
    dsimp only at ha hm ⊢
    unfold setF
    have hti := ha.i
    cases hs' : ω.stop
    case true =>
      have hst : (!ω.stop) = false := by rw [hs']; rfl
      repeat' (first | (refine zY.nil ?_) | (refine zZ.is ?_; first | refine zZ.seq ?_ | (refine zZ.isR (id := 0) ?_; refine zZ.rc [0, 1, 2, 3, 8, 9, 10, 15, 24, 34] [1000] (r := (.v yL (.v xO (.v zU (.v yV (.v v52_0 .e)))))) (h := ?_)) | refine zZ.yI rfl bA ?_ | refine zZ.exit ?_) | refine zG.n ?_ | refine yZ.eY ?_ | refine zG.e ?_)
      all_goals exact .ret (x := ()) (by exact .inr rfl) (.none rfl) (by repeat' first | exact trivial | rfl | constructor) trivial ha.i (ha.halt hs' _)
    case false =>
      have hst : (!ω.stop) = true := by rw [hs']; rfl
      obtain ⟨m, rfl⟩ := q9 hm hs'
      repeat' (first | (refine zY.is ?_; first | refine zY.nil ?_ | (refine zY.at_ 10 rfl ?_; refine zY.rc (.v zC .e) ?_) | (refine zY.at_ 29 rfl ?_; refine zY.rc (.v zJ (.v zJ (.v zJ .e))) ?_) | (refine zY.at_ 8 rfl ?_; refine zY.rc (.v zC .e) ?_) | (refine zY.at_ 9 rfl ?_; refine zY.rc (.v zC .e) ?_) | (refine zY.in_ [19, 28] rfl ?_; refine zY.v rfl rfl (zO (cf) rfl rfl rfl (by decide)) ?_) | (refine zY.in_ [23] rfl ?_; refine zY.v rfl rfl (zO (hasRef_fn _ b (U.lo (by assumption)) (U.hi (by assumption))) rfl rfl rfl (by decide)) ?_) | (refine zY.in_ [32] rfl ?_; refine zY.v rfl rfl (zO (with_fn _ b (U.lo (by assumption)) (U.hi (by assumption)) hb (by assumption)) rfl rfl rfl (by decide)) ?_) | (refine zY.in_ [20] rfl ?_; refine zY.ofT rfl (zH.cu (i := [1000]) (f := vF L hL _) (r := fun x τ e g hj => ?_))) | (refine zY.in_ [33] rfl ?_; refine zY.ofT rfl (zH.cu (i := [1000]) (f := ccas_c L hL _ _ _) (r := fun x τ e g hj => ?_)))) | (refine zZ.is ?_; first | refine zZ.seq ?_ | (refine zZ.isR (id := 0) ?_; refine zZ.rc [0, 1, 2, 3, 8, 9, 10, 15, 24, 34] [1000] (r := (.v yL (.v xO (.v zU (.v yV (.v v52_0 .e)))))) (h := ?_)) | (refine zZ.isR (id := 1) ?_; refine zZ.rc [0, 1, 2, 3, 8, 9, 10, 15, 24, 34] [1000] (r := (.v yL (.v zJ (.v zJ .e)))) (h := ?_)) | (refine zZ.isR (id := 2) ?_; refine zZ.rc [0, 1, 2, 3, 8, 9, 10, 15, 24, 34] [1000] (r := (.v zJ (.v zJ .e))) (h := ?_)) | (refine zZ.isR (id := 3) ?_; refine zZ.rc [0, 1, 2, 3, 8, 9, 10, 15, 24, 34] [1000] (r := (.v zJ .e)) (h := ?_)) | (refine zZ.isR (id := 4) ?_; refine zZ.rc [0, 1, 2, 3, 8, 9, 10, 15, 24, 34] [1000] (r := (.v yL (.v zJ (.v zJ .e)))) (h := ?_)) | (refine zZ.isR (id := 5) ?_; refine zZ.rc [0, 1, 2, 3, 8, 9, 10, 15, 24, 34] [1000] (r := (.v zJ .e)) (h := ?_)) | refine zZ.yM rfl bA ?_ | refine zZ.cond rfl (fun h => ?_) (fun h => ?_) | refine zZ.skip ?_ | refine zZ.block ?_ | refine zZ.ret ?_) | refine zG.n ?_ | refine zG.r ?_ | refine yZ.n ?_ | refine yZ.r ?_)
      all_goals first
        | (refine .ret (x := ()) (by exact .inl rfl) (.none rfl) (by repeat' first | exact trivial | rfl | constructor) trivial hj ?_; refine (ha.round (r := .inr ()) ?_ hj).ret; unfold y8 ov1; repeat' (first | exact Rel.ret _ | refine Rel.bind (by assumption) ?_ | refine Rel.yes (by assumption) ?_ | refine Rel.no (by assumption) ?_ | (simp only [cond_true, cond_false, *]; exact Rel.ret _)))
        | skip
      have hr : Rel L (y8 (ov1 b) (yC t r 2) b ()) ω (.inl ()) τ := by
        unfold y8 ov1
        repeat' (first | refine Rel.bind (by assumption) ?_ | refine Rel.no (by assumption) ?_ | (simp only [cond_true, cond_false, *]; exact Rel.ret _))
      have hl := hr.less hL (fine_round hb (fun _ h => h) ()) ⟨_, _, rfl⟩ hti hs'
      refine ⟨(m, τ), ?_, ⟨ha.round hr hj, by dsimp only at *; omega⟩, hl⟩
      refine yJ (is := [0, 1, 2, 3]) (js := [1000]) ?_ ?_
      repeat' first | exact zX.nil | apply zX.p rfl | apply zX.ptr rfl | apply zX.own rfl | apply zX.clo rfl | apply zX.ifp rfl | apply zX.pt rfl | apply zX.tup rfl | apply zX.skip
      repeat' first | exact zW.nil | apply zW.boxP rfl rfl | apply zW.y7 rfl | (apply zW.at0; exact zI rfl (H.nk _).1 (by repeat' fail)) | (apply zW.at1; exact zI rfl (H.nk _).2.1 (by repeat' fail)) | (apply zW.at2; exact zI rfl (H.nk _).2.2 (by repeat' fail)) | apply zW.some rfl | apply zW.skip
/-! ### What a flag hasn't is made durable -/
def restF (L : List yE) (t r b k s y u v x : Int) (σ : CSt) : AS :=
  { t := [(0, .ptr 1000 0), (1, .p (.val (.int .i64 t))), (2, .p (.val (.int .i64 r))), (3, .p (.val (.int .i64 b))), (12, .ptr 12 0)], s := [(1000, curS L σ), (12, entC k s y u v x)] }
theorem wrP_eq (t r b k s y u v x : Int) : wrP t r b k s y u v x = (Pr.ask (qJ 5 0 0 0 (.sl (byts (bytesE k s y u v x)))) .ret).bind fun a => bif a.fail then .ret false else (Pr.ask (qJ 6 0 0 0 xW) .ret).bind fun c => bif c.fail then .ret false else (setP (over2 s b) (yC t r 2) b).bind fun _ => .ret true := by
  show Pr.ask _ _ = Pr.ask _ _
  congr 1
  funext a
  cases ha : a.fail
  · show Pr.bind (bif a.fail then .ret false else .ask _ _) _ = bif a.fail then _ else _
    rw [ha]
    show Pr.ask _ _ = Pr.ask _ _
    congr 1
    funext c
    cases hc : c.fail
    · show Pr.bind (bif c.fail then .ret false else .ret true) _ = bif c.fail then _ else _
      rw [hc]
      rfl
    · show Pr.bind (bif c.fail then .ret false else .ret true) _ = bif c.fail then _ else _
      rw [hc]
      rfl
  · show Pr.bind (bif a.fail then .ret false else .ask _ _) _ = bif a.fail then _ else _
    rw [ha]
    rfl
theorem restRef1_c (L : List yE) (hL : wF L) {t r f : Int} (hR : Rc t r) (hf : U f) :
    FnC 164 [.p (.val (.int .i64 t)), .p (.val (.int .i64 r)), .p (.val (.int .i64 1)), .p (.val (.int .u64 f))] [] (fun x => .p (.val (.bool x))) (fun _ => []) yes L (vD t r 1 f) := by
  have cf := fun f hf => fieldC hR f hf
  have ch := hasRef_fn f 1 hf.1 hf.2
  have cs := wstampRef_fn f hf.1 hf.2
  have hs : U (f / 4) := hf.quo
  have z : U 0 := U.zero
  have hb : (1 : Int) = 1 ∨ (1 : Int) = 2 := by decide
  refine q8 Tryz.func164 rfl Tryz.ntmps164 (Nat.le_of_ble_eq_true rfl) (by decide) fun σ0 hi0 => ?_
  cases hh : hasF f 1 <;> rw [hh] at ch
  case true =>
    repeat' (first | (refine zY.is ?_; first | refine zY.nil ?_ | (refine zY.at_ 11 rfl ?_; refine zY.rc (.v zC .e) ?_) | (refine zY.in_ [20] rfl ?_; refine zY.v rfl rfl (zO (ch) rfl rfl rfl (by decide)) ?_)) | (refine zZ.is ?_; first | refine zZ.seq ?_ | (refine zZ.isR (id := 0) ?_; refine zZ.rc [0, 1, 2, 3, 4] [12, 13, 14, 1000] (r := (.v zC .e)) (h := ?_)) | (refine zZ.isR (id := 1) ?_; refine zZ.rc [0, 1, 2, 3, 4, 10] [12, 13, 14, 1000] (r := (.v zJ (.v zJ .e))) (h := ?_)) | (refine zZ.isR (id := 2) ?_; refine zZ.rc [0, 1, 2, 3, 4, 10, 11] [12, 13, 14, 1000] (r := (.v zJ .e)) (h := ?_)) | (refine zZ.isR (id := 3) ?_; refine zZ.rc [0, 1, 2, 3, 4, 10] [12, 13, 14, 1000] (r := (.v zC .e)) (h := ?_)) | refine zZ.yM rfl bA ?_ | refine zZ.ret ?_) | refine zG.n ?_ | refine zG.r ?_)
    all_goals exact .ret (x := true) (.inl rfl) (.one rfl rfl) (by repeat' first | exact trivial | rfl | constructor) trivial (by assumption) (by unfold vD; rw [hh]; exact Rel.ret _)
  case false =>
    repeat' (first | (refine zY.is ?_; first | refine zY.nil ?_ | (refine zY.at_ 11 rfl ?_; refine zY.rc (.v zC .e) ?_) | (refine zY.at_ 13 rfl ?_; refine zY.rc (.m yG (.w yQ .e)) ?_) | (refine zY.at_ 14 rfl ?_; refine zY.rc (.m yG (.w yQ .e)) ?_) | (refine zY.at_ 24 rfl ?_; refine zY.rc (.v wH (.m yG (.w yQ .e))) ?_) | (refine zY.at_ 33 rfl ?_; refine zY.rc (.v zU (.w yQ .e)) ?_) | (refine zY.at_ 39 rfl ?_; refine zY.rc (.v zU (.w yQ .e)) ?_) | (refine zY.at_ 45 rfl ?_; refine zY.rc (.v zU (.w yQ .e)) ?_) | (refine zY.at_ 51 rfl ?_; refine zY.rc (.v zU (.w yQ .e)) ?_) | (refine zY.at_ 55 rfl ?_; refine zY.rc (.v wH .e) ?_) | (refine zY.in_ [20] rfl ?_; refine zY.v rfl rfl (zO (ch) rfl rfl rfl (by decide)) ?_) | (refine zY.in_ [23] rfl ?_; refine zY.v rfl rfl (zO (cs) rfl rfl rfl (by decide)) ?_) | (refine zY.in_ [54] rfl ?_; refine zY.v rfl rfl (zO (bytesRef_fn _ _ _ _ _ _ (by assumption) (by assumption) (by assumption) (by assumption) (by assumption)) rfl rfl rfl (by decide)) ?_) | (refine zY.in_ [31, 37, 43, 49] rfl ?_; refine zY.v rfl rfl (zO (cf _ (by decide)) rfl rfl rfl (by decide)) ?_) | (refine zY.in_ [32, 38, 44, 50] rfl ?_; refine zY.ofT rfl (zH.cu (i := [1000]) (f := vF L hL _) (r := fun x τ e g hj => ?_))) | (refine zY.in_ [56] rfl ?_; refine zY.ofT rfl (zH.cu (i := [1000]) (f := cdo_c L hL (qJ 5 0 0 0 (.sl (byts _))) rfl) (r := fun x τ e g hj => ?_))) | (refine zY.in_ [61] rfl ?_; refine zY.ofT rfl (zH.cu (i := [1000]) (f := cdo_c L hL (qJ 6 0 0 0 xW) rfl) (r := fun x τ e g hj => ?_)))) | (refine zZ.is ?_; first | refine zZ.seq ?_ | (refine zZ.isR (id := 0) ?_; refine zZ.rc [0, 1, 2, 3, 4] [12, 13, 14, 1000] (r := (.v zC .e)) (h := ?_)) | (refine zZ.isR (id := 1) ?_; refine zZ.rc [0, 1, 2, 3, 4, 10] [12, 13, 14, 1000] (r := (.v zJ (.v zJ .e))) (h := ?_)) | (refine zZ.isR (id := 2) ?_; refine zZ.rc [0, 1, 2, 3, 4, 10, 11] [12, 13, 14, 1000] (r := (.v zJ .e)) (h := ?_)) | (refine zZ.isR (id := 4) ?_; refine zZ.rc [0, 1, 2, 3, 4, 10] [12, 13, 14, 1000] (r := (.v zJ .e)) (h := ?_)) | (refine zZ.isR (id := 5) ?_; refine zZ.rc [0, 1, 2, 3, 10, 12] [12, 13, 14, 1000] (r := (.v zJ (.v v41_4 .e))) (h := ?_)) | (refine zZ.isR (id := 6) ?_; refine zZ.rc [0, 1, 2, 3, 10, 12] [12, 13, 14, 1000] (r := (.v zU (.w yQ .e))) (h := ?_)) | (refine zZ.isR (id := 7) ?_; refine zZ.rc [0, 1, 2, 3, 10, 12] [12, 13, 14, 1000] (r := (.v yL (.v zJ (.v zJ .e)))) (h := ?_)) | (refine zZ.isR (id := 8) ?_; refine zZ.rc [0, 1, 2, 3, 10, 12] [12, 13, 14, 1000] (r := (.v yL (.v zJ (.v zJ .e)))) (h := ?_)) | (refine zZ.isR (id := 9) ?_; refine zZ.rc [0, 1, 2, 3, 10, 12] [12, 13, 14, 1000] (r := (.v yL (.v zJ (.v zJ .e)))) (h := ?_)) | (refine zZ.isR (id := 10) ?_; refine zZ.rc [0, 1, 2, 3, 10, 12] [12, 13, 14, 1000] (r := (.v yL (.v zJ (.v zJ .e)))) (h := ?_)) | (refine zZ.isR (id := 11) ?_; refine zZ.rc [0, 1, 2, 3, 10, 12] [12, 13, 14, 1000] (r := (.v yL (.v vN .e))) (h := ?_)) | (refine zZ.isR (id := 12) ?_; refine zZ.rc [0, 1, 2, 3, 10, 12, 13] [12, 13, 14, 1000] (r := (.v zU (.v yV .e))) (h := ?_)) | (refine zZ.isR (id := 13) ?_; refine zZ.rc [0, 1, 2, 3, 10, 12] [12, 13, 14, 1000] (r := (.v zC .e)) (h := ?_)) | (refine zZ.isR (id := 14) ?_; refine zZ.rc [0, 1, 2, 3, 10, 12] [12, 13, 14, 1000] (r := (.v yL (.v wH .e))) (h := ?_)) | (refine zZ.isR (id := 15) ?_; refine zZ.rc [0, 1, 2, 3, 10, 12, 14] [12, 13, 14, 1000] (r := (.v zU (.v yV .e))) (h := ?_)) | (refine zZ.isR (id := 16) ?_; refine zZ.rc [0, 1, 2, 3, 10, 12] [12, 13, 14, 1000] (r := (.v zC .e)) (h := ?_)) | refine zZ.yM rfl bA ?_ | refine zZ.yI rfl bA ?_ | refine zZ.cond rfl (fun h => ?_) (fun h => ?_) | refine zZ.skip ?_ | refine zZ.block ?_ | refine zZ.ret ?_) | refine zG.n ?_ | refine zG.r ?_)
    all_goals first
      | (refine .ret (x := false) (.inl rfl) (.one rfl rfl) (by repeat' first | exact trivial | rfl | constructor) trivial (by assumption) ?_; have hP : vD t r 1 f = (xU (yC t r 1)).bind fun n1 => (xU (yC t r 4)).bind fun n2 => (xU (yC t r 5)).bind fun n3 => (xU (yC t r 6)).bind fun n4 => wrP t r 1 1 (f / 4) n1 n2 n3 n4 := (by unfold vD; rw [hh]; rfl); simp only [hP, wrP_eq]; repeat' (first | exact Rel.ret _ | refine Rel.bind (by assumption) ?_ | refine Rel.yes (by assumption) ?_ | refine Rel.no (by assumption) ?_))
      | skip
    rename_i n1 τ1 e1 g1 hj1 n2 τ2 e2 g2 hj2 n3 τ3 e3 g3 hj3 n4 τ4 e4 g4 hj4 a τ5 e5 g5 hj5 h5
    have hP : vD t r 1 f = (xU (yC t r 1)).bind fun n1 => (xU (yC t r 4)).bind fun n2 => (xU (yC t r 5)).bind fun n3 => (xU (yC t r 6)).bind fun n4 => wrP t r 1 1 (f / 4) n1 n2 n3 n4 := by unfold vD; rw [hh]; rfl
    have h0 : At L (vD t r 1 f) σ0 ((Pr.loop (y8 (over2 (f / 4) 1) (yC t r 2) 1) many ()).bind fun _ => .ret true) τ := by
      rw [hP]
      refine ⟨hj, fun y υ hy => ?_⟩
      refine Rel.bind (by assumption) (Rel.bind (by assumption) (Rel.bind (by assumption) (Rel.bind (by assumption) ?_)))
      rw [wrP_eq]
      exact Rel.bind (by assumption) (Rel.no (by assumption) (Rel.bind (by assumption) (Rel.no (by assumption) hy)))
    have hm0 := left_many hL (σ := τ)
    refine zZ.loop (fun q : Nat × CSt => restF L t r 1 1 (f / 4) n1 n2 n3 n4 q.2) (fun q => At L (vD t r 1 f) σ0 ((Pr.loop (y8 (over2 (f / 4) 1) (yC t r 2) 1) q.1 ()).bind fun _ => .ret true) q.2 ∧ wI L q.2 ≤ q.1) (fun q => wI L q.2) (many, τ) ?h0 ⟨h0, hm0⟩ ?rd
    case h0 =>
      refine yJ (is := [0, 1, 2, 3, 12]) (js := [1000, 12]) ?_ ?_
      repeat' first | exact zX.nil | apply zX.p rfl | apply zX.ptr rfl | apply zX.own rfl | apply zX.clo rfl | apply zX.ifp rfl | apply zX.pt rfl | apply zX.tup rfl | apply zX.skip
      repeat' first | exact zW.nil | apply zW.boxP rfl rfl | apply zW.y7 rfl | (apply zW.at0; exact zI rfl (H.nk _).1 (by repeat' fail)) | (apply zW.at1; exact zI rfl (H.nk _).2.1 (by repeat' fail)) | (apply zW.at2; exact zI rfl (H.nk _).2.2 (by repeat' fail)) | apply zW.some rfl | apply zW.skip
    case rd =>
      rintro ⟨m, ω⟩ ⟨ha, hm⟩
      dsimp only at ha hm ⊢
      unfold restF
      clear e h g
      have hti := ha.i
      cases hs' : ω.stop
      case true =>
        have hst : (!ω.stop) = false := by rw [hs']; rfl
        repeat' (first | (refine zY.nil ?_) | (refine zZ.is ?_; first | refine zZ.seq ?_ | (refine zZ.isR (id := 17) ?_; refine zZ.rc [0, 1, 2, 3, 10, 12, 15, 16, 17, 68, 84, 94] [12, 13, 14, 1000] (r := (.v yL (.v xO (.v zU (.v yV (.v v52_0 .e)))))) (h := ?_)) | (refine zZ.isR (id := 25) ?_; refine zZ.rc [10] [12, 13, 14, 1000] (r := (.v zC .e)) (h := ?_)) | refine zZ.yI rfl bA ?_ | refine zZ.exit ?_ | refine zZ.ret ?_) | refine zG.n ?_ | refine yZ.eY ?_ | refine zG.e ?_)
        all_goals exact .ret (x := true) (.inl rfl) (.one rfl rfl) (by repeat' first | exact trivial | rfl | constructor) trivial ha.i (ha.halt hs' _)
      case false =>
        have hst : (!ω.stop) = true := by rw [hs']; rfl
        obtain ⟨m, rfl⟩ := q9 hm hs'
        repeat' (first | (refine zY.is ?_; first | refine zY.nil ?_ | (refine zY.at_ 15 rfl ?_; refine zY.rc (.v zC .e) ?_) | (refine zY.at_ 16 rfl ?_; refine zY.rc (.v zC .e) ?_) | (refine zY.at_ 17 rfl ?_; refine zY.rc (.v zC .e) ?_) | (refine zY.at_ 89 rfl ?_; refine zY.rc (.v zJ (.v zJ (.v zJ .e))) ?_) | (refine zY.in_ [72, 88] rfl ?_; refine zY.v rfl rfl (zO (cf _ (by decide)) rfl rfl rfl (by decide)) ?_) | (refine zY.in_ [76] rfl ?_; refine zY.v rfl rfl (zO (hasRef_fn _ 1 (U.lo (by assumption)) (U.hi (by assumption))) rfl rfl rfl (by decide)) ?_) | (refine zY.in_ [92] rfl ?_; refine zY.v rfl rfl (zO (with_fn _ 1 (U.lo (by assumption)) (U.hi (by assumption)) hb (by assumption)) rfl rfl rfl (by decide)) ?_) | (refine zY.in_ [73] rfl ?_; refine zY.ofT rfl (zH.cu (i := [1000]) (f := vF L hL _) (r := fun x τ e g hj => ?_))) | (refine zY.in_ [93] rfl ?_; refine zY.ofT rfl (zH.cu (i := [1000]) (f := ccas_c L hL _ _ _) (r := fun x τ e g hj => ?_)))) | (refine zZ.is ?_; first | refine zZ.seq ?_ | (refine zZ.isR (id := 17) ?_; refine zZ.rc [0, 1, 2, 3, 10, 12, 15, 16, 17, 68, 84, 94] [12, 13, 14, 1000] (r := (.v yL (.v xO (.v zU (.v yV (.v v52_0 .e)))))) (h := ?_)) | (refine zZ.isR (id := 18) ?_; refine zZ.rc [0, 1, 2, 3, 10, 12, 15, 16, 17, 68, 84, 94] [12, 13, 14, 1000] (r := (.v yL (.v zJ (.v zJ .e)))) (h := ?_)) | (refine zZ.isR (id := 19) ?_; refine zZ.rc [0, 1, 2, 3, 10, 12, 15, 16, 17, 68, 84, 94] [12, 13, 14, 1000] (r := (.v zJ (.v zJ .e))) (h := ?_)) | (refine zZ.isR (id := 20) ?_; refine zZ.rk [0, 1, 2, 3, 10, 12, 15, 16, 17, 68, 84, 94] [12, 13, 14, 1000] ?_; refine zZ.draws ?_) | (refine zZ.isR (id := 21) ?_; refine zZ.rc [0, 1, 2, 3, 10, 12, 15, 16, 17, 68, 84, 94] [12, 13, 14, 1000] (r := (.v zC .e)) (h := ?_)) | (refine zZ.isR (id := 22) ?_; refine zZ.rc [0, 1, 2, 3, 10, 12, 15, 16, 17, 68, 84, 94] [12, 13, 14, 1000] (r := (.v yL (.v zJ (.v zJ .e)))) (h := ?_)) | (refine zZ.isR (id := 23) ?_; refine zZ.rc [0, 1, 2, 3, 10, 12, 15, 16, 17, 68, 84, 94] [12, 13, 14, 1000] (r := (.v zJ .e)) (h := ?_)) | (refine zZ.isR (id := 24) ?_; refine zZ.rc [0, 1, 2, 3, 10, 12, 15, 16, 17, 68, 84, 94] [12, 13, 14, 1000] (r := (.v zC .e)) (h := ?_)) | refine zZ.yM rfl bA ?_ | refine zZ.cond rfl (fun h => ?_) (fun h => ?_) | refine zZ.skip ?_ | refine zZ.block ?_ | refine zZ.ret ?_) | refine zG.n ?_ | refine zG.r ?_ | refine yZ.n ?_ | refine yZ.r ?_ | (refine Draws.is ?_; first | refine Draws.rc (.v zJ (.v zJ .e)) ?_ | refine Draws.rc (.gY zJ .e) ?_ | refine Draws.rc (.gY zU (.gY yV (.gY v42_8 (.v xD .e)))) ?_ | refine Draws.rc (.gF (.gF (.gF (.gF (.gF (.v xA .e)))))) ?_ | (refine Draws.in_ [80] rfl ?_; refine Draws.gY rfl rfl (by decide) rfl bA rfl (zO (wstampRef_fn _ (U.lo (by assumption)) (U.hi (by assumption))) rfl rfl rfl (by decide)) ?_) | (fail_if_success refine Draws.known rfl rfl rfl (by exact .inl (by assumption)) ?_); refine Draws.split rfl rfl rfl (fun h => ?_) (fun h => ?_) | refine Draws.done (by kernel_rfl) (by kernel_rfl) (by kernel_rfl) ?_) | (refine zS.nil ?_))
        all_goals first
          | (refine .ret (x := true) (.inl rfl) (.one rfl rfl) (by repeat' first | exact trivial | rfl | constructor) trivial hj ?_; refine (ha.vP (r := .inr ()) ?_ hj).ret; unfold y8; refine Rel.bind (by assumption) ?_; first | (refine Rel.yes (by simp_all [over2]) ?_; exact Rel.ret _) | (refine Rel.no (by simp_all [over2]) ?_; refine Rel.bind (by assumption) ?_; simp only [*]; exact Rel.ret _))
          | skip
        rename_i e1 _ _ _ _
        have hr : Rel L (y8 (over2 (f / 4) 1) (yC t r 2) 1 ()) ω (.inl ()) τ := by
          unfold y8
          refine Rel.bind (by assumption) ?_
          refine Rel.no (by simp_all [over2]) ?_
          refine Rel.bind (by assumption) ?_
          simp only [*]
          exact Rel.ret _
        have hl := hr.less hL (fine_round hb (fun _ h => over2_has h) ()) ⟨_, _, rfl⟩ hti hs'
        refine ⟨(m, τ), ?_, ⟨ha.vP hr hj, by dsimp only at *; omega⟩, hl⟩
        refine yJ (is := [0, 1, 2, 3, 12]) (js := [1000, 12]) ?_ ?_
        repeat' first | exact zX.nil | apply zX.p rfl | apply zX.ptr rfl | apply zX.own rfl | apply zX.clo rfl | apply zX.ifp rfl | apply zX.pt rfl | apply zX.tup rfl | apply zX.skip
        repeat' first | exact zW.nil | apply zW.boxP rfl rfl | apply zW.y7 rfl | (apply zW.at0; exact zI rfl (H.nk _).1 (by repeat' fail)) | (apply zW.at1; exact zI rfl (H.nk _).2.1 (by repeat' fail)) | (apply zW.at2; exact zI rfl (H.nk _).2.2 (by repeat' fail)) | apply zW.some rfl | apply zW.skip
theorem restRef2_c (L : List yE) (hL : wF L) {t r f : Int} (hR : Rc t r) (hf : U f) :
    FnC 164 [.p (.val (.int .i64 t)), .p (.val (.int .i64 r)), .p (.val (.int .i64 2)), .p (.val (.int .u64 f))] [] (fun x => .p (.val (.bool x))) (fun _ => []) yes L (vD t r 2 f) := by
  have cf := fun f hf => fieldC hR f hf
  have ch := hasRef_fn f 2 hf.1 hf.2
  have cs := wstampRef_fn f hf.1 hf.2
  have hs : U (f / 4) := hf.quo
  have z : U 0 := U.zero
  have hb : (2 : Int) = 1 ∨ (2 : Int) = 2 := by decide
  refine q8 Tryz.func164 rfl Tryz.ntmps164 (Nat.le_of_ble_eq_true rfl) (by decide) fun σ0 hi0 => ?_
  cases hh : hasF f 2 <;> rw [hh] at ch
  case true =>
    repeat' (first | (refine zY.is ?_; first | refine zY.nil ?_ | (refine zY.at_ 11 rfl ?_; refine zY.rc (.v zC .e) ?_) | (refine zY.in_ [20] rfl ?_; refine zY.v rfl rfl (zO (ch) rfl rfl rfl (by decide)) ?_)) | (refine zZ.is ?_; first | refine zZ.seq ?_ | (refine zZ.isR (id := 0) ?_; refine zZ.rc [0, 1, 2, 3, 4] [12, 13, 14, 1000] (r := (.v zC .e)) (h := ?_)) | (refine zZ.isR (id := 1) ?_; refine zZ.rc [0, 1, 2, 3, 4, 10] [12, 13, 14, 1000] (r := (.v zJ (.v zJ .e))) (h := ?_)) | (refine zZ.isR (id := 2) ?_; refine zZ.rc [0, 1, 2, 3, 4, 10, 11] [12, 13, 14, 1000] (r := (.v zJ .e)) (h := ?_)) | (refine zZ.isR (id := 3) ?_; refine zZ.rc [0, 1, 2, 3, 4, 10] [12, 13, 14, 1000] (r := (.v zC .e)) (h := ?_)) | refine zZ.yM rfl bA ?_ | refine zZ.ret ?_) | refine zG.n ?_ | refine zG.r ?_)
    all_goals exact .ret (x := true) (.inl rfl) (.one rfl rfl) (by repeat' first | exact trivial | rfl | constructor) trivial (by assumption) (by unfold vD; rw [hh]; exact Rel.ret _)
  case false =>
    repeat' (first | (refine zY.is ?_; first | refine zY.nil ?_ | (refine zY.at_ 11 rfl ?_; refine zY.rc (.v zC .e) ?_) | (refine zY.at_ 13 rfl ?_; refine zY.rc (.m yG (.w yQ .e)) ?_) | (refine zY.at_ 14 rfl ?_; refine zY.rc (.m yG (.w yQ .e)) ?_) | (refine zY.at_ 24 rfl ?_; refine zY.rc (.v wH (.m yG (.w yQ .e))) ?_) | (refine zY.at_ 55 rfl ?_; refine zY.rc (.v wH .e) ?_) | (refine zY.in_ [20] rfl ?_; refine zY.v rfl rfl (zO (ch) rfl rfl rfl (by decide)) ?_) | (refine zY.in_ [23] rfl ?_; refine zY.v rfl rfl (zO (cs) rfl rfl rfl (by decide)) ?_) | (refine zY.in_ [54] rfl ?_; refine zY.v rfl rfl (zO (bytesRef_fn _ _ _ _ _ _ (by assumption) (by assumption) (by assumption) (by assumption) (by assumption)) rfl rfl rfl (by decide)) ?_) | (refine zY.in_ [56] rfl ?_; refine zY.ofT rfl (zH.cu (i := [1000]) (f := cdo_c L hL (qJ 5 0 0 0 (.sl (byts _))) rfl) (r := fun x τ e g hj => ?_))) | (refine zY.in_ [61] rfl ?_; refine zY.ofT rfl (zH.cu (i := [1000]) (f := cdo_c L hL (qJ 6 0 0 0 xW) rfl) (r := fun x τ e g hj => ?_)))) | (refine zZ.is ?_; first | refine zZ.seq ?_ | (refine zZ.isR (id := 0) ?_; refine zZ.rc [0, 1, 2, 3, 4] [12, 13, 14, 1000] (r := (.v zC .e)) (h := ?_)) | (refine zZ.isR (id := 1) ?_; refine zZ.rc [0, 1, 2, 3, 4, 10] [12, 13, 14, 1000] (r := (.v zJ (.v zJ .e))) (h := ?_)) | (refine zZ.isR (id := 2) ?_; refine zZ.rc [0, 1, 2, 3, 4, 10, 11] [12, 13, 14, 1000] (r := (.v zJ .e)) (h := ?_)) | (refine zZ.isR (id := 4) ?_; refine zZ.rc [0, 1, 2, 3, 4, 10] [12, 13, 14, 1000] (r := (.v zJ .e)) (h := ?_)) | (refine zZ.isR (id := 5) ?_; refine zZ.rc [0, 1, 2, 3, 10, 12] [12, 13, 14, 1000] (r := (.v zJ (.v v41_5 .e))) (h := ?_)) | (refine zZ.isR (id := 11) ?_; refine zZ.rc [0, 1, 2, 3, 10, 12] [12, 13, 14, 1000] (r := (.v yL (.v vN .e))) (h := ?_)) | (refine zZ.isR (id := 12) ?_; refine zZ.rc [0, 1, 2, 3, 10, 12, 13] [12, 13, 14, 1000] (r := (.v zU (.v yV .e))) (h := ?_)) | (refine zZ.isR (id := 13) ?_; refine zZ.rc [0, 1, 2, 3, 10, 12] [12, 13, 14, 1000] (r := (.v zC .e)) (h := ?_)) | (refine zZ.isR (id := 14) ?_; refine zZ.rc [0, 1, 2, 3, 10, 12] [12, 13, 14, 1000] (r := (.v yL (.v wH .e))) (h := ?_)) | (refine zZ.isR (id := 15) ?_; refine zZ.rc [0, 1, 2, 3, 10, 12, 14] [12, 13, 14, 1000] (r := (.v zU (.v yV .e))) (h := ?_)) | (refine zZ.isR (id := 16) ?_; refine zZ.rc [0, 1, 2, 3, 10, 12] [12, 13, 14, 1000] (r := (.v zC .e)) (h := ?_)) | refine zZ.yI rfl bA ?_ | refine zZ.cond rfl (fun h => ?_) (fun h => ?_) | refine zZ.skip ?_ | refine zZ.block ?_ | refine zZ.ret ?_) | refine zG.n ?_ | refine zG.r ?_)
    all_goals first
      | (refine .ret (x := false) (.inl rfl) (.one rfl rfl) (by repeat' first | exact trivial | rfl | constructor) trivial (by assumption) ?_; have hP : vD t r 2 f = wrP t r 2 2 (f / 4) 0 0 0 0 := (by unfold vD; rw [hh]; rfl); simp only [hP, wrP_eq]; repeat' (first | exact Rel.ret _ | refine Rel.bind (by assumption) ?_ | refine Rel.yes (by assumption) ?_ | refine Rel.no (by assumption) ?_))
      | skip
    rename_i a τ5 e5 g5 hj5 h5
    have hP : vD t r 2 f = wrP t r 2 2 (f / 4) 0 0 0 0 := by unfold vD; rw [hh]; rfl
    have h0 : At L (vD t r 2 f) σ0 ((Pr.loop (y8 (over2 (f / 4) 2) (yC t r 2) 2) many ()).bind fun _ => .ret true) τ := by
      rw [hP]
      refine ⟨hj, fun y υ hy => ?_⟩
      
      rw [wrP_eq]
      exact Rel.bind (by assumption) (Rel.no (by assumption) (Rel.bind (by assumption) (Rel.no (by assumption) hy)))
    have hm0 := left_many hL (σ := τ)
    refine zZ.loop (fun q : Nat × CSt => restF L t r 2 2 (f / 4) 0 0 0 0 q.2) (fun q => At L (vD t r 2 f) σ0 ((Pr.loop (y8 (over2 (f / 4) 2) (yC t r 2) 2) q.1 ()).bind fun _ => .ret true) q.2 ∧ wI L q.2 ≤ q.1) (fun q => wI L q.2) (many, τ) ?h0 ⟨h0, hm0⟩ ?rd
    case h0 =>
      refine yJ (is := [0, 1, 2, 3, 12]) (js := [1000, 12]) ?_ ?_
      repeat' first | exact zX.nil | apply zX.p rfl | apply zX.ptr rfl | apply zX.own rfl | apply zX.clo rfl | apply zX.ifp rfl | apply zX.pt rfl | apply zX.tup rfl | apply zX.skip
      repeat' first | exact zW.nil | apply zW.boxP rfl rfl | apply zW.y7 rfl | (apply zW.at0; exact zI rfl (H.nk _).1 (by repeat' fail)) | (apply zW.at1; exact zI rfl (H.nk _).2.1 (by repeat' fail)) | (apply zW.at2; exact zI rfl (H.nk _).2.2 (by repeat' fail)) | apply zW.some rfl | apply zW.skip
    case rd =>
      rintro ⟨m, ω⟩ ⟨ha, hm⟩
      dsimp only at ha hm ⊢
      unfold restF
      clear e h g
      have hti := ha.i
      cases hs' : ω.stop
      case true =>
        have hst : (!ω.stop) = false := by rw [hs']; rfl
        repeat' (first | (refine zY.nil ?_) | (refine zZ.is ?_; first | refine zZ.seq ?_ | (refine zZ.isR (id := 17) ?_; refine zZ.rc [0, 1, 2, 3, 10, 12, 15, 16, 17, 68, 84, 94] [12, 13, 14, 1000] (r := (.v yL (.v xO (.v zU (.v yV (.v v52_0 .e)))))) (h := ?_)) | (refine zZ.isR (id := 25) ?_; refine zZ.rc [10] [12, 13, 14, 1000] (r := (.v zC .e)) (h := ?_)) | refine zZ.yI rfl bA ?_ | refine zZ.exit ?_ | refine zZ.ret ?_) | refine zG.n ?_ | refine yZ.eY ?_ | refine zG.e ?_)
        all_goals exact .ret (x := true) (.inl rfl) (.one rfl rfl) (by repeat' first | exact trivial | rfl | constructor) trivial ha.i (ha.halt hs' _)
      case false =>
        have hst : (!ω.stop) = true := by rw [hs']; rfl
        obtain ⟨m, rfl⟩ := q9 hm hs'
        repeat' (first | (refine zY.is ?_; first | refine zY.nil ?_ | (refine zY.at_ 15 rfl ?_; refine zY.rc (.v zC .e) ?_) | (refine zY.at_ 16 rfl ?_; refine zY.rc (.v zC .e) ?_) | (refine zY.at_ 17 rfl ?_; refine zY.rc (.v zC .e) ?_) | (refine zY.at_ 89 rfl ?_; refine zY.rc (.v zJ (.v zJ (.v zJ .e))) ?_) | (refine zY.in_ [72, 88] rfl ?_; refine zY.v rfl rfl (zO (cf _ (by decide)) rfl rfl rfl (by decide)) ?_) | (refine zY.in_ [76] rfl ?_; refine zY.v rfl rfl (zO (hasRef_fn _ 2 (U.lo (by assumption)) (U.hi (by assumption))) rfl rfl rfl (by decide)) ?_) | (refine zY.in_ [92] rfl ?_; refine zY.v rfl rfl (zO (with_fn _ 2 (U.lo (by assumption)) (U.hi (by assumption)) hb (by assumption)) rfl rfl rfl (by decide)) ?_) | (refine zY.in_ [73] rfl ?_; refine zY.ofT rfl (zH.cu (i := [1000]) (f := vF L hL _) (r := fun x τ e g hj => ?_))) | (refine zY.in_ [93] rfl ?_; refine zY.ofT rfl (zH.cu (i := [1000]) (f := ccas_c L hL _ _ _) (r := fun x τ e g hj => ?_)))) | (refine zZ.is ?_; first | refine zZ.seq ?_ | (refine zZ.isR (id := 17) ?_; refine zZ.rc [0, 1, 2, 3, 10, 12, 15, 16, 17, 68, 84, 94] [12, 13, 14, 1000] (r := (.v yL (.v xO (.v zU (.v yV (.v v52_0 .e)))))) (h := ?_)) | (refine zZ.isR (id := 18) ?_; refine zZ.rc [0, 1, 2, 3, 10, 12, 15, 16, 17, 68, 84, 94] [12, 13, 14, 1000] (r := (.v yL (.v zJ (.v zJ .e)))) (h := ?_)) | (refine zZ.isR (id := 19) ?_; refine zZ.rc [0, 1, 2, 3, 10, 12, 15, 16, 17, 68, 84, 94] [12, 13, 14, 1000] (r := (.v zJ (.v zJ .e))) (h := ?_)) | (refine zZ.isR (id := 20) ?_; refine zZ.rk [0, 1, 2, 3, 10, 12, 15, 16, 17, 68, 84, 94] [12, 13, 14, 1000] ?_; refine zZ.draws ?_) | (refine zZ.isR (id := 21) ?_; refine zZ.rc [0, 1, 2, 3, 10, 12, 15, 16, 17, 68, 84, 94] [12, 13, 14, 1000] (r := (.v zC .e)) (h := ?_)) | (refine zZ.isR (id := 22) ?_; refine zZ.rc [0, 1, 2, 3, 10, 12, 15, 16, 17, 68, 84, 94] [12, 13, 14, 1000] (r := (.v yL (.v zJ (.v zJ .e)))) (h := ?_)) | (refine zZ.isR (id := 23) ?_; refine zZ.rc [0, 1, 2, 3, 10, 12, 15, 16, 17, 68, 84, 94] [12, 13, 14, 1000] (r := (.v zJ .e)) (h := ?_)) | (refine zZ.isR (id := 24) ?_; refine zZ.rc [0, 1, 2, 3, 10, 12, 15, 16, 17, 68, 84, 94] [12, 13, 14, 1000] (r := (.v zC .e)) (h := ?_)) | refine zZ.yM rfl bA ?_ | refine zZ.cond rfl (fun h => ?_) (fun h => ?_) | refine zZ.skip ?_ | refine zZ.block ?_ | refine zZ.ret ?_) | refine zG.n ?_ | refine zG.r ?_ | refine yZ.n ?_ | refine yZ.r ?_ | (refine Draws.is ?_; first | refine Draws.rc (.v zJ (.v zJ .e)) ?_ | refine Draws.rc (.gY zJ .e) ?_ | refine Draws.rc (.gY zU (.gY yV (.gY v42_8 (.v xD .e)))) ?_ | refine Draws.rc (.gF (.gF (.gF (.gF (.gF (.v xA .e)))))) ?_ | (refine Draws.in_ [80] rfl ?_; refine Draws.gY rfl rfl (by decide) rfl bA rfl (zO (wstampRef_fn _ (U.lo (by assumption)) (U.hi (by assumption))) rfl rfl rfl (by decide)) ?_) | (fail_if_success refine Draws.known rfl rfl rfl (by exact .inl (by assumption)) ?_); refine Draws.split rfl rfl rfl (fun h => ?_) (fun h => ?_) | refine Draws.done (by kernel_rfl) (by kernel_rfl) (by kernel_rfl) ?_) | (refine zS.nil ?_))
        all_goals first
          | (refine .ret (x := true) (.inl rfl) (.one rfl rfl) (by repeat' first | exact trivial | rfl | constructor) trivial hj ?_; refine (ha.vP (r := .inr ()) ?_ hj).ret; unfold y8; refine Rel.bind (by assumption) ?_; first | (refine Rel.yes (by simp_all [over2]) ?_; exact Rel.ret _) | (refine Rel.no (by simp_all [over2]) ?_; refine Rel.bind (by assumption) ?_; simp only [*]; exact Rel.ret _))
          | skip
        rename_i e1 _ _ _ _
        have hr : Rel L (y8 (over2 (f / 4) 2) (yC t r 2) 2 ()) ω (.inl ()) τ := by
          unfold y8
          refine Rel.bind (by assumption) ?_
          refine Rel.no (by simp_all [over2]) ?_
          refine Rel.bind (by assumption) ?_
          simp only [*]
          exact Rel.ret _
        have hl := hr.less hL (fine_round hb (fun _ h => over2_has h) ()) ⟨_, _, rfl⟩ hti hs'
        refine ⟨(m, τ), ?_, ⟨ha.vP hr hj, by dsimp only at *; omega⟩, hl⟩
        refine yJ (is := [0, 1, 2, 3, 12]) (js := [1000, 12]) ?_ ?_
        repeat' first | exact zX.nil | apply zX.p rfl | apply zX.ptr rfl | apply zX.own rfl | apply zX.clo rfl | apply zX.ifp rfl | apply zX.pt rfl | apply zX.tup rfl | apply zX.skip
        repeat' first | exact zW.nil | apply zW.boxP rfl rfl | apply zW.y7 rfl | (apply zW.at0; exact zI rfl (H.nk _).1 (by repeat' fail)) | (apply zW.at1; exact zI rfl (H.nk _).2.1 (by repeat' fail)) | (apply zW.at2; exact zI rfl (H.nk _).2.2 (by repeat' fail)) | apply zW.some rfl | apply zW.skip
theorem saveRef_c (L : List yE) (hL : wF L) {t r b : Int} (hR : Rc t r) (hb : b = 1 ∨ b = 2) :
    FnC 109 [.p (.val (.int .i64 t)), .p (.val (.int .i64 r)), .p (.val (.int .i64 b))] [] (fun x => .p (.val (.bool x))) (fun _ => []) yes L (saveP t r b) := by
  have cf := fieldC hR 2 (by decide)
  rcases hb with rfl | rfl
  all_goals
    refine q8 Tryz.func109 rfl Tryz.ntmps109 (Nat.le_of_ble_eq_true rfl) (by decide) fun σ0 hi0 => ?_
    repeat' (first | (refine zY.is ?_; first | refine zY.nil ?_ | (refine zY.at_ 8 rfl ?_; refine zY.rc (.v zC .e) ?_) | (refine zY.at_ 9 rfl ?_; refine zY.rc (.v zC .e) ?_) | (refine zY.in_ [13] rfl ?_; refine zY.v rfl rfl (zO (cf) rfl rfl rfl (by decide)) ?_) | (refine zY.in_ [14] rfl ?_; refine zY.ofT rfl (zH.cu (i := [1000]) (f := vF L hL _) (r := fun x τ e g hj => ?_))) | (refine zY.in_ [20] rfl ?_; refine zY.ofT rfl (zH.cu (i := [1000]) (f := restRef1_c L hL hR (by assumption)) (r := fun x τ e g hj => ?_))) | (refine zY.in_ [20] rfl ?_; refine zY.ofT rfl (zH.cu (i := [1000]) (f := restRef2_c L hL hR (by assumption)) (r := fun x τ e g hj => ?_)))) | (refine zZ.is ?_; first | refine zZ.seq ?_ | (refine zZ.isR (id := 0) ?_; refine zZ.rc [0, 1, 2, 3] [1000] (r := (.v zC .e)) (h := ?_)) | (refine zZ.isR (id := 1) ?_; refine zZ.rc [0, 1, 2, 3, 8] [1000] (r := (.v yL (.v zJ (.v zJ .e)))) (h := ?_)) | (refine zZ.isR (id := 2) ?_; refine zZ.rc [0, 1, 2, 3, 8, 9] [1000] (r := (.v yL (.v zJ (.v zJ (.v zJ (.v zJ .e)))))) (h := ?_)) | refine zZ.ret ?_) | refine zG.n ?_)
    all_goals (exact .ret (by exact .inl rfl) (by exact .one rfl rfl) (by repeat' first | exact trivial | rfl | constructor) (by assumption) (by assumption) (by unfold saveP flagP; repeat' (first | assumption | refine Rel.bind (by assumption) ?_)))
end Go.Proofs.YtohlllohmoojiaaGreatDoor
/- Calls over a log whose answers go several ways. (No walk here.) -/
namespace Go.Proofs.YtohlllohmoojiaaGreatDoor
set_option maxRecDepth 100000
set_option maxHeartbeats 16000000
open Go Go.RowKit
set_option linter.unusedVariables false
/-- a variable that holds what a log's place holds -/
theorem sub_curAt {S : AS} (id : Nat) (L : List yE) (σ : CSt) (h : S.blk id = some (curS L σ)) : Sub S { S with s := putL S.s id (curS L σ) } := by
  have hb : ∀ i, ({ S with s := putL S.s id (curS L σ) } : AS).blk i = S.blk i := fun i => by
    show look (putL S.s id (curS L σ)) i = _
    rw [look_putL]
    by_cases e : id = i
    · subst e; rw [if_pos rfl]; exact h.symm
    · rw [if_neg e]; rfl
  intro M n w0 ρ a w hs
  have hM : Mut M { S with s := putL S.s id (curS L σ) } ρ = Mut M S ρ := by
    funext k c
    unfold Mut
    simp only [hb]
  exact ⟨ρ, hs.below, hs.out, hs.tab, hs.size, hs.defers, (fun i => by rw [hM]; exact hs.tmps i), (fun id b h => by rw [hM]; rw [hb] at h; exact hs.blks id b h), (fun id b k h => by rw [hb] at h; exact hs.mine id b k h), hs.fix, hs.free, (fun i j bi bj k h1 h2 => by rw [hb] at h1 h2; exact hs.dist i j bi bj k h1 h2)⟩
section
variable {n : Nat} {o : Oper} {S : AS} {d : Nat} {K : Exit → AS → Prop}
/-- a call of what takes a record out -/
theorem zH.cuT {f0 : FuncId} {avs xs : List AV} {bk : List Blk} {res : Took → AV} {bk' : Took → List Blk} {good : Took → Prop} {L : List yE} {σ : CSt} {p0 : Pr Took} {N : AS → Prop} (i : List Nat) (hd : o.dst = some d := by rfl) (hn : d < n := by decide) (he : Enters Tryz.prog o S f0 avs := by exact enA)
    (hx : avs = (AV.ptr 1000 0 :: xs).map (AV.ren (sig i)) := by rfl) (hh : Hands S i (curS L σ :: bk) := by exact haA) (hxs : (AV.ptr 1000 0 :: xs).all (AV.okE (bk.length + 1)) = true := by rfl) (hrx : ∀ x, (res x).okE (bk.length + 1) = true := by exact fun _ => rfl)
    (hbk' : ∀ x, (bk' x).length = bk.length ∧ (bk' x).all (Blk.okE (bk.length + 1)) = true := by exact fun _ => ⟨rfl, rfl⟩) (hi : σ.i ≤ L.length := by assumption) (f : FnC f0 xs bk res bk' good L p0)
    (r0 : ∀ τ, Rel L p0 σ .fail τ → good .fail → τ.i ≤ L.length → N ((S.after i (curS L τ :: bk' .fail)).put d ((res .fail).ren (sig i))))
    (r1 : ∀ τ, Rel L p0 σ .miss τ → good .miss → τ.i ≤ L.length → N ((S.after i (curS L τ :: bk' .miss)).put d ((res .miss).ren (sig i))))
    (r2 : ∀ τ, Rel L p0 σ .done τ → good .done → τ.i ≤ L.length → N ((S.after i (curS L τ :: bk' .done)).put d ((res .done).ren (sig i)))) : zH Tryz.prog n o S K N :=
  zH.cur i hd hn he hx hh hxs hrx hbk' hi f (fun x => match x with
    | .fail => r0
    | .miss => r1
    | .done => r2)
end
end Go.Proofs.YtohlllohmoojiaaGreatDoor
/- The document's sorted list over a log, as trees: contracts. -/
namespace Go.Proofs.YtohlllohmoojiaaGreatDoor
set_option maxRecDepth 100000
set_option maxHeartbeats 16000000
open Go Go.RowKit
set_option linter.unusedSimpArgs false
set_option linter.unusedVariables false
attribute [local irreducible] zY zZ Step zK Sub zS zH Fn zG yZ
theorem limboRef_fn (e : Int) (h0 : 0 ≤ e) : Fn Tryz.prog 191 [.val (.int .u64 e)] (.p (.val (.int .i64 (limboF e)))) := by
  have g1 : e.tmod 3 = e % 3 := Int.tmod_eq_emod_of_nonneg h0
  have g2 : IntKind.i64.wrap (e % 3) = e % 3 := wrap_i64 _ (by omega)
  have g3 : IntKind.i64.wrap (4 + e % 3) = limboF e := wrap_i64 _ (by omega)
  refine wW Tryz.func191 rfl Tryz.ntmps191 (Nat.le_of_ble_eq_true rfl) ?_
  repeat' (first | (refine zY.nil ?_) | (refine zZ.is ?_; first | refine zZ.seq ?_ | (refine zZ.isR (id := 0) ?_; refine zZ.rc [0] [] (r := (.v zC .e)) (h := ?_)) | (refine zZ.isR (id := 1) ?_; refine zZ.rc [0, 2] [] (r := (.v zJ (.v v34_0 (.v v6_0 (.v v30_0 (.v zC .e)))))) (h := ?_)) | refine zZ.ret ?_) | refine zG.n ?_)
  all_goals exact ⟨.inl rfl, gives1 rfl rfl rfl⟩
def retF (L : List yE) (t r e : Int) (σ : CSt) : AS := { t := [(0, .ptr 1000 0), (1, .p (.val (.int .i64 t))), (2, .p (.val (.int .i64 r))), (6, .p (.val (.int .u64 e)))], s := [(1000, curS L σ)] }
theorem retireRef_c (L : List yE) (hL : wF L) {t r : Int} (ht : Small t) (hr : Rf r) : FnC 150 [.p (.val (.int .i64 t)), .p (.val (.int .i64 r))] [] (fun _ => .any) (fun _ => []) yes L (retireP t r) := by
  have wr : IntKind.u64.wrap r = r := wrap_u64 _ ⟨hr.lo, by have := hr.hi; omega⟩
  have hru := hr.u
  have cf := fieldC (hr.rc ht) 7 (by decide)
  refine q8 Tryz.func150 rfl Tryz.ntmps150 (Nat.le_of_ble_eq_true rfl) (by decide) fun σ0 hi0 => ?_
  repeat' (first | (refine zY.is ?_; first | refine zY.nil ?_ | (refine zY.at_ 6 rfl ?_; refine zY.rc (.v zC .e) ?_) | (refine zY.in_ [10] rfl ?_; refine zY.ofT rfl (zH.cu (i := [1000]) (f := vF L hL _) (r := fun x τ e g hj => ?_)))) | (refine zZ.is ?_; first | refine zZ.seq ?_ | (refine zZ.isR (id := 0) ?_; refine zZ.rc [0, 1, 2] [1000] (r := (.v yL .e)) (h := ?_)) | refine zZ.block ?_) | refine zG.n ?_)
  rename Int => x0
  rename CSt => τ0
  have cl := limboRef_fn x0 g.lo
  have h0 : At L (retireP t r) σ0 (.loop (vR t r (limboF x0)) many ()) τ0 := (At.refl hi0).step e hj
  have hm0 := left_many hL (σ := τ0)
  refine zZ.loop (fun q : Nat × CSt => retF L t r x0 q.2) (fun q => At L (retireP t r) σ0 (.loop (vR t r (limboF x0)) q.1 ()) q.2 ∧ wI L q.2 ≤ q.1) (fun q => wI L q.2) (many, τ0) ?h0 ⟨h0, hm0⟩ ?rd
  case h0 =>
    refine yJ (is := [0, 1, 2, 6]) (js := [1000]) ?_ ?_
    repeat' first | exact zX.nil | apply zX.p rfl | apply zX.ptr rfl | apply zX.own rfl | apply zX.clo rfl | apply zX.ifp rfl | apply zX.pt rfl | apply zX.tup rfl | apply zX.skip
    repeat' first | exact zW.nil | apply zW.boxP rfl rfl | apply zW.y7 rfl | (apply zW.at0; exact zI rfl (H.nk _).1 (by repeat' fail)) | (apply zW.at1; exact zI rfl (H.nk _).2.1 (by repeat' fail)) | (apply zW.at2; exact zI rfl (H.nk _).2.2 (by repeat' fail)) | apply zW.some rfl | apply zW.skip
  case rd =>
    rintro ⟨m, ω⟩ ⟨ha, hm⟩
    dsimp only at ha hm ⊢
    unfold retF
    clear h0 e
    have hti := ha.i
    cases hs' : ω.stop
    case true =>
      have hst : (!ω.stop) = false := by rw [hs']; rfl
      repeat' (first | (refine zY.nil ?_) | (refine zZ.is ?_; first | refine zZ.seq ?_ | (refine zZ.isR (id := 1) ?_; refine zZ.rc [0, 1, 2, 6, 7, 8, 15, 33] [1000] (r := (.v yL (.v xO (.v zU (.v yV (.v v52_0 .e)))))) (h := ?_)) | refine zZ.yI rfl bA ?_ | refine zZ.exit ?_) | refine zG.n ?_ | refine yZ.eY ?_ | refine zG.e ?_)
      all_goals exact .ret (x := ()) (by exact .inr rfl) (.none rfl) (by repeat' first | exact trivial | rfl | constructor) trivial ha.i (ha.halt hs' _)
    case false =>
      have hst : (!ω.stop) = true := by rw [hs']; rfl
      obtain ⟨m, rfl⟩ := q9 hm hs'
      repeat' (first | (refine zY.is ?_; first | refine zY.nil ?_ | (refine zY.at_ 24 rfl ?_; refine zY.rc (.v zJ .e) ?_) | (refine zY.at_ 29 rfl ?_; refine zY.rc (.v zJ (.v zJ (.v v6_0 .e))) ?_) | (refine zY.at_ 7 rfl ?_; refine zY.rc (.v zC .e) ?_) | (refine zY.at_ 8 rfl ?_; refine zY.rc (.v zC .e) ?_) | (refine zY.in_ [23] rfl ?_; refine zY.v rfl rfl (zO (cf) rfl rfl rfl (by decide)) ?_) | (refine zY.in_ [18, 28] rfl ?_; refine zY.v rfl rfl (zO (cl) rfl rfl rfl (by decide)) ?_) | (refine zY.in_ [19] rfl ?_; refine zY.ofT rfl (zH.cu (i := [1000]) (f := vF L hL _) (r := fun x τ e g hj => ?_))) | (refine zY.in_ [25] rfl ?_; refine zY.ofT rfl (zH.cu (i := [1000]) (f := cstore_c L hL _ _) (r := fun x τ e g hj => ?_))) | (refine zY.in_ [32] rfl ?_; refine zY.ofT rfl (zH.cu (i := [1000]) (f := ccas_c L hL _ _ _) (r := fun x τ e g hj => ?_)))) | (refine zZ.is ?_; first | refine zZ.seq ?_ | (refine zZ.isR (id := 1) ?_; refine zZ.rc [0, 1, 2, 6, 7, 8, 15, 33] [1000] (r := (.v yL (.v xO (.v zU (.v yV (.v v52_0 .e)))))) (h := ?_)) | (refine zZ.isR (id := 2) ?_; refine zZ.rc [0, 1, 2, 6, 7, 8, 15, 33] [1000] (r := (.v yL (.v zJ .e))) (h := ?_)) | (refine zZ.isR (id := 3) ?_; refine zZ.rc [0, 1, 2, 6, 7, 8, 15, 33] [1000] (r := (.v yL (.v zJ (.v zJ .e)))) (h := ?_)) | (refine zZ.isR (id := 4) ?_; refine zZ.rc [0, 1, 2, 6, 7, 8, 15, 33] [1000] (r := (.v yL (.v zJ .e))) (h := ?_)) | (refine zZ.isR (id := 5) ?_; refine zZ.rc [0, 1, 2, 6, 7, 8, 15, 33] [1000] (r := (.v zJ .e)) (h := ?_)) | refine zZ.yM rfl bA ?_ | refine zZ.cond rfl (fun h => ?_) (fun h => ?_) | refine zZ.skip ?_ | refine zZ.block ?_ | refine zZ.ret ?_) | refine zG.n ?_ | refine zG.r ?_ | refine yZ.n ?_ | refine yZ.r ?_)
      all_goals first | (refine .ret (x := ()) (by exact .inl rfl) (.none rfl) (by repeat' first | exact trivial | rfl | constructor) trivial hj ?_; refine (ha.round (r := .inr ()) ?_ hj).ret; unfold vR; repeat' (first | refine Rel.bind (by assumption) ?_ | (simp only [cond_true, cond_false, *]; exact Rel.ret _))) | skip
      have hr' : Rel L (vR t r (limboF x0) ()) ω (.inl ()) τ := by
        unfold vR
        repeat' (first | refine Rel.bind (by assumption) ?_ | (simp only [cond_true, cond_false, *]; exact Rel.ret _))
      have hl := hr'.less (good := Next yes yes) hL (.bind (yO _) fun _ hh => .bind (fine_store _ hh) fun _ _ => .bind (qB _ hh hru) fun d _ => Pr.yT.ret (by cases d <;> trivial)) ⟨_, _, rfl⟩ hti hs'
      refine ⟨(m, τ), ?_, ⟨ha.round hr' hj, by dsimp only at *; omega⟩, hl⟩
      refine yJ (is := [0, 1, 2, 6]) (js := [1000]) ?_ ?_
      repeat' first | exact zX.nil | apply zX.p rfl | apply zX.ptr rfl | apply zX.own rfl | apply zX.clo rfl | apply zX.ifp rfl | apply zX.pt rfl | apply zX.tup rfl | apply zX.skip
      repeat' first | exact zW.nil | apply zW.boxP rfl rfl | apply zW.y7 rfl | (apply zW.at0; exact zI rfl (H.nk _).1 (by repeat' fail)) | (apply zW.at1; exact zI rfl (H.nk _).2.1 (by repeat' fail)) | (apply zW.at2; exact zI rfl (H.nk _).2.2 (by repeat' fail)) | apply zW.some rfl | apply zW.skip
theorem outRef_c (L : List yE) (hL : wF L) {t p x w : Int} (ht : Small t) (hp : Rf p) (hx : Rf x) (hw : U w) : FnC 93 [.p (.val (.int .i64 t)), .p (.val (.int .i64 p)), .p (.val (.int .i64 x)), .p (.val (.int .u64 w))] [] (fun r => .tup ([.val (.bool r.d), .val (.bool r.ok)].map .p)) (fun _ => []) yes L (takeP t p x w) := by
  have cn := cnextRef_fn t p ht hp.le
  have c1 := linkRef_fn x hx.le
  have c2 := linkRef_fn (xX w) (wV w).le
  have c3 := refRef_fn w hw.1 hw.2
  have hxr := hx.rc ht
  refine q8 Tryz.func93 rfl Tryz.ntmps93 (Nat.le_of_ble_eq_true rfl) (by decide) fun σ0 hi0 => ?_
  repeat' (first | (refine zY.is ?_; first | refine zY.nil ?_ | (refine zY.at_ 12 rfl ?_; refine zY.rc (.v zC .e) ?_) | (refine zY.at_ 13 rfl ?_; refine zY.rc (.v zC .e) ?_) | (refine zY.at_ 24 rfl ?_; refine zY.rc (.v zJ .e) ?_) | (refine zY.at_ 26 rfl ?_; refine zY.rc (.v zJ .e) ?_) | (refine zY.in_ [23] rfl ?_; refine zY.v rfl rfl (zO (cn) rfl rfl rfl (by decide)) ?_) | (refine zY.in_ [25] rfl ?_; refine zY.v rfl rfl (zO (c1) rfl rfl rfl (by decide)) ?_) | (refine zY.in_ [28] rfl ?_; refine zY.v rfl rfl (zO (c2) rfl rfl rfl (by decide)) ?_) | (refine zY.in_ [27] rfl ?_; refine zY.v rfl rfl (zO (c3) rfl rfl rfl (by decide)) ?_) | (refine zY.in_ [17] rfl ?_; refine zY.ofT rfl (zH.cu (i := [1000]) (f := saveRef_c L hL hxr (.inr rfl)) (r := fun x τ e g hj => ?_))) | (refine zY.in_ [29] rfl ?_; refine zY.ofT rfl (zH.cu (i := [1000]) (f := ccas_c L hL _ _ _) (r := fun x τ e g hj => ?_))) | (refine zY.in_ [35] rfl ?_; refine zY.ofT rfl (zH.cu (i := [1000]) (f := retireRef_c L hL ht hx) (r := fun x τ e g hj => ?_)))) | (refine zZ.is ?_; first | refine zZ.seq ?_ | (refine zZ.isR (id := 0) ?_; refine zZ.rc [0, 1, 2, 3, 4] [1000] (r := (.v zC (.v zC .e))) (h := ?_)) | (refine zZ.isR (id := 1) ?_; refine zZ.rc [0, 1, 2, 3, 4, 10, 11] [1000] (r := (.v yL (.v zJ (.v zJ .e)))) (h := ?_)) | (refine zZ.isR (id := 2) ?_; refine zZ.rc [0, 1, 2, 3, 4, 10, 11, 12] [1000] (r := (.v zJ (.v v52_8 .e))) (h := ?_)) | (refine zZ.isR (id := 3) ?_; refine zZ.rc [0, 1, 2, 3, 4, 10, 11] [1000] (r := (.v zC (.v zC .e))) (h := ?_)) | (refine zZ.isR (id := 4) ?_; refine zZ.rc [0, 1, 2, 3, 4, 10, 11] [1000] (r := (.v yL (.v zJ (.v zJ .e)))) (h := ?_)) | (refine zZ.isR (id := 5) ?_; refine zZ.rc [0, 1, 3, 10, 11, 13] [1000] (r := (.v zJ (.v v52_8 .e))) (h := ?_)) | (refine zZ.isR (id := 6) ?_; refine zZ.rc [0, 1, 3, 10, 11] [1000] (r := (.v zC (.v zC .e))) (h := ?_)) | (refine zZ.isR (id := 7) ?_; refine zZ.rc [0, 1, 3, 10, 11] [1000] (r := (.v yL (.v zJ (.v zJ .e)))) (h := ?_)) | (refine zZ.isR (id := 8) ?_; refine zZ.rc [10, 11] [1000] (r := (.v zC (.v zC .e))) (h := ?_)) | refine zZ.cond rfl (fun h => ?_) (fun h => ?_) | refine zZ.skip ?_ | refine zZ.ret ?_) | refine zG.n ?_ | refine zG.r ?_)
  all_goals try simp only [Bool.not_eq_true', Bool.not_eq_false'] at *
  all_goals first | exact .ret (x := .done) (.inl rfl) (.tup rfl (by decide) (.cons (.tmp rfl) (.cons (.tmp rfl) .nil))) (by repeat' first | exact trivial | rfl | constructor) trivial (by assumption) (by unfold takeP; repeat' (first | exact Rel.ret _ | refine Rel.bind (by assumption) ?_ | refine Rel.yes (by assumption) ?_ | refine Rel.no (by assumption) ?_)) | exact .ret (x := .miss) (.inl rfl) (.tup rfl (by decide) (.cons (.tmp rfl) (.cons (.tmp rfl) .nil))) (by repeat' first | exact trivial | rfl | constructor) trivial (by assumption) (by unfold takeP; repeat' (first | exact Rel.ret _ | refine Rel.bind (by assumption) ?_ | refine Rel.yes (by assumption) ?_ | refine Rel.no (by assumption) ?_)) | exact .ret (x := .fail) (.inl rfl) (.tup rfl (by decide) (.cons (.tmp rfl) (.cons (.tmp rfl) .nil))) (by repeat' first | exact trivial | rfl | constructor) trivial (by assumption) (by unfold takeP; repeat' (first | exact Rel.ret _ | refine Rel.bind (by assumption) ?_ | refine Rel.no (by assumption) ?_))
/-! ### Searches, and sweeps -/
theorem and_no1 {a b : Bool} (h : a = true) : (!a && b) = false := by subst h; rfl
theorem and_no2 {a b : Bool} (h : b = true) : (a && !b) = false := by subst h; cases a <;> rfl
theorem and_yes {a b : Bool} (h : a = false) (k : b = false) : (!a && !b) = true := by subst h k; rfl
theorem rel_took {L : List yE} {t p x w : Int} {at_ : Int → Int → Int → Pr (WSt ⊕ wK)} {σ τ υ : CSt} {r : Took} (h1 : Rel L (xU (yC t x 0)) σ w τ) (hm : decide (w % 2 = 1) = true) (h2 : Rel L (takeP t p x w) τ r υ) : Rel L (yY t at_ (some (p, x))) σ (tookR p x w r) υ :=
  Rel.bind h1 (Rel.yes hm (Rel.bind h2 (Rel.ret _)))
theorem rel_at {L : List yE} {t p x w : Int} {at_ : Int → Int → Int → Pr (WSt ⊕ wK)} {σ τ υ : CSt} {r : WSt ⊕ wK} (h1 : Rel L (xU (yC t x 0)) σ w τ) (hm : decide (w % 2 = 1) = false) (h2 : Rel L (at_ p x w) τ r υ) : Rel L (yY t at_ (some (p, x))) σ r υ :=
  Rel.bind h1 (Rel.no hm h2)
def searchF0 (L : List yE) (t k : Int) (σ : CSt) : AS := { t := [(0, .ptr 1000 0), (1, .p (.val (.int .i64 t))), (2, .p (.val (.int .u64 k))), (6, .p (.val (.int .i64 0))), (7, .p (.val (.int .i64 0))), (8, .p (.val (.bool false))), (9, .p (.val (.bool false)))], s := [(1000, curS L σ)] }
def searchF (L : List yE) (t k p x : Int) (d : Bool) (σ : CSt) : AS := { t := [(0, .ptr 1000 0), (1, .p (.val (.int .i64 t))), (2, .p (.val (.int .u64 k))), (6, .p (.val (.int .i64 0))), (7, .p (.val (.int .i64 0))), (8, .p (.val (.bool false))), (9, .p (.val (.bool false))), (10, .p (.val (.int .i64 p))), (11, .p (.val (.int .i64 x))), (12, .p (.val (.bool d)))], s := [(1000, curS L σ)] }
theorem searchRef_c (L : List yE) (hL : wF L) {t k : Int} (ht : Small t) : FnC 33 [.p (.val (.int .i64 t)), .p (.val (.int .u64 k))] [] (fun r => .tup ([.val (.int .i64 r.p), .val (.int .i64 r.x), .val (.bool r.is), .val (.bool r.ok)].map .p)) (fun _ => []) FOK L (vK t k) := by
  skip
  refine q8 Tryz.func33 rfl Tryz.ntmps33 (Nat.le_of_ble_eq_true rfl) (by decide) fun σ0 hi0 => ?_
  repeat' (first | (refine zY.nil ?_) | (refine zZ.is ?_; first | refine zZ.seq ?_ | (refine zZ.isR (id := 0) ?_; refine zZ.rc [0, 1, 2] [1000] (r := (.v zC (.v zC (.v zC (.v zC .e))))) (h := ?_)) | refine zZ.block ?_) | refine zG.n ?_)
  have hm0 := left_many hL (σ := σ0)
  refine zZ.loop (fun q : Nat × CSt => searchF0 L t k q.2) (fun q => At L (vK t k) σ0 ((Pr.loop (yY t (xV t k)) q.1 none).bind (fun r => bif r.ok then .ret r else .ret ⟨0, 0, false, false⟩)) q.2 ∧ wI L q.2 ≤ q.1) (fun q => wI L q.2) (many, σ0) ?h0 ⟨.refl hi0, hm0⟩ ?rd
  case h0 =>
    refine yJ (is := [0, 1, 2, 6, 7, 8, 9]) (js := [1000]) ?_ ?_
    repeat' first | exact zX.nil | apply zX.p rfl | apply zX.ptr rfl | apply zX.own rfl | apply zX.clo rfl | apply zX.ifp rfl | apply zX.pt rfl | apply zX.tup rfl | apply zX.skip
    repeat' first | exact zW.nil | apply zW.boxP rfl rfl | apply zW.y7 rfl | (apply zW.at0; exact zI rfl (H.nk _).1 (by repeat' fail)) | (apply zW.at1; exact zI rfl (H.nk _).2.1 (by repeat' fail)) | (apply zW.at2; exact zI rfl (H.nk _).2.2 (by repeat' fail)) | apply zW.some rfl | apply zW.skip
  case rd =>
    rintro ⟨m, ω⟩ ⟨ha, hm⟩
    dsimp only at ha hm ⊢
    unfold searchF0
    have hti := ha.i
    cases hs' : ω.stop
    case true =>
      have hst : (!ω.stop) = false := by rw [hs']; rfl
      repeat' (first | (refine zY.nil ?_) | (refine zZ.is ?_; first | refine zZ.seq ?_ | (refine zZ.isR (id := 1) ?_; refine zZ.rc [0, 1, 2, 6, 7, 8, 9, 10, 11, 12, 13, 14, 15, 16, 21, 37, 44, 55, 67, 77] [1000] (r := (.v yL (.v xO (.v zU (.v yV (.v v52_0 .e)))))) (h := ?_)) | (refine zZ.isR (id := 20) ?_; refine zZ.rc [6, 7, 8, 9] [1000] (r := (.v zC (.v zC (.v zC (.v zC .e))))) (h := ?_)) | refine zZ.yI rfl bA ?_ | refine zZ.exit ?_ | refine zZ.ret ?_) | refine zG.n ?_ | refine yZ.eY ?_ | refine zG.e ?_)
      all_goals exact .ret (x := ⟨0, 0, false, true⟩) (.inl rfl) (.tup rfl (by decide) (.cons (.tmp rfl) (.cons (.tmp rfl) (.cons (.tmp rfl) (.cons (.tmp rfl) .nil))))) (by repeat' first | exact trivial | rfl | constructor) ⟨rf_0, rf_0, fun h => by cases h⟩ ha.i (ha.halt hs' _)
    case false =>
      have hst : (!ω.stop) = true := by rw [hs']; rfl
      obtain ⟨m, rfl⟩ := q9 hm hs'
      repeat' (first | (refine zY.is ?_; first | refine zY.nil ?_ | (refine zY.at_ 11 rfl ?_; refine zY.rc (.v zC .e) ?_) | (refine zY.in_ [24] rfl ?_; refine zY.v rfl rfl (zO (refRef_fn _ (U.lo (by assumption)) (U.hi (by assumption))) rfl rfl rfl (by decide)) ?_) | (refine zY.in_ [23] rfl ?_; refine zY.ofT rfl (zH.cu (i := [1000]) (f := vF L hL _) (r := fun x τ e g hj => ?_)))) | (refine zZ.is ?_; first | refine zZ.seq ?_ | (refine zZ.isR (id := 1) ?_; refine zZ.rc [0, 1, 2, 6, 7, 8, 9, 10, 11, 12, 13, 14, 15, 16, 21, 37, 44, 55, 67, 77] [1000] (r := (.v yL (.v xO (.v zU (.v yV (.v v52_0 .e)))))) (h := ?_)) | (refine zZ.isR (id := 2) ?_; refine zZ.rc [0, 1, 2, 6, 7, 8, 9, 10, 11, 12, 13, 14, 15, 16, 21, 37, 44, 55, 67, 77] [1000] (r := (.v zC .e)) (h := ?_)) | (refine zZ.isR (id := 3) ?_; refine zZ.rc [0, 1, 2, 6, 7, 8, 9, 10, 11, 12, 13, 14, 15, 16, 21, 37, 44, 55, 67, 77] [1000] (r := (.v yL .e)) (h := ?_)) | (refine zZ.isR (id := 4) ?_; refine zZ.rc [0, 1, 2, 6, 7, 8, 9, 10, 11, 12, 13, 14, 15, 16, 21, 37, 44, 55, 67, 77] [1000] (r := (.v zC .e)) (h := ?_)) | refine zZ.yM rfl bA ?_ | refine zZ.skip ?_ | refine zZ.block ?_) | refine zG.n ?_)
      rename Int => h0
      rename CSt => τ0
      have hr0 : Rel L (yY t (xV t k) none) ω (endW 0 (xX h0)) τ0 := Rel.bind e (Rel.ret _)
      have hl0 := hr0.less hL (wL (fun p x w h _ _ => qF t k p x w h) none trivial) ⟨_, _, rfl⟩ hti hs'
      have ha0 := ha.vP hr0 hj
      rw [vX] at ha0
      refine zZ.loop (fun q : (Nat × Bool) × (Int × Int) × CSt => searchF L t k q.2.1.1 q.2.1.2 q.1.2 q.2.2) (fun q => At L (vK t k) σ0 ((bif q.1.2 then Pr.loop (yY t (xV t k)) q.1.1 none else contL t (xV t k) q.1.1 q.2.1.1 q.2.1.2).bind (fun r => bif r.ok then .ret r else .ret ⟨0, 0, false, false⟩)) q.2.2 ∧ wI L q.2.2 ≤ q.1.1 ∧ wI L q.2.2 < wI L ω ∧ Rf q.2.1.1 ∧ Rf q.2.1.2) (fun q => wI L q.2.2) ((m, false), (0, xX h0), τ0) ?h1 ⟨ha0, by dsimp only; omega, hl0, rf_0, wV _⟩ ?rd2
      case h1 =>
        refine yJ (is := [0, 1, 2, 6, 7, 8, 9, 10, 11, 12]) (js := [1000]) ?_ ?_
        repeat' first | exact zX.nil | apply zX.p rfl | apply zX.ptr rfl | apply zX.own rfl | apply zX.clo rfl | apply zX.ifp rfl | apply zX.pt rfl | apply zX.tup rfl | apply zX.skip
        repeat' first | exact zW.nil | apply zW.boxP rfl rfl | apply zW.y7 rfl | (apply zW.at0; exact zI rfl (H.nk _).1 (by repeat' fail)) | (apply zW.at1; exact zI rfl (H.nk _).2.1 (by repeat' fail)) | (apply zW.at2; exact zI rfl (H.nk _).2.2 (by repeat' fail)) | apply zW.some rfl | apply zW.skip
      case rd2 =>
        clear ha ha0 hr0 e
        rintro ⟨⟨m2, d⟩, ⟨p, y⟩, ω2⟩ ⟨ha, hm2, hl2, hp, hx⟩
        dsimp only at ha hm2 hl2 hp hx ⊢
        unfold searchF
        have hti2 := ha.i
        cases d
        case true =>
          cases hz : decide (y = 0)
          case true =>
            have hz' : (!decide (y = 0)) = false := by rw [hz]; rfl
            repeat' (first | (refine zY.nil ?_) | (refine zZ.is ?_; first | refine zZ.seq ?_ | (refine zZ.isR (id := 5) ?_; refine zZ.rc [0, 1, 2, 6, 7, 8, 9, 10, 11, 12, 13, 14, 15, 16, 21, 37, 44, 55, 67, 77] [1000] (r := (.v zJ (.v qC (.v zJ (.gT (.gT (.v xD (.v zJ (.gT (.gT (.gT (.gT (.gT (.v xD .e)))))))))))))) (h := ?_)) | (refine zZ.isR (id := 18) ?_; refine zZ.rc [0, 1, 2, 6, 7, 8, 9, 10, 11, 12, 13, 14, 15, 16, 21, 37, 44, 55, 67, 77] [1000] (r := (.v zJ (.v qD .e))) (h := ?_)) | refine zZ.yI rfl bA ?_ | refine zZ.skip ?_ | refine zZ.exit ?_) | refine zG.n ?_ | refine yZ.n ?_ | refine yZ.eY ?_ | refine zG.e ?_)
            refine ⟨(m2, ω2), ?_, ⟨ha, hm2⟩, hl2⟩
            refine yJ (is := [0, 1, 2, 6, 7, 8, 9]) (js := [1000]) ?_ ?_
            repeat' first | exact zX.nil | apply zX.p rfl | apply zX.ptr rfl | apply zX.own rfl | apply zX.clo rfl | apply zX.ifp rfl | apply zX.pt rfl | apply zX.tup rfl | apply zX.skip
            repeat' first | exact zW.nil | apply zW.boxP rfl rfl | apply zW.y7 rfl | (apply zW.at0; exact zI rfl (H.nk _).1 (by repeat' fail)) | (apply zW.at1; exact zI rfl (H.nk _).2.1 (by repeat' fail)) | (apply zW.at2; exact zI rfl (H.nk _).2.2 (by repeat' fail)) | apply zW.some rfl | apply zW.skip
          case false =>
            have hz' : (!decide (y = 0)) = true := by rw [hz]; rfl
            repeat' (first | (refine zY.nil ?_) | (refine zZ.is ?_; first | refine zZ.seq ?_ | (refine zZ.isR (id := 5) ?_; refine zZ.rc [0, 1, 2, 6, 7, 8, 9, 10, 11, 12, 13, 14, 15, 16, 21, 37, 44, 55, 67, 77] [1000] (r := (.v zJ (.v qC (.v zJ (.gY zJ (.gY qD (.v xA (.v zJ (.gT (.gT (.gT (.gT (.gT (.v xD .e)))))))))))))) (h := ?_)) | (refine zZ.isR (id := 18) ?_; refine zZ.rc [0, 1, 2, 6, 7, 8, 9, 10, 11, 12, 13, 14, 15, 16, 21, 37, 44, 55, 67, 77] [1000] (r := (.v zJ (.v qD .e))) (h := ?_)) | refine zZ.yI rfl bA ?_ | refine zZ.skip ?_ | refine zZ.exit ?_) | refine zG.n ?_ | refine yZ.n ?_ | refine yZ.eY ?_ | refine zG.e ?_)
            refine ⟨(m2, ω2), ?_, ⟨ha, hm2⟩, hl2⟩
            refine yJ (is := [0, 1, 2, 6, 7, 8, 9]) (js := [1000]) ?_ ?_
            repeat' first | exact zX.nil | apply zX.p rfl | apply zX.ptr rfl | apply zX.own rfl | apply zX.clo rfl | apply zX.ifp rfl | apply zX.pt rfl | apply zX.tup rfl | apply zX.skip
            repeat' first | exact zW.nil | apply zW.boxP rfl rfl | apply zW.y7 rfl | (apply zW.at0; exact zI rfl (H.nk _).1 (by repeat' fail)) | (apply zW.at1; exact zI rfl (H.nk _).2.1 (by repeat' fail)) | (apply zW.at2; exact zI rfl (H.nk _).2.2 (by repeat' fail)) | apply zW.some rfl | apply zW.skip
        case false =>
          cases hz : decide (y = 0)
          case true =>
            obtain rfl : y = 0 := of_decide_eq_true hz
            have hz' : (!decide ((0 : Int) = 0)) = false := rfl
            repeat' (first | (refine zY.nil ?_) | (refine zZ.is ?_; first | refine zZ.seq ?_ | (refine zZ.isR (id := 5) ?_; refine zZ.rc [0, 1, 2, 6, 7, 8, 9, 10, 11, 12, 13, 14, 15, 16, 21, 37, 44, 55, 67, 77] [1000] (r := (.v zJ (.v qC (.v zJ (.gT (.gT (.v xD (.v zJ (.gT (.gT (.gT (.gT (.gT (.v xD .e)))))))))))))) (h := ?_)) | (refine zZ.isR (id := 18) ?_; refine zZ.rc [0, 1, 2, 6, 7, 8, 9, 10, 11, 12, 13, 14, 15, 16, 21, 37, 44, 55, 67, 77] [1000] (r := (.v zJ (.v qX .e))) (h := ?_)) | (refine zZ.isR (id := 19) ?_; refine zZ.rc [0, 1, 2, 6, 7, 8, 9, 10, 11, 12, 13, 14, 15, 16, 21, 37, 44, 55, 67, 77] [1000] (r := (.v zJ (.v zC (.v zC (.v zC (.v zC .e)))))) (h := ?_)) | refine zZ.yM rfl bA ?_ | refine zZ.yI rfl bA ?_ | refine zZ.exit ?_ | refine zZ.ret ?_) | refine zG.n ?_ | refine zG.r ?_ | refine yZ.r ?_ | refine yZ.eY ?_ | refine zG.e ?_)
            all_goals exact .ret (x := ⟨p, 0, false, true⟩) (.inl rfl) (.tup rfl (by decide) (.cons (.tmp rfl) (.cons (.tmp rfl) (.cons (.tmp rfl) (.cons (.tmp rfl) .nil))))) (by repeat' first | exact trivial | rfl | constructor) ⟨hp, rf_0, fun h => by cases h⟩ hti2 (show At L (vK t k) σ0 (.ret ⟨p, 0, false, true⟩) ω2 from ha).ret
          case false =>
            have hz' : (!decide (y = 0)) = true := by rw [hz]; rfl
            cases hs2 : ω2.stop
            case true =>
              have hst2 : (!ω2.stop) = false := by rw [hs2]; rfl
              repeat' (first | (refine zY.nil ?_) | (refine zZ.is ?_; first | refine zZ.seq ?_ | (refine zZ.isR (id := 5) ?_; refine zZ.rc [0, 1, 2, 6, 7, 8, 9, 10, 11, 12, 13, 14, 15, 16, 21, 37, 44, 55, 67, 77] [1000] (r := (.v zJ (.v qC (.v zJ (.gY zJ (.gY qX (.v xA (.v zJ (.gY yL (.gY xO (.gY zU (.gY yV (.gY v52_0 (.v xA .e)))))))))))))) (h := ?_)) | (refine zZ.isR (id := 18) ?_; refine zZ.rc [0, 1, 2, 6, 7, 8, 9, 10, 11, 12, 13, 14, 15, 16, 21, 37, 44, 55, 67, 77] [1000] (r := (.v zJ (.v qX .e))) (h := ?_)) | (refine zZ.isR (id := 19) ?_; refine zZ.rc [0, 1, 2, 6, 7, 8, 9, 10, 11, 12, 13, 14, 15, 16, 21, 37, 44, 55, 67, 77] [1000] (r := (.v zJ (.v zC (.v zC (.v zC (.v zC .e)))))) (h := ?_)) | refine zZ.yM rfl bA ?_ | refine zZ.yI rfl bA ?_ | refine zZ.exit ?_ | refine zZ.ret ?_) | refine zG.n ?_ | refine zG.r ?_ | refine yZ.r ?_ | refine yZ.eY ?_ | refine zG.e ?_)
              all_goals exact .ret (x := ⟨p, 0, false, true⟩) (.inl rfl) (.tup rfl (by decide) (.cons (.tmp rfl) (.cons (.tmp rfl) (.cons (.tmp rfl) (.cons (.tmp rfl) .nil))))) (by repeat' first | exact trivial | rfl | constructor) ⟨hp, rf_0, fun h => by cases h⟩ hti2 (ha.halt hs2 _)
            case false =>
              have hst2 : (!ω2.stop) = true := by rw [hs2]; rfl
              obtain ⟨m2, rfl⟩ := q9 hm2 hs2
              have ha2 : At L (vK t k) σ0 ((Pr.loop (yY t (xV t k)) (m2 + 1) (some (p, y))).bind (fun r => bif r.ok then .ret r else .ret ⟨0, 0, false, false⟩)) ω2 := by
                have h3 := ha
                unfold contL at h3
                rw [hz] at h3
                exact h3
              have hw : WOK p y := ⟨hp, hx, hz⟩
              have hxr := hx.rc ht
              clear ha
              repeat' (first | (refine zY.is ?_; first | refine zY.nil ?_ | (refine zY.at_ 11 rfl ?_; refine zY.rc (.v zC .e) ?_) | (refine zY.at_ 13 rfl ?_; refine zY.rc (.v zC .e) ?_) | (refine zY.at_ 16 rfl ?_; refine zY.rc (.v zC .e) ?_) | (refine zY.at_ 45 rfl ?_; refine zY.rc (.v v0_4 (.v y9 (.v y9 (.v zC (.v zC .e))))) ?_) | (refine zY.in_ [44] rfl ?_; refine zY.v rfl rfl (zO (markRef_fn _ (U.lo (by assumption))) rfl rfl rfl (by decide)) ?_) | (refine zY.in_ [59, 75] rfl ?_; refine zY.v rfl rfl (zO (refRef_fn _ (U.lo (by assumption)) (U.hi (by assumption))) rfl rfl rfl (by decide)) ?_) | (refine zY.in_ [41, 63] rfl ?_; refine zY.v rfl rfl (zO (fieldC hxr _ (by decide)) rfl rfl rfl (by decide)) ?_) | (refine zY.in_ [42, 64] rfl ?_; refine zY.ofT rfl (zH.cu (i := [1000]) (f := vF L hL _) (r := fun x τ e g hj => ?_))) | (refine zY.in_ [51] rfl ?_; refine zY.ofT rfl (zH.cuT (i := [1000]) (f := outRef_c L hL ht hp hx (by assumption)) (r0 := fun τ e g hj => ?_) (r1 := fun τ e g hj => ?_) (r2 := fun τ e g hj => ?_)))) | (refine zZ.is ?_; first | refine zZ.seq ?_ | (refine zZ.isR (id := 5) ?_; refine zZ.rc [0, 1, 2, 6, 7, 8, 9, 10, 11, 12, 13, 14, 15, 16, 21, 37, 44, 55, 67, 77] [1000] (r := (.v zJ (.v qC (.v zJ (.gY zJ (.gY qX (.v xA (.v zJ (.gY yL (.gY xO (.gY zU (.gY yV (.gY v52_0 (.v xA .e)))))))))))))) (h := ?_)) | (refine zZ.isR (id := 6) ?_; refine zZ.rc [0, 1, 2, 6, 7, 8, 9, 10, 11, 12, 13, 14, 15, 16, 21, 37, 44, 55, 67, 77] [1000] (r := (.v yL (.v zJ (.v zJ .e)))) (h := ?_)) | (refine zZ.isR (id := 7) ?_; refine zZ.rc [0, 1, 2, 6, 7, 8, 9, 10, 11, 12, 13, 14, 15, 16, 21, 37, 44, 55, 67, 77] [1000] (r := (.v zJ .e)) (h := ?_)) | (refine zZ.isR (id := 8) ?_; refine zZ.rc [0, 1, 2, 6, 7, 8, 9, 10, 11, 12, 13, 14, 15, 16, 21, 37, 44, 55, 67, 77] [1000] (r := (.v yL (.v zJ (.v zJ (.v zJ (.v zJ .e)))))) (h := ?_)) | (refine zZ.isR (id := 9) ?_; refine zZ.rc [0, 1, 2, 6, 7, 8, 9, 10, 11, 12, 13, 14, 15, 16, 21, 37, 44, 55, 67, 77] [1000] (r := (.v zJ (.v qX .e))) (h := ?_)) | (refine zZ.isR (id := 9) ?_; refine zZ.rc [0, 1, 2, 6, 7, 8, 9, 10, 11, 12, 13, 14, 15, 16, 21, 37, 44, 55, 67, 77] [1000] (r := (.v zJ (.v qD .e))) (h := ?_)) | (refine zZ.isR (id := 10) ?_; refine zZ.rc [0, 1, 2, 6, 7, 8, 9, 10, 11, 12, 13, 14, 15, 16, 21, 37, 44, 55, 67, 77] [1000] (r := (.v zC (.v zC (.v zC (.v zC .e))))) (h := ?_)) | (refine zZ.isR (id := 11) ?_; refine zZ.rc [0, 1, 2, 6, 7, 8, 9, 10, 11, 12, 13, 14, 15, 16, 21, 37, 44, 55, 67, 77] [1000] (r := (.v zJ (.v qX (.v zC .e)))) (h := ?_)) | (refine zZ.isR (id := 11) ?_; refine zZ.rc [0, 1, 2, 6, 7, 8, 9, 10, 11, 12, 13, 14, 15, 16, 21, 37, 44, 55, 67, 77] [1000] (r := (.v zJ (.v qD (.v zC .e)))) (h := ?_)) | (refine zZ.isR (id := 12) ?_; refine zZ.rc [0, 1, 2, 6, 7, 8, 9, 10, 11, 12, 13, 14, 15, 16, 21, 37, 44, 55, 67, 77] [1000] (r := (.v zJ .e)) (h := ?_)) | (refine zZ.isR (id := 13) ?_; refine zZ.rc [0, 1, 2, 6, 7, 8, 9, 10, 11, 12, 13, 14, 15, 16, 21, 37, 44, 55, 67, 77] [1000] (r := (.v yL (.v zJ (.v zJ .e)))) (h := ?_)) | (refine zZ.isR (id := 14) ?_; refine zZ.rc [0, 1, 2, 6, 7, 8, 9, 10, 11, 12, 13, 14, 15, 16, 21, 37, 44, 55, 67, 77] [1000] (r := (.v zJ (.v zJ (.v v46_8 .e)))) (h := ?_)) | (refine zZ.isR (id := 15) ?_; refine zZ.rc [0, 1, 2, 6, 7, 8, 9, 10, 11, 12, 13, 14, 15, 16, 21, 37, 44, 55, 67, 77] [1000] (r := (.v zJ (.v zJ (.v zJ (.v zJ (.v vZ (.v zC (.v zC (.v zC (.v zC .e)))))))))) (h := ?_)) | (refine zZ.isR (id := 16) ?_; refine zZ.rc [0, 1, 2, 6, 7, 8, 9, 10, 11, 12, 13, 14, 15, 16, 21, 37, 44, 55, 67, 77] [1000] (r := (.v zJ (.v zC .e))) (h := ?_)) | (refine zZ.isR (id := 17) ?_; refine zZ.rc [0, 1, 2, 6, 7, 8, 9, 10, 11, 12, 13, 14, 15, 16, 21, 37, 44, 55, 67, 77] [1000] (r := (.v zJ .e)) (h := ?_)) | refine zZ.yM rfl bA ?_ | refine zZ.yI rfl bA ?_ | refine zZ.cond rfl (fun h => ?_) (fun h => ?_) | refine zZ.skip ?_ | refine zZ.block ?_ | refine zZ.exit ?_ | refine zZ.ret ?_) | refine zG.n ?_ | refine zG.r ?_ | refine yZ.n ?_ | refine yZ.r ?_ | refine yZ.eY ?_ | refine zG.e ?_)
              all_goals try simp only [Bool.not_eq_true', Bool.not_eq_false'] at *
              · exact .ret (x := ⟨0, 0, false, false⟩) (.inl rfl) (.tup rfl (by decide) (.cons (.tmp rfl) (.cons (.tmp rfl) (.cons (.tmp rfl) (.cons (.tmp rfl) .nil))))) (by repeat' first | exact trivial | rfl | constructor) ⟨rf_0, rf_0, fun h => by cases h⟩ hj (show At L (vK t k) σ0 (.ret ⟨0, 0, false, false⟩) τ from ha2.vP (rel_took (by assumption) (by assumption) e) hj).ret
              · rename Int => w
                have hr : Rel L (yY t (xV t k) (some (p, y))) ω2 (.inl none) τ := rel_took (by assumption) (by assumption) e
                have hl := hr.less hL (wL (fun p x w h _ _ => qF t k p x w h) (some (p, y)) hw) ⟨_, _, rfl⟩ hti2 hs2
                refine ⟨((m2, true), (p, xX w), τ), ?_, ⟨ha2.vP hr hj, by dsimp only at *; omega, by dsimp only at *; omega, hp, wV _⟩, hl⟩
                refine yJ (is := [0, 1, 2, 6, 7, 8, 9, 10, 11, 12]) (js := [1000]) ?_ ?_
                repeat' first | exact zX.nil | apply zX.p rfl | apply zX.ptr rfl | apply zX.own rfl | apply zX.clo rfl | apply zX.ifp rfl | apply zX.pt rfl | apply zX.tup rfl | apply zX.skip
                repeat' first | exact zW.nil | apply zW.boxP rfl rfl | apply zW.y7 rfl | (apply zW.at0; exact zI rfl (H.nk _).1 (by repeat' fail)) | (apply zW.at1; exact zI rfl (H.nk _).2.1 (by repeat' fail)) | (apply zW.at2; exact zI rfl (H.nk _).2.2 (by repeat' fail)) | apply zW.some rfl | apply zW.skip
              · rename Int => w
                have hr : Rel L (yY t (xV t k) (some (p, y))) ω2 (endW p (xX w)) τ := rel_took (by assumption) (by assumption) e
                have hl := hr.less hL (wL (fun p x w h _ _ => qF t k p x w h) (some (p, y)) hw) ⟨_, _, rfl⟩ hti2 hs2
                refine ⟨((m2, false), (p, xX w), τ), ?_, ⟨by have h3 := ha2.vP hr hj; rw [vX] at h3; exact h3, by dsimp only at *; omega, by dsimp only at *; omega, hp, wV _⟩, hl⟩
                refine yJ (is := [0, 1, 2, 6, 7, 8, 9, 10, 11, 12]) (js := [1000]) ?_ ?_
                repeat' first | exact zX.nil | apply zX.p rfl | apply zX.ptr rfl | apply zX.own rfl | apply zX.clo rfl | apply zX.ifp rfl | apply zX.pt rfl | apply zX.tup rfl | apply zX.skip
                repeat' first | exact zW.nil | apply zW.boxP rfl rfl | apply zW.y7 rfl | (apply zW.at0; exact zI rfl (H.nk _).1 (by repeat' fail)) | (apply zW.at1; exact zI rfl (H.nk _).2.1 (by repeat' fail)) | (apply zW.at2; exact zI rfl (H.nk _).2.2 (by repeat' fail)) | apply zW.some rfl | apply zW.skip
              · rename_i w τ1 e1 g1 hj1 h1
                exact .ret (x := ⟨p, y, decide (x = k), true⟩) (.inl rfl) (.tup rfl (by decide) (.cons (.tmp rfl) (.cons (.tmp rfl) (.cons (.tmp rfl) (.cons (.tmp rfl) .nil))))) (by repeat' first | exact trivial | rfl | constructor) ⟨hp, hx, fun _ => hw.one⟩ hj (show At L (vK t k) σ0 (.ret ⟨p, y, decide (x = k), true⟩) τ from ha2.vP (rel_at (by assumption) (by assumption) (Rel.bind e (Rel.yes h (Rel.ret _)))) hj).ret
              · rename_i w τ1 e1 g1 hj1 h1
                have hr : Rel L (yY t (xV t k) (some (p, y))) ω2 (endW y (xX w)) τ := rel_at (by assumption) (by assumption) (Rel.bind e (Rel.no h (Rel.ret _)))
                have hl := hr.less hL (wL (fun p x w h _ _ => qF t k p x w h) (some (p, y)) hw) ⟨_, _, rfl⟩ hti2 hs2
                refine ⟨((m2, false), (y, xX w), τ), ?_, ⟨by have h3 := ha2.vP hr hj; rw [vX] at h3; exact h3, by dsimp only at *; omega, by dsimp only at *; omega, hx, wV _⟩, hl⟩
                refine yJ (is := [0, 1, 2, 6, 7, 8, 9, 10, 11, 12]) (js := [1000]) ?_ ?_
                repeat' first | exact zX.nil | apply zX.p rfl | apply zX.ptr rfl | apply zX.own rfl | apply zX.clo rfl | apply zX.ifp rfl | apply zX.pt rfl | apply zX.tup rfl | apply zX.skip
                repeat' first | exact zW.nil | apply zW.boxP rfl rfl | apply zW.y7 rfl | (apply zW.at0; exact zI rfl (H.nk _).1 (by repeat' fail)) | (apply zW.at1; exact zI rfl (H.nk _).2.1 (by repeat' fail)) | (apply zW.at2; exact zI rfl (H.nk _).2.2 (by repeat' fail)) | apply zW.some rfl | apply zW.skip
def sweepF0 (L : List yE) (t k : Int) (σ : CSt) : AS := { t := [(0, .ptr 1000 0), (1, .p (.val (.int .i64 t))), (2, .p (.val (.int .u64 k))), (6, .p (.val (.bool false)))], s := [(1000, curS L σ)] }
def sweepF (L : List yE) (t k p x : Int) (d : Bool) (σ : CSt) : AS := { t := [(0, .ptr 1000 0), (1, .p (.val (.int .i64 t))), (2, .p (.val (.int .u64 k))), (6, .p (.val (.bool false))), (7, .p (.val (.int .i64 p))), (8, .p (.val (.int .i64 x))), (9, .p (.val (.bool d)))], s := [(1000, curS L σ)] }
theorem sweepRef_c (L : List yE) (hL : wF L) {t k : Int} (ht : Small t) : FnC 37 [.p (.val (.int .i64 t)), .p (.val (.int .u64 k))] [] (fun r => .p (.val (.bool r))) (fun _ => []) yes L (sweepP t k) := by
  have F1 := fun (w : Int) (h : U w) => (Int.tmod_eq_emod_of_nonneg h.lo : w.tmod 2147483648 = w % 2147483648)
  have F2 := fun (w : Int) (h : U w) (he : decide (w % 2 = 1) = false) => (wrap_u64 (w + 1) (hw_succ h he) : IntKind.u64.wrap (w + 1) = w + 1)
  refine q8 Tryz.func37 rfl Tryz.ntmps37 (Nat.le_of_ble_eq_true rfl) (by decide) fun σ0 hi0 => ?_
  repeat' (first | (refine zY.nil ?_) | (refine zZ.is ?_; first | refine zZ.seq ?_ | (refine zZ.isR (id := 0) ?_; refine zZ.rc [0, 1, 2] [1000] (r := (.v zC .e)) (h := ?_)) | refine zZ.block ?_) | refine zG.n ?_)
  have hm0 := left_many hL (σ := σ0)
  refine zZ.loop (fun q : Nat × CSt => sweepF0 L t k q.2) (fun q => At L (sweepP t k) σ0 ((Pr.loop (yY t (xB t k)) q.1 none).bind (fun r => .ret r.ok)) q.2 ∧ wI L q.2 ≤ q.1) (fun q => wI L q.2) (many, σ0) ?h0 ⟨.refl hi0, hm0⟩ ?rd
  case h0 =>
    refine yJ (is := [0, 1, 2, 6]) (js := [1000]) ?_ ?_
    repeat' first | exact zX.nil | apply zX.p rfl | apply zX.ptr rfl | apply zX.own rfl | apply zX.clo rfl | apply zX.ifp rfl | apply zX.pt rfl | apply zX.tup rfl | apply zX.skip
    repeat' first | exact zW.nil | apply zW.boxP rfl rfl | apply zW.y7 rfl | (apply zW.at0; exact zI rfl (H.nk _).1 (by repeat' fail)) | (apply zW.at1; exact zI rfl (H.nk _).2.1 (by repeat' fail)) | (apply zW.at2; exact zI rfl (H.nk _).2.2 (by repeat' fail)) | apply zW.some rfl | apply zW.skip
  case rd =>
    rintro ⟨m, ω⟩ ⟨ha, hm⟩
    dsimp only at ha hm ⊢
    unfold sweepF0
    have hti := ha.i
    cases hs' : ω.stop
    case true =>
      have hst : (!ω.stop) = false := by rw [hs']; rfl
      repeat' (first | (refine zY.nil ?_) | (refine zZ.is ?_; first | refine zZ.seq ?_ | (refine zZ.isR (id := 1) ?_; refine zZ.rc [0, 1, 2, 6, 7, 8, 9, 10, 11, 12, 13, 14, 15, 16, 21, 37, 44, 55, 67, 85, 94, 103] [1000] (r := (.v yL (.v xO (.v zU (.v yV (.v v52_0 .e)))))) (h := ?_)) | (refine zZ.isR (id := 25) ?_; refine zZ.rc [6] [1000] (r := (.v zC .e)) (h := ?_)) | refine zZ.yI rfl bA ?_ | refine zZ.exit ?_ | refine zZ.ret ?_) | refine zG.n ?_ | refine yZ.eY ?_ | refine zG.e ?_)
      all_goals exact .ret (x := true) (.inl rfl) (.one rfl rfl) (by repeat' first | exact trivial | rfl | constructor) trivial ha.i (ha.halt hs' _)
    case false =>
      have hst : (!ω.stop) = true := by rw [hs']; rfl
      obtain ⟨m, rfl⟩ := q9 hm hs'
      repeat' (first | (refine zY.is ?_; first | refine zY.nil ?_ | (refine zY.at_ 8 rfl ?_; refine zY.rc (.v zC .e) ?_) | (refine zY.in_ [24] rfl ?_; refine zY.v rfl rfl (zO (refRef_fn _ (U.lo (by assumption)) (U.hi (by assumption))) rfl rfl rfl (by decide)) ?_) | (refine zY.in_ [23] rfl ?_; refine zY.ofT rfl (zH.cu (i := [1000]) (f := vF L hL _) (r := fun x τ e g hj => ?_)))) | (refine zZ.is ?_; first | refine zZ.seq ?_ | (refine zZ.isR (id := 1) ?_; refine zZ.rc [0, 1, 2, 6, 7, 8, 9, 10, 11, 12, 13, 14, 15, 16, 21, 37, 44, 55, 67, 85, 94, 103] [1000] (r := (.v yL (.v xO (.v zU (.v yV (.v v52_0 .e)))))) (h := ?_)) | (refine zZ.isR (id := 2) ?_; refine zZ.rc [0, 1, 2, 6, 7, 8, 9, 10, 11, 12, 13, 14, 15, 16, 21, 37, 44, 55, 67, 85, 94, 103] [1000] (r := (.v zC .e)) (h := ?_)) | (refine zZ.isR (id := 3) ?_; refine zZ.rc [0, 1, 2, 6, 7, 8, 9, 10, 11, 12, 13, 14, 15, 16, 21, 37, 44, 55, 67, 85, 94, 103] [1000] (r := (.v yL .e)) (h := ?_)) | (refine zZ.isR (id := 4) ?_; refine zZ.rc [0, 1, 2, 6, 7, 8, 9, 10, 11, 12, 13, 14, 15, 16, 21, 37, 44, 55, 67, 85, 94, 103] [1000] (r := (.v zC .e)) (h := ?_)) | refine zZ.yM rfl bA ?_ | refine zZ.skip ?_ | refine zZ.block ?_) | refine zG.n ?_)
      rename Int => h0
      rename CSt => τ0
      have hr0 : Rel L (yY t (xB t k) none) ω (endW 0 (xX h0)) τ0 := Rel.bind e (Rel.ret _)
      have hl0 := hr0.less hL (wL (fun p x w h hw hm => vU t k p x w h hw hm) none trivial) ⟨_, _, rfl⟩ hti hs'
      have ha0 := ha.vP hr0 hj
      rw [vX] at ha0
      refine zZ.loop (fun q : (Nat × Bool) × (Int × Int) × CSt => sweepF L t k q.2.1.1 q.2.1.2 q.1.2 q.2.2) (fun q => At L (sweepP t k) σ0 ((bif q.1.2 then Pr.loop (yY t (xB t k)) q.1.1 none else contL t (xB t k) q.1.1 q.2.1.1 q.2.1.2).bind (fun r => .ret r.ok)) q.2.2 ∧ wI L q.2.2 ≤ q.1.1 ∧ wI L q.2.2 < wI L ω ∧ Rf q.2.1.1 ∧ Rf q.2.1.2) (fun q => wI L q.2.2) ((m, false), (0, xX h0), τ0) ?h1 ⟨ha0, by dsimp only; omega, hl0, rf_0, wV _⟩ ?rd2
      case h1 =>
        refine yJ (is := [0, 1, 2, 6, 7, 8, 9]) (js := [1000]) ?_ ?_
        repeat' first | exact zX.nil | apply zX.p rfl | apply zX.ptr rfl | apply zX.own rfl | apply zX.clo rfl | apply zX.ifp rfl | apply zX.pt rfl | apply zX.tup rfl | apply zX.skip
        repeat' first | exact zW.nil | apply zW.boxP rfl rfl | apply zW.y7 rfl | (apply zW.at0; exact zI rfl (H.nk _).1 (by repeat' fail)) | (apply zW.at1; exact zI rfl (H.nk _).2.1 (by repeat' fail)) | (apply zW.at2; exact zI rfl (H.nk _).2.2 (by repeat' fail)) | apply zW.some rfl | apply zW.skip
      case rd2 =>
        clear ha ha0 hr0 e
        rintro ⟨⟨m2, d⟩, ⟨p, y⟩, ω2⟩ ⟨ha, hm2, hl2, hp, hx⟩
        dsimp only at ha hm2 hl2 hp hx ⊢
        unfold sweepF
        have hti2 := ha.i
        cases d
        case true =>
          cases hz : decide (y = 0)
          case true =>
            have hz' : (!decide (y = 0)) = false := by rw [hz]; rfl
            repeat' (first | (refine zY.nil ?_) | (refine zZ.is ?_; first | refine zZ.seq ?_ | (refine zZ.isR (id := 5) ?_; refine zZ.rc [0, 1, 2, 6, 7, 8, 9, 10, 11, 12, 13, 14, 15, 16, 21, 37, 44, 55, 67, 85, 94, 103] [1000] (r := (.v zJ (.v qC (.v zJ (.gT (.gT (.v xD (.v zJ (.gT (.gT (.gT (.gT (.gT (.v xD .e)))))))))))))) (h := ?_)) | (refine zZ.isR (id := 23) ?_; refine zZ.rc [0, 1, 2, 6, 7, 8, 9, 10, 11, 12, 13, 14, 15, 16, 21, 37, 44, 55, 67, 85, 94, 103] [1000] (r := (.v zJ (.v qD .e))) (h := ?_)) | refine zZ.yI rfl bA ?_ | refine zZ.skip ?_ | refine zZ.exit ?_) | refine zG.n ?_ | refine yZ.n ?_ | refine yZ.eY ?_ | refine zG.e ?_)
            refine ⟨(m2, ω2), ?_, ⟨ha, hm2⟩, hl2⟩
            refine yJ (is := [0, 1, 2, 6]) (js := [1000]) ?_ ?_
            repeat' first | exact zX.nil | apply zX.p rfl | apply zX.ptr rfl | apply zX.own rfl | apply zX.clo rfl | apply zX.ifp rfl | apply zX.pt rfl | apply zX.tup rfl | apply zX.skip
            repeat' first | exact zW.nil | apply zW.boxP rfl rfl | apply zW.y7 rfl | (apply zW.at0; exact zI rfl (H.nk _).1 (by repeat' fail)) | (apply zW.at1; exact zI rfl (H.nk _).2.1 (by repeat' fail)) | (apply zW.at2; exact zI rfl (H.nk _).2.2 (by repeat' fail)) | apply zW.some rfl | apply zW.skip
          case false =>
            have hz' : (!decide (y = 0)) = true := by rw [hz]; rfl
            repeat' (first | (refine zY.nil ?_) | (refine zZ.is ?_; first | refine zZ.seq ?_ | (refine zZ.isR (id := 5) ?_; refine zZ.rc [0, 1, 2, 6, 7, 8, 9, 10, 11, 12, 13, 14, 15, 16, 21, 37, 44, 55, 67, 85, 94, 103] [1000] (r := (.v zJ (.v qC (.v zJ (.gY zJ (.gY qD (.v xA (.v zJ (.gT (.gT (.gT (.gT (.gT (.v xD .e)))))))))))))) (h := ?_)) | (refine zZ.isR (id := 23) ?_; refine zZ.rc [0, 1, 2, 6, 7, 8, 9, 10, 11, 12, 13, 14, 15, 16, 21, 37, 44, 55, 67, 85, 94, 103] [1000] (r := (.v zJ (.v qD .e))) (h := ?_)) | refine zZ.yI rfl bA ?_ | refine zZ.skip ?_ | refine zZ.exit ?_) | refine zG.n ?_ | refine yZ.n ?_ | refine yZ.eY ?_ | refine zG.e ?_)
            refine ⟨(m2, ω2), ?_, ⟨ha, hm2⟩, hl2⟩
            refine yJ (is := [0, 1, 2, 6]) (js := [1000]) ?_ ?_
            repeat' first | exact zX.nil | apply zX.p rfl | apply zX.ptr rfl | apply zX.own rfl | apply zX.clo rfl | apply zX.ifp rfl | apply zX.pt rfl | apply zX.tup rfl | apply zX.skip
            repeat' first | exact zW.nil | apply zW.boxP rfl rfl | apply zW.y7 rfl | (apply zW.at0; exact zI rfl (H.nk _).1 (by repeat' fail)) | (apply zW.at1; exact zI rfl (H.nk _).2.1 (by repeat' fail)) | (apply zW.at2; exact zI rfl (H.nk _).2.2 (by repeat' fail)) | apply zW.some rfl | apply zW.skip
        case false =>
          cases hz : decide (y = 0)
          case true =>
            obtain rfl : y = 0 := of_decide_eq_true hz
            have hz' : (!decide ((0 : Int) = 0)) = false := rfl
            repeat' (first | (refine zY.nil ?_) | (refine zZ.is ?_; first | refine zZ.seq ?_ | (refine zZ.isR (id := 5) ?_; refine zZ.rc [0, 1, 2, 6, 7, 8, 9, 10, 11, 12, 13, 14, 15, 16, 21, 37, 44, 55, 67, 85, 94, 103] [1000] (r := (.v zJ (.v qC (.v zJ (.gT (.gT (.v xD (.v zJ (.gT (.gT (.gT (.gT (.gT (.v xD .e)))))))))))))) (h := ?_)) | (refine zZ.isR (id := 23) ?_; refine zZ.rc [0, 1, 2, 6, 7, 8, 9, 10, 11, 12, 13, 14, 15, 16, 21, 37, 44, 55, 67, 85, 94, 103] [1000] (r := (.v zJ (.v qX .e))) (h := ?_)) | (refine zZ.isR (id := 24) ?_; refine zZ.rc [0, 1, 2, 6, 7, 8, 9, 10, 11, 12, 13, 14, 15, 16, 21, 37, 44, 55, 67, 85, 94, 103] [1000] (r := (.v zC .e)) (h := ?_)) | refine zZ.yM rfl bA ?_ | refine zZ.yI rfl bA ?_ | refine zZ.exit ?_ | refine zZ.ret ?_) | refine zG.n ?_ | refine zG.r ?_ | refine yZ.r ?_ | refine yZ.eY ?_ | refine zG.e ?_)
            all_goals exact .ret (x := true) (.inl rfl) (.one rfl rfl) (by repeat' first | exact trivial | rfl | constructor) trivial hti2 (show At L (sweepP t k) σ0 (.ret true) ω2 from ha).ret
          case false =>
            have hz' : (!decide (y = 0)) = true := by rw [hz]; rfl
            cases hs2 : ω2.stop
            case true =>
              have hst2 : (!ω2.stop) = false := by rw [hs2]; rfl
              repeat' (first | (refine zY.nil ?_) | (refine zZ.is ?_; first | refine zZ.seq ?_ | (refine zZ.isR (id := 5) ?_; refine zZ.rc [0, 1, 2, 6, 7, 8, 9, 10, 11, 12, 13, 14, 15, 16, 21, 37, 44, 55, 67, 85, 94, 103] [1000] (r := (.v zJ (.v qC (.v zJ (.gY zJ (.gY qX (.v xA (.v zJ (.gY yL (.gY xO (.gY zU (.gY yV (.gY v52_0 (.v xA .e)))))))))))))) (h := ?_)) | (refine zZ.isR (id := 23) ?_; refine zZ.rc [0, 1, 2, 6, 7, 8, 9, 10, 11, 12, 13, 14, 15, 16, 21, 37, 44, 55, 67, 85, 94, 103] [1000] (r := (.v zJ (.v qX .e))) (h := ?_)) | (refine zZ.isR (id := 24) ?_; refine zZ.rc [0, 1, 2, 6, 7, 8, 9, 10, 11, 12, 13, 14, 15, 16, 21, 37, 44, 55, 67, 85, 94, 103] [1000] (r := (.v zC .e)) (h := ?_)) | refine zZ.yM rfl bA ?_ | refine zZ.yI rfl bA ?_ | refine zZ.exit ?_ | refine zZ.ret ?_) | refine zG.n ?_ | refine zG.r ?_ | refine yZ.r ?_ | refine yZ.eY ?_ | refine zG.e ?_)
              all_goals exact .ret (x := true) (.inl rfl) (.one rfl rfl) (by repeat' first | exact trivial | rfl | constructor) trivial hti2 (ha.halt hs2 _)
            case false =>
              have hst2 : (!ω2.stop) = true := by rw [hs2]; rfl
              obtain ⟨m2, rfl⟩ := q9 hm2 hs2
              have ha2 : At L (sweepP t k) σ0 ((Pr.loop (yY t (xB t k)) (m2 + 1) (some (p, y))).bind (fun r => .ret r.ok)) ω2 := by
                have h3 := ha
                unfold contL at h3
                rw [hz] at h3
                exact h3
              have hw : WOK p y := ⟨hp, hx, hz⟩
              have hxr := hx.rc ht
              clear ha
              repeat' (first | (refine zY.is ?_; first | refine zY.nil ?_ | (refine zY.at_ 10 rfl ?_; refine zY.rc (.v zC .e) ?_) | (refine zY.at_ 13 rfl ?_; refine zY.rc (.v zC .e) ?_) | (refine zY.at_ 14 rfl ?_; refine zY.rc (.v zC .e) ?_) | (refine zY.at_ 15 rfl ?_; refine zY.rc (.v zC .e) ?_) | (refine zY.at_ 16 rfl ?_; refine zY.rc (.v zC .e) ?_) | (refine zY.at_ 45 rfl ?_; refine zY.rc (.v v0_4 (.v y9 (.v y9 (.v zC (.v zC .e))))) ?_) | (refine zY.at_ 8 rfl ?_; refine zY.rc (.v zC .e) ?_) | (refine zY.at_ 82 rfl ?_; refine zY.rc (.gY zJ (.gY zJ (.gY vZ (.v xD .e)))) ?_) | (refine zY.at_ 82 rfl ?_; refine zY.rc (.gF (.gF (.gF (.v xA .e)))) ?_) | (refine zY.at_ 90 rfl ?_; refine zY.rc (.v zJ (.v zJ (.v v30_2 .e))) ?_) | (refine zY.in_ [44] rfl ?_; refine zY.v rfl rfl (zO (markRef_fn _ (U.lo (by assumption))) rfl rfl rfl (by decide)) ?_) | (refine zY.in_ [59, 101] rfl ?_; refine zY.v rfl rfl (zO (refRef_fn _ (U.lo (by assumption)) (U.hi (by assumption))) rfl rfl rfl (by decide)) ?_) | (refine zY.in_ [41, 63, 71, 76, 89] rfl ?_; refine zY.v rfl rfl (zO (fieldC hxr _ (by decide)) rfl rfl rfl (by decide)) ?_) | (refine zY.in_ [42, 64, 72, 77] rfl ?_; refine zY.ofT rfl (zH.cu (i := [1000]) (f := vF L hL _) (r := fun x τ e g hj => ?_))) | (refine zY.in_ [93] rfl ?_; refine zY.ofT rfl (zH.cu (i := [1000]) (f := ccas_c L hL _ _ _) (r := fun x τ e g hj => ?_))) | (refine zY.in_ [98] rfl ?_; refine zY.ofT rfl (zH.cu (i := [1000]) (f := setRef_c L hL hxr (.inr rfl)) (r := fun x τ e g hj => ?_))) | (refine zY.in_ [51] rfl ?_; refine zY.ofT rfl (zH.cuT (i := [1000]) (f := outRef_c L hL ht hp hx (by assumption)) (r0 := fun τ e g hj => ?_) (r1 := fun τ e g hj => ?_) (r2 := fun τ e g hj => ?_))) | (fail_if_success refine zY.known rfl rfl rfl (by fail) ?_); refine zY.split rfl rfl rfl (fun h => ?_) (fun h => ?_)) | (refine zZ.is ?_; first | refine zZ.seq ?_ | (refine zZ.isR (id := 5) ?_; refine zZ.rc [0, 1, 2, 6, 7, 8, 9, 10, 11, 12, 13, 14, 15, 16, 21, 37, 44, 55, 67, 85, 94, 103] [1000] (r := (.v zJ (.v qC (.v zJ (.gY zJ (.gY qX (.v xA (.v zJ (.gY yL (.gY xO (.gY zU (.gY yV (.gY v52_0 (.v xA .e)))))))))))))) (h := ?_)) | (refine zZ.isR (id := 6) ?_; refine zZ.rc [0, 1, 2, 6, 7, 8, 9, 10, 11, 12, 13, 14, 15, 16, 21, 37, 44, 55, 67, 85, 94, 103] [1000] (r := (.v yL (.v zJ (.v zJ .e)))) (h := ?_)) | (refine zZ.isR (id := 7) ?_; refine zZ.rc [0, 1, 2, 6, 7, 8, 9, 10, 11, 12, 13, 14, 15, 16, 21, 37, 44, 55, 67, 85, 94, 103] [1000] (r := (.v zJ .e)) (h := ?_)) | (refine zZ.isR (id := 8) ?_; refine zZ.rc [0, 1, 2, 6, 7, 8, 9, 10, 11, 12, 13, 14, 15, 16, 21, 37, 44, 55, 67, 85, 94, 103] [1000] (r := (.v yL (.v zJ (.v zJ (.v zJ (.v zJ .e)))))) (h := ?_)) | (refine zZ.isR (id := 9) ?_; refine zZ.rc [0, 1, 2, 6, 7, 8, 9, 10, 11, 12, 13, 14, 15, 16, 21, 37, 44, 55, 67, 85, 94, 103] [1000] (r := (.v zJ (.v qX .e))) (h := ?_)) | (refine zZ.isR (id := 9) ?_; refine zZ.rc [0, 1, 2, 6, 7, 8, 9, 10, 11, 12, 13, 14, 15, 16, 21, 37, 44, 55, 67, 85, 94, 103] [1000] (r := (.v zJ (.v qD .e))) (h := ?_)) | (refine zZ.isR (id := 10) ?_; refine zZ.rc [0, 1, 2, 6, 7, 8, 9, 10, 11, 12, 13, 14, 15, 16, 21, 37, 44, 55, 67, 85, 94, 103] [1000] (r := (.v zC .e)) (h := ?_)) | (refine zZ.isR (id := 11) ?_; refine zZ.rc [0, 1, 2, 6, 7, 8, 9, 10, 11, 12, 13, 14, 15, 16, 21, 37, 44, 55, 67, 85, 94, 103] [1000] (r := (.v zJ (.v qX (.v zC .e)))) (h := ?_)) | (refine zZ.isR (id := 11) ?_; refine zZ.rc [0, 1, 2, 6, 7, 8, 9, 10, 11, 12, 13, 14, 15, 16, 21, 37, 44, 55, 67, 85, 94, 103] [1000] (r := (.v zJ (.v qD (.v zC .e)))) (h := ?_)) | (refine zZ.isR (id := 12) ?_; refine zZ.rc [0, 1, 2, 6, 7, 8, 9, 10, 11, 12, 13, 14, 15, 16, 21, 37, 44, 55, 67, 85, 94, 103] [1000] (r := (.v zJ .e)) (h := ?_)) | (refine zZ.isR (id := 13) ?_; refine zZ.rc [0, 1, 2, 6, 7, 8, 9, 10, 11, 12, 13, 14, 15, 16, 21, 37, 44, 55, 67, 85, 94, 103] [1000] (r := (.v yL (.v zJ (.v zJ .e)))) (h := ?_)) | (refine zZ.isR (id := 14) ?_; refine zZ.rc [0, 1, 2, 6, 7, 8, 9, 10, 11, 12, 13, 14, 15, 16, 21, 37, 44, 55, 67, 85, 94, 103] [1000] (r := (.v zJ (.v v34_1 (.v v42_8 .e)))) (h := ?_)) | (refine zZ.isR (id := 15) ?_; refine zZ.rc [0, 1, 2, 6, 7, 8, 9, 10, 11, 12, 13, 14, 15, 16, 21, 37, 44, 55, 67, 85, 94, 103] [1000] (r := (.v yL (.v zJ (.v zJ .e)))) (h := ?_)) | (refine zZ.isR (id := 16) ?_; refine zZ.rc [0, 1, 2, 6, 7, 8, 9, 10, 11, 12, 13, 14, 15, 16, 21, 37, 44, 55, 67, 85, 94, 103] [1000] (r := (.v yL (.v zJ (.v zJ .e)))) (h := ?_)) | (refine zZ.isR (id := 17) ?_; refine zZ.rc [0, 1, 2, 6, 7, 8, 9, 10, 11, 12, 13, 14, 15, 16, 21, 37, 44, 55, 67, 85, 94, 103] [1000] (r := (.v zJ (.v zJ (.v vZ (.v zJ .e))))) (h := ?_)) | (refine zZ.isR (id := 18) ?_; refine zZ.rc [0, 1, 2, 6, 7, 8, 9, 10, 11, 12, 13, 14, 15, 16, 21, 37, 44, 55, 67, 85, 94, 103] [1000] (r := (.v yL (.v zJ (.v zJ .e)))) (h := ?_)) | (refine zZ.isR (id := 19) ?_; refine zZ.rc [0, 1, 2, 6, 7, 8, 9, 10, 11, 12, 13, 14, 15, 16, 21, 37, 44, 55, 67, 85, 94, 103] [1000] (r := (.v zJ .e)) (h := ?_)) | (refine zZ.isR (id := 20) ?_; refine zZ.rc [0, 1, 2, 6, 7, 8, 9, 10, 11, 12, 13, 14, 15, 16, 21, 37, 44, 55, 67, 85, 94, 103] [1000] (r := (.v yL (.v zJ (.v zJ .e)))) (h := ?_)) | (refine zZ.isR (id := 21) ?_; refine zZ.rc [0, 1, 2, 6, 7, 8, 9, 10, 11, 12, 13, 14, 15, 16, 21, 37, 44, 55, 67, 85, 94, 103] [1000] (r := (.v zJ (.v zC .e))) (h := ?_)) | (refine zZ.isR (id := 22) ?_; refine zZ.rc [0, 1, 2, 6, 7, 8, 9, 10, 11, 12, 13, 14, 15, 16, 21, 37, 44, 55, 67, 85, 94, 103] [1000] (r := (.v zJ .e)) (h := ?_)) | refine zZ.yM rfl bA ?_ | refine zZ.yI rfl bA ?_ | refine zZ.cond rfl (fun h => ?_) (fun h => ?_) | refine zZ.skip ?_ | refine zZ.block ?_ | refine zZ.exit ?_ | refine zZ.ret ?_) | refine zG.n ?_ | refine zG.r ?_ | refine yZ.n ?_ | refine yZ.r ?_ | refine yZ.eY ?_ | refine zG.e ?_)
              all_goals try simp only [Bool.not_eq_true', Bool.not_eq_false'] at *
              · exact .ret (x := false) (.inl rfl) (.one rfl rfl) (by repeat' first | exact trivial | rfl | constructor) trivial hj (show At L (sweepP t k) σ0 (.ret false) τ from ha2.vP (rel_took (by assumption) (by assumption) e) hj).ret
              · rename Int => w
                have hr : Rel L (yY t (xB t k) (some (p, y))) ω2 (.inl none) τ := rel_took (by assumption) (by assumption) e
                have hl := hr.less hL (wL (fun p x w h hw hm => vU t k p x w h hw hm) (some (p, y)) hw) ⟨_, _, rfl⟩ hti2 hs2
                refine ⟨((m2, true), (p, xX w), τ), ?_, ⟨ha2.vP hr hj, by dsimp only at *; omega, by dsimp only at *; omega, hp, wV _⟩, hl⟩
                refine yJ (is := [0, 1, 2, 6, 7, 8, 9]) (js := [1000]) ?_ ?_
                repeat' first | exact zX.nil | apply zX.p rfl | apply zX.ptr rfl | apply zX.own rfl | apply zX.clo rfl | apply zX.ifp rfl | apply zX.pt rfl | apply zX.tup rfl | apply zX.skip
                repeat' first | exact zW.nil | apply zW.boxP rfl rfl | apply zW.y7 rfl | (apply zW.at0; exact zI rfl (H.nk _).1 (by repeat' fail)) | (apply zW.at1; exact zI rfl (H.nk _).2.1 (by repeat' fail)) | (apply zW.at2; exact zI rfl (H.nk _).2.2 (by repeat' fail)) | apply zW.some rfl | apply zW.skip
              · rename Int => w
                have hr : Rel L (yY t (xB t k) (some (p, y))) ω2 (endW p (xX w)) τ := rel_took (by assumption) (by assumption) e
                have hl := hr.less hL (wL (fun p x w h hw hm => vU t k p x w h hw hm) (some (p, y)) hw) ⟨_, _, rfl⟩ hti2 hs2
                refine ⟨((m2, false), (p, xX w), τ), ?_, ⟨by have h3 := ha2.vP hr hj; rw [vX] at h3; exact h3, by dsimp only at *; omega, by dsimp only at *; omega, hp, wV _⟩, hl⟩
                refine yJ (is := [0, 1, 2, 6, 7, 8, 9]) (js := [1000]) ?_ ?_
                repeat' first | exact zX.nil | apply zX.p rfl | apply zX.ptr rfl | apply zX.own rfl | apply zX.clo rfl | apply zX.ifp rfl | apply zX.pt rfl | apply zX.tup rfl | apply zX.skip
                repeat' first | exact zW.nil | apply zW.boxP rfl rfl | apply zW.y7 rfl | (apply zW.at0; exact zI rfl (H.nk _).1 (by repeat' fail)) | (apply zW.at1; exact zI rfl (H.nk _).2.1 (by repeat' fail)) | (apply zW.at2; exact zI rfl (H.nk _).2.2 (by repeat' fail)) | apply zW.some rfl | apply zW.skip
              all_goals first | (have hcas : ∃ a b σ1 d τ1, Rel L (casP (yC t y 0) a b) σ1 d τ1 := ⟨_, _, _, _, _, by assumption⟩; have hr : Rel L (yY t (xB t k) (some (p, y))) ω2 (.inl (some (p, y))) τ := (by refine rel_at (by assumption) (by assumption) (Rel.bind (x := true) ?_ (Rel.ret _)); unfold sweepIn setMark; rw [nextF_pos t hz]; (repeat' (first | exact Rel.ret _ | refine Rel.bind (by assumption) ?_ | refine Rel.yes (by assumption) ?_ | refine Rel.no (by assumption) ?_ | refine Rel.no (and_no1 (by assumption)) ?_ | refine Rel.no (and_no2 (by assumption)) ?_))); have hl := hr.less hL (wL (fun p x w h hw hm => vU t k p x w h hw hm) (some (p, y)) hw) ⟨_, _, rfl⟩ hti2 hs2; refine ⟨((m2, false), (p, y), τ), ?_, ⟨by have h3 := ha2.vP hr hj; unfold contL; rw [hz]; exact h3, by dsimp only at *; omega, by dsimp only at *; omega, hp, hx⟩, hl⟩; refine yJ (is := [0, 1, 2, 6, 7, 8, 9]) (js := [1000]) ?_ ?_; (repeat' first | exact zX.nil | apply zX.p rfl | apply zX.ptr rfl); (repeat' first | exact zW.nil | apply zW.some rfl)) | skip
              · rename_i w τ1 e1 g1 hj1 h1 kk τ2 e2 g2 hj2 h2 su τ3 e3 g3 hj3 h3
                have hr : Rel L (yY t (xB t k) (some (p, y))) ω2 (endW y (xX w)) τ := by
                  refine rel_at (by assumption) (by assumption) (Rel.bind (x := false) ?_ (Rel.ret _))
                  unfold sweepIn setMark
                  repeat' (first | exact Rel.ret _ | refine Rel.bind (by assumption) ?_ | refine Rel.no (by assumption) ?_ | refine Rel.yes (and_yes (by assumption) (by assumption)) ?_)
                have hl := hr.less hL (wL (fun p x w h hw hm => vU t k p x w h hw hm) (some (p, y)) hw) ⟨_, _, rfl⟩ hti2 hs2
                refine ⟨((m2, false), (y, xX w), τ), ?_, ⟨by have h3 := ha2.vP hr hj; rw [vX] at h3; exact h3, by dsimp only at *; omega, by dsimp only at *; omega, hx, wV _⟩, hl⟩
                refine yJ (is := [0, 1, 2, 6, 7, 8, 9]) (js := [1000]) ?_ ?_
                repeat' first | exact zX.nil | apply zX.p rfl | apply zX.ptr rfl | apply zX.own rfl | apply zX.clo rfl | apply zX.ifp rfl | apply zX.pt rfl | apply zX.tup rfl | apply zX.skip
                repeat' first | exact zW.nil | apply zW.boxP rfl rfl | apply zW.y7 rfl | (apply zW.at0; exact zI rfl (H.nk _).1 (by repeat' fail)) | (apply zW.at1; exact zI rfl (H.nk _).2.1 (by repeat' fail)) | (apply zW.at2; exact zI rfl (H.nk _).2.2 (by repeat' fail)) | apply zW.some rfl | apply zW.skip
              · rename_i w τ1 e1 g1 hj1 h1
                have hr : Rel L (yY t (xB t k) (some (p, y))) ω2 (endW y (xX w)) τ := by
                  refine rel_at (by assumption) (by assumption) (Rel.bind (x := false) ?_ (Rel.ret _))
                  unfold sweepIn setMark
                  repeat' (first | exact Rel.ret _ | refine Rel.bind (by assumption) ?_ | refine Rel.yes (by assumption) ?_)
                have hl := hr.less hL (wL (fun p x w h hw hm => vU t k p x w h hw hm) (some (p, y)) hw) ⟨_, _, rfl⟩ hti2 hs2
                refine ⟨((m2, false), (y, xX w), τ), ?_, ⟨by have h3 := ha2.vP hr hj; rw [vX] at h3; exact h3, by dsimp only at *; omega, by dsimp only at *; omega, hx, wV _⟩, hl⟩
                refine yJ (is := [0, 1, 2, 6, 7, 8, 9]) (js := [1000]) ?_ ?_
                repeat' first | exact zX.nil | apply zX.p rfl | apply zX.ptr rfl | apply zX.own rfl | apply zX.clo rfl | apply zX.ifp rfl | apply zX.pt rfl | apply zX.tup rfl | apply zX.skip
                repeat' first | exact zW.nil | apply zW.boxP rfl rfl | apply zW.y7 rfl | (apply zW.at0; exact zI rfl (H.nk _).1 (by repeat' fail)) | (apply zW.at1; exact zI rfl (H.nk _).2.1 (by repeat' fail)) | (apply zW.at2; exact zI rfl (H.nk _).2.2 (by repeat' fail)) | apply zW.some rfl | apply zW.skip
end Go.Proofs.YtohlllohmoojiaaGreatDoor
/- What a list's operation asks next, of a log: the document's: contracts. -/
namespace Go.Proofs.YtohlllohmoojiaaGreatDoor
set_option maxRecDepth 100000
set_option maxHeartbeats 16000000
open Go Go.RowKit
set_option linter.unusedSimpArgs false
set_option linter.unusedVariables false
attribute [local irreducible] zY zZ Step zK Sub zS zH Fn zG yZ
def seekF (L : List yE) (t k x : Int) (σ : CSt) : AS := { t := [(0, .ptr 1000 0), (1, .p (.val (.int .i64 t))), (3, .p (.val (.int .u64 k))), (8, .p (.val (.int .i64 0))), (9, .p (.val (.bool false))), (10, .p (.val (.int .i64 x)))], s := [(1000, curS L σ)] }
theorem seekRef_c (L : List yE) (hL : wF L) {t f k : Int} (ht : Small t) (hf : Rf f) : FnC 34 [.p (.val (.int .i64 t)), .p (.val (.int .i64 f)), .p (.val (.int .u64 k))] [] (fun r => .tup ([.val (.int .i64 r.1), .val (.bool r.2)].map .p)) (fun _ => []) SFound L (seekP t f k) := by
  have cn := cnextRef_fn t f ht hf.le
  refine q8 Tryz.func34 rfl Tryz.ntmps34 (Nat.le_of_ble_eq_true rfl) (by decide) fun σ0 hi0 => ?_
  repeat' (first | (refine zY.is ?_; first | refine zY.nil ?_ | (refine zY.at_ 10 rfl ?_; refine zY.rc (.v zC .e) ?_) | (refine zY.in_ [15] rfl ?_; refine zY.v rfl rfl (zO (cn) rfl rfl rfl (by decide)) ?_) | (refine zY.in_ [17] rfl ?_; refine zY.v rfl rfl (zO (refRef_fn _ (U.lo (by assumption)) (U.hi (by assumption))) rfl rfl rfl (by decide)) ?_) | (refine zY.in_ [16] rfl ?_; refine zY.ofT rfl (zH.cu (i := [1000]) (f := vF L hL _) (r := fun x τ e g hj => ?_)))) | (refine zZ.is ?_; first | refine zZ.seq ?_ | (refine zZ.isR (id := 0) ?_; refine zZ.rc [0, 1, 2, 3] [1000] (r := (.v zC (.v zC .e))) (h := ?_)) | (refine zZ.isR (id := 1) ?_; refine zZ.rc [0, 1, 2, 3, 8, 9] [1000] (r := (.v yL (.v zJ (.v zJ .e)))) (h := ?_)) | refine zZ.block ?_) | refine zG.n ?_)
  rename Int => w0
  rename CSt => τ0
  have h0 : At L (seekP t f k) σ0 (contS t k many (xX w0)) τ0 := (At.refl hi0).step e hj
  have hm0 := left_many hL (σ := τ0)
  refine zZ.loop (fun q : Nat × Int × CSt => seekF L t k q.2.1 q.2.2) (fun q => At L (seekP t f k) σ0 (contS t k q.1 q.2.1) q.2.2 ∧ wI L q.2.2 ≤ q.1 ∧ Rf q.2.1) (fun q => wI L q.2.2) (many, xX w0, τ0) ?h0 ⟨h0, hm0, wV _⟩ ?rd
  case h0 =>
    refine yJ (is := [0, 1, 3, 8, 9, 10]) (js := [1000]) ?_ ?_
    repeat' first | exact zX.nil | apply zX.p rfl | apply zX.ptr rfl | apply zX.own rfl | apply zX.clo rfl | apply zX.ifp rfl | apply zX.pt rfl | apply zX.tup rfl | apply zX.skip
    repeat' first | exact zW.nil | apply zW.boxP rfl rfl | apply zW.y7 rfl | (apply zW.at0; exact zI rfl (H.nk _).1 (by repeat' fail)) | (apply zW.at1; exact zI rfl (H.nk _).2.1 (by repeat' fail)) | (apply zW.at2; exact zI rfl (H.nk _).2.2 (by repeat' fail)) | apply zW.some rfl | apply zW.skip
  case rd =>
    clear h0 e
    rintro ⟨m, y, ω⟩ ⟨ha, hm, hx⟩
    dsimp only at ha hm hx ⊢
    unfold seekF
    have hti := ha.i
    cases hz : decide (y = 0)
    case true =>
      obtain rfl : y = 0 := of_decide_eq_true hz
      have hz' : (!decide ((0 : Int) = 0)) = false := rfl
      repeat' (first | (refine zY.nil ?_) | (refine zZ.is ?_; first | refine zZ.seq ?_ | (refine zZ.isR (id := 2) ?_; refine zZ.rc [0, 1, 3, 8, 9, 10, 11, 26, 34] [1000] (r := (.v zJ (.v qC (.v zJ (.gT (.gT (.gT (.gT (.gT (.v xD .e)))))))))) (h := ?_)) | (refine zZ.isR (id := 7) ?_; refine zZ.rc [8, 9] [1000] (r := (.v zC (.v zC .e))) (h := ?_)) | refine zZ.yI rfl bA ?_ | refine zZ.exit ?_ | refine zZ.ret ?_) | refine zG.n ?_ | refine yZ.eY ?_ | refine zG.e ?_)
      all_goals exact .ret (x := (0, false)) (.inl rfl) (.tup rfl (by decide) (.cons (.tmp rfl) (.cons (.tmp rfl) .nil))) (by repeat' first | exact trivial | rfl | constructor) ⟨rf_0, fun h => by cases h⟩ hti (show At L (seekP t f k) σ0 (.ret (0, false)) ω from ha).ret
    case false =>
      have hz' : (!decide (y = 0)) = true := by rw [hz]; rfl
      cases hs : ω.stop
      case true =>
        have hst : (!ω.stop) = false := by rw [hs]; rfl
        repeat' (first | (refine zY.nil ?_) | (refine zZ.is ?_; first | refine zZ.seq ?_ | (refine zZ.isR (id := 2) ?_; refine zZ.rc [0, 1, 3, 8, 9, 10, 11, 26, 34] [1000] (r := (.v zJ (.v qC (.v zJ (.gY yL (.gY xO (.gY zU (.gY yV (.gY v52_0 (.v xA .e)))))))))) (h := ?_)) | (refine zZ.isR (id := 7) ?_; refine zZ.rc [8, 9] [1000] (r := (.v zC (.v zC .e))) (h := ?_)) | refine zZ.yI rfl bA ?_ | refine zZ.exit ?_ | refine zZ.ret ?_) | refine zG.n ?_ | refine yZ.eY ?_ | refine zG.e ?_)
        all_goals exact .ret (x := (0, false)) (.inl rfl) (.tup rfl (by decide) (.cons (.tmp rfl) (.cons (.tmp rfl) .nil))) (by repeat' first | exact trivial | rfl | constructor) ⟨rf_0, fun h => by cases h⟩ hti (ha.halt hs _)
      case false =>
        have hst : (!ω.stop) = true := by rw [hs]; rfl
        obtain ⟨m, rfl⟩ := q9 hm hs
        have ha2 : At L (seekP t f k) σ0 (.loop (vY t k) (m + 1) y) ω := by
          have h3 := ha
          unfold contS at h3
          rw [hz] at h3
          exact h3
        have hw : SOK y := ⟨hx, hz⟩
        have hxr := hx.rc ht
        clear ha
        repeat' (first | (refine zY.is ?_; first | refine zY.nil ?_ | (refine zY.at_ 10 rfl ?_; refine zY.rc (.v zC .e) ?_) | (refine zY.at_ 11 rfl ?_; refine zY.rc (.v zC .e) ?_) | (refine zY.in_ [44] rfl ?_; refine zY.v rfl rfl (zO (refRef_fn _ (U.lo (by assumption)) (U.hi (by assumption))) rfl rfl rfl (by decide)) ?_) | (refine zY.in_ [30, 42] rfl ?_; refine zY.v rfl rfl (zO (fieldC hxr _ (by decide)) rfl rfl rfl (by decide)) ?_) | (refine zY.in_ [31, 43] rfl ?_; refine zY.ofT rfl (zH.cu (i := [1000]) (f := vF L hL _) (r := fun x τ e g hj => ?_)))) | (refine zZ.is ?_; first | refine zZ.seq ?_ | (refine zZ.isR (id := 2) ?_; refine zZ.rc [0, 1, 3, 8, 9, 10, 11, 26, 34] [1000] (r := (.v zJ (.v qC (.v zJ (.gY yL (.gY xO (.gY zU (.gY yV (.gY v52_0 (.v xA .e)))))))))) (h := ?_)) | (refine zZ.isR (id := 3) ?_; refine zZ.rc [0, 1, 3, 8, 9, 10, 11, 26, 34] [1000] (r := (.v yL (.v zJ (.v zJ .e)))) (h := ?_)) | (refine zZ.isR (id := 4) ?_; refine zZ.rc [0, 1, 3, 8, 9, 10, 11, 26, 34] [1000] (r := (.v zJ (.v zJ (.v v46_8 .e)))) (h := ?_)) | (refine zZ.isR (id := 5) ?_; refine zZ.rc [0, 1, 3, 8, 9, 10, 11, 26, 34] [1000] (r := (.v zJ (.v zJ (.v zJ (.v vZ (.v zC (.v zC .e))))))) (h := ?_)) | (refine zZ.isR (id := 6) ?_; refine zZ.rc [0, 1, 3, 8, 9, 10, 11, 26, 34] [1000] (r := (.v yL (.v zJ (.v zJ .e)))) (h := ?_)) | refine zZ.yM rfl bA ?_ | refine zZ.cond rfl (fun h => ?_) (fun h => ?_) | refine zZ.skip ?_ | refine zZ.block ?_ | refine zZ.ret ?_) | refine zG.n ?_ | refine zG.r ?_ | refine yZ.n ?_ | refine yZ.r ?_)
        · exact .ret (x := (y, decide (x = k))) (.inl rfl) (.tup rfl (by decide) (.cons (.tmp rfl) (.cons (.tmp rfl) .nil))) (by repeat' first | exact trivial | rfl | constructor) ⟨hx, fun _ => hw.one⟩ hj (show At L (seekP t f k) σ0 (.ret (y, decide (x = k))) τ from ha2.round (Rel.bind e (Rel.yes h (Rel.ret _))) hj).ret
        · have hr : Rel L (vY t k y) ω (endS (xX x)) τ := Rel.bind (by assumption) (Rel.no (by assumption) (Rel.bind e (Rel.ret _)))
          have hl := hr.less hL (fine_seekR t k y hw) ⟨_, _, rfl⟩ hti hs
          refine ⟨(m, xX x, τ), ?_, ⟨by have h3 := ha2.round hr hj; rw [contS_eq] at h3; exact h3, by dsimp only at *; omega, wV _⟩, hl⟩
          refine yJ (is := [0, 1, 3, 8, 9, 10]) (js := [1000]) ?_ ?_
          repeat' first | exact zX.nil | apply zX.p rfl | apply zX.ptr rfl | apply zX.own rfl | apply zX.clo rfl | apply zX.ifp rfl | apply zX.pt rfl | apply zX.tup rfl | apply zX.skip
          repeat' first | exact zW.nil | apply zW.boxP rfl rfl | apply zW.y7 rfl | (apply zW.at0; exact zI rfl (H.nk _).1 (by repeat' fail)) | (apply zW.at1; exact zI rfl (H.nk _).2.1 (by repeat' fail)) | (apply zW.at2; exact zI rfl (H.nk _).2.2 (by repeat' fail)) | apply zW.some rfl | apply zW.skip
theorem linkRef_c (L : List yE) (hL : wF L) {t p x r : Int} (ht : Small t) (hp : Rf p) (hx : Rf x) (hr : Rf r) : FnC 35 [.p (.val (.int .i64 t)), .p (.val (.int .i64 p)), .p (.val (.int .i64 x)), .p (.val (.int .i64 r))] [] (fun x => .p (.val (.bool x))) (fun _ => []) yes L (linkP t p x r) := by
  have cn := cnextRef_fn t p ht hp.le
  have cm := cnextRef_fn t r ht hr.le
  have cx := linkRef_fn x hx.le
  have cr := linkRef_fn r hr.le
  refine q8 Tryz.func35 rfl Tryz.ntmps35 (Nat.le_of_ble_eq_true rfl) (by decide) fun σ0 hi0 => ?_
  repeat' (first | (refine zY.is ?_; first | refine zY.nil ?_ | (refine zY.at_ 10 rfl ?_; refine zY.rc (.v zC .e) ?_) | (refine zY.at_ 15 rfl ?_; refine zY.rc (.v zJ .e) ?_) | (refine zY.at_ 22 rfl ?_; refine zY.rc (.v zJ .e) ?_) | (refine zY.at_ 24 rfl ?_; refine zY.rc (.v zJ .e) ?_) | (refine zY.in_ [21] rfl ?_; refine zY.v rfl rfl (zO (cn) rfl rfl rfl (by decide)) ?_) | (refine zY.in_ [14] rfl ?_; refine zY.v rfl rfl (zO (cm) rfl rfl rfl (by decide)) ?_) | (refine zY.in_ [16, 23] rfl ?_; refine zY.v rfl rfl (zO (cx) rfl rfl rfl (by decide)) ?_) | (refine zY.in_ [25] rfl ?_; refine zY.v rfl rfl (zO (cr) rfl rfl rfl (by decide)) ?_) | (refine zY.in_ [17] rfl ?_; refine zY.ofT rfl (zH.cu (i := [1000]) (f := cstore_c L hL _ _) (r := fun x τ e g hj => ?_))) | (refine zY.in_ [26] rfl ?_; refine zY.ofT rfl (zH.cu (i := [1000]) (f := ccas_c L hL _ _ _) (r := fun x τ e g hj => ?_)))) | (refine zZ.is ?_; first | refine zZ.seq ?_ | (refine zZ.isR (id := 0) ?_; refine zZ.rc [0, 1, 2, 3, 4] [1000] (r := (.v zC .e)) (h := ?_)) | (refine zZ.isR (id := 1) ?_; refine zZ.rc [0, 1, 2, 3, 4, 10] [1000] (r := (.v yL (.v zJ (.v zJ .e)))) (h := ?_)) | (refine zZ.isR (id := 2) ?_; refine zZ.rc [0, 1, 2, 3, 4, 10] [1000] (r := (.v yL (.v zJ (.v zJ .e)))) (h := ?_)) | refine zZ.ret ?_) | refine zG.n ?_)
  all_goals (exact .ret (by exact .inl rfl) (by exact .one rfl rfl) (by repeat' first | exact trivial | rfl | constructor) (by assumption) (by assumption) (by unfold linkP; repeat' (first | assumption | refine Rel.bind (by assumption) ?_)))
theorem markRef_c (L : List yE) (hL : wF L) {t x : Int} (ht : Small t) (hx : Rf x) : FnC 36 [.p (.val (.int .i64 t)), .p (.val (.int .i64 x))] [] (fun x => .p (.val (.bool x))) (fun _ => []) yes L (markP t x) := by
  have cn := cnextRef_fn t x ht hx.le
  have F2 := fun (w : Int) (h : U w) (he : decide (w % 2 = 1) = false) => (wrap_u64 (w + 1) (hw_succ h he) : IntKind.u64.wrap (w + 1) = w + 1)
  refine q8 Tryz.func36 rfl Tryz.ntmps36 (Nat.le_of_ble_eq_true rfl) (by decide) fun σ0 hi0 => ?_
  repeat' (first | (refine zY.is ?_; first | refine zY.nil ?_ | (refine zY.at_ 19 rfl ?_; refine zY.rc (.v zJ (.v zJ (.v v30_2 .e))) ?_) | (refine zY.at_ 6 rfl ?_; refine zY.rc (.v zC .e) ?_) | (refine zY.at_ 7 rfl ?_; refine zY.rc (.v zC .e) ?_) | (refine zY.in_ [11, 18] rfl ?_; refine zY.v rfl rfl (zO (cn) rfl rfl rfl (by decide)) ?_) | (refine zY.in_ [14] rfl ?_; refine zY.v rfl rfl (zO (markRef_fn _ (U.lo (by assumption))) rfl rfl rfl (by decide)) ?_) | (refine zY.in_ [12] rfl ?_; refine zY.ofT rfl (zH.cu (i := [1000]) (f := vF L hL _) (r := fun x τ e g hj => ?_))) | (refine zY.in_ [22] rfl ?_; refine zY.ofT rfl (zH.cu (i := [1000]) (f := ccas_c L hL _ _ _) (r := fun x τ e g hj => ?_)))) | (refine zZ.is ?_; first | refine zZ.seq ?_ | (refine zZ.isR (id := 0) ?_; refine zZ.rc [0, 1, 2] [1000] (r := (.v zC .e)) (h := ?_)) | (refine zZ.isR (id := 1) ?_; refine zZ.rc [0, 1, 2, 6] [1000] (r := (.v yL (.v zJ (.v zJ .e)))) (h := ?_)) | (refine zZ.isR (id := 2) ?_; refine zZ.rc [0, 1, 2, 6, 7] [1000] (r := (.v zJ .e)) (h := ?_)) | (refine zZ.isR (id := 3) ?_; refine zZ.rc [0, 1, 2, 6, 7] [1000] (r := (.v zC .e)) (h := ?_)) | (refine zZ.isR (id := 4) ?_; refine zZ.rc [0, 1, 2, 6, 7] [1000] (r := (.v yL (.v zJ (.v zJ .e)))) (h := ?_)) | refine zZ.cond rfl (fun h => ?_) (fun h => ?_) | refine zZ.skip ?_ | refine zZ.ret ?_) | refine zG.n ?_ | refine zG.r ?_)
  all_goals (exact .ret (by exact .inl rfl) (by exact .one rfl rfl) (by repeat' first | exact trivial | rfl | constructor) (by first | assumption | exact trivial) (by assumption) (by unfold markP setMark; repeat' (first | exact Rel.ret _ | assumption | refine Rel.bind (by assumption) ?_ | refine Rel.yes (by assumption) ?_ | refine Rel.no (by assumption) ?_)))
/-! ### At a log's end -/
theorem nT {b : Bool} (h : (!b) = true) : b = false := by cases b <;> simp_all
theorem nF {b : Bool} (h : (!b) = false) : b = true := by cases b <;> simp_all
def zN : Ned := qJ 0 0 0 0 xW
def cur0 : CSt := ⟨0, false, zN⟩
def toldV (σ : CSt) (e : Int) (is : Bool) (n w : Int) : List PV := [.agg [.val (.int .i64 (bif σ.stop then σ.q.kind else 0)), .val (.int .i64 (bif σ.stop then σ.q.cell else 0)), .val (.int .u64 (bif σ.stop then σ.q.a else 0)), .val (.int .u64 (bif σ.stop then σ.q.b else 0)), bif σ.stop then σ.q.d else xW, bif σ.stop then σ.q.w else xW],
  outV (bif σ.stop then 0 else e) (bif σ.stop then false else is) (bif σ.stop then 0 else n) (bif σ.stop then 0 else w), .val (.bool (!σ.stop))]
theorem told_fn (L : List yE) (σ : CSt) (e : Int) (is : Bool) (n w : Int) :
    FnE Tryz.prog 38 [.ptr 1000 0, .p (outV e is n w)] [curS L σ] (.ret (.tup ((toldV σ e is n w).map .p))) [curS L σ] := by
  refine fn_ofE Tryz.func38 rfl Tryz.ntmps38 (Nat.le_of_ble_eq_true rfl) (by decide) ?_
  cases hs : σ.stop
  all_goals
    simp only [toldV, hs, cond_true, cond_false, Bool.not_true, Bool.not_false]
    repeat' (first | (refine zY.nil ?_) | (refine zZ.is ?_; first | refine zZ.seq ?_ | (refine zZ.isR (id := 0) ?_; refine zZ.rc [0, 1] [3, 4, 5, 1000] (r := (.m qE (.m yG (.m yG (.v zC .e))))) (h := ?_)) | (refine zZ.isR (id := 1) ?_; refine zZ.rc [0, 3, 4, 5, 6] [3, 4, 5, 1000] (r := (.v yL (.v xO (.v zU (.v yV .e))))) (h := ?_)) | (refine zZ.isR (id := 2) ?_; refine zZ.rc [0, 3, 4, 5, 6] [3, 4, 5, 1000] (r := (.v yL (.v xO (.v zU (.v vN (.v wH (.w yQ (.w yQ (.v zC .e))))))))) (h := ?_)) | (refine zZ.isR (id := 3) ?_; refine zZ.rk [3, 4, 5, 6] [3, 4, 5, 1000] ?_; refine zZ.drawGo (by kernel_rfl) ?_) | refine zZ.yM rfl bA ?_ | refine zZ.yI rfl bA ?_ | refine zZ.skip ?_ | refine zZ.ret ?_) | refine zG.n ?_ | refine zG.r ?_ | (refine DGo.at_ [] ?_; refine DGo.all [0, 1] (by kernel_rfl) ?_) | (refine DGo.at_ [1] ?_; refine DGo.all [0] (by kernel_rfl) ?_) | (refine DGo.at_ [0, 1] ?_; refine DGo.all [2] (by kernel_rfl) ?_) | (refine DGo.at_ [2, 0, 1] ?_; refine DGo.all [3] (by kernel_rfl) ?_) | (refine DGo.at_ [3, 2, 0, 1] ?_; refine DGo.fr 4 ?_) | (refine DGo.at_ [4, 3, 2, 0, 1] ?_; refine DGo.fin (by kernel_rfl) ?_) | (refine DGo.at_ [0] ?_; refine DGo.all [1, 2] (by kernel_rfl) ?_) | (refine DGo.at_ [2, 0] ?_; refine DGo.all [1] (by kernel_rfl) ?_) | (refine DGo.at_ [1, 2, 0] ?_; refine DGo.all [3] (by kernel_rfl) ?_) | (refine DGo.at_ [3, 1, 2, 0] ?_; refine DGo.fr 4 ?_) | (refine DGo.at_ [4, 3, 1, 2, 0] ?_; refine DGo.fin (by kernel_rfl) ?_) | (refine DGo.at_ [1, 0] ?_; refine DGo.all [2] (by kernel_rfl) ?_) | (refine DGo.at_ [2, 1, 0] ?_; refine DGo.all [3] (by kernel_rfl) ?_) | (refine DGo.at_ [3, 2, 1, 0] ?_; refine DGo.fr 4 ?_) | (refine DGo.at_ [4, 3, 2, 1, 0] ?_; refine DGo.fin (by kernel_rfl) ?_) | refine x9.cons ?_ ?_ | exact x9.nil | (refine xC.at_ 0 ?_; refine xC.v rfl rfl rfl (xR rfl (by rfl) (by rfl) (by rfl) (by rfl) rfl (by decide)) ?_) | (refine xC.at_ 1 ?_; refine xC.v rfl rfl rfl (yX rfl rfl rfl (by rfl) (by rfl) rfl (by decide)) ?_) | (refine xC.at_ 2 ?_; refine xC.w rfl rfl (by exact zT rfl rfl rfl rfl rfl (by rfl) (by exact Nat.le_of_ble_eq_true rfl) rfl rfl) ?_) | (refine xC.at_ 3 ?_; refine xC.w rfl rfl (by exact zT rfl rfl rfl rfl rfl (by rfl) (by exact Nat.le_of_ble_eq_true rfl) rfl rfl) ?_))
    all_goals exact ⟨(by exact .inl rfl), _, Sub.refl _, .tup rfl (by decide) (.cons (.cellN rfl rfl (by rfl) (by rfl)) (.cons (.cellN rfl rfl (by rfl) (by rfl)) (.cons (.tmp rfl) .nil))), wD (by repeat' first | exact trivial | rfl | constructor)⟩
theorem told_done {L : List yE} {P : Pr OutN} {o : OutN} {j : Nat} {e n w : Int} {is : Bool} {τ : CSt} (hm : P.run (y5 L) 0 = .done o j) (h : Rel L P cur0 ⟨e, is, n, w⟩ τ) : toldV τ e is n w = [accV 0 0 0 0 xW, outV o.e o.is o.n o.w, .val (.bool true)] := by
  obtain ⟨e1, e2⟩ := h.done rfl o j hm
  subst e1 e2
  rfl
theorem told_need {L : List yE} (hL : wF L) {P : Pr OutN} {good : OutN → Prop} (hf : P.yT good) {q : Ned} {j : Nat} {e n w : Int} {is : Bool} {τ : CSt} (hm : P.run (y5 L) 0 = .need q j) (h : Rel L P cur0 ⟨e, is, n, w⟩ τ) : toldV τ e is n w = [accQ q, outV 0 false 0 0, .val (.bool false)] := by
  have e2 := h.need rfl q j hm
  have h3 := hf.log hL (i := 0) (Nat.zero_le _)
  rw [hm] at h3
  have h4 := h3.1.w
  subst e2
  obtain ⟨a, b, c, d, f, g⟩ := q
  obtain rfl : g = xW := h4
  rfl
theorem nextRef_done (L : List yE) (hL : wF L) {t k u v w : Int} (ht : Small t) (hO : OpL k u v w) {o : OutN} {j : Nat} (hm : (opL t k u v w).run (y5 L) 0 = .done o j) : Fn Tryz.prog 11 [.val (.int .i64 t), opV k u v w, logV L] (.tup [accV 0 0 0 0 xW, outV o.e o.is o.n o.w, .val (.bool true)]) := by
  have F1 := fun (x : wK) (g : FOK x) => (wrap_u64 x.p ⟨g.p.lo, by have := g.p.hi; omega⟩ : IntKind.u64.wrap x.p = x.p)
  have F2 := fun (h : decide (k = 24) = true) => (wrap_i64 w ⟨by have := (hO.v (of_decide_eq_true h)).2.lo; omega, by have := (hO.v (of_decide_eq_true h)).2.hi; omega⟩ : IntKind.i64.wrap w = w)
  have hi : cur0.i ≤ L.length := Nat.zero_le _
  refine yS Tryz.func11 rfl Tryz.ntmps11 (Nat.le_of_ble_eq_true rfl) ?_
  repeat' (first | (refine zY.is ?_; first | refine zY.nil ?_ | (refine zY.at_ 15 rfl ?_; refine zY.rc (.v zC .e) ?_) | (refine zY.at_ 24 rfl ?_; refine zY.rc (.v v0_4 (.v y9 (.v y9 (.v y9 (.v y9 (.v zC (.v zC (.v zC (.v zC .e))))))))) ?_) | (refine zY.at_ 43 rfl ?_; refine zY.rc (.v v0_4 (.v y9 (.v y9 (.v zU (.w yQ (.v zU (.w yQ .e))))))) ?_) | (refine zY.at_ 65 rfl ?_; refine zY.rc (.v zU (.w yQ .e)) ?_) | (refine zY.at_ 72 rfl ?_; refine zY.rc (.v zU (.w yQ .e)) ?_) | (refine zY.at_ 84 rfl ?_; refine zY.rc (.v y9 (.v y9 (.v y9 (.w yQ (.w yQ (.v zC .e)))))) ?_) | (refine zY.in_ [83] rfl ?_; refine zY.ofT rfl (zH.eR [9] (told_fn L _ _ _ _ _) ?_)) | (refine zY.in_ [28] rfl ?_; refine zY.ofT rfl (zH.cu (i := [9]) (f := searchRef_c L hL ht) (r := fun x τ e g hj => ?_))) | (refine zY.in_ [49] rfl ?_; refine zY.ofT rfl (zH.cu (i := [9]) (f := seekRef_c L hL ht (hO.u (.inr (.inr (of_decide_eq_true (by assumption)))))) (r := fun x τ e g hj => ?_))) | (refine zY.in_ [64] rfl ?_; refine zY.ofT rfl (zH.cu (i := [9]) (f := linkRef_c L hL ht (hO.u (.inr (.inl (of_decide_eq_true (by assumption))))) (hO.v (of_decide_eq_true (by assumption))).1 (hO.v (of_decide_eq_true (by assumption))).2) (r := fun x τ e g hj => ?_))) | (refine zY.in_ [71] rfl ?_; refine zY.ofT rfl (zH.cu (i := [9]) (f := markRef_c L hL ht (hO.u (.inl (of_decide_eq_true (by assumption))))) (r := fun x τ e g hj => ?_))) | (refine zY.in_ [78] rfl ?_; refine zY.ofT rfl (zH.cu (i := [9]) (f := sweepRef_c L hL ht) (r := fun x τ e g hj => ?_)))) | (refine zZ.is ?_; first | refine zZ.seq ?_ | (refine zZ.isR (id := 0) ?_; refine zZ.rc [0, 1, 2] [4, 6, 7, 9, 10] (r := (.m qE (.m yG (.m yG (.v zC .e))))) (h := ?_)) | (refine zZ.isR (id := 1) ?_; refine zZ.rc [0, 2, 4, 6, 7, 8] [4, 6, 7, 9, 10] (r := (.v zJ (.v wH (.m yG (.w yQ .e))))) (h := ?_)) | (refine zZ.isR (id := 2) ?_; refine zZ.rc [0, 4, 6, 7, 8, 9] [4, 6, 7, 9, 10] (r := (.v wH (.m yG (.w yQ .e)))) (h := ?_)) | (refine zZ.isR (id := 3) ?_; refine zZ.sub (sub_curAt 9 L cur0 rfl) ?_; refine zZ.rc [0, 4, 6, 7, 8, 9, 10] [4, 6, 7, 9, 10] (r := (.v zU (.v yV .e))) (h := ?_)) | (refine zZ.isR (id := 5) ?_; refine zZ.rc [0, 4, 6, 7, 8, 9, 10, 20] [4, 6, 7, 9, 10] (r := (.v vZ (.v zC .e))) (h := ?_)) | (refine zZ.isR (id := 6) ?_; refine zZ.rc [0, 4, 6, 7, 8, 9, 10, 20] [4, 6, 7, 9, 10] (r := (.v zJ (.v zU (.v yV .e)))) (h := ?_)) | (refine zZ.isR (id := 7) ?_; refine zZ.rc [0, 4, 6, 7, 8, 9, 10, 11, 12, 13, 14, 20] [4, 6, 7, 9, 10] (r := (.v zJ (.v v52_8 .e))) (h := ?_)) | (refine zZ.isR (id := 8) ?_; refine zZ.rc [0, 4, 6, 7, 8, 9, 10, 11, 12, 13, 20] [4, 6, 7, 9, 10] (r := (.v zU (.w yQ .e))) (h := ?_)) | (refine zZ.isR (id := 9) ?_; refine zZ.rc [0, 4, 6, 7, 8, 9, 10, 11, 12, 13, 20] [4, 6, 7, 9, 10] (r := (.v zJ (.v zJ (.v v6_1 (.v zJ (.v wH (.w yQ .e))))))) (h := ?_)) | (refine zZ.isR (id := 10) ?_; refine zZ.rc [0, 4, 6, 7, 8, 9, 10, 20] [4, 6, 7, 9, 10] (r := (.v vZ (.v zC .e))) (h := ?_)) | (refine zZ.isR (id := 11) ?_; refine zZ.rc [0, 4, 6, 7, 8, 9, 10, 20] [4, 6, 7, 9, 10] (r := (.v zJ (.v zU (.v yV (.v zU (.v yV .e)))))) (h := ?_)) | (refine zZ.isR (id := 12) ?_; refine zZ.rc [0, 4, 6, 7, 8, 9, 10, 20] [4, 6, 7, 9, 10] (r := (.v vZ (.v zC .e))) (h := ?_)) | (refine zZ.isR (id := 13) ?_; refine zZ.rc [0, 4, 6, 7, 8, 9, 10, 20] [4, 6, 7, 9, 10] (r := (.v zJ (.v zU (.v yV (.v zU (.v yV (.v zU (.v yV (.v v6_2 .e))))))))) (h := ?_)) | (refine zZ.isR (id := 14) ?_; refine zZ.rc [0, 4, 6, 7, 8, 9, 10, 20] [4, 6, 7, 9, 10] (r := (.v vZ (.v zC .e))) (h := ?_)) | (refine zZ.isR (id := 15) ?_; refine zZ.rc [0, 4, 6, 7, 8, 9, 10, 20] [4, 6, 7, 9, 10] (r := (.v zJ (.v zU (.v yV .e)))) (h := ?_)) | (refine zZ.isR (id := 16) ?_; refine zZ.rc [0, 4, 6, 7, 8, 9, 10, 20] [4, 6, 7, 9, 10] (r := (.v vZ (.v zC .e))) (h := ?_)) | (refine zZ.isR (id := 17) ?_; refine zZ.rc [0, 4, 6, 7, 8, 9, 10] [4, 6, 7, 9, 10] (r := (.v zJ (.v zU (.v yV .e)))) (h := ?_)) | (refine zZ.isR (id := 18) ?_; refine zZ.rc [6, 7, 8, 9, 10, 15] [4, 6, 7, 9, 10] (r := (.v zJ (.v v52_8 .e))) (h := ?_)) | (refine zZ.isR (id := 19) ?_; refine zZ.rc [6, 7, 8, 9, 10] [4, 6, 7, 9, 10] (r := (.v zU (.w yQ .e))) (h := ?_)) | (refine zZ.isR (id := 4) ?_; refine zZ.rc [6, 7, 8, 9, 10] [4, 6, 7, 9, 10] (r := (.v zU (.w yQ .e))) (h := ?_)) | (refine zZ.isR (id := 20) ?_; refine zZ.rc [6, 7, 8, 9, 10] [4, 6, 7, 9, 10] (r := (.v vN .e)) (h := ?_)) | refine zZ.cond rfl (fun h => ?_) (fun h => ?_) | refine zZ.skip ?_ | refine zZ.block ?_ | refine zZ.ret ?_) | refine zG.n ?_ | refine yZ.n ?_)
  all_goals exact ⟨by first | exact .inl rfl | exact .inr rfl, _, Sub.refl _, .tupE rfl (by decide) (.cons (.cellN rfl rfl (by rfl) (by rfl)) (.cons (.cellN rfl rfl (by rfl) (by rfl)) (.cons (.tmp rfl) .nil))) (told_done hm (by unfold opL; repeat' (first | exact Rel.ret _ | refine Rel.bind (by assumption) ?_ | refine Rel.yes (by assumption) ?_ | refine Rel.no (by assumption) ?_ | refine Rel.no (nT (by assumption)) ?_ | refine Rel.yes (nF (by assumption)) ?_))).symm⟩
theorem nextRef_need (L : List yE) (hL : wF L) {t k u v w : Int} (ht : Small t) (hO : OpL k u v w) {q : Ned} {j : Nat} (hm : (opL t k u v w).run (y5 L) 0 = .need q j) : Fn Tryz.prog 11 [.val (.int .i64 t), opV k u v w, logV L] (.tup [accQ q, outV 0 false 0 0, .val (.bool false)]) := by
  have F1 := fun (x : wK) (g : FOK x) => (wrap_u64 x.p ⟨g.p.lo, by have := g.p.hi; omega⟩ : IntKind.u64.wrap x.p = x.p)
  have F2 := fun (h : decide (k = 24) = true) => (wrap_i64 w ⟨by have := (hO.v (of_decide_eq_true h)).2.lo; omega, by have := (hO.v (of_decide_eq_true h)).2.hi; omega⟩ : IntKind.i64.wrap w = w)
  have hi : cur0.i ≤ L.length := Nat.zero_le _
  refine yS Tryz.func11 rfl Tryz.ntmps11 (Nat.le_of_ble_eq_true rfl) ?_
  repeat' (first | (refine zY.is ?_; first | refine zY.nil ?_ | (refine zY.at_ 15 rfl ?_; refine zY.rc (.v zC .e) ?_) | (refine zY.at_ 24 rfl ?_; refine zY.rc (.v v0_4 (.v y9 (.v y9 (.v y9 (.v y9 (.v zC (.v zC (.v zC (.v zC .e))))))))) ?_) | (refine zY.at_ 43 rfl ?_; refine zY.rc (.v v0_4 (.v y9 (.v y9 (.v zU (.w yQ (.v zU (.w yQ .e))))))) ?_) | (refine zY.at_ 65 rfl ?_; refine zY.rc (.v zU (.w yQ .e)) ?_) | (refine zY.at_ 72 rfl ?_; refine zY.rc (.v zU (.w yQ .e)) ?_) | (refine zY.at_ 84 rfl ?_; refine zY.rc (.v y9 (.v y9 (.v y9 (.w yQ (.w yQ (.v zC .e)))))) ?_) | (refine zY.in_ [83] rfl ?_; refine zY.ofT rfl (zH.eR [9] (told_fn L _ _ _ _ _) ?_)) | (refine zY.in_ [28] rfl ?_; refine zY.ofT rfl (zH.cu (i := [9]) (f := searchRef_c L hL ht) (r := fun x τ e g hj => ?_))) | (refine zY.in_ [49] rfl ?_; refine zY.ofT rfl (zH.cu (i := [9]) (f := seekRef_c L hL ht (hO.u (.inr (.inr (of_decide_eq_true (by assumption)))))) (r := fun x τ e g hj => ?_))) | (refine zY.in_ [64] rfl ?_; refine zY.ofT rfl (zH.cu (i := [9]) (f := linkRef_c L hL ht (hO.u (.inr (.inl (of_decide_eq_true (by assumption))))) (hO.v (of_decide_eq_true (by assumption))).1 (hO.v (of_decide_eq_true (by assumption))).2) (r := fun x τ e g hj => ?_))) | (refine zY.in_ [71] rfl ?_; refine zY.ofT rfl (zH.cu (i := [9]) (f := markRef_c L hL ht (hO.u (.inl (of_decide_eq_true (by assumption))))) (r := fun x τ e g hj => ?_))) | (refine zY.in_ [78] rfl ?_; refine zY.ofT rfl (zH.cu (i := [9]) (f := sweepRef_c L hL ht) (r := fun x τ e g hj => ?_)))) | (refine zZ.is ?_; first | refine zZ.seq ?_ | (refine zZ.isR (id := 0) ?_; refine zZ.rc [0, 1, 2] [4, 6, 7, 9, 10] (r := (.m qE (.m yG (.m yG (.v zC .e))))) (h := ?_)) | (refine zZ.isR (id := 1) ?_; refine zZ.rc [0, 2, 4, 6, 7, 8] [4, 6, 7, 9, 10] (r := (.v zJ (.v wH (.m yG (.w yQ .e))))) (h := ?_)) | (refine zZ.isR (id := 2) ?_; refine zZ.rc [0, 4, 6, 7, 8, 9] [4, 6, 7, 9, 10] (r := (.v wH (.m yG (.w yQ .e)))) (h := ?_)) | (refine zZ.isR (id := 3) ?_; refine zZ.sub (sub_curAt 9 L cur0 rfl) ?_; refine zZ.rc [0, 4, 6, 7, 8, 9, 10] [4, 6, 7, 9, 10] (r := (.v zU (.v yV .e))) (h := ?_)) | (refine zZ.isR (id := 5) ?_; refine zZ.rc [0, 4, 6, 7, 8, 9, 10, 20] [4, 6, 7, 9, 10] (r := (.v vZ (.v zC .e))) (h := ?_)) | (refine zZ.isR (id := 6) ?_; refine zZ.rc [0, 4, 6, 7, 8, 9, 10, 20] [4, 6, 7, 9, 10] (r := (.v zJ (.v zU (.v yV .e)))) (h := ?_)) | (refine zZ.isR (id := 7) ?_; refine zZ.rc [0, 4, 6, 7, 8, 9, 10, 11, 12, 13, 14, 20] [4, 6, 7, 9, 10] (r := (.v zJ (.v v52_8 .e))) (h := ?_)) | (refine zZ.isR (id := 8) ?_; refine zZ.rc [0, 4, 6, 7, 8, 9, 10, 11, 12, 13, 20] [4, 6, 7, 9, 10] (r := (.v zU (.w yQ .e))) (h := ?_)) | (refine zZ.isR (id := 9) ?_; refine zZ.rc [0, 4, 6, 7, 8, 9, 10, 11, 12, 13, 20] [4, 6, 7, 9, 10] (r := (.v zJ (.v zJ (.v v6_1 (.v zJ (.v wH (.w yQ .e))))))) (h := ?_)) | (refine zZ.isR (id := 10) ?_; refine zZ.rc [0, 4, 6, 7, 8, 9, 10, 20] [4, 6, 7, 9, 10] (r := (.v vZ (.v zC .e))) (h := ?_)) | (refine zZ.isR (id := 11) ?_; refine zZ.rc [0, 4, 6, 7, 8, 9, 10, 20] [4, 6, 7, 9, 10] (r := (.v zJ (.v zU (.v yV (.v zU (.v yV .e)))))) (h := ?_)) | (refine zZ.isR (id := 12) ?_; refine zZ.rc [0, 4, 6, 7, 8, 9, 10, 20] [4, 6, 7, 9, 10] (r := (.v vZ (.v zC .e))) (h := ?_)) | (refine zZ.isR (id := 13) ?_; refine zZ.rc [0, 4, 6, 7, 8, 9, 10, 20] [4, 6, 7, 9, 10] (r := (.v zJ (.v zU (.v yV (.v zU (.v yV (.v zU (.v yV (.v v6_2 .e))))))))) (h := ?_)) | (refine zZ.isR (id := 14) ?_; refine zZ.rc [0, 4, 6, 7, 8, 9, 10, 20] [4, 6, 7, 9, 10] (r := (.v vZ (.v zC .e))) (h := ?_)) | (refine zZ.isR (id := 15) ?_; refine zZ.rc [0, 4, 6, 7, 8, 9, 10, 20] [4, 6, 7, 9, 10] (r := (.v zJ (.v zU (.v yV .e)))) (h := ?_)) | (refine zZ.isR (id := 16) ?_; refine zZ.rc [0, 4, 6, 7, 8, 9, 10, 20] [4, 6, 7, 9, 10] (r := (.v vZ (.v zC .e))) (h := ?_)) | (refine zZ.isR (id := 17) ?_; refine zZ.rc [0, 4, 6, 7, 8, 9, 10] [4, 6, 7, 9, 10] (r := (.v zJ (.v zU (.v yV .e)))) (h := ?_)) | (refine zZ.isR (id := 18) ?_; refine zZ.rc [6, 7, 8, 9, 10, 15] [4, 6, 7, 9, 10] (r := (.v zJ (.v v52_8 .e))) (h := ?_)) | (refine zZ.isR (id := 19) ?_; refine zZ.rc [6, 7, 8, 9, 10] [4, 6, 7, 9, 10] (r := (.v zU (.w yQ .e))) (h := ?_)) | (refine zZ.isR (id := 4) ?_; refine zZ.rc [6, 7, 8, 9, 10] [4, 6, 7, 9, 10] (r := (.v zU (.w yQ .e))) (h := ?_)) | (refine zZ.isR (id := 20) ?_; refine zZ.rc [6, 7, 8, 9, 10] [4, 6, 7, 9, 10] (r := (.v vN .e)) (h := ?_)) | refine zZ.cond rfl (fun h => ?_) (fun h => ?_) | refine zZ.skip ?_ | refine zZ.block ?_ | refine zZ.ret ?_) | refine zG.n ?_ | refine yZ.n ?_)
  all_goals exact ⟨by first | exact .inl rfl | exact .inr rfl, _, Sub.refl _, .tupE rfl (by decide) (.cons (.cellN rfl rfl (by rfl) (by rfl)) (.cons (.cellN rfl rfl (by rfl) (by rfl)) (.cons (.tmp rfl) .nil))) (told_need hL (fine_opL hO) hm (by unfold opL; repeat' (first | exact Rel.ret _ | refine Rel.bind (by assumption) ?_ | refine Rel.yes (by assumption) ?_ | refine Rel.no (by assumption) ?_ | refine Rel.no (nT (by assumption)) ?_ | refine Rel.yes (nF (by assumption)) ?_))).symm⟩
end Go.Proofs.YtohlllohmoojiaaGreatDoor
/- Are two accesses the same: contract. -/
namespace Go.Proofs.YtohlllohmoojiaaGreatDoor
set_option maxRecDepth 100000
set_option maxHeartbeats 16000000
open Go Go.RowKit
set_option linter.unusedSimpArgs false
attribute [local irreducible] zY zZ Step zK Sub zS zH Fn
theorem zZ.loopOnce {P : Program} {n : Nat} {c : Code} {S : AS} {K : Exit → AS → Prop} (h : zZ P n c S (zG (fun _ => False) K)) : zZ P n (.loop c) S K :=
  zZ.loop (fun _ : Unit => S) (fun _ => True) (fun _ => 0) () (Sub.refl S) trivial fun _ _ => h.mono fun e S' h1 => by
    cases e with
    | normal => exact (h1 : False).elim
    | _ => exact h1
section
variable {P : Program} {n : Nat} {o : Oper} {S : AS} {d : Nat} {x y : Operand} {xt yt : TypeId} {r : Bool}
theorem r_neqS {s u : ByteArray} (ho : o.op = .binOp .neq xt x y yt) (hx : S.get x = .p (.val (.string s))) (hy : S.get y = .p (.val (.string u))) (hr : (!(s.toList == u.toList)) = r) (hd : o.dst = some d) (hn : d < n) : zK P n o S [] (.p (.val (.bool r))) none := by
  subst hr
  exact wC ho hx hy hd hn fun w => by simp [eqGuard, binOp, Op.stringOp]
end
def accS (kind cell a b : Int) (bs : List Int) : PV := .agg [.val (.int .i64 kind), .val (.int .i64 cell), .val (.int .u64 a), .val (.int .u64 b), .sl (byts bs), .sl []]
theorem asks_fn (kind cell a b : Int) (bs : List Int) : Fn Tryz.prog 12 [accS kind cell a b bs, accS kind cell a b bs] (.p (.val (.bool true))) := by
  have g1 : ∀ x : Int, (!decide (x = x)) = false := fun x => by simp
  have g2 : ∀ x : ByteArray, (!(x.toList == x.toList)) = false := fun x => by simp
  have g3 : decide ((0 : Int) < 0) = false := rfl
  refine wW Tryz.func12 rfl Tryz.ntmps12 (Nat.le_of_ble_eq_true rfl) ?_
  repeat' (first | refine zZ.loopOnce ?_ | (refine zZ.is ?_; first | refine zZ.seq ?_ | (refine zZ.iq 0 ?_; refine zZ.rqb _ K_9 K_m ?_; (refine zY.m rfl rfl (yN rfl rfl rfl (by decide)) ?_); (refine zY.m rfl rfl (yN rfl rfl rfl (by decide)) ?_); (refine zY.v rfl rfl (zV rfl rfl rfl (by decide)) ?_); refine zY.nil ?_) | (refine zZ.iq 1 ?_; refine zZ.rqa _ K_w K_m ?_; all_goals (refine zY.v rfl rfl (zA rfl rfl rfl (by decide)) ?_); all_goals (refine zY.v rfl rfl (zD rfl rfl rfl (by rfl) rfl (by decide)) ?_); all_goals (refine zY.v rfl rfl (zA rfl rfl rfl (by decide)) ?_); all_goals (refine zY.v rfl rfl (zD rfl rfl rfl (by rfl) rfl (by decide)) ?_); all_goals (refine zY.v rfl rfl (by exact wS rfl rfl rfl (by exact g1 _) rfl (by decide)) ?_); all_goals (refine zY.v rfl rfl (zQ rfl rfl rfl (by decide)) ?_); all_goals (refine zY.gY rfl rfl (by decide) rfl (by assumption) rfl (by decide) (zA rfl rfl rfl (by decide)) ?_); all_goals (refine zY.gY rfl rfl (by decide) rfl (by assumption) rfl (by decide) (zD rfl rfl rfl (by rfl) rfl (by decide)) ?_); all_goals (refine zY.gY rfl rfl (by decide) rfl (by assumption) rfl (by decide) (zA rfl rfl rfl (by decide)) ?_); all_goals (refine zY.gY rfl rfl (by decide) rfl (by assumption) rfl (by decide) (zD rfl rfl rfl (by rfl) rfl (by decide)) ?_); all_goals (refine zY.gY rfl rfl (by decide) rfl (by assumption) rfl (by decide) (by exact wS rfl rfl rfl (by exact g1 _) rfl (by decide)) ?_); all_goals (refine zY.v rfl rfl (by exact yP rfl rfl (by assumption) rfl rfl (by decide)) ?_); all_goals (refine zY.v rfl rfl (zQ rfl rfl rfl (by decide)) ?_); all_goals (refine zY.gY rfl rfl (by decide) rfl (by assumption) rfl (by decide) (zA rfl rfl rfl (by decide)) ?_); all_goals (refine zY.gY rfl rfl (by decide) rfl (by assumption) rfl (by decide) (zD rfl rfl rfl (by rfl) rfl (by decide)) ?_); all_goals (refine zY.gY rfl rfl (by decide) rfl (by assumption) rfl (by decide) (zA rfl rfl rfl (by decide)) ?_); all_goals (refine zY.gY rfl rfl (by decide) rfl (by assumption) rfl (by decide) (zD rfl rfl rfl (by rfl) rfl (by decide)) ?_); all_goals (refine zY.gY rfl rfl (by decide) rfl (by assumption) rfl (by decide) (by exact wS rfl rfl rfl (by exact g1 _) rfl (by decide)) ?_); all_goals (refine zY.v rfl rfl (by exact yP rfl rfl (by assumption) rfl rfl (by decide)) ?_); all_goals (refine zY.v rfl rfl (zQ rfl rfl rfl (by decide)) ?_); all_goals (refine zY.gY rfl rfl (by decide) rfl (by assumption) rfl (by decide) (zA rfl rfl rfl (by decide)) ?_); all_goals (refine zY.gY rfl rfl (by decide) rfl (by assumption) rfl (by decide) (zD rfl rfl rfl (by rfl) rfl (by decide)) ?_); all_goals (refine zY.gY rfl rfl (by decide) rfl (by assumption) rfl (by decide) (zA rfl rfl rfl (by decide)) ?_); all_goals (refine zY.gY rfl rfl (by decide) rfl (by assumption) rfl (by decide) (zD rfl rfl rfl (by rfl) rfl (by decide)) ?_); all_goals (refine zY.gY rfl rfl (by decide) rfl (by assumption) rfl (by decide) (by exact wS rfl rfl rfl (by exact g1 _) rfl (by decide)) ?_); all_goals (refine zY.v rfl rfl (by exact yP rfl rfl (by assumption) rfl rfl (by decide)) ?_); all_goals (refine zY.v rfl rfl (zQ rfl rfl rfl (by decide)) ?_); all_goals (refine zY.gY rfl rfl (by decide) rfl (by assumption) rfl (by decide) (zA rfl rfl rfl (by decide)) ?_); all_goals (refine zY.gY rfl rfl (by decide) rfl (by assumption) rfl (by decide) (zD rfl rfl rfl (by rfl) rfl (by decide)) ?_); all_goals (refine zY.gY rfl rfl (by decide) rfl (by assumption) rfl (by decide) (w_str rfl rfl rfl (by decide)) ?_); all_goals (refine zY.gY rfl rfl (by decide) rfl (by assumption) rfl (by decide) (zA rfl rfl rfl (by decide)) ?_); all_goals (refine zY.gY rfl rfl (by decide) rfl (by assumption) rfl (by decide) (zD rfl rfl rfl (by rfl) rfl (by decide)) ?_); all_goals (refine zY.gY rfl rfl (by decide) rfl (by assumption) rfl (by decide) (w_str rfl rfl rfl (by decide)) ?_); all_goals (refine zY.gY rfl rfl (by decide) rfl (by assumption) rfl (by decide) (by exact r_neqS rfl rfl rfl (by exact g2 _) rfl (by decide)) ?_); all_goals (refine zY.v rfl rfl (by exact yP rfl rfl (by assumption) rfl rfl (by decide)) ?_); all_goals (refine zY.v rfl rfl (zQ rfl rfl rfl (by decide)) ?_); all_goals (refine zY.gY rfl rfl (by decide) rfl (by assumption) rfl (by decide) (zA rfl rfl rfl (by decide)) ?_); all_goals (refine zY.gY rfl rfl (by decide) rfl (by assumption) rfl (by decide) (zD rfl rfl rfl (by rfl) rfl (by decide)) ?_); all_goals (refine zY.gY rfl rfl (by decide) rfl (by assumption) rfl (by decide) (w_lenS rfl rfl rfl (by decide)) ?_); all_goals (refine zY.gY rfl rfl (by decide) rfl (by assumption) rfl (by decide) (zA rfl rfl rfl (by decide)) ?_); all_goals (refine zY.gY rfl rfl (by decide) rfl (by assumption) rfl (by decide) (zD rfl rfl rfl (by rfl) rfl (by decide)) ?_); all_goals (refine zY.gY rfl rfl (by decide) rfl (by assumption) rfl (by decide) (w_lenS rfl rfl rfl (by decide)) ?_); all_goals (refine zY.gY rfl rfl (by decide) rfl (by assumption) rfl (by decide) (by exact wS rfl rfl rfl (by exact g1 _) rfl (by decide)) ?_); all_goals (refine zY.v rfl rfl (by exact yP rfl rfl (by assumption) rfl rfl (by decide)) ?_); all_goals (refine zY.nil ?_)) | (refine zZ.iq 3 ?_; refine zZ.rqa _ K_w K_m ?_; (refine zY.v rfl rfl (zV rfl rfl rfl (by decide)) ?_); refine zY.nil ?_) | (refine zZ.isR (id := 4) ?_; refine zZ.zR [2, 3, 4, 5, 54, 67] [2, 3] (by repeat' first | exact zX.nil | apply zX.p rfl | apply zX.ptr rfl | apply zX.skip) (by repeat' first | exact zW.nil | apply zW.boxP rfl rfl) ?_; (refine zY.v rfl rfl (zQ rfl rfl rfl (by decide)) ?_); (refine zY.v rfl rfl (zA rfl rfl rfl (by decide)) ?_); (refine zY.v rfl rfl (zD rfl rfl rfl (by rfl) rfl (by decide)) ?_); (refine zY.v rfl rfl (w_lenS rfl rfl rfl (by decide)) ?_); (refine zY.v rfl rfl (by exact xI rfl rfl rfl (by exact g3) rfl (by decide)) ?_); refine zY.nil ?_) | (refine zZ.isR (id := 8) ?_; refine zZ.zR [4] [2, 3] (by repeat' first | exact zX.nil | apply zX.p rfl) (by repeat' first | exact zW.nil | apply zW.boxP rfl rfl) ?_; (refine zY.v rfl rfl (zV rfl rfl rfl (by decide)) ?_); refine zY.nil ?_) | refine zZ.yI rfl (by assumption) ?_ | refine zZ.skip ?_ | refine zZ.block ?_ | refine zZ.exit ?_ | refine zZ.ret ?_))
  all_goals refine ⟨by first | exact .inl rfl | exact .inr rfl, gives1 rfl rfl (eqB' ?_)⟩
  all_goals rfl
end Go.Proofs.YtohlllohmoojiaaGreatDoor
/- Are two accesses, two answers the same; sizes, and operations, that may be (list): contracts. -/
namespace Go.Proofs.YtohlllohmoojiaaGreatDoor
set_option maxRecDepth 100000
set_option maxHeartbeats 16000000
open Go Go.RowKit
set_option linter.unusedSimpArgs false
attribute [local irreducible] zY zZ Step zK Sub zS zH Fn
def dimsB (t c : Int) : Bool := decide (1 ≤ t) && decide (t ≤ 64) && decide (0 ≤ c) && decide (c ≤ 65536)
theorem dims_fn (t c : Int) : Fn Tryz.prog 8 [.val (.int .i64 t), .val (.int .i64 c)] (.p (.val (.bool (dimsB t c)))) := by
  refine wW Tryz.func8 rfl Tryz.ntmps8 (Nat.le_of_ble_eq_true rfl) ?_
  repeat' (first | (refine zY.is ?_; first | refine zY.nil ?_ | (refine zY.at_ 12 rfl ?_; refine zY.rc (.gY zJ (.gY v46_8 (.v xA (.v zJ .e)))) ?_) | (refine zY.at_ 12 rfl ?_; refine zY.rc (.gT (.gT (.v xD (.v zJ (.gT (.gT (.v xD (.v zC .e)))))))) ?_) | (refine zY.at_ 16 rfl ?_; refine zY.rc (.gY zJ (.gY v44_8 (.v xA (.v zC .e)))) ?_) | (refine zY.at_ 16 rfl ?_; refine zY.rc (.gT (.gT (.v xD (.v zC .e)))) ?_) | (refine zY.at_ 8 rfl ?_; refine zY.rc (.gY zJ (.gY v44_8 (.v xA (.v zJ .e)))) ?_) | (refine zY.at_ 8 rfl ?_; refine zY.rc (.gT (.gT (.v xD (.v zJ (.gT (.gT (.v xD (.v zJ (.gT (.gT (.v xD (.v zC .e)))))))))))) ?_) | (fail_if_success refine zY.known rfl rfl rfl (by fail) ?_); refine zY.split rfl rfl rfl (fun h => ?_) (fun h => ?_)) | (refine zZ.is ?_; first | refine zZ.seq ?_ | (refine zZ.isR (id := 0) ?_; refine zZ.rc [0, 1] [] (r := (.v zC .e)) (h := ?_)) | (refine zZ.isR (id := 1) ?_; refine zZ.rc [0, 1, 4] [] (r := (.v zJ (.v v46_8 (.v zJ .e)))) (h := ?_)) | refine zZ.ret ?_))
  all_goals refine ⟨.inl rfl, gives1 rfl rfl (eqB' ?_)⟩
  all_goals simp [dimsB, *]
def may15B (c k u v w : Int) : Bool := bif decide (k = 9) then decide (1 ≤ u) && decide (u ≤ c) else bif decide (k = 24) then decide (0 ≤ u) && decide (u ≤ c) && decide (0 ≤ v) && decide (v ≤ c) && decide (1 ≤ w) && decide (w ≤ c) else bif decide (k = 25) then decide (0 ≤ u) && decide (u ≤ c) else true
theorem may15_fn (c k u v w : Int) (hc : 0 ≤ c ∧ c ≤ 65536) : Fn Tryz.prog 9 [.val (.int .i64 c), opV k u v w] (.p (.val (.bool (may15B c k u v w)))) := by
  have g1 : IntKind.u64.wrap c = c := wrap_u64 _ (by omega)
  refine wW Tryz.func9 rfl Tryz.ntmps9 (Nat.le_of_ble_eq_true rfl) ?_
  repeat' (first | (refine zY.is ?_; first | refine zY.nil ?_ | (refine zY.at_ 13 rfl ?_; refine zY.rc (.gY zU (.gY yV (.gY zJ (.gY v44_8 (.v xA (.v zC .e)))))) ?_) | (refine zY.at_ 13 rfl ?_; refine zY.rc (.gT (.gT (.gT (.gT (.v xD (.v zC .e)))))) ?_) | (refine zY.at_ 24 rfl ?_; refine zY.rc (.gY zU (.gY yV (.gY zJ (.gY v44_8 (.v xA (.v zJ .e)))))) ?_) | (refine zY.at_ 24 rfl ?_; refine zY.rc (.gT (.gT (.gT (.gT (.v xD (.v zJ (.gT (.gT (.gT (.v xD (.v zJ (.gT (.gT (.gT (.gT (.v xD (.v zJ (.gT (.gT (.gT (.v xD (.v zJ (.gT (.gT (.gT (.gT (.gT (.v xD (.v zC .e))))))))))))))))))))))))))))) ?_) | (refine zY.at_ 30 rfl ?_; refine zY.rc (.gY zU (.gY yV (.gY v46_8 (.v xA (.v zJ .e))))) ?_) | (refine zY.at_ 30 rfl ?_; refine zY.rc (.gT (.gT (.gT (.v xD (.v zJ (.gT (.gT (.gT (.gT (.v xD (.v zJ (.gT (.gT (.gT (.v xD (.v zJ (.gT (.gT (.gT (.gT (.gT (.v xD (.v zC .e))))))))))))))))))))))) ?_) | (refine zY.at_ 35 rfl ?_; refine zY.rc (.gY zU (.gY yV (.gY zJ (.gY v44_8 (.v xA (.v zJ .e)))))) ?_) | (refine zY.at_ 35 rfl ?_; refine zY.rc (.gT (.gT (.gT (.gT (.v xD (.v zJ (.gT (.gT (.gT (.v xD (.v zJ (.gT (.gT (.gT (.gT (.gT (.v xD (.v zC .e)))))))))))))))))) ?_) | (refine zY.at_ 41 rfl ?_; refine zY.rc (.gY zU (.gY yV (.gY v46_8 (.v xA (.v zJ .e))))) ?_) | (refine zY.at_ 41 rfl ?_; refine zY.rc (.gT (.gT (.gT (.v xD (.v zJ (.gT (.gT (.gT (.gT (.gT (.v xD (.v zC .e)))))))))))) ?_) | (refine zY.at_ 46 rfl ?_; refine zY.rc (.gY zU (.gY yV (.gY zJ (.gY v6_0 (.gY v44_8 (.v xA (.v zC .e))))))) ?_) | (refine zY.at_ 46 rfl ?_; refine zY.rc (.gT (.gT (.gT (.gT (.gT (.v xD (.v zC .e))))))) ?_) | (refine zY.at_ 58 rfl ?_; refine zY.rc (.gY zU (.gY yV (.gY zJ (.gY v44_8 (.v xA (.v zC .e)))))) ?_) | (refine zY.at_ 58 rfl ?_; refine zY.rc (.gT (.gT (.gT (.gT (.v xD (.v zC .e)))))) ?_) | (fail_if_success refine zY.known rfl rfl rfl (by fail) ?_); refine zY.split rfl rfl rfl (fun h => ?_) (fun h => ?_)) | (refine zZ.is ?_; first | refine zZ.seq ?_ | (refine zZ.isR (id := 0) ?_; refine zZ.rc [0, 1] [3] (r := (.m qE (.v zC .e))) (h := ?_)) | (refine zZ.isR (id := 1) ?_; refine zZ.rc [0, 3, 4] [3] (r := (.v zU (.v yV .e))) (h := ?_)) | (refine zZ.isR (id := 2) ?_; refine zZ.rc [0, 3, 4, 6] [3] (r := (.v vZ (.v zC .e))) (h := ?_)) | (refine zZ.isR (id := 3) ?_; refine zZ.rc [0, 3, 4, 6] [3] (r := (.v zU (.v yV (.v v46_8 (.v zJ .e))))) (h := ?_)) | (refine zZ.isR (id := 4) ?_; refine zZ.rc [0, 3, 4, 6] [3] (r := (.v vZ (.v zC .e))) (h := ?_)) | (refine zZ.isR (id := 5) ?_; refine zZ.rc [0, 3, 4, 6] [3] (r := (.v zU (.v yV (.v v46_8 (.v zJ .e))))) (h := ?_)) | (refine zZ.isR (id := 6) ?_; refine zZ.rc [0, 3, 4, 6] [3] (r := (.v vZ (.v zC .e))) (h := ?_)) | (refine zZ.isR (id := 7) ?_; refine zZ.rc [0, 3, 4] [3] (r := (.v zU (.v yV (.v v46_8 (.v zJ .e))))) (h := ?_)) | (refine zZ.isR (id := 8) ?_; refine zZ.rc [4] [3] (r := (.v zC .e)) (h := ?_)) | refine zZ.cond rfl (fun h => ?_) (fun h => ?_) | refine zZ.skip ?_ | refine zZ.block ?_ | refine zZ.ret ?_) | refine zG.r ?_ | refine yZ.r ?_)
  all_goals refine ⟨by first | exact .inl rfl | exact .inr rfl, gives1 rfl rfl (eqB' ?_)⟩
  all_goals simp [may15B, *]
theorem outs_fn (e : Int) (is : Bool) (n w : Int) : Fn Tryz.prog 13 [outV e is n w, outV e is n w] (.p (.val (.bool true))) := by
  have g1 : ∀ x : Int, (!decide (x = x)) = false := fun x => by simp
  have g2 : ∀ x : Bool, (!(x == x)) = false := fun x => by simp
  have g3 : decide ((0 : Int) < 0) = false := rfl
  refine wW Tryz.func13 rfl Tryz.ntmps13 (Nat.le_of_ble_eq_true rfl) ?_
  repeat' (first | refine zZ.loopOnce ?_ | (refine zY.is ?_; first | refine zY.nil ?_ | (refine zY.at_ 12 rfl ?_; refine zY.rc (.gY zU (.gY yV (.gY zU (.gY yV (.gY v42_17 (.v xD (.v zJ .e))))))) ?_) | (refine zY.at_ 12 rfl ?_; refine zY.rc (.gF (.gF (.gF (.gF (.gF (.v xA (.v zJ (.gF (.gF (.gF (.gF (.gF (.v xA (.v zJ (.gF (.gF (.gF (.gF (.gF (.v xA (.v zJ (.gF (.gF (.gF (.gF (.gF (.gF (.gF (.v xA .e))))))))))))))))))))))))))))) ?_) | (refine zY.at_ 19 rfl ?_; refine zY.rc (.gY zU (.gY yV (.gY zU (.gY yV (.gY v42_8 (.v xD (.v zJ .e))))))) ?_) | (refine zY.at_ 19 rfl ?_; refine zY.rc (.gF (.gF (.gF (.gF (.gF (.v xA (.v zJ (.gF (.gF (.gF (.gF (.gF (.v xA (.v zJ (.gF (.gF (.gF (.gF (.gF (.gF (.gF (.v xA .e)))))))))))))))))))))) ?_) | (refine zY.at_ 26 rfl ?_; refine zY.rc (.gY zU (.gY yV (.gY zU (.gY yV (.gY v42_8 (.v xD (.v zJ .e))))))) ?_) | (refine zY.at_ 26 rfl ?_; refine zY.rc (.gF (.gF (.gF (.gF (.gF (.v xA (.v zJ (.gF (.gF (.gF (.gF (.gF (.gF (.gF (.v xA .e))))))))))))))) ?_) | (refine zY.at_ 33 rfl ?_; refine zY.rc (.gY zU (.gY yV (.gY v57_2 (.gY zU (.gY yV (.gY v57_2 (.gY v42_5 (.v xD .e)))))))) ?_) | (refine zY.at_ 33 rfl ?_; refine zY.rc (.gF (.gF (.gF (.gF (.gF (.gF (.gF (.v xA .e)))))))) ?_) | (fail_if_success refine zY.known rfl rfl rfl (by fail) ?_); refine zY.split rfl rfl rfl (fun h => ?_) (fun h => ?_)) | (refine zZ.is ?_; first | refine zZ.seq ?_ | (refine zZ.isR (id := 0) ?_; refine zZ.rc [0, 1] [2, 3] (r := (.m qE (.m qE (.v zC .e)))) (h := ?_)) | (refine zZ.isR (id := 1) ?_; refine zZ.rc [2, 3, 4] [2, 3] (r := (.v zU (.v yV (.v zU (.v yV (.v v42_8 (.v zJ .e))))))) (h := ?_)) | (refine zZ.isR (id := 2) ?_; refine zZ.rc [2, 3, 4] [2, 3] (r := (.v zC .e)) (h := ?_)) | (refine zZ.isR (id := 3) ?_; refine zZ.rc [2, 3, 4] [2, 3] (r := (.v zC .e)) (h := ?_)) | (refine zZ.isR (id := 4) ?_; refine zZ.rc [2, 3, 4, 5, 45, 58] [2, 3] (r := (.v zJ (.v zU (.v yV (.v v57_2 (.v v43_0 .e)))))) (h := ?_)) | (refine zZ.isR (id := 8) ?_; refine zZ.rc [4] [2, 3] (r := (.v zC .e)) (h := ?_)) | refine zZ.yM rfl bA ?_ | refine zZ.yI rfl bA ?_ | refine zZ.skip ?_ | refine zZ.block ?_ | refine zZ.exit ?_ | refine zZ.ret ?_) | refine zG.r ?_)
  all_goals refine ⟨by first | exact .inl rfl | exact .inr rfl, gives1 rfl rfl (eqB' ?_)⟩
  all_goals first | rfl | (exfalso; simp_all; done)
end Go.Proofs.YtohlllohmoojiaaGreatDoor
/- The law ListNext: its function's contract. -/
namespace Go.Proofs.YtohlllohmoojiaaGreatDoor
set_option maxRecDepth 100000
set_option maxHeartbeats 16000000
open Go Go.RowKit
set_option linter.unusedSimpArgs false
set_option linter.unusedVariables false
attribute [local irreducible] zY zZ Step zK Sub zS zH Fn
def inV (t c me k u v w : Int) (L : List yE) : PV := .agg [.val (.int .i64 t), .val (.int .i64 c), .val (.int .i64 me), .val (.int .i64 k), .val (.int .i64 u), .val (.int .i64 v), .val (.int .u64 w), logV L]
theorem opL_may {t c k u v w : Int} (hd : dimsB t c = true) (hm : may15B c k u v w = true) (hw : U w) : OpL k u v w := by
  unfold dimsB at hd
  simp only [Bool.and_eq_true, decide_eq_true_eq] at hd
  unfold may15B at hm
  refine ⟨fun hk => ?_, fun hk => ?_, hw⟩
  · rcases hk with rfl | rfl | rfl <;> simp at hm <;> exact ⟨by omega, by omega⟩
  · subst hk
    simp at hm
    exact ⟨⟨by omega, by omega⟩, ⟨by omega, by omega⟩⟩
/-- what both tell: a tuple -/
theorem both_tell (t c me k u v w : Int) (L : List yE) (hL : wF L) (ht : Small t) (hO : OpL k u v w) (hl : L.length ≤ 60) : ∃ K C A B D E I N X F, Fn Tryz.prog 10 [.val (.int .i64 t), .val (.int .i64 c), .val (.int .i64 me), opV k u v w, logV L] (.tup [accS K C A B D, outV E I N X, .val (.bool F)]) ∧ Fn Tryz.prog 11 [.val (.int .i64 t), opV k u v w, logV L] (.tup [accS K C A B D, outV E I N X, .val (.bool F)]) := by
  have hfine := fine_opL (t := t) hO
  cases hm : (opL t k u v w).run (y5 L) 0 with
  | stuck =>
    have h := hfine.log hL (Nat.zero_le L.length)
    rw [hm] at h
    exact h.elim
  | done o j =>
    have hp : PLet [accV 0 0 0 0 xW, outV o.e o.is o.n o.w, .val (.bool true)] [accS 0 0 0 0 [], outV o.e o.is o.n o.w, .val (.bool true)] := .cons (.agg (.cons (.refl _) (.cons (.refl _) (.cons (.refl _) (.cons (.refl _) (.cons .nil (.cons .nil .nil))))))) (.cons (.refl _) (.cons (.refl _) .nil))
    exact ⟨0, 0, 0, 0, [], o.e, o.is, o.n, o.w, true, (next_done L hL c me ht hO hm).weakT hp, (nextRef_done L hL ht hO hm).weakT hp⟩
  | need q j =>
    have h := hfine.log hL (Nat.zero_le L.length)
    rw [hm] at h
    have hq : qA q := h.1
    have hp : PLet [accQ q, outV 0 false 0 0, .val (.bool false)] [accS q.kind q.cell q.a q.b (qV q.d), outV 0 false 0 0, .val (.bool false)] := by
      refine .cons (.agg (.cons (.refl _) (.cons (.refl _) (.cons (.refl _) (.cons (.refl _) (.cons ?_ (.cons .nil .nil))))))) (.cons (.refl _) (.cons (.refl _) .nil))
      rcases hq.d with ⟨_, e⟩ | ⟨_, bs, _, _, e⟩
      · rw [e]; exact .nil
      · rw [e, bytsOf_byts]; exact .refl _
    exact ⟨q.kind, q.cell, q.a, q.b, qV q.d, 0, false, 0, 0, false, (next_need L hL c me ht hO hm).weakT hp, (nextRef_need L hL ht hO hm).weakT hp⟩
theorem listNextLaw_fn (t c me k u v w : Int) (L : List yE) (hw : U w) (hL : ∀ r ∈ L, U r.n) : Fn Tryz.prog 3 [inV t c me k u v w L] (.p (.val (.bool true))) := by
  have c0 := shown15_fn
  have c1 := dims_fn t c
  refine yS Tryz.func3 rfl Tryz.ntmps3 (Nat.le_of_ble_eq_true rfl) ?_
  cases hd : dimsB t c with
  | false =>
    have h1 : (!dimsB t c) = true := by rw [hd]; rfl
    rw [hd] at c1
    repeat' (first | (refine zY.is ?_; first | refine zY.nil ?_ | (refine zY.at_ 29 rfl ?_; refine zY.rc (.v qX (.v zJ (.gF (.gF (.v xA (.v zJ (.gF (.gF (.gF (.v xA (.v zJ (.gF (.gF (.gF (.v xA (.v zJ (.gF (.gF (.gF (.gF (.v xA .e))))))))))))))))))))) ?_) | (refine zY.at_ 8 rfl ?_; refine zY.rc (.v zC .e) ?_) | (refine zY.in_ [25] rfl ?_; refine zY.v rfl rfl (zO (c0) rfl rfl rfl (by decide)) ?_) | (refine zY.in_ [28] rfl ?_; refine zY.v rfl rfl (zO (c1) rfl rfl rfl (by decide)) ?_)) | (refine zZ.is ?_; first | refine zZ.seq ?_ | (refine zZ.isR (id := 0) ?_; refine zZ.rc [0] [1, 6, 9, 10, 12, 13] (r := (.m qE (.v zC .e))) (h := ?_)) | (refine zZ.isR (id := 1) ?_; refine zZ.rc [1, 2] [1, 6, 9, 10, 12, 13] (r := (.v zU (.v yV (.v zC .e)))) (h := ?_)) | (refine zZ.isR (id := 2) ?_; refine zZ.rc [1, 2, 3] [1, 6, 9, 10, 12, 13] (r := (.v zU (.v yV (.v zC .e)))) (h := ?_)) | (refine zZ.isR (id := 3) ?_; refine zZ.rc [1, 2, 3, 4] [1, 6, 9, 10, 12, 13] (r := (.v zU (.v yV (.v zC .e)))) (h := ?_)) | (refine zZ.isR (id := 4) ?_; refine zZ.rc [1, 2, 3, 4, 5] [1, 6, 9, 10, 12, 13] (r := (.v zU (.v vN (.m yG (.w yQ .e))))) (h := ?_)) | (refine zZ.isR (id := 5) ?_; refine zZ.rc [1, 2, 3, 4, 5, 6] [1, 6, 9, 10, 12, 13] (r := (.v zU (.v yV (.v zC .e)))) (h := ?_)) | (refine zZ.isR (id := 6) ?_; refine zZ.rc [2, 3, 4, 5, 6, 7] [1, 6, 9, 10, 12, 13] (r := .e) (h := ?_)) | (refine zZ.isR (id := 7) ?_; refine zZ.rc [2, 3, 4, 5, 6, 7, 8] [1, 6, 9, 10, 12, 13] (r := (.v zJ (.v zJ .e))) (h := ?_)) | (refine zZ.isR (id := 8) ?_; refine zZ.rc [2, 3, 4, 5, 6, 7, 8] [1, 6, 9, 10, 12, 13] (r := (.v zJ (.v zC .e))) (h := ?_)) | refine zZ.yM rfl bA ?_ | refine zZ.ret ?_) | refine zG.r ?_)
    all_goals exact ⟨by first | exact .inl rfl | exact .inr rfl, _, Sub.refl _, .p rfl (.tmp rfl)⟩
  | true =>
    rw [hd] at c1
    have hd' := hd
    unfold dimsB at hd'
    simp only [Bool.and_eq_true, decide_eq_true_eq] at hd'
    have c2 := may15_fn c k u v w ⟨by omega, by omega⟩
    rcases Int.lt_or_le me 0 with hme | hme
    · have f1 : decide (me < 0) = true := decide_eq_true hme
      repeat' (first | (refine zY.is ?_; first | refine zY.nil ?_ | (refine zY.at_ 29 rfl ?_; refine zY.rc (.v qD (.v zJ (.gY zJ (.gY v43_0 (.v xD (.v zJ (.gF (.gF (.gF (.v xA (.v zJ (.gF (.gF (.gF (.v xA (.v zJ (.gF (.gF (.gF (.gF (.v xA .e))))))))))))))))))))) ?_) | (refine zY.at_ 8 rfl ?_; refine zY.rc (.v zC .e) ?_) | (refine zY.in_ [25] rfl ?_; refine zY.v rfl rfl (zO (c0) rfl rfl rfl (by decide)) ?_) | (refine zY.in_ [28] rfl ?_; refine zY.v rfl rfl (zO (c1) rfl rfl rfl (by decide)) ?_)) | (refine zZ.is ?_; first | refine zZ.seq ?_ | (refine zZ.isR (id := 0) ?_; refine zZ.rc [0] [1, 6, 9, 10, 12, 13] (r := (.m qE (.v zC .e))) (h := ?_)) | (refine zZ.isR (id := 1) ?_; refine zZ.rc [1, 2] [1, 6, 9, 10, 12, 13] (r := (.v zU (.v yV (.v zC .e)))) (h := ?_)) | (refine zZ.isR (id := 2) ?_; refine zZ.rc [1, 2, 3] [1, 6, 9, 10, 12, 13] (r := (.v zU (.v yV (.v zC .e)))) (h := ?_)) | (refine zZ.isR (id := 3) ?_; refine zZ.rc [1, 2, 3, 4] [1, 6, 9, 10, 12, 13] (r := (.v zU (.v yV (.v zC .e)))) (h := ?_)) | (refine zZ.isR (id := 4) ?_; refine zZ.rc [1, 2, 3, 4, 5] [1, 6, 9, 10, 12, 13] (r := (.v zU (.v vN (.m yG (.w yQ .e))))) (h := ?_)) | (refine zZ.isR (id := 5) ?_; refine zZ.rc [1, 2, 3, 4, 5, 6] [1, 6, 9, 10, 12, 13] (r := (.v zU (.v yV (.v zC .e)))) (h := ?_)) | (refine zZ.isR (id := 6) ?_; refine zZ.rc [2, 3, 4, 5, 6, 7] [1, 6, 9, 10, 12, 13] (r := .e) (h := ?_)) | (refine zZ.isR (id := 7) ?_; refine zZ.rc [2, 3, 4, 5, 6, 7, 8] [1, 6, 9, 10, 12, 13] (r := (.v zJ (.v zJ .e))) (h := ?_)) | (refine zZ.isR (id := 8) ?_; refine zZ.rc [2, 3, 4, 5, 6, 7, 8] [1, 6, 9, 10, 12, 13] (r := (.v zJ (.v zC .e))) (h := ?_)) | refine zZ.yM rfl bA ?_ | refine zZ.ret ?_) | refine zG.r ?_)
      all_goals exact ⟨by first | exact .inl rfl | exact .inr rfl, _, Sub.refl _, .p rfl (.tmp rfl)⟩
    · have f1 : decide (me < 0) = false := decide_eq_false (by omega)
      rcases Int.lt_or_le me t with hmt | hmt
      · have f2 : decide (t ≤ me) = false := decide_eq_false (by omega)
        rcases Nat.lt_or_ge 60 L.length with hl | hl
        · have f3 : decide ((60 : Int) < ((L.map qR).length : Int)) = true := decide_eq_true (by rw [List.length_map]; omega)
          repeat' (first | (refine zY.is ?_; first | refine zY.nil ?_ | (refine zY.at_ 29 rfl ?_; refine zY.rc (.v qD (.v zJ (.gY zJ (.gY v43_0 (.v xD (.v zJ (.gY zJ (.gY zJ (.gY v46_0 (.v xD (.v zJ (.gY zJ (.gY v57_1 (.gY v45_0 (.v xD (.v zJ (.gF (.gF (.gF (.gF (.v xA .e))))))))))))))))))))) ?_) | (refine zY.at_ 8 rfl ?_; refine zY.rc (.v zC .e) ?_) | (refine zY.in_ [25] rfl ?_; refine zY.v rfl rfl (zO (c0) rfl rfl rfl (by decide)) ?_) | (refine zY.in_ [28] rfl ?_; refine zY.v rfl rfl (zO (c1) rfl rfl rfl (by decide)) ?_)) | (refine zZ.is ?_; first | refine zZ.seq ?_ | (refine zZ.isR (id := 0) ?_; refine zZ.rc [0] [1, 6, 9, 10, 12, 13] (r := (.m qE (.v zC .e))) (h := ?_)) | (refine zZ.isR (id := 1) ?_; refine zZ.rc [1, 2] [1, 6, 9, 10, 12, 13] (r := (.v zU (.v yV (.v zC .e)))) (h := ?_)) | (refine zZ.isR (id := 2) ?_; refine zZ.rc [1, 2, 3] [1, 6, 9, 10, 12, 13] (r := (.v zU (.v yV (.v zC .e)))) (h := ?_)) | (refine zZ.isR (id := 3) ?_; refine zZ.rc [1, 2, 3, 4] [1, 6, 9, 10, 12, 13] (r := (.v zU (.v yV (.v zC .e)))) (h := ?_)) | (refine zZ.isR (id := 4) ?_; refine zZ.rc [1, 2, 3, 4, 5] [1, 6, 9, 10, 12, 13] (r := (.v zU (.v vN (.m yG (.w yQ .e))))) (h := ?_)) | (refine zZ.isR (id := 5) ?_; refine zZ.rc [1, 2, 3, 4, 5, 6] [1, 6, 9, 10, 12, 13] (r := (.v zU (.v yV (.v zC .e)))) (h := ?_)) | (refine zZ.isR (id := 6) ?_; refine zZ.rc [2, 3, 4, 5, 6, 7] [1, 6, 9, 10, 12, 13] (r := .e) (h := ?_)) | (refine zZ.isR (id := 7) ?_; refine zZ.rc [2, 3, 4, 5, 6, 7, 8] [1, 6, 9, 10, 12, 13] (r := (.v zJ (.v zJ .e))) (h := ?_)) | (refine zZ.isR (id := 8) ?_; refine zZ.rc [2, 3, 4, 5, 6, 7, 8] [1, 6, 9, 10, 12, 13] (r := (.v zJ (.v zC .e))) (h := ?_)) | refine zZ.yM rfl bA ?_ | refine zZ.ret ?_) | refine zG.r ?_)
          all_goals exact ⟨by first | exact .inl rfl | exact .inr rfl, _, Sub.refl _, .p rfl (.tmp rfl)⟩
        · have f3 : decide ((60 : Int) < ((L.map qR).length : Int)) = false := decide_eq_false (by rw [List.length_map]; omega)
          cases hm : may15B c k u v w with
          | false =>
            rw [hm] at c2
            repeat' (first | (refine zY.is ?_; first | refine zY.nil ?_ | (refine zY.at_ 29 rfl ?_; refine zY.rc (.v qD (.v zJ (.gY zJ (.gY v43_0 (.v xD (.v zJ (.gY zJ (.gY zJ (.gY v46_0 (.v xD (.v zJ (.gY zJ (.gY v57_1 (.gY v45_0 (.v xD (.v zJ (.gY zJ (.gY vN .e)))))))))))))))))) ?_) | (refine zY.at_ 48 rfl ?_; refine zY.rc (.gY qX (.v xD .e)) ?_) | (refine zY.at_ 8 rfl ?_; refine zY.rc (.v zC .e) ?_) | (refine zY.in_ [25] rfl ?_; refine zY.v rfl rfl (zO (c0) rfl rfl rfl (by decide)) ?_) | (refine zY.in_ [28] rfl ?_; refine zY.v rfl rfl (zO (c1) rfl rfl rfl (by decide)) ?_) | (refine zY.in_ [47] rfl ?_; refine zY.gY rfl rfl (by decide) rfl bA rfl (by decide) (zO (c2) rfl rfl rfl (by decide)) ?_)) | (refine zZ.is ?_; first | refine zZ.seq ?_ | (refine zZ.isR (id := 0) ?_; refine zZ.rc [0] [1, 6, 9, 10, 12, 13] (r := (.m qE (.v zC .e))) (h := ?_)) | (refine zZ.isR (id := 1) ?_; refine zZ.rc [1, 2] [1, 6, 9, 10, 12, 13] (r := (.v zU (.v yV (.v zC .e)))) (h := ?_)) | (refine zZ.isR (id := 2) ?_; refine zZ.rc [1, 2, 3] [1, 6, 9, 10, 12, 13] (r := (.v zU (.v yV (.v zC .e)))) (h := ?_)) | (refine zZ.isR (id := 3) ?_; refine zZ.rc [1, 2, 3, 4] [1, 6, 9, 10, 12, 13] (r := (.v zU (.v yV (.v zC .e)))) (h := ?_)) | (refine zZ.isR (id := 4) ?_; refine zZ.rc [1, 2, 3, 4, 5] [1, 6, 9, 10, 12, 13] (r := (.v zU (.v vN (.m yG (.w yQ .e))))) (h := ?_)) | (refine zZ.isR (id := 5) ?_; refine zZ.rc [1, 2, 3, 4, 5, 6] [1, 6, 9, 10, 12, 13] (r := (.v zU (.v yV (.v zC .e)))) (h := ?_)) | (refine zZ.isR (id := 6) ?_; refine zZ.rc [2, 3, 4, 5, 6, 7] [1, 6, 9, 10, 12, 13] (r := .e) (h := ?_)) | (refine zZ.isR (id := 7) ?_; refine zZ.rc [2, 3, 4, 5, 6, 7, 8] [1, 6, 9, 10, 12, 13] (r := (.v zJ (.v zJ .e))) (h := ?_)) | (refine zZ.isR (id := 8) ?_; refine zZ.rc [2, 3, 4, 5, 6, 7, 8] [1, 6, 9, 10, 12, 13] (r := (.v zJ (.v zC .e))) (h := ?_)) | refine zZ.yM rfl bA ?_ | refine zZ.ret ?_) | refine zG.r ?_)
            all_goals exact ⟨by first | exact .inl rfl | exact .inr rfl, _, Sub.refl _, .p rfl (.tmp rfl)⟩
          | true =>
            rw [hm] at c2
            obtain ⟨K, C, A, B, D, E, I, N, X, F, c3, c4⟩ := both_tell t c me k u v w L ⟨by omega, hL⟩ (by unfold Small; omega) (opL_may hd hm hw) hl
            have c5 := asks_fn K C A B D
            have c6 := outs_fn E I N X
            have g1 : (F == F) = true := by simp
            repeat' (first | (refine zY.is ?_; first | refine zY.nil ?_ | (refine zY.at_ 29 rfl ?_; refine zY.rc (.v qD (.v zJ (.gY zJ (.gY v43_0 (.v xD (.v zJ (.gY zJ (.gY zJ (.gY v46_0 (.v xD (.v zJ (.gY zJ (.gY v57_1 (.gY v45_0 (.v xD (.v zJ (.gY zJ (.gY vN .e)))))))))))))))))) ?_) | (refine zY.at_ 48 rfl ?_; refine zY.rc (.gY qD (.v xD .e)) ?_) | (refine zY.at_ 51 rfl ?_; refine zY.rc (.v v0_4 (.v y9 (.v y9 (.v y9 (.m yG (.m yG (.w yQ (.w yQ (.v zC .e))))))))) ?_) | (refine zY.at_ 61 rfl ?_; refine zY.rc (.v v0_4 (.v y9 (.v y9 (.v y9 (.m yG (.m yG (.w yQ (.w yQ (.v zC .e))))))))) ?_) | (refine zY.at_ 74 rfl ?_; refine zY.rc (.v xA (.v zJ (.gY vN (.gY vN .e)))) ?_) | (refine zY.at_ 79 rfl ?_; refine zY.rc (.v xA (.v zJ (.gY zJ (.gY zJ (.gY v41_9 (.v xA (.v zC .e))))))) ?_) | (refine zY.at_ 8 rfl ?_; refine zY.rc (.v zC .e) ?_) | (refine zY.in_ [25] rfl ?_; refine zY.v rfl rfl (zO (c0) rfl rfl rfl (by decide)) ?_) | (refine zY.in_ [28] rfl ?_; refine zY.v rfl rfl (zO (c1) rfl rfl rfl (by decide)) ?_) | (refine zY.in_ [57] rfl ?_; refine zY.v rfl rfl (xJ (c3) rfl rfl rfl (by decide)) ?_) | (refine zY.in_ [65] rfl ?_; refine zY.v rfl rfl (xJ (c4) rfl rfl rfl (by decide)) ?_) | (refine zY.in_ [47] rfl ?_; refine zY.gY rfl rfl (by decide) rfl bA rfl (by decide) (zO (c2) rfl rfl rfl (by decide)) ?_) | (refine zY.in_ [73] rfl ?_; refine zY.gY rfl rfl (by decide) rfl bA rfl (by decide) (zO (c5) rfl rfl rfl (by decide)) ?_) | (refine zY.in_ [78] rfl ?_; refine zY.gY rfl rfl (by decide) rfl bA rfl (by decide) (zO (c6) rfl rfl rfl (by decide)) ?_)) | (refine zZ.is ?_; first | refine zZ.seq ?_ | (refine zZ.isR (id := 0) ?_; refine zZ.rc [0] [1, 6, 9, 10, 12, 13] (r := (.m qE (.v zC .e))) (h := ?_)) | (refine zZ.isR (id := 1) ?_; refine zZ.rc [1, 2] [1, 6, 9, 10, 12, 13] (r := (.v zU (.v yV (.v zC .e)))) (h := ?_)) | (refine zZ.isR (id := 2) ?_; refine zZ.rc [1, 2, 3] [1, 6, 9, 10, 12, 13] (r := (.v zU (.v yV (.v zC .e)))) (h := ?_)) | (refine zZ.isR (id := 3) ?_; refine zZ.rc [1, 2, 3, 4] [1, 6, 9, 10, 12, 13] (r := (.v zU (.v yV (.v zC .e)))) (h := ?_)) | (refine zZ.isR (id := 4) ?_; refine zZ.rc [1, 2, 3, 4, 5] [1, 6, 9, 10, 12, 13] (r := (.v zU (.v vN (.m yG (.w yQ .e))))) (h := ?_)) | (refine zZ.isR (id := 5) ?_; refine zZ.rc [1, 2, 3, 4, 5, 6] [1, 6, 9, 10, 12, 13] (r := (.v zU (.v yV (.v zC .e)))) (h := ?_)) | (refine zZ.isR (id := 6) ?_; refine zZ.rc [2, 3, 4, 5, 6, 7] [1, 6, 9, 10, 12, 13] (r := .e) (h := ?_)) | (refine zZ.isR (id := 7) ?_; refine zZ.rc [2, 3, 4, 5, 6, 7, 8] [1, 6, 9, 10, 12, 13] (r := (.v zJ (.v zJ .e))) (h := ?_)) | (refine zZ.isR (id := 9) ?_; refine zZ.rc [2, 3, 4, 5, 6, 7, 8] [1, 6, 9, 10, 12, 13] (r := (.v zJ (.v zJ (.v zJ (.v vN (.v zJ .e)))))) (h := ?_)) | (refine zZ.isR (id := 10) ?_; refine zZ.rc [2, 3, 6, 7, 8, 9, 10, 11] [1, 6, 9, 10, 12, 13] (r := (.v zJ (.v vN (.v zJ .e)))) (h := ?_)) | (refine zZ.isR (id := 11) ?_; refine zZ.rc [2, 8, 9, 10, 11, 12, 13, 14] [1, 6, 9, 10, 12, 13] (r := (.v zJ (.v zJ (.gY vN (.gY vN .e))))) (h := ?_)) | refine zZ.yI rfl bA ?_ | refine zZ.skip ?_ | refine zZ.ret ?_))
            all_goals exact ⟨by first | exact .inl rfl | exact .inr rfl, _, Sub.refl _, .p rfl (.tmp (by rfl))⟩
      · have f2 : decide (t ≤ me) = true := decide_eq_true (by omega)
        repeat' (first | (refine zY.is ?_; first | refine zY.nil ?_ | (refine zY.at_ 29 rfl ?_; refine zY.rc (.v qD (.v zJ (.gY zJ (.gY v43_0 (.v xD (.v zJ (.gY zJ (.gY zJ (.gY v46_0 (.v xD (.v zJ (.gF (.gF (.gF (.v xA (.v zJ (.gF (.gF (.gF (.gF (.v xA .e))))))))))))))))))))) ?_) | (refine zY.at_ 8 rfl ?_; refine zY.rc (.v zC .e) ?_) | (refine zY.in_ [25] rfl ?_; refine zY.v rfl rfl (zO (c0) rfl rfl rfl (by decide)) ?_) | (refine zY.in_ [28] rfl ?_; refine zY.v rfl rfl (zO (c1) rfl rfl rfl (by decide)) ?_)) | (refine zZ.is ?_; first | refine zZ.seq ?_ | (refine zZ.isR (id := 0) ?_; refine zZ.rc [0] [1, 6, 9, 10, 12, 13] (r := (.m qE (.v zC .e))) (h := ?_)) | (refine zZ.isR (id := 1) ?_; refine zZ.rc [1, 2] [1, 6, 9, 10, 12, 13] (r := (.v zU (.v yV (.v zC .e)))) (h := ?_)) | (refine zZ.isR (id := 2) ?_; refine zZ.rc [1, 2, 3] [1, 6, 9, 10, 12, 13] (r := (.v zU (.v yV (.v zC .e)))) (h := ?_)) | (refine zZ.isR (id := 3) ?_; refine zZ.rc [1, 2, 3, 4] [1, 6, 9, 10, 12, 13] (r := (.v zU (.v yV (.v zC .e)))) (h := ?_)) | (refine zZ.isR (id := 4) ?_; refine zZ.rc [1, 2, 3, 4, 5] [1, 6, 9, 10, 12, 13] (r := (.v zU (.v vN (.m yG (.w yQ .e))))) (h := ?_)) | (refine zZ.isR (id := 5) ?_; refine zZ.rc [1, 2, 3, 4, 5, 6] [1, 6, 9, 10, 12, 13] (r := (.v zU (.v yV (.v zC .e)))) (h := ?_)) | (refine zZ.isR (id := 6) ?_; refine zZ.rc [2, 3, 4, 5, 6, 7] [1, 6, 9, 10, 12, 13] (r := .e) (h := ?_)) | (refine zZ.isR (id := 7) ?_; refine zZ.rc [2, 3, 4, 5, 6, 7, 8] [1, 6, 9, 10, 12, 13] (r := (.v zJ (.v zJ .e))) (h := ?_)) | (refine zZ.isR (id := 8) ?_; refine zZ.rc [2, 3, 4, 5, 6, 7, 8] [1, 6, 9, 10, 12, 13] (r := (.v zJ (.v zC .e))) (h := ?_)) | refine zZ.yM rfl bA ?_ | refine zZ.ret ?_) | refine zG.r ?_)
        all_goals exact ⟨by first | exact .inl rfl | exact .inr rfl, _, Sub.refl _, .p rfl (.tmp rfl)⟩
end Go.Proofs.YtohlllohmoojiaaGreatDoor
/- A law's arguments, as they come in, by their shapes. Generic over the program. -/
namespace Go.Proofs.YtohlllohmoojiaaGreatDoor
set_option maxRecDepth 100000
set_option maxHeartbeats 16000000
open Go Go.RowKit Go.ChangeShapes Go.WideShapes Go.ChangeAt
def NoM : Nat → Nat → Prop := fun _ _ => False
/-- what a cell may hold -/
inductive Leaf where
  | int (k : IntKind)
  | bool
  | any
deriving DecidableEq
def leafOK : Leaf → Value → Prop
  | .int k, v => ∃ n, v = .int k n ∧ (Lit.int k n).wf = true
  | .bool, v => ∃ b, v = .bool b
  | .any, v => v.oneCell' = true
/-- type t's cells, one behind the other, are of these kinds (any: a slice) -/
def flatB (P : Program) : Nat → TypeId → List Leaf → Bool
  | 0, _, _ => false
  | d + 1, t, ls => match P.underlying t with
    | some (.int k) => decide (ls = [.int k])
    | some .bool => decide (ls = [.bool])
    | some (.slice _) => decide (ls = [.any])
    | some (.struct fs) => (ls.length == P.cellsOf t) && (fs.toList.all fun f => flatB P d f.type ((ls.drop f.offset).take (P.cellsOf f.type)) && (((ls.drop f.offset).take (P.cellsOf f.type)).length == P.cellsOf f.type)) &&
      (List.range ls.length).all fun c => fs.toList.any fun f => decide (f.offset ≤ c) && decide (c < f.offset + P.cellsOf f.type)
    | _ => false
section
variable {H : Type} {enc : TypeId × Value → H} {P : Program} {W : World} {base : Nat} {spare : Nat → Bool} {held : Bool}
theorem flat_trod : ∀ (d : Nat) {t : TypeId} {ls : List Leaf}, flatB P d t ls = true → ∀ {fuel : Nat} {cs : List Value} {x : DataW H × List MemPlace}, DataW.trod enc P W base spare held fuel t cs = some x →
    cs.length = ls.length ∧ ∀ (i : Nat) l v, ls[i]? = some l → cs[i]? = some v → leafOK l v
  | 0, _, _, h, _, _, _, _ => by cases h
  | d + 1, t, ls, h, fuel, cs, x, hx => by
    unfold flatB at h
    cases hu : P.underlying t with
    | none => rw [hu] at h; cases h
    | some ds =>
      rw [hu] at h
      cases ds with
      | int k =>
        obtain rfl : ls = [.int k] := of_decide_eq_true h
        obtain ⟨n, rfl, _, hw⟩ := DataW.trod_int hu hx
        refine ⟨rfl, fun i l v hl hv => ?_⟩
        match i with
        | 0 => simp at hl hv; subst hl hv; exact ⟨n, rfl, hw⟩
        | i + 1 => simp at hl
      | bool =>
        obtain rfl : ls = [.bool] := of_decide_eq_true h
        obtain ⟨b, rfl, _⟩ := DataW.trod_bool hu hx
        refine ⟨rfl, fun i l v hl hv => ?_⟩
        match i with
        | 0 => simp at hl hv; subst hl hv; exact ⟨b, rfl⟩
        | i + 1 => simp at hl
      | slice e =>
        obtain rfl : ls = [.any] := of_decide_eq_true h
        have key : ∀ w : Value, w.oneCell' = true → cs = [w] → cs.length = [Leaf.any].length ∧ ∀ (i : Nat) l v, [Leaf.any][i]? = some l → cs[i]? = some v → leafOK l v := fun w hw e => by
          subst e
          refine ⟨rfl, fun i l v hl hv => ?_⟩
          match i with
          | 0 => simp at hl hv; subst hl hv; exact hw
          | i + 1 => simp at hl
        rcases DataW.trod_slice hu hx with ⟨e, _⟩ | ⟨a, len, cap, _, _, _, _, e, _⟩
        · exact key _ rfl e
        · exact key _ rfl e
      | struct fs =>
        simp only [Bool.and_eq_true, beq_iff_eq, List.all_eq_true, List.mem_range, List.any_eq_true, decide_eq_true_eq] at h
        obtain ⟨⟨hlen, hfs⟩, hcov⟩ := h
        obtain ⟨xs, n, _, _, hcl, hxl, hg⟩ := DataW.trod_struct hu hx
        refine ⟨by omega, fun i l v hl hv => ?_⟩
        have hil : i < ls.length := (List.getElem?_eq_some_iff.1 hl).1
        obtain ⟨f, hf, hf1, hf2⟩ := hcov i hil
        obtain ⟨hfl, hfn⟩ := hfs f hf
        obtain ⟨j, hj, hfj⟩ := List.getElem_of_mem hf
        have hfj2 : fs[j]? = some f := by
          rw [← hfj, Array.getElem_toList]
          exact Array.getElem?_eq_getElem _
        have h2 := hg j f hfj2
        have hjx : j < xs.length := by rw [hxl]; simpa using hj
        rw [List.getElem?_eq_getElem hjx] at h2
        obtain ⟨_, h3⟩ := flat_trod d hfl h2
        refine h3 (i - f.offset) l v ?_ ?_
        · rw [List.getElem?_take_of_lt (by omega), List.getElem?_drop, show f.offset + (i - f.offset) = i by omega]
          exact hl
        · rw [List.getElem?_take_of_lt (by omega), List.getElem?_drop, show f.offset + (i - f.offset) = i by omega]
          exact hv
      | _ => cases h
theorem has_block {r : Reach} {a : Addr} {e : TypeId} {n : Nat} (h : W.has P r base a e n) : a.spot = none ∧ a.block < W.heap.size := by
  obtain ⟨_, h1, row, cells, h2, _⟩ := h
  refine ⟨h1, ?_⟩
  unfold World.shape? at h2
  cases hb : W.heap[a.block]? with
  | none => rw [hb] at h2; cases h2
  | some o => exact (Array.getElem?_eq_some_iff.1 hb).1
theorem cell_slice {t e : TypeId} {a : Addr} {len cap : Nat} (ht : P.underlying t = some (.slice e)) (h : Cell.okWide P W .any base t (.slice (some a) len cap)) : a.spot = none ∧ a.block < W.heap.size ∧ len ≤ cap := by
  simp only [Cell.okWide, ht, Cell.ok] at h
  exact ⟨(has_block h.2.2).1, (has_block h.2.2).2, h.1⟩
/-- a struct's cell, as the form lays it -/
theorem wide_cell {t u : TypeId} {fs : Array Field} {cs : Array Value} {ts : List TypeId} {i : Nat} {v : Value} (ht : P.underlying t = some (.struct fs)) (h : Value.okWide P W .any base t (.agg cs)) (hts : P.cellTypes P.depth t = some ts) (hi : ts[i]? = some u) (hv : cs[i]? = some v) : Cell.okWide P W .any base u v := by
  simp only [Value.okWide, ht] at h
  obtain ⟨cs', e, _, ts', h1, _, h2⟩ := h
  injection e with e
  subst e
  obtain rfl : ts = ts' := Option.some.inj (hts.symm.trans h1)
  obtain ⟨u', hu', hc⟩ := h2 i v hv
  have hlt : i < ts.length := (List.getElem?_eq_some_iff.1 hi).1
  rw [Nat.mod_eq_of_lt hlt, hi] at hu'
  obtain rfl := Option.some.inj hu'
  exact hc
theorem leaf_one {l : Leaf} {v : Value} (h : leafOK l v) : v.oneCell' = true := by
  cases l with
  | int k => obtain ⟨n, rfl, _⟩ := h; rfl
  | bool => obtain ⟨b, rfl⟩ := h; rfl
  | any => exact h
theorem flatten_len {n : Nat} : ∀ {rs : List (List Value)}, (∀ r ∈ rs, r.length = n) → rs.flatten.length = rs.length * n
  | [], _ => by simp
  | r :: rs, h => by
    rw [List.flatten_cons, List.length_append, h r (by simp), flatten_len fun x hx => h x (by simp [hx]), List.length_cons, Nat.add_mul]
    omega
theorem flatten_get {n : Nat} : ∀ {rs : List (List Value)}, (∀ r ∈ rs, r.length = n) → ∀ (i c : Nat), c < n → rs.flatten[i * n + c]? = (rs[i]?).bind (·[c]?)
  | [], _, i, c, _ => by simp
  | r :: rs, h, 0, c, hc => by
    rw [List.flatten_cons, Nat.zero_mul, Nat.zero_add, List.getElem?_append_left (by rw [h r (by simp)]; exact hc)]
    rfl
  | r :: rs, h, i + 1, c, hc => by
    have hr := h r (by simp)
    rw [List.flatten_cons, List.getElem?_append_right (by rw [hr, Nat.add_mul]; omega), hr]
    have e : (i + 1) * n + c - n = i * n + c := by rw [Nat.add_mul]; omega
    rw [e, flatten_get (fun x hx => h x (by simp [hx])) i c hc]
    rfl
/-- a slice of plain structs (of slices, as they are) that came in -/
theorem arg_rows {t e : TypeId} {ls : List Leaf} {dep : Nat} {v : Value} {fuel : Nat} {x : DataW H × List MemPlace} (ht : P.underlying t = some (.slice e)) (hfl : flatB P dep e ls = true) (hn : P.cellsOf e = ls.length)
    (hok : ∀ a len cap, v = .slice (some a) len cap → a.spot = none ∧ a.block < W.heap.size) (h : DataW.trod enc P W base (fun _ => true) held fuel t [v] = some x) :
    ∃ rows : List (List Value), (∀ r ∈ rows, r.length = ls.length ∧ ∀ (i : Nat) l u, ls[i]? = some l → r[i]? = some u → leafOK l u) ∧ rows.length ≤ maxLen ∧
      ∀ es : List PV, es.map PV.cells = rows.map (fun r => r.map PV.val) → Rep NoM W (.sl es) v := by
  rcases DataW.trod_slice ht h with ⟨hv, _⟩ | ⟨a, len, cap, elems, rest, n, _, hv, _, hb, hlc, hm, hlen, hel, _⟩
  · simp only [List.cons.injEq, and_true] at hv
    subst hv
    refine ⟨[], fun r hr => by simp at hr, Nat.zero_le _, fun es he => ?_⟩
    have : es = [] := by simpa using he
    subst this
    exact .nil
  · simp only [List.cons.injEq, and_true] at hv
    subst hv
    obtain ⟨hs, hbk⟩ := hok a len cap rfl
    obtain ⟨g, off, spot⟩ := a
    simp only at hs hbk
    subst hs
    have row : ∀ i, i < len → ∃ r : List Value, W.cells? base (Addr.add ⟨g, off, none⟩ (i * P.cellsOf e)) (P.cellsOf e) = some r ∧ r.length = ls.length ∧ ∀ (j : Nat) l u, ls[j]? = some l → r[j]? = some u → leafOK l u := by
      intro i hi
      have h1 := hel i hi
      rw [List.getElem?_eq_getElem (by omega : i < elems.length)] at h1
      obtain ⟨r, hr, h2⟩ := Option.bind_eq_some_iff.1 h1
      obtain ⟨h3, h4⟩ := flat_trod dep hfl h2
      exact ⟨r, hr, h3, h4⟩
    have rows : ∀ m, m ≤ len → ∃ rs : List (List Value), rs.length = m ∧ ∀ (i : Nat) r, rs[i]? = some r → W.cells? base (Addr.add ⟨g, off, none⟩ (i * P.cellsOf e)) (P.cellsOf e) = some r ∧ r.length = ls.length ∧ ∀ (j : Nat) l u, ls[j]? = some l → r[j]? = some u → leafOK l u := by
      intro m
      induction m with
      | zero => exact fun _ => ⟨[], rfl, fun i r h => by simp at h⟩
      | succ m ih =>
        intro hm2
        obtain ⟨rs, h1, h2⟩ := ih (by omega)
        obtain ⟨r, hr⟩ := row m (by omega)
        refine ⟨rs ++ [r], by simp [h1], fun i r' hi => ?_⟩
        rcases Nat.lt_or_ge i rs.length with h3 | h3
        · rw [List.getElem?_append_left h3] at hi
          exact h2 i r' hi
        · rw [List.getElem?_append_right h3] at hi
          have e0 : i - rs.length = 0 := by
            rcases Nat.eq_zero_or_pos (i - rs.length) with h | h
            · exact h
            · rw [List.getElem?_eq_none (by simp; omega)] at hi; cases hi
          rw [e0] at hi
          simp at hi
          subst hi
          rw [show i = m by omega]
          exact hr
    obtain ⟨rs, hrl, hrs⟩ := rows len (Nat.le_refl _)
    refine ⟨rs, fun r hr => ?_, by omega, fun es he => ?_⟩
    · obtain ⟨i, hi, rfl⟩ := List.getElem_of_mem hr
      exact (hrs i _ (List.getElem?_eq_getElem hi)).2
    · have hn0 : P.cellsOf e = ls.length := hn
      have hesl : es.length = rs.length := by simpa using congrArg List.length he
      have hflat : flat es = rs.flatten.map PV.val := by
        show es.flatMap PV.cells = _
        rw [List.flatMap_def, he, List.map_flatten]
      have hrn : ∀ r ∈ rs, r.length = ls.length := fun r hr => by
        obtain ⟨i, hi, rfl⟩ := List.getElem_of_mem hr
        exact (hrs i _ (List.getElem?_eq_getElem hi)).2.1
      have hyl : rs.flatten.length = rs.length * ls.length := flatten_len hrn
      have at_ : ∀ (j : Nat) y, rs.flatten[j]? = some y → ∃ i c r, j = i * ls.length + c ∧ rs[i]? = some r ∧ r[c]? = some y := fun j y hy => by
        have hj : j < rs.length * ls.length := by rw [← hyl]; exact (List.getElem?_eq_some_iff.1 hy).1
        have hpos : 0 < ls.length := by
          rcases Nat.eq_zero_or_pos ls.length with h | h
          · rw [h] at hj; omega
          · exact h
        have e1 : j = (j / ls.length) * ls.length + j % ls.length := by
          have := Nat.div_add_mod j ls.length
          rw [Nat.mul_comm] at this
          omega
        have hi : j / ls.length < rs.length := (Nat.div_lt_iff_lt_mul hpos).2 hj
        have hc : j % ls.length < ls.length := Nat.mod_lt _ hpos
        have h1 := flatten_get hrn (j / ls.length) (j % ls.length) hc
        rw [← e1, hy, List.getElem?_eq_getElem hi] at h1
        exact ⟨_, _, _, e1, List.getElem?_eq_getElem hi, h1.symm⟩
      refine .sl es g off len cap rs.flatten (by omega) (by rw [hflat, List.length_map]) (fun j y hy => ?_) (fun j c y hc hy => ?_) (fun y hy => ?_) (fun _ _ h => h) hbk hlc hm
      · obtain ⟨i, c, r, rfl, hr, hc⟩ := at_ j y hy
        have h1 := World.cells?_some (hrs i r hr).1
        have hcl : c < P.cellsOf e := by
          rw [hn0, ← (hrs i r hr).2.1]
          exact (List.getElem?_eq_some_iff.1 hc).1
        have h2 := h1.2.2 c hcl
        rw [hc, add_lit, add_lit, hn0, Nat.add_assoc] at h2
        exact h2
      · rw [hflat, List.getElem?_map, hy] at hc
        simp only [Option.map_some, Option.some.injEq] at hc
        subst hc
        exact .val _
      · obtain ⟨j, hj, rfl⟩ := List.getElem_of_mem hy
        obtain ⟨i, c, r, _, hr, hc⟩ := at_ j _ (List.getElem?_eq_getElem hj)
        have hcl : c < ls.length := by
          rw [← (hrs i r hr).2.1]
          exact (List.getElem?_eq_some_iff.1 hc).1
        exact leaf_one ((hrs i r hr).2.2 c _ _ (List.getElem?_eq_getElem hcl) hc)
end
end Go.Proofs.YtohlllohmoojiaaGreatDoor
/- A law's call, by its contract; the table that the row lists; a world that fits. -/
namespace Go.Proofs.YtohlllohmoojiaaGreatDoor
set_option maxRecDepth 100000
set_option maxHeartbeats 16000000
open Go Go.RowKit Go.ChangeShapes Go.WideShapes Go.ChangeAt
set_option linter.unusedVariables false
theorem ownT : ownKnob Tryz.prog.godebug = none := by kernel_rfl
theorem laidOutT : laidOutB Tryz.prog = true := by kernel_rfl
section
variable {P : Program} {W : World}
theorem wf_u64 {n : Int} (h : (Lit.int .u64 n).wf = true) : 0 ≤ n ∧ n < 18446744073709551616 := by
  have := bounds_u64 h
  omega
/-- A law's call, by its contract. -/
theorem Fn.law {f : FuncId} {args : List PV} (h : Fn P f args (.p (.val (.bool true)))) (hlay : Lays W) {vs : List Value} (hl : vs.length = args.length) (hr : ∀ (i : Nat) x v, args[i]? = some x → vs[i]? = some v → Rep NoM W x v) :
    Calls P f vs.toArray W fun e W' => e = .returned (.bool true) ∧ Below W.heap.size W W' :=
  (h NoM W vs ⟨hlay, fun _ _ _ h => h⟩ (fun _ _ h => h.elim) hl hr).mono fun e W' ⟨v, he, hv, hb⟩ => by
    cases hv
    exact ⟨he, hb⟩
theorem reps1 {M : Nat → Nat → Prop} {x0 : PV} {v0 : Value} (h0 : Rep M W x0 v0) : ∀ (i : Nat) x v, [x0][i]? = some x → [v0][i]? = some v → Rep M W x v := by
  intro i x v hx hv
  match i with
  | 0 => simp at hx hv; subst hx; subst hv; exact h0
  | i + 1 => simp at hx
end
/-! ### The listed table -/
theorem gTbl : Tryz.prog.globalNamed "weald/crc.halves" = some 0 := by kernel_rfl
theorem tTbl : (Tryz.prog.globals[0]?).map (·.type) = some 262 := by kernel_rfl
def laidL : List (String × DataW Unit) := [("weald/crc.halves", Rows.laid_weald_crc_halves)]
theorem lays_of_laid {W : World} (h : laidMetH Tryz.prog laidL W) : Lays W := by
  rw [MakeChecks.laidMetH_plain _ _ _ (by kernel_rfl)] at h
  obtain ⟨ps, ⟨g0, t0, cs0, f0, p0, q0, hg0, ht0, hv0, hd0, _, _⟩, _⟩ := h
  obtain rfl := Option.some.inj (gTbl.symm.trans hg0)
  obtain rfl := Option.some.inj (tTbl.symm.trans ht0)
  have hcell := World.var?_cell hg0 hv0
  obtain ⟨xs, m1, _, hx1, hlen, hn, hel⟩ := DataW.trod_array Tryz.underlying262 hd0
  have c1 : Tryz.prog.cellsOf 251 = 1 := by kernel_rfl
  have c16 : Tryz.prog.cellsOf 262 = 16 := by kernel_rfl
  rw [c16] at hlen
  have hdat : Rows.laid_weald_crc_halves (H := Unit) = .agg (tbl0.map fun p => .lit (.int p.1 p.2)) := by kernel_rfl
  simp only [Prod.mk.injEq] at hx1
  have hxs : xs.map (·.1) = tbl0.map fun p => .lit (.int p.1 p.2) := by
    have := hx1.1
    rw [hdat] at this
    simpa using this.symm
  have hk : ∀ p ∈ tbl0, p.1 = .u32 := by decide +kernel
  intro g ys hg
  have hgy : g = 0 ∧ ys = tbl0 := by
    unfold seatTbl at hg
    split at hg
    · next h => exact ⟨h, (Option.some.inj hg).symm⟩
    · cases hg
  obtain ⟨rfl, rfl⟩ := hgy
  have at_ : ∀ (j : Nat) p, tbl0[j]? = some p → W.cell? ⟨0, j, none⟩ = some (.int p.1 p.2) := by
    intro j p hp
    have hj : j < 16 := (List.getElem?_eq_some_iff.1 hp).1
    have h1 := hel j hj
    have hxj : xs[j]? = some xs[j] := List.getElem?_eq_getElem (by omega)
    rw [hxj, c1, Nat.mul_one] at h1
    obtain ⟨k, e1, e2, _⟩ := DataW.trod_int Tryz.underlying251 h1
    have h3 : (xs.map (·.1))[j]? = some (.lit (.int .u32 k)) := by rw [List.getElem?_map, hxj, e2]; rfl
    rw [hxs, List.getElem?_map, hp] at h3
    simp only [Option.map_some, Option.some.injEq, DataW.lit.injEq, Lit.int.injEq] at h3
    obtain ⟨h4, h5⟩ := h3
    have h6 : cs0[j]? = some (.int .u32 k) := by
      have : (cs0.toList.drop j).take 1 = [cs0.toList[j]'(by rw [hlen]; exact hj)] := by
        rw [List.drop_eq_getElem_cons (by rw [hlen]; exact hj)]
        rfl
      rw [this] at e1
      simp only [List.cons.injEq, and_true] at e1
      rw [← e1]
      simp [Array.getElem?_eq_getElem (show j < cs0.size by simpa using (by rw [hlen]; exact hj : j < cs0.toList.length))]
    rw [hcell j, h6, h4, h5]
  refine ⟨?_, at_⟩
  have h0 := at_ 0 _ rfl
  unfold World.cell? at h0
  cases hh : W.heap[0]? with
  | none => rw [hh] at h0; cases h0
  | some o => exact (Array.getElem?_eq_some_iff.1 hh).1
/-- The door's own heap fits. -/
theorem door_met (os : Os) (args : Array Value) : laidMetH Tryz.prog laidL ((World.doorLaid Tryz.prog 400 os).forCall (fun _ _ => 0) ⟨#[], args, []⟩).memory :=
  laidMetH_of_parts3 (fuel := 8) (laidMet_of_run' 8 (by kernel_rfl) (by kernel_rfl)) (by kernel_rfl) (by kernel_rfl)
end Go.Proofs.YtohlllohmoojiaaGreatDoor
/- For every input ListNext returns true, and leaves its argument as it was; tied: Rows.ListNextCardSaid. Conditions: none beyond the given statement's own. -/
namespace Go.Proofs.YtohlllohmoojiaaGreatDoor
set_option maxRecDepth 100000
set_option maxHeartbeats 16000000
open Go Go.RowKit Go.ChangeShapes Go.WideShapes Go.ChangeAt
set_option linter.unusedVariables false
def resOf (r : List Value) : yE := match r with
  | [.int _ n, d, .bool b] => ⟨n, .val d, b⟩
  | _ => ⟨0, xW, false⟩
theorem resOf_cells {r : List Value} (hl : r.length = 3) (h : ∀ (i : Nat) l u, [Leaf.int .u64, .any, .bool][i]? = some l → r[i]? = some u → leafOK l u) : (qR (resOf r)).cells = r.map PV.val ∧ 0 ≤ (resOf r).n ∧ (resOf r).n < 18446744073709551616 := by
  match r, hl with
  | [a, b, c], _ =>
    obtain ⟨n, rfl, hn⟩ := h 0 _ a rfl rfl
    obtain ⟨f, rfl⟩ := h 2 _ c rfl rfl
    exact ⟨rfl, wf_u64 hn⟩
/-- the law's argument -/
theorem arg_listIn {H : Type} {enc : TypeId × Value → H} {W : World} {base : Nat} {v : Value} {d : DataW H} {p : List MemPlace} (hv : Value.okWide Tryz.prog W .any base 27 v) (h : DataW.Trod enc Tryz.prog W 0 (fun _ => true) true 27 v d p) :
    ∃ t c me k u v' w L, Rep NoM W (inV t c me k u v' w L) v ∧ U w ∧ ∀ r ∈ L, 0 ≤ r.n ∧ r.n < 18446744073709551616 := by
  obtain ⟨cs, rfl, hsz⟩ := okWide_struct Tryz.underlying27 hv
  obtain ⟨cl⟩ := cs
  obtain ⟨fuel, hf⟩ := h
  have hf : DataW.trod enc Tryz.prog W 0 (fun _ => true) true fuel 27 cl = some (d, p) := hf
  obtain ⟨hlen, hlf⟩ := flat_trod (ls := [.int .i64, .int .i64, .int .i64, .int .i64, .int .i64, .int .i64, .int .u64, .any]) 8 (by kernel_rfl) hf
  obtain ⟨xs, n, _, _, _, hxl, hg⟩ := DataW.trod_struct Tryz.underlying27 hf
  match cl, hlen with
  | [a0, a1, a2, a3, a4, a5, a6, a7], _ =>
    obtain ⟨n0, rfl, h0⟩ := hlf 0 _ a0 rfl rfl
    obtain ⟨n1, rfl, h1⟩ := hlf 1 _ a1 rfl rfl
    obtain ⟨n2, rfl, h2⟩ := hlf 2 _ a2 rfl rfl
    obtain ⟨n3, rfl, h3⟩ := hlf 3 _ a3 rfl rfl
    obtain ⟨n4, rfl, h4⟩ := hlf 4 _ a4 rfl rfl
    obtain ⟨n5, rfl, h5⟩ := hlf 5 _ a5 rfl rfl
    obtain ⟨n6, rfl, h6⟩ := hlf 6 _ a6 rfl rfl
    have h7 := hlf 7 _ a7 rfl rfl
    have hlog := hg 4 _ rfl
    have hx4 : ∃ y, xs[4]? = some y := ⟨xs[4]'(by rw [hxl]; decide), List.getElem?_eq_getElem _⟩
    obtain ⟨y, hy⟩ := hx4
    rw [hy] at hlog
    have hcell := wide_cell (i := 7) (ts := [3, 3, 3, 3, 3, 3, 22, 25]) (u := 25) (v := a7) Tryz.underlying27 hv (by kernel_rfl) (by kernel_rfl) rfl
    obtain ⟨rows, hr1, hr2, hr3⟩ := arg_rows (ls := [.int .u64, .any, .bool]) (dep := 8) (v := a7) (x := y) Tryz.underlying25 (by kernel_rfl) (by kernel_rfl) (fun a len cap e => by
      subst e
      have := cell_slice Tryz.underlying25 hcell
      exact ⟨this.1, this.2.1⟩) hlog
    refine ⟨n0, n1, n2, n3, n4, n5, n6, rows.map resOf, ?_, wf_u64 h6, fun r hr => ?_⟩
    · have hL : Rep NoM W (logV (rows.map resOf)) a7 := hr3 _ (by
        rw [List.map_map, List.map_map]
        exact List.map_congr_left fun r hr => (resOf_cells (hr1 r hr).1 (hr1 r hr).2).1)
      refine .agg _ [.int .i64 n0, .int .i64 n1, .int .i64 n2, .int .i64 n3, .int .i64 n4, .int .i64 n5, .int .u64 n6, a7] rfl (fun i c u hc hu => ?_) (fun u hu => ?_)
      · match i with
        | 0 => simp at hc hu; subst hc hu; exact .val _
        | 1 => simp at hc hu; subst hc hu; exact .val _
        | 2 => simp at hc hu; subst hc hu; exact .val _
        | 3 => simp at hc hu; subst hc hu; exact .val _
        | 4 => simp at hc hu; subst hc hu; exact .val _
        | 5 => simp at hc hu; subst hc hu; exact .val _
        | 6 => simp at hc hu; subst hc hu; exact .val _
        | 7 => simp at hc hu; subst hc hu; exact hL
        | i + 8 => simp at hc
      · simp only [List.mem_cons, List.not_mem_nil, or_false] at hu
        rcases hu with rfl | rfl | rfl | rfl | rfl | rfl | rfl | rfl
        · rfl
        · rfl
        · rfl
        · rfl
        · rfl
        · rfl
        · rfl
        · exact h7
    · obtain ⟨r', hr', rfl⟩ := List.mem_map.1 hr
      exact (resOf_cells (hr1 r' hr').1 (hr1 r' hr').2).2
theorem listNext_lifted (os : Os) (started : os.Started) (H : Type) (enc : TypeId × Value → H) :
    ReturnsInHanded {} Tryz.checked os 3 .any (fun w args => (Rows.listNextSpec.pre enc Tryz.prog Tryz.f3 [] false w args ∧ laidMetH Tryz.prog laidL w) ∧ sizedMet enc Tryz.prog Tryz.f3 (OpenSpec.ofChange Rows.listNextSpec) false w args)
      (Rows.listNextSpec.post enc Tryz.prog Tryz.f3 false true false false) := by
  refine returnsInHanded_of_change_and (C := Tryz.checked) (X := fun w _ => laidMetH Tryz.prog laidL w) (fun _ _ _ hh h => h.of_heap hh) ownT started (by kernel_rfl) Tryz.func3
    (ChangeSpec.witness_shaped (enc := enc) (C := Tryz.checked) (os := os) (X := fun w _ => laidMetH Tryz.prog laidL w) false (World.doorLaid Tryz.prog 400 os) #[.agg #[.int .i64 0, .int .i64 0, .int .i64 0, .int .i64 0, .int .i64 0, .int .i64 0, .int .u64 0, .slice none 0 0]] 8 rfl (World.shaped_of_RefB (by kernel_rfl) (by kernel_rfl)) (by kernel_rfl) (by kernel_rfl) (by kernel_rfl) (door_met os _)) ?_
  intro W base args ds gs before hval0 hW hcnd _ hL _
  have hval : ∀ (j : Nat) t v, Tryz.f3.params[j]? = some t → args[j]? = some v → Value.okWide Tryz.prog W .any base t v := hval0
  have hW' := hW
  obtain ⟨p, q, hA0, hV, rfl, hfz, hnd⟩ := hW
  have hA : DataW.TrodAll enc Tryz.prog W 0 (fun _ => true) true Tryz.f3.params.toList args.toList ds p := hA0
  rw [Tryz.params3] at hA hval
  obtain ⟨v0, vs0, d0, ds0, p0, q0, hargs, rfl, rfl, h0, r0⟩ := trodAll_cons hA
  obtain ⟨rfl, rfl, rfl⟩ := trodAll_nil r0
  obtain rfl : args = #[v0] := by cases args; simp_all
  obtain ⟨rfl, rfl⟩ := trodVars_none hV
  have lt0 : ∀ x ∈ p0, x.block < W.heap.size := by obtain ⟨m, hm⟩ := h0; exact DataW.trod_lt m _ _ _ hm
  obtain ⟨t, c, me, k, u, v, w, L, e0, hw, hLr⟩ := arg_listIn (hval 0 27 v0 rfl rfl) h0
  clear hA0 hval0
  refine ((listNextLaw_fn t c me k u v w L hw hLr).law (lays_of_laid hL) (vs := [v0]) rfl (reps1 e0)).mono fun e W' ⟨he, bel⟩ => ?_
  subst he
  exact ⟨_, rfl, _, _, _, [], _, [], hW', trodAll_mk1 (shut_bool Tryz.underlying4 _), (trodAll_cons_mk (Below.trod laidOutT (by kernel_rfl) (of_decide_eq_true (by kernel_rfl)) h0 bel lt0) trodAll_mk0), rfl, bel.frame _, fun h => by cases h⟩
theorem listNext_holds : Rows.ListNextSaid :=
  OpenClaim.holds_of_wide 3 Tryz.f3 rfl rfl rfl rfl rfl rfl rfl ⟨rfl, rfl, rfl, rfl, rfl⟩ rfl rfl rfl rfl rfl (by kernel_rfl) Tryz.func3 (by kernel_rfl)
    (of_decide_eq_true (by kernel_rfl)) (by unfold Func.isWrapper; first | (rw [if_pos (by decide +kernel)]; kernel_rfl) | (rw [if_neg (by decide +kernel)]; exact ⟨rfl, rfl⟩))
    (fun os started H enc _ => listNext_lifted os started H enc)
theorem listNextCard_holds : Rows.ListNextCardSaid :=
  Claim7.holds_tied_plain_at .later [] [.data] true _ true
    listNext_holds (fun _ h => by cases h) (by kernel_rfl) (fun _ h => by cases h) listNext_row_tie rfl ⟨rfl, rfl⟩ (by kernel_rfl) rfl
    (fun f fn hf hfn => by
      obtain rfl : f = 3 := Option.some.inj ((show Tryz.prog.funcNamed "weald/wealdlaw15.ListNext" = some 3 by kernel_rfl).symm.trans hf) |>.symm
      obtain rfl : fn = Tryz.f3 := (Option.some.inj (Tryz.func3.symm.trans hfn)).symm
      exact ⟨by kernel_rfl, fun j t ht => by
        rw [Tryz.params3] at ht
        have hm : t ∈ [27] := by simpa using Array.mem_of_getElem? ht
        have hall : ([27].all fun u => !Tryz.prog.wantsStandIn u) = true := by kernel_rfl
        exact (show Tryz.prog.wantsStandIn t = false by simpa using List.all_eq_true.1 hall t hm)⟩)
    (by kernel_rfl)
#print axioms listNextCard_holds
end Go.Proofs.YtohlllohmoojiaaGreatDoor
