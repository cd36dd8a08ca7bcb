/- For every input ListSeeks returns true, and leaves its arguments as they were; tied: Rows.ListSeeksCardSaid. Conditions: none beyond the given statement's own. (Part 7 of 7.) -/
import Derived.Test.YteadaggehndacaaDoorLk6
import Derived.Lib.MinMax
import Derived.ProofKit
import Derived.OpenShut
import Derived.Below
import Derived.LaidMore
import Derived.Deep.Fields
import Derived.Deep.Slices
import Derived.Test.YteadaggehndacaaDoorRows
import Derived.LaidLaws
import Derived.ChangeSame
import Derived.ChangeVars
import Derived.JoinedOf
import Derived.Stop.Joined
import Derived.RowKitTokens
import Derived.Test.YteadaggehndacaaDoorCards
import Derived.Test.YteadaggehndacaaDoorTie
import Derived.SevenTiedAt
/- New worlds (reference), that their callers may write into: contracts. -/
namespace Go.Proofs.YteadaggehndacaaDoor
set_option maxRecDepth 100000
set_option maxHeartbeats 16000000
open Go Go.RowKit
set_option linter.unusedSimpArgs false
attribute [local irreducible] zY zZ Step zQ Sub zI zM Fn
/-- the free list's words -/
def freeW (t : Nat) : Nat → List Int → List Int
  | 0, l => l
  | k + 1, l => (freeW t k l).set (8 + t + 8 * k + 7) ((k : Int) + 2)
theorem freeW_len (t : Nat) (l : List Int) : ∀ k, (freeW t k l).length = l.length
  | 0 => rfl
  | k + 1 => by rw [freeW, List.length_set, freeW_len t l k]
def newW (t c : Nat) : List Int := freeW t (c - 1) ((List.replicate (8 + t + 8 * c) 0).set 1 1)
def newS (t c : Nat) (k : Nat) : AS :=
  { t := [(0, .p (.val (.int .i64 (t : Nat)))), (1, .p (.val (.int .i64 (c : Nat)))), (4, .ptr 4 0), (5, .p (.val (.int .i64 0))), (6, .ptr 6 0), (7, .p (.val (.int .i64 ((k + 1 : Nat) : Int))))],
    s := [(4, .box 26 ([.val (.int .i64 0), .val (.int .i64 0), .val (.slice none 0 0)].map AV.p)), (6, .box 26 [.p (.val (.int .i64 (t : Nat))), .p (.val (.int .i64 (c : Nat))), .own 30]), (30, vL 27 1 (wds (freeW t k ((List.replicate (8 + t + 8 * c) 0).set 1 1))))] }
theorem new9A_fn (t c : Nat) (h1 : 1 ≤ t) (h64 : t ≤ 64) (hc1 : 1 ≤ c) (hc : c ≤ 65536) : FnAg Tryd.prog 23 [.val (.int .i64 t), .val (.int .i64 c)] [.p (.val (.int .i64 t)), .p (.val (.int .i64 c)), .o 0] 27 1 (wds (newW t c)) (some (.int .i64 0)) := by
  have g1 : decide ((t : Int) < 1) = false := decide_eq_false (by omega)
  have g2 : decide ((64 : Int) < t) = false := decide_eq_false (by omega)
  have f1 : decide ((c : Int) < 0) = false := decide_eq_false (by omega)
  have f2 : decide ((65536 : Int) < c) = false := decide_eq_false (by omega)
  have g3 : (8 + t + 8 * c) * 1 ≤ 16777216 ∧ 8 * (8 + t + 8 * c) ≤ 281474976710656 ∧ 8 + t + 8 * c ≤ maxLen := by simp only [maxLen]; omega
  have g4 : IntKind.i64.wrap (8 + (t : Int)) = 8 + (t : Int) := wrap_i64 _ (by omega)
  have g4b : IntKind.i64.wrap (8 * (c : Int)) = 8 * (c : Int) := wrap_i64 _ (by omega)
  have g5 : IntKind.i64.wrap (8 + (t : Int) + 8 * (c : Int)) = ((8 + t + 8 * c : Nat) : Int) := by rw [wrap_i64 _ (by omega)]; omega
  have g6 : ∀ e ∈ List.replicate (8 + t + 8 * c) (PV.val (.int .u64 0)), e.cells.length = 1 := fun e he => by rw [List.eq_of_mem_replicate he]; rfl
  have g7 : (0 : Int) ≤ 1 ∧ (1 : Int) < (List.replicate (8 + t + 8 * c) (PV.val (.int .u64 0))).length := by simp; omega
  have g8 : (1 : Int).toNat < (List.replicate (8 + t + 8 * c) (PV.val (.int .u64 0))).length := by simp; omega
  have g9 : decide ((0 : Int) < c) = true := decide_eq_true (by omega)
  refine fn_ofAg Tryd.func23 rfl Tryd.ntmps23 (Nat.le_of_ble_eq_true rfl) ?_
  repeat' (first | (refine zY.at_ 31 rfl ?_; refine zY.v rfl rfl (w_buildAg 30 rfl (by rfl) (by rfl) rfl rfl (by rfl) (by rfl) rfl (by decide)) ?_) | (refine zY.is ?_; first | refine zY.nil ?_ | (refine zY.at_ 6 rfl ?_; refine zY.rc (.m yG (.w yB .e)) ?_)) | (refine zZ.is ?_; first | refine zZ.seq ?_ | (refine zZ.isR (id := 0) ?_; refine zZ.rc [0, 1] [4, 6, 30] (r := (.m yG (.v zR .e))) (h := ?_)) | (refine zZ.isR (id := 1) ?_; refine zZ.rc [0, 1, 4, 5] [4, 6, 30] (r := (.v zD (.v v43_0 (.v zD (.gY zD (.gY v45_0 (.v v5_1 (.v zD (.gY zD (.gY v43_0 (.v v5_1 (.v zD (.gY zD (.gY v45_0 (.v v5_1 .e))))))))))))))) (h := ?_)) | (refine zZ.isR (id := 3) ?_; refine zZ.rc [0, 1, 4, 5] [4, 6, 30] (r := (.v zD (.v zD (.v zD (.v v30_0 (.v zD (.v v32_0 (.v v30_0 (.m m21_0 .e))))))))) (h := ?_)) | (refine zZ.isR (id := 4) ?_; refine zZ.rc [0, 1, 4, 5, 6] [4, 6, 30] (r := (.v zD (.v v45_0 .e))) (h := ?_)) | (refine zZ.isR (id := 5) ?_; refine zZ.rc [0, 1, 4, 5, 6] [4, 6, 30] (r := (.v yI (.v v2_8 (.v v7_38 (.w w24_1 .e))))) (h := ?_)) | (refine zZ.isR (id := 6) ?_; refine zZ.rc [0, 1, 4, 5, 6] [4, 6, 30] (r := (.v zR .e)) (h := ?_)) | refine zZ.y8 rfl bA ?_ | refine zZ.yP rfl bA ?_ | refine zZ.skip ?_ | refine zZ.block ?_))
  refine zZ.loop (newS t c) (fun k => k + 1 ≤ c) (fun k => c - k) 0 ?h0 (by omega) ?rd
  case h0 =>
    have e0 : wds (freeW t 0 ((List.replicate (8 + t + 8 * c) 0).set 1 1)) = (List.replicate (8 + t + 8 * c) (PV.val (.int .u64 0))).set (1 : Int).toNat (.val (.int .u64 1)) := by simp [wds, freeW, List.map_set]
    unfold newS
    rw [e0]
    exact yM K_1m K_1n
  case rd =>
    rintro k hk
    have hfl : (freeW t k ((List.replicate (8 + t + 8 * c) 0).set 1 1)).length = 8 + t + 8 * c := by rw [freeW_len]; simp
    unfold newS
    by_cases hkc : k + 1 < c
    case pos =>
      have f3 : decide (((k + 1 : Nat) : Int) < c) = true := decide_eq_true (by omega)
      have c3 : Fn Tryd.prog 10 [.val (.int .i64 (t : Nat)), .val (.int .i64 ((k + 1 : Nat) : Int)), .val (.int .i64 7)] (.p (.val (.int .i64 ((8 + t + 8 * k + 7 : Nat) : Int)))) := by
        have h := qB t ((k + 1 : Nat) : Int) 7 (by unfold Small; omega) (by omega) (by unfold Small; omega)
        have e : zL t ((k + 1 : Nat) : Int) 7 = ((8 + t + 8 * k + 7 : Nat) : Int) := by unfold zL; omega
        rw [← e]; exact h
      have g10 : IntKind.i64.wrap (((k + 1 : Nat) : Int) + 1) = ((k + 2 : Nat) : Int) := by rw [wrap_i64 _ (by omega)]; omega
      have g11 : IntKind.u64.wrap ((k + 2 : Nat) : Int) = (k : Int) + 2 := by rw [wrap_u64 _ (by omega)]; omega
      have g12 := vZ (freeW t k ((List.replicate (8 + t + 8 * c) 0).set 1 1))
      have g13 : (0 : Int) ≤ ((8 + t + 8 * k + 7 : Nat) : Int) ∧ ((8 + t + 8 * k + 7 : Nat) : Int) < (wds (freeW t k ((List.replicate (8 + t + 8 * c) 0).set 1 1))).length := by rw [xM, hfl]; omega
      have g14 : ((8 + t + 8 * k + 7 : Nat) : Int).toNat < (wds (freeW t k ((List.replicate (8 + t + 8 * c) 0).set 1 1))).length := by rw [xM, hfl]; omega
      repeat' (first | (refine zY.nil ?_) | (refine zZ.is ?_; first | refine zZ.seq ?_ | (refine zZ.isR (id := 7) ?_; refine zZ.rc [0, 1, 4, 5, 6, 7, 39] [4, 6, 30] (r := (.v zD (.v zD (.v v43_0 .e)))) (h := ?_)) | (refine zZ.isR (id := 9) ?_; refine zZ.rk [0, 1, 4, 5, 6, 7, 39] [4, 6, 30] ?_; refine zZ.draws ?_) | (refine zZ.isR (id := 8) ?_; refine zZ.rc [0, 1, 4, 5, 6, 7, 39] [4, 6, 30] (r := (.v zD (.v v30_0 (.v zR .e)))) (h := ?_)) | refine zZ.y8 rfl bA ?_ | refine zZ.skip ?_ | refine zZ.block ?_) | refine zO.n ?_ | (refine Draws.is ?_; first | refine Draws.rc (.v zD (.v v30_0 (.v v6_0 (.v v7_38 .e)))) ?_ | refine Draws.rc (.v yI (.v v2_8 (.v zD (.v zD .e)))) ?_ | (refine Draws.in_ [46] rfl ?_; refine Draws.v rfl rfl (zT (c3) rfl rfl rfl (by decide)) ?_) | refine Draws.done (by kernel_rfl) (by kernel_rfl) (by kernel_rfl) ?_) | (refine zI.is ?_; first | refine zI.nil ?_ | refine zI.rc (.w w24_1 .e) ?_))
      refine ⟨k + 1, ?_, by omega, by omega⟩
      have e1 : wds (freeW t (k + 1) ((List.replicate (8 + t + 8 * c) 0).set 1 1)) = (wds (freeW t k ((List.replicate (8 + t + 8 * c) 0).set 1 1))).set ((8 + t + 8 * k + 7 : Nat) : Int).toNat (.val (.int .u64 ((k : Int) + 2))) := by rw [vG, Int.toNat_natCast]; rfl
      show Sub _ (newS t c (k + 1))
      unfold newS
      rw [e1]
      exact yM K_1m K_1n
    case neg =>
      obtain rfl : k = c - 1 := by omega
      have f3 : decide (((c - 1 + 1 : Nat) : Int) < c) = false := decide_eq_false (by omega)
      repeat' (first | (refine zY.nil ?_) | (refine zZ.is ?_; first | refine zZ.seq ?_ | (refine zZ.isR (id := 7) ?_; refine zZ.rc [0, 1, 4, 5, 6, 7, 39] [4, 6, 30] (r := (.v zD (.v zD (.v v43_0 .e)))) (h := ?_)) | (refine zZ.isR (id := 10) ?_; refine zZ.rc [4, 5, 6] [4, 6, 30] (r := (.v v2_19 (.w yB (.v zR .e)))) (h := ?_)) | refine zZ.yP rfl bA ?_ | refine zZ.exit ?_ | refine zZ.ret ?_))
      all_goals exact ⟨by first | exact .inl rfl | exact .inr rfl, .two (k := 30) rfl rfl rfl (by rfl) (by rfl) rfl rfl⟩
theorem new10A_fn (t c : Nat) (h1 : 1 ≤ t) (h64 : t ≤ 64) (hc1 : 1 ≤ c) (hc : c ≤ 65536) : FnAg Tryd.prog 8 [.val (.int .i64 t), .val (.int .i64 c)] ([.p (.val (.int .i64 t)), .p (.val (.int .i64 c)), .o 0] ++ (wH 0 (List.replicate t ([], 0)) (List.replicate t ([], 0))).cells.map .p) 27 1 (wds (newW t c)) none := by
  have c1 := new9A_fn t c h1 h64 hc1 hc
  have c2 := new7_fn t h1 h64
  refine fn_ofAg Tryd.func8 rfl Tryd.ntmps8 (Nat.le_of_ble_eq_true rfl) ?_
  repeat' (first | (refine zY.is ?_; first | refine zY.nil ?_ | (refine zY.at_ 15 rfl ?_; refine zY.rc (.v v0_4 (.v yT (.v yT (.m yG (.w yB (.v zR .e)))))) ?_) | (refine zY.at_ 9 rfl ?_; refine zY.rc (.v v0_4 (.v v9_2 (.v yT (.m yG (.w yB (.v zR .e)))))) ?_) | (refine zY.in_ [17] rfl ?_; refine zY.v rfl rfl (yO (c2) rfl rfl rfl (by decide)) ?_) | (refine zY.in_ [12] rfl ?_; refine zY.m rfl rfl (w_callAg c1 rfl rfl rfl (by decide)) ?_)) | (refine zZ.is ?_; first | refine zZ.seq ?_ | (refine zZ.isR (id := 0) ?_; refine zZ.rc [0, 1] [4, 5, 7, 12, 17] (r := (.m yG .e)) (h := ?_)) | (refine zZ.isR (id := 1) ?_; refine zZ.rc [0, 1, 4] [4, 5, 7, 12, 17] (r := (.v zD (.v zD .e))) (h := ?_)) | (refine zZ.isR (id := 2) ?_; refine zZ.rc [0, 4, 5] [4, 5, 7, 12, 17] (r := (.v zD .e)) (h := ?_)) | (refine zZ.isR (id := 3) ?_; refine zZ.rc [4, 5, 7] [4, 5, 7, 12, 17] (r := (.v v2_19 (.v qV (.v v10_2 (.w yB .e))))) (h := ?_)) | refine zZ.ret ?_))
  all_goals exact ⟨by first | exact .inl rfl | exact .inr rfl, .one (k := 12) rfl rfl rfl (by rfl) (by rfl) rfl⟩
end Go.Proofs.YteadaggehndacaaDoor
/- The list's example: by evaluation, and its contracts. -/
namespace Go.Proofs.YteadaggehndacaaDoor
set_option maxRecDepth 100000
set_option maxHeartbeats 16000000
open Go Go.RowKit
set_option linter.unusedSimpArgs false
theorem run_keeps {α : Type} {good : α → Prop} {me : Nat} {f : Nat → Bool} : ∀ {p : Pr α} {n b i j : Nat} {W W' : Wd} {x : α}, p.xJ good n → WdOK b W → p.run (wSt me f) (W, i) = .done x (W', j) →
    i ≤ j ∧ WdOK (b + 1000 * (j - i)) W' ∧ W'.t = W.t ∧ W'.c = W.c ∧ W'.r0.length = W.r0.length ∧ W'.ws.length = W.ws.length ∧ good x
  | .ret _, n, b, i, j, W, W', x, hf, h, hr => by
    rw [zH] at hr
    injection hr with e1 e2
    injection e2 with e2 e3
    subst e1 e2 e3
    exact ⟨Nat.le_refl _, h.le (by omega), rfl, rfl, rfl, rfl, hf⟩
  | .stuck, _, _, _, _, _, _, _, _, _, hr => by cases hr
  | .ask q k, n, b, i, j, W, W', x, hf, h, hr => by
    rw [wP] at hr
    have hr2 : (k (doX W me q (f i)).2).run (wSt me f) ((doX W me q (f i)).1, i + 1) = .done x (W', j) := hr
    obtain ⟨h1, h2⟩ := doX_ok h hf.1 me (f i)
    obtain ⟨k1, k2, k3, k4, _⟩ := doX_keeps W me q (f i)
    obtain ⟨a1, a2, a3, a4, a5, a6, a7⟩ := run_keeps (hf.2 _ h2) h1 hr2
    exact ⟨by omega, a2.le (by omega), a3.trans k1, a4.trans k2, a5.trans k3, a6.trans k4, a7⟩
def wd0 : Wd := ⟨0, 0, [], 0, [], []⟩
structure ResN where
  o : OutN
  W : Wd
  m : Nat
/-- what an operation answers, that steps alone -/
def rsN (p : Pr OutN) (me : Nat) (W : Wd) : ResN := match p.run (wSt me noFail) (W, 0) with
  | .done o s => ⟨o, s.1, s.2⟩
  | _ => ⟨⟨0, false, 0, 0⟩, wd0, 1000⟩
theorem freeW_U (t : Nat) {l : List Int} (hl : ∀ x ∈ l, U x) : ∀ k, k ≤ 65536 → ∀ x ∈ freeW t k l, U x
  | 0, _, x, hx => hl x hx
  | k + 1, hk, x, hx => by
    rw [freeW] at hx
    rcases List.mem_or_eq_of_mem_set hx with hx | rfl
    · exact freeW_U t hl k (by omega) x hx
    · unfold U; omega
theorem newW_U {t c : Nat} (h2 : c ≤ 65536) : ∀ x ∈ newW t c, U x := freeW_U t (fun x hx => by
    rcases List.mem_or_eq_of_mem_set hx with hx | rfl
    · rw [List.eq_of_mem_replicate hx]; exact U.zero
    · unfold U; decide) _ (by omega)
theorem newW_len (t c : Nat) : (newW t c).length = 8 + t + 8 * c := by rw [newW, freeW_len]; simp
/-- an operation that steps alone, in a world: its contract, and what is kept -/
structure AlN (B : Nat) (me : Nat) (k u v w : Int) (most : Nat) (W : Wd) (R : ResN) : Prop where
  fn : Fn Tryd.prog 9 [W.pv, .val (.int .i64 me), opV k u v w, .val (.int .i64 most)] (.tup [R.W.pv, outV R.o.e R.o.is R.o.n R.o.w, .val (.bool true)])
  ok : WdOK (B + 20000) R.W
  t : R.W.t = W.t
  c : R.W.c = W.c
  r0 : R.W.r0.length = W.r0.length
  ws : R.W.ws.length = W.ws.length
theorem alN_of {B me : Nat} {k u v w : Int} {most : Nat} {W : Wd} {R : ResN} (hr : (opL W.t k u v w).run (wSt me noFail) (W, 0) = .done R.o (R.W, R.m)) (ht : Small W.t) (hop : OpL k u v w) (hW : WdOK B W) (hme : me < W.r0.length) (hm : R.m ≤ most) (h20 : most ≤ 20) (hB : B ≤ 500000) : AlN B me k u v w most W R := by
  have hk := run_keeps (fine_opL (t := W.t) hop) hW hr
  exact ⟨alone_fn B W R.W me k u v w most R.m R.o hW ht hme hop hr hm (by omega) (by omega) (by omega), hk.2.1.le (by omega), hk.2.2.1, hk.2.2.2.1, hk.2.2.2.2.1, hk.2.2.2.2.2.1⟩
/-! ### The document's example -/
def slW : Wd := ⟨1, 2, (newW 1 2).set 10 5, 0, [([], 0)], [([], 0)]⟩
def slV : ResN := rsN (opL 1 24 0 0 1) 0 slW
def slB : ResN := rsN (opL 1 8 0 0 5) 0 slV.W
def slD : ResN := rsN (opL 1 8 0 0 4) 0 slV.W
def slE : ResN := rsN (opL 1 8 0 0 6) 0 slV.W
def slF : ResN := rsN (opL 1 25 0 0 5) 0 slV.W
theorem sl1 : (opL 1 24 0 0 1).run (wSt 0 noFail) (slW, 0) = .done slV.o (slV.W, slV.m) := by kernel_rfl
theorem sl2 : (opL 1 8 0 0 5).run (wSt 0 noFail) (slV.W, 0) = .done slB.o (slB.W, slB.m) := by kernel_rfl
theorem sl3 : (opL 1 8 0 0 4).run (wSt 0 noFail) (slV.W, 0) = .done slD.o (slD.W, slD.m) := by kernel_rfl
theorem sl4 : (opL 1 8 0 0 6).run (wSt 0 noFail) (slV.W, 0) = .done slE.o (slE.W, slE.m) := by kernel_rfl
theorem sl5 : (opL 1 25 0 0 5).run (wSt 0 noFail) (slV.W, 0) = .done slF.o (slF.W, slF.m) := by kernel_rfl
theorem sl6 : slV.o.is = true ∧ (slB.o.n = 1 ∧ slB.o.w = 0 ∧ slB.o.is = true) ∧ (slD.o.n = 1 ∧ slD.o.is = false) ∧ (slE.o.n = 0 ∧ slE.o.w = 1 ∧ slE.o.is = false) ∧ slF.o.n = 1 ∧ slF.o.is = true := by refine ⟨?_, ⟨?_, ?_, ?_⟩, ⟨?_, ?_⟩, ⟨?_, ?_, ?_⟩, ?_, ?_⟩ <;> kernel_rfl
theorem sl7 : slV.m ≤ 9 ∧ slB.m ≤ 9 ∧ slD.m ≤ 9 ∧ slE.m ≤ 9 ∧ slF.m ≤ 9 := by refine ⟨?_, ?_, ?_, ?_, ?_⟩ <;> exact Nat.le_of_ble_eq_true (by kernel_rfl)
theorem slW_ok : WdOK 0 slW := ⟨fun x hx => by
    rcases List.mem_or_eq_of_mem_set hx with hx | rfl
    · exact newW_U (by decide) x hx
    · unfold U; decide, by show ((newW 1 2).set 10 5).length ≤ _; rw [List.length_set, newW_len]; decide, rfl, by decide, fun p hp => by
    have hp : p ∈ [(([] : List Int), (0 : Int))] := hp
    rw [List.mem_singleton] at hp
    subst hp
    exact Nat.le_refl _⟩
theorem al_sl : AlN 0 0 24 0 0 1 9 slW slV ∧ AlN 20000 0 8 0 0 5 9 slV.W slB ∧ AlN 20000 0 8 0 0 4 9 slV.W slD ∧ AlN 20000 0 8 0 0 6 9 slV.W slE ∧ AlN 20000 0 25 0 0 5 9 slV.W slF := by
  obtain ⟨m1, m2, m3, m4, m5⟩ := sl7
  have z : Rf 0 := ⟨by decide, by decide⟩
  have z1 : Rf 1 := ⟨by decide, by decide⟩
  have hu : ∀ n : Int, 0 ≤ n → n ≤ 9 → U n := fun n h1 h2 => by unfold U; omega
  have hs : Small 1 := by unfold Small; omega
  have a1 : AlN 0 0 24 0 0 1 9 slW slV := alN_of sl1 hs ⟨fun _ => z, fun _ => ⟨z, z1⟩, hu _ (by decide) (by decide)⟩ slW_ok (by decide) m1 (by decide) (by decide)
  have ht : slV.W.t = 1 := a1.t
  have hr : 0 < slV.W.r0.length := by rw [a1.r0]; decide
  exact ⟨a1, alN_of (by rw [ht]; exact sl2) (by rw [ht]; exact hs) ⟨fun _ => z, fun h => absurd h (by decide), hu _ (by decide) (by decide)⟩ a1.ok hr m2 (by decide) (by decide),
    alN_of (by rw [ht]; exact sl3) (by rw [ht]; exact hs) ⟨fun _ => z, fun h => absurd h (by decide), hu _ (by decide) (by decide)⟩ a1.ok hr m3 (by decide) (by decide),
    alN_of (by rw [ht]; exact sl4) (by rw [ht]; exact hs) ⟨fun _ => z, fun h => absurd h (by decide), hu _ (by decide) (by decide)⟩ a1.ok hr m4 (by decide) (by decide),
    alN_of (by rw [ht]; exact sl5) (by rw [ht]; exact hs) ⟨fun _ => z, fun h => absurd h (by decide), hu _ (by decide) (by decide)⟩ a1.ok hr m5 (by decide) (by decide)⟩
end Go.Proofs.YteadaggehndacaaDoor
/- The law ListSeeks: what a search and a seek alone answer of the records that are laid. -/
namespace Go.Proofs.YteadaggehndacaaDoor
set_option maxRecDepth 100000
set_option maxHeartbeats 16000000
open Go Go.RowKit
set_option linter.unusedSimpArgs false
set_option linter.unusedVariables false
def skWd (m : Int → Int) : Wd := ⟨1, 10, ofM 89 m, 0, [([], 0)], [([], 0)]⟩
theorem skWd_mem (m : Int → Int) : MemW 10 (skWd m) m := memW_of (C := 10) (by decide)
theorem skWd_ok {m : Int → Int} (hu : ∀ c : Int, 0 ≤ c → U (m c)) : WdOK 0 (skWd m) := ⟨fun x hx => by
    obtain ⟨c, _, rfl⟩ := List.mem_map.1 hx
    exact hu _ (by omega), by show (ofM 89 m).length ≤ _; rw [wS]; decide, rfl, by show 1 ≤ 1000000; decide, fun p hp => by
    have hp : p ∈ [(([] : List Int), (0 : Int))] := hp
    rw [List.mem_singleton] at hp
    subst hp
    exact Nat.le_refl _⟩
theorem skNx : ∀ r : Nat, r ≤ 10 → memOf (newW 1 10) (yV 1 r) = 0 := fun r hr => by
  have h : ∀ r : Fin 11, memOf (newW 1 10) (yV 1 (r.val : Int)) = 0 := by decide
  exact h ⟨r, by omega⟩
theorem memOf_out {ws : List Int} {c : Int} (h : (ws.length : Int) ≤ c) : memOf ws c = 0 := by
  unfold memOf
  rw [List.getElem?_eq_none (by omega)]
  rfl
theorem skOK0 (k : Int) : SkOK k [] ⟨memOf (newW 1 10), 0, 0, false⟩ := by
  refine ⟨by decide, skNx 0 (by decide), fun r hr => ?_, fun r h1 h2 => ?_, by decide, Int.le_refl _, by decide, rfl, rfl, fun c hc => ?_⟩
  · have hr : (0 : Int) < r := hr
    show memOf (newW 1 10) (yV 1 r) = 0
    by_cases h : r ≤ 10
    · have := skNx r.toNat (by omega)
      rwa [show ((r.toNat : Nat) : Int) = r by omega] at this
    · refine memOf_out ?_
      rw [newW_len, wT, if_neg (by omega)]
      omega
  · have h2 : r ≤ 0 := h2
    omega
  · show U (memOf (newW 1 10) c)
    unfold memOf
    cases h : (newW 1 10)[c.toNat]? with
    | none => exact U.zero
    | some x => exact newW_U (by decide) x (List.mem_of_getElem? h)
section
variable {k : Int} {bs : List Bool} {s : SkS}
theorem SkOK.keys (_ : SkOK k bs s) : ∀ r : Int, 1 ≤ r → s.m (zL 1 r 1) = (fun r => s.m (zL 1 r 1)) r := fun _ _ => rfl
theorem SkOK.nod (_ : SkOK k bs s) : (0 :: nms (skL 0 bs)).Nodup := List.nodup_cons.2 ⟨fun h0 => by have := (skL_nms bs 0 0).1 h0; omega, skL_nodup bs 0⟩
theorem SkOK.fl (h : SkOK k bs s) : ∀ x ∈ nms (skL 0 bs), hasF (s.m (zL 1 x 2)) 2 = false := fun x hx => by
  have hb := (skL_nms bs 0 x).1 hx
  rw [h.f x (by omega) (by omega)]
  unfold hasF
  rw [decide_eq_false (show ¬ 4 * x / 2 % 2 = 1 by omega)]
  simp
theorem seek_al (h : SkOK k bs s) (hk : U k) : Fn Tryd.prog 9 [(skWd s.m).pv, .val (.int .i64 (0 : Nat)), opV 25 0 0 k, .val (.int .i64 (60 : Nat))] (.tup [(skWd s.m).pv, outV 0 (vW (fun r => s.m (zL 1 r 1)) k (skL 0 bs)).2 (vW (fun r => s.m (zL 1 r 1)) k (skL 0 bs)).1 0, .val (.bool true)]) := by
  have hlen := h.len
  have hr := seek_run (C := 10) (by decide) h.keys k h.l (by rw [skL_len]; omega)
  rw [skL_len] at hr
  obtain ⟨j, e, hj⟩ := (hr.bind (f := fun r => Pr.ret (⟨0, r.2, r.1, 0⟩ : OutN)) (Rds.ret _)) (skWd s.m) 0 (skWd_mem s.m)
  have z : Rf 0 := ⟨by decide, by decide⟩
  exact alone_fn 0 (skWd s.m) (skWd s.m) 0 25 0 0 k 60 j ⟨0, (vW (fun r => s.m (zL 1 r 1)) k (skL 0 bs)).2, (vW (fun r => s.m (zL 1 r 1)) k (skL 0 bs)).1, 0⟩ (skWd_ok h.u) (by show Small 1; unfold Small; omega) (by show 0 < 1; decide) ⟨fun _ => z, fun h => absurd h (by decide), hk⟩ e (by omega) (by decide) (by decide) (by decide)
theorem search_al (h : SkOK k bs s) (hk : U k) : ∃ W' : Wd, Fn Tryd.prog 9 [(skWd s.m).pv, .val (.int .i64 (0 : Nat)), opV 8 0 0 k, .val (.int .i64 (400 : Nat))] (.tup [W'.pv, outV 0 (srch (fun r => s.m (zL 1 r 1)) k 0 (skL 0 bs)).is (srch (fun r => s.m (zL 1 r 1)) k 0 (skL 0 bs)).x (srch (fun r => s.m (zL 1 r 1)) k 0 (skL 0 bs)).p, .val (.bool true)]) := by
  have hlen := h.len
  obtain ⟨m', hr, _, _⟩ := search_run (C := 10) (by decide) k h.l h.nod h.fl (by rw [h.e]; omega) h.keys (by rw [skL_len]; omega)
  rw [skL_len] at hr
  have hr2 : Rns 10 (opL 1 8 0 0 k) s.m ⟨0, (srch (fun r => s.m (zL 1 r 1)) k 0 (skL 0 bs)).is, (srch (fun r => s.m (zL 1 r 1)) k 0 (skL 0 bs)).x, (srch (fun r => s.m (zL 1 r 1)) k 0 (skL 0 bs)).p⟩ m' (1 + 11 * bs.length + 0) := by
    refine hr.bind (f := fun r => bif r.ok then Pr.ret (⟨0, r.is, r.x, r.p⟩ : OutN) else .ret ⟨7, false, 0, 0⟩) ?_
    rw [srch_ok, cond_true]
    exact Rns.ret _
  obtain ⟨W', j, e, hm, hj⟩ := hr2 (skWd s.m) 0 (skWd_mem s.m)
  have z : Rf 0 := ⟨by decide, by decide⟩
  exact ⟨W', alone_fn 0 (skWd s.m) W' 0 8 0 0 k 400 j _ (skWd_ok h.u) (by show Small 1; unfold Small; omega) (by show 0 < 1; decide) ⟨fun _ => z, fun h => absurd h (by decide), hk⟩ e (by omega) (by decide) (by decide) (by decide)⟩
end
end Go.Proofs.YteadaggehndacaaDoor
/- The builtin max of two numbers. Generic over the program. -/
namespace Go.Proofs.YteadaggehndacaaDoor
set_option maxRecDepth 100000
set_option maxHeartbeats 16000000
open Go Go.RowKit
set_option linter.unusedSimpArgs false
theorem w_max2 {P : Program} {n d t1 t2 : Nat} {o : Oper} {S : AS} {x y : Operand} {k k' : IntKind} {a b : Int} (ho : o.op = .call { callee := .builtin .max, args := #[x, y], argTypes := #[t1, t2] }) (hx : S.get x = .p (.val (.int k a))) (hy : S.get y = .p (.val (.int k' b))) (hd : o.dst = some d) (hn : d < n) : zQ P n o S [] (.p (.val (.int k (max a b)))) none :=
  zQ.pure hd hn fun S2 hg _ M w0 ρ a' w hs => by
    have h1 := hs.rep x
    rw [hg x (by rw [ho]; simp [Op.operands, Call.operands]), hx] at h1
    have h2 := hs.rep y
    rw [hg y (by rw [ho]; simp [Op.operands, Call.operands]), hy] at h2
    have e1 := rep_val (qJ h1)
    have e2 := rep_val (qJ h2)
    refine ⟨.int k (max a b), w, ?_, Below.refl _ _, .p (.val _)⟩
    unfold execOp
    rw [ho]
    simp only [resolve, invoke, builtin, Sem.run_bind, Sem.run_pure, Result.andThen_ok, List.map_toArray, List.map_cons, List.map_nil, e1, e2, Go.Lib.run_max_ints]
end Go.Proofs.YteadaggehndacaaDoor
/- Two worlds that are the same: contract. -/
namespace Go.Proofs.YteadaggehndacaaDoor
set_option maxRecDepth 100000
set_option maxHeartbeats 16000000
open Go Go.RowKit
set_option linter.unusedSimpArgs false
set_option linter.unusedVariables false
attribute [local irreducible] zY zZ Step zQ Sub zI zM Fn
def sameMS (v : PV) (i : Nat) : AS := { t := [(2, .ptr 2 0), (3, .ptr 3 0), (5, .p (.val (.int .i64 (i : Nat))))], s := [(2, .box 26 (v.cells.map AV.p)), (3, .box 26 (v.cells.map AV.p))] }
theorem memSame_fn (t c : Int) (ws : List Int) (hl : ws.length ≤ 1000000) : Fn Tryd.prog 28 [memV t c ws, memV t c ws] (.p (.val (.bool true))) := by
  have g1 : ∀ x : Int, (!decide (x = x)) = false := fun x => by simp
  refine yL Tryd.func28 rfl Tryd.ntmps28 (Nat.le_of_ble_eq_true rfl) ?_
  repeat' ((refine zZ.is ?_; first | refine zZ.seq ?_ | (refine zZ.iq 0 ?_; refine zZ.rqb _ K_7 K_6 ?_; (refine zY.m rfl rfl (yE rfl rfl rfl (by decide)) ?_); (refine zY.m rfl rfl (yE rfl rfl rfl (by decide)) ?_); (refine zY.v rfl rfl (zV rfl rfl rfl (by decide)) ?_); refine zY.nil ?_) | (refine zZ.iq 1 ?_; refine zZ.rqa _ K_p K_6 ?_; all_goals (refine zY.v rfl rfl (zJ rfl rfl rfl (by decide)) ?_); all_goals (refine zY.v rfl rfl (zC rfl rfl rfl (by rfl) rfl (by decide)) ?_); all_goals (refine zY.v rfl rfl (zJ rfl rfl rfl (by decide)) ?_); all_goals (refine zY.v rfl rfl (zC rfl rfl rfl (by rfl) rfl (by decide)) ?_); all_goals (refine zY.v rfl rfl (by exact vN rfl rfl rfl (by exact g1 _) rfl (by decide)) ?_); all_goals (refine zY.v rfl rfl (zK rfl rfl rfl (by decide)) ?_); all_goals (refine zY.gY rfl rfl (by decide) rfl (by with_reducible rfl) rfl (by decide) (zJ rfl rfl rfl (by decide)) ?_); all_goals (refine zY.gY rfl rfl (by decide) rfl (by with_reducible rfl) rfl (by decide) (zC rfl rfl rfl (by rfl) rfl (by decide)) ?_); all_goals (refine zY.gY rfl rfl (by decide) rfl (by with_reducible rfl) rfl (by decide) (zJ rfl rfl rfl (by decide)) ?_); all_goals (refine zY.gY rfl rfl (by decide) rfl (by with_reducible rfl) rfl (by decide) (zC rfl rfl rfl (by rfl) rfl (by decide)) ?_); all_goals (refine zY.gY rfl rfl (by decide) rfl (by with_reducible rfl) rfl (by decide) (by exact vN rfl rfl rfl (by exact g1 _) rfl (by decide)) ?_); all_goals (refine zY.v rfl rfl (by exact wD rfl rfl (by with_reducible rfl) rfl rfl (by decide)) ?_); all_goals (refine zY.v rfl rfl (zK rfl rfl rfl (by decide)) ?_); all_goals (refine zY.gY rfl rfl (by decide) rfl (by with_reducible rfl) rfl (by decide) (zJ rfl rfl rfl (by decide)) ?_); all_goals (refine zY.gY rfl rfl (by decide) rfl (by with_reducible rfl) rfl (by decide) (zC rfl rfl rfl (by rfl) rfl (by decide)) ?_); all_goals (refine zY.gY rfl rfl (by decide) rfl (by with_reducible rfl) rfl (by decide) (qE rfl rfl rfl (by decide)) ?_); all_goals (refine zY.gY rfl rfl (by decide) rfl (by with_reducible rfl) rfl (by decide) (zJ rfl rfl rfl (by decide)) ?_); all_goals (refine zY.gY rfl rfl (by decide) rfl (by with_reducible rfl) rfl (by decide) (zC rfl rfl rfl (by rfl) rfl (by decide)) ?_); all_goals (refine zY.gY rfl rfl (by decide) rfl (by with_reducible rfl) rfl (by decide) (qE rfl rfl rfl (by decide)) ?_); all_goals (refine zY.gY rfl rfl (by decide) rfl (by with_reducible rfl) rfl (by decide) (by exact vN rfl rfl rfl (by exact g1 _) rfl (by decide)) ?_); all_goals (refine zY.v rfl rfl (by exact wD rfl rfl (by with_reducible rfl) rfl rfl (by decide)) ?_); all_goals (refine zY.nil ?_)) | (refine zZ.iq 3 ?_; refine zZ.rqa _ K_p K_6 ?_; (refine zY.v rfl rfl (zV rfl rfl rfl (by decide)) ?_); refine zY.nil ?_) | refine zZ.yP rfl (by with_reducible rfl) ?_ | refine zZ.skip ?_ | refine zZ.block ?_))
  all_goals first | (exfalso; simp_all; done) | skip
  refine zZ.loop (sameMS (memV t c ws)) (fun i => i ≤ ws.length) (fun i => ws.length - i) 0 ?h0 (by omega) ?rd
  case h0 =>
    unfold sameMS
    exact yM K_1o K_6
  case rd =>
    intro i hi
    unfold sameMS
    by_cases hlt : i < ws.length
    case pos =>
      have f1 : decide ((i : Int) < ((wds ws).length : Nat)) = true := decide_eq_true (by rw [xM]; omega)
      have g2 : (0 : Int) ≤ (i : Int) ∧ (i : Int) < (wds ws).length := by rw [xM]; omega
      have g3 : (wds ws)[(i : Int).toNat]? = some (.val (.int .u64 (ws[i]'hlt))) := by rw [Int.toNat_natCast]; exact wds_at (List.getElem?_eq_getElem hlt)
      have g4 := vZ ws
      have g5 : IntKind.i64.wrap ((i : Int) + 1) = ((i + 1 : Nat) : Int) := by rw [wrap_i64 _ (by omega)]; omega
      repeat' (first | (refine zZ.is ?_; first | refine zZ.seq ?_ | (refine zZ.isR (id := 4) ?_; refine zZ.zN [2, 3, 4, 5, 31, 44] [2, 3] (by repeat' first | exact zX.nil | apply zX.p rfl | apply zX.ptr rfl | apply zX.skip) (by repeat' first | exact zW.nil | apply zW.boxP rfl rfl) ?_; (refine zY.v rfl rfl (zK rfl rfl rfl (by decide)) ?_); (refine zY.v rfl rfl (zJ rfl rfl rfl (by decide)) ?_); (refine zY.v rfl rfl (zC rfl rfl rfl (by rfl) rfl (by decide)) ?_); (refine zY.v rfl rfl (qE rfl rfl rfl (by decide)) ?_); (refine zY.v rfl rfl (by exact xP rfl rfl rfl (by exact f1) rfl (by decide)) ?_); refine zY.nil ?_) | (refine zZ.isR (id := 6) ?_; refine zZ.qH [2, 3, 4, 5, 31, 44] [2, 3] (by repeat' first | exact zX.nil | apply zX.p rfl | apply zX.ptr rfl | apply zX.skip) (by repeat' first | exact zW.nil | apply zW.boxP rfl rfl) (zZ.draws ?_); all_goals (refine Draws.v rfl rfl (zJ rfl rfl rfl (by decide)) ?_); all_goals (refine Draws.v rfl rfl (zC rfl rfl rfl (by rfl) rfl (by decide)) ?_); all_goals (refine Draws.v rfl rfl (zK rfl rfl rfl (by decide)) ?_); all_goals (refine Draws.v rfl rfl (by exact xR rfl rfl rfl (by exact g4) (by exact g3) rfl (by decide)) ?_); all_goals (refine Draws.v rfl rfl (w_load1 rfl rfl rfl rfl (by decide)) ?_); all_goals (refine Draws.v rfl rfl (zJ rfl rfl rfl (by decide)) ?_); all_goals (refine Draws.v rfl rfl (zC rfl rfl rfl (by rfl) rfl (by decide)) ?_); all_goals (refine Draws.v rfl rfl (zK rfl rfl rfl (by decide)) ?_); all_goals (refine Draws.v rfl rfl (by exact xR rfl rfl rfl (by exact g4) (by exact g3) rfl (by decide)) ?_); all_goals (refine Draws.v rfl rfl (w_load1 rfl rfl rfl rfl (by decide)) ?_); all_goals (refine Draws.v rfl rfl (by exact vN rfl rfl rfl (by exact g1 _) rfl (by decide)) ?_); all_goals ((refine Draws.done (by kernel_rfl) (by kernel_rfl) (by kernel_rfl) ?_; refine zI.nil ?_))) | (refine zZ.isR (id := 5) ?_; refine zZ.zN [2, 3, 4, 5, 31, 44] [2, 3] (by repeat' first | exact zX.nil | apply zX.p rfl | apply zX.ptr rfl | apply zX.skip) (by repeat' first | exact zW.nil | apply zW.boxP rfl rfl) ?_; (refine zY.v rfl rfl (zK rfl rfl rfl (by decide)) ?_); (refine zY.v rfl rfl (by exact a_add rfl rfl rfl (by exact g5) rfl (by decide)) ?_); (refine zY.v rfl rfl (zV rfl rfl rfl (by decide)) ?_); refine zY.nil ?_) | refine zZ.y8 rfl (by first | assumption | with_reducible rfl) ?_ | refine zZ.yP rfl (by with_reducible rfl) ?_ | refine zZ.skip ?_ | refine zZ.block ?_) | refine zO.n ?_)
      all_goals first | (exfalso; simp_all; done) | skip
      refine ⟨i + 1, ?_, by omega, by omega⟩
      show Sub _ (sameMS (memV t c ws) (i + 1))
      unfold sameMS
      exact yM K_1o K_6
    case neg =>
      have f1 : decide ((i : Int) < ((wds ws).length : Nat)) = false := decide_eq_false (by rw [xM]; omega)
      repeat' ((refine zZ.is ?_; first | refine zZ.seq ?_ | (refine zZ.isR (id := 4) ?_; refine zZ.zN [2, 3, 4, 5, 31, 44] [2, 3] (by repeat' first | exact zX.nil | apply zX.p rfl | apply zX.ptr rfl | apply zX.skip) (by repeat' first | exact zW.nil | apply zW.boxP rfl rfl) ?_; (refine zY.v rfl rfl (zK rfl rfl rfl (by decide)) ?_); (refine zY.v rfl rfl (zJ rfl rfl rfl (by decide)) ?_); (refine zY.v rfl rfl (zC rfl rfl rfl (by rfl) rfl (by decide)) ?_); (refine zY.v rfl rfl (qE rfl rfl rfl (by decide)) ?_); (refine zY.v rfl rfl (by exact xP rfl rfl rfl (by exact f1) rfl (by decide)) ?_); refine zY.nil ?_) | (refine zZ.isR (id := 8) ?_; refine zZ.zN [4] [2, 3] (by repeat' first | exact zX.nil | apply zX.skip) (by repeat' first | exact zW.nil | apply zW.boxP rfl rfl) ?_; (refine zY.v rfl rfl (zV rfl rfl rfl (by decide)) ?_); refine zY.nil ?_) | refine zZ.yP rfl (by first | assumption | with_reducible rfl) ?_ | refine zZ.exit ?_ | refine zZ.ret ?_))
      all_goals exact ⟨by first | exact .inl rfl | exact .inr rfl, _, Sub.refl _, .p rfl (.tmp rfl)⟩
theorem strSame_fn (d : List Int) (z : Int) : Fn Tryd.prog 68 [strV d z, strV d z] (.p (.val (.bool true))) := by
  have g1 : decide (z = z) = true := by simp
  have g2 : ∀ x : ByteArray, (x.toList == x.toList) = true := fun x => by simp
  refine yL Tryd.func68 rfl Tryd.ntmps68 (Nat.le_of_ble_eq_true rfl) ?_
  repeat' ((refine zZ.is ?_; first | refine zZ.seq ?_ | (refine zZ.iq 0 ?_; refine zZ.rqb _ K_7 K_6 ?_; (refine zY.m rfl rfl (yE rfl rfl rfl (by decide)) ?_); (refine zY.m rfl rfl (yE rfl rfl rfl (by decide)) ?_); (refine zY.v rfl rfl (zV rfl rfl rfl (by decide)) ?_); refine zY.nil ?_) | (refine zZ.iq 1 ?_; refine zZ.rqa _ K_p K_6 ?_; all_goals (refine zY.v rfl rfl (zJ rfl rfl rfl (by decide)) ?_); all_goals (refine zY.v rfl rfl (zC rfl rfl rfl (by rfl) rfl (by decide)) ?_); all_goals (refine zY.v rfl rfl (w_str rfl rfl rfl (by decide)) ?_); all_goals (refine zY.v rfl rfl (zJ rfl rfl rfl (by decide)) ?_); all_goals (refine zY.v rfl rfl (zC rfl rfl rfl (by rfl) rfl (by decide)) ?_); all_goals (refine zY.v rfl rfl (w_str rfl rfl rfl (by decide)) ?_); all_goals (refine zY.v rfl rfl (by exact r_eqlS rfl rfl rfl (by exact g2 _) rfl (by decide)) ?_); all_goals (refine zY.v rfl rfl (zK rfl rfl rfl (by decide)) ?_); all_goals (refine zY.gY rfl rfl (by decide) rfl (by with_reducible rfl) rfl (by decide) (zJ rfl rfl rfl (by decide)) ?_); all_goals (refine zY.gY rfl rfl (by decide) rfl (by with_reducible rfl) rfl (by decide) (zC rfl rfl rfl (by rfl) rfl (by decide)) ?_); all_goals (refine zY.gY rfl rfl (by decide) rfl (by with_reducible rfl) rfl (by decide) (zJ rfl rfl rfl (by decide)) ?_); all_goals (refine zY.gY rfl rfl (by decide) rfl (by with_reducible rfl) rfl (by decide) (zC rfl rfl rfl (by rfl) rfl (by decide)) ?_); all_goals (refine zY.gY rfl rfl (by decide) rfl (by with_reducible rfl) rfl (by decide) (by exact r_eql rfl rfl rfl (by exact g1) rfl (by decide)) ?_); all_goals (refine zY.v rfl rfl (by exact xC rfl rfl (by with_reducible rfl) rfl rfl (by decide)) ?_); all_goals (refine zY.v rfl rfl (zV rfl rfl rfl (by decide)) ?_); all_goals (refine zY.nil ?_)) | refine zZ.ret ?_))
  all_goals exact ⟨by first | exact .inl rfl | exact .inr rfl, _, Sub.refl _, .p rfl (.tmp rfl)⟩
def sameRS (v : PV) (i : Nat) : AS := { t := [(0, .p v), (1, .p v), (5, .p (.val (.int .i64 (i : Nat))))], s := [] }
theorem rowSame_fn (l : List (List Int × Int)) (hl : l.length ≤ 1000000) : Fn Tryd.prog 52 [.sl (strs l), .sl (strs l)] (.p (.val (.bool true))) := by
  have g1 : ∀ x : Int, (!decide (x = x)) = false := fun x => by simp
  refine yL Tryd.func52 rfl Tryd.ntmps52 (Nat.le_of_ble_eq_true rfl) ?_
  repeat' ((refine zZ.is ?_; first | refine zZ.seq ?_ | (refine zZ.isR (id := 0) ?_; refine zZ.zN [0, 1] [] (by repeat' first | exact zX.nil | apply zX.p rfl) (by repeat' exact zW.nil) ?_; (refine zY.v rfl rfl (zV rfl rfl rfl (by decide)) ?_); refine zY.nil ?_) | (refine zZ.isR (id := 1) ?_; refine zZ.zN [0, 1, 4] [] (by repeat' first | exact zX.nil | apply zX.p rfl) (by repeat' exact zW.nil) ?_; (refine zY.v rfl rfl (zK rfl rfl rfl (by decide)) ?_); (refine zY.v rfl rfl (qE rfl rfl rfl (by decide)) ?_); (refine zY.v rfl rfl (zK rfl rfl rfl (by decide)) ?_); (refine zY.v rfl rfl (qE rfl rfl rfl (by decide)) ?_); (refine zY.v rfl rfl (by exact vN rfl rfl rfl (by exact g1 _) rfl (by decide)) ?_); refine zY.nil ?_) | (refine zZ.isR (id := 3) ?_; refine zZ.zN [0, 1, 4] [] (by repeat' first | exact zX.nil | apply zX.p rfl) (by repeat' exact zW.nil) ?_; (refine zY.v rfl rfl (zV rfl rfl rfl (by decide)) ?_); refine zY.nil ?_) | refine zZ.yP rfl (by with_reducible rfl) ?_ | refine zZ.skip ?_ | refine zZ.block ?_))
  all_goals first | (exfalso; simp_all; done) | skip
  refine zZ.loop (sameRS (.sl (strs l))) (fun i => i ≤ l.length) (fun i => l.length - i) 0 ?h0 (by omega) ?rd
  case h0 =>
    unfold sameRS
    exact yM K_1p []
  case rd =>
    intro i hi
    unfold sameRS
    by_cases hlt : i < l.length
    case pos =>
      have f1 : decide ((i : Int) < ((strs l).length : Nat)) = true := decide_eq_true (by rw [vT]; omega)
      have g2 : (0 : Int) ≤ (i : Int) ∧ (i : Int) < (strs l).length := by rw [vT]; omega
      have g3 : (strs l)[(i : Int).toNat]? = some (strV (l[i]'hlt).1 (l[i]'hlt).2) := by rw [Int.toNat_natCast]; exact strs_at (List.getElem?_eq_getElem hlt)
      have g4 := strs_cells l
      have g5 : IntKind.i64.wrap ((i : Int) + 1) = ((i + 1 : Nat) : Int) := by rw [wrap_i64 _ (by omega)]; omega
      have c1 := strSame_fn (l[i]'hlt).1 (l[i]'hlt).2
      repeat' (first | (refine zZ.is ?_; first | refine zZ.seq ?_ | (refine zZ.isR (id := 4) ?_; refine zZ.zN [0, 1, 4, 5, 6, 15, 28] [] (by repeat' first | exact zX.nil | apply zX.p rfl | apply zX.skip) (by repeat' exact zW.nil) ?_; (refine zY.v rfl rfl (zK rfl rfl rfl (by decide)) ?_); (refine zY.v rfl rfl (zK rfl rfl rfl (by decide)) ?_); (refine zY.v rfl rfl (qE rfl rfl rfl (by decide)) ?_); (refine zY.v rfl rfl (by exact xP rfl rfl rfl (by exact f1) rfl (by decide)) ?_); refine zY.nil ?_) | (refine zZ.isR (id := 6) ?_; refine zZ.qH [0, 1, 4, 5, 6, 15, 28] [] (by repeat' first | exact zX.nil | apply zX.p rfl | apply zX.skip) (by repeat' exact zW.nil) (zZ.draws ?_); all_goals (refine Draws.v rfl rfl (zK rfl rfl rfl (by decide)) ?_); all_goals (refine Draws.v rfl rfl (zK rfl rfl rfl (by decide)) ?_); all_goals (refine Draws.v rfl rfl (by exact xR rfl rfl rfl (by exact g4) (by exact g3) rfl (by decide)) ?_); all_goals (refine Draws.v rfl rfl (by exact vU rfl rfl (by exact Nat.le_of_ble_eq_true rfl) rfl (by decide)) ?_); all_goals (refine Draws.v rfl rfl (zK rfl rfl rfl (by decide)) ?_); all_goals (refine Draws.v rfl rfl (zK rfl rfl rfl (by decide)) ?_); all_goals (refine Draws.v rfl rfl (by exact xR rfl rfl rfl (by exact g4) (by exact g3) rfl (by decide)) ?_); all_goals (refine Draws.v rfl rfl (by exact vU rfl rfl (by exact Nat.le_of_ble_eq_true rfl) rfl (by decide)) ?_); all_goals (refine Draws.v rfl rfl (by exact zT (c1) rfl rfl rfl (by decide)) ?_); all_goals (refine Draws.v rfl rfl (zV rfl rfl rfl (by decide)) ?_); all_goals ((refine Draws.done (by kernel_rfl) (by kernel_rfl) (by kernel_rfl) ?_; refine zI.nil ?_))) | (refine zZ.isR (id := 7) ?_; refine zZ.zN [0, 1, 4, 5, 6, 15, 28] [] (by repeat' first | exact zX.nil | apply zX.p rfl | apply zX.skip) (by repeat' exact zW.nil) ?_; (refine zY.v rfl rfl (zK rfl rfl rfl (by decide)) ?_); (refine zY.v rfl rfl (by exact r_notB rfl rfl (by exact bF (by decide)) rfl (by decide)) ?_); refine zY.nil ?_) | (refine zZ.isR (id := 5) ?_; refine zZ.zN [0, 1, 4, 5, 6, 15, 28] [] (by repeat' first | exact zX.nil | apply zX.p rfl | apply zX.skip) (by repeat' exact zW.nil) ?_; (refine zY.v rfl rfl (zK rfl rfl rfl (by decide)) ?_); (refine zY.v rfl rfl (by exact a_add rfl rfl rfl (by exact g5) rfl (by decide)) ?_); (refine zY.v rfl rfl (zV rfl rfl rfl (by decide)) ?_); refine zY.nil ?_) | refine zZ.y8 rfl (by first | assumption | with_reducible rfl) ?_ | refine zZ.yP rfl (by with_reducible rfl) ?_ | refine zZ.skip ?_ | refine zZ.block ?_) | refine zO.n ?_)
      all_goals first | (exfalso; simp_all; done) | skip
      refine ⟨i + 1, ?_, by omega, by omega⟩
      show Sub _ (sameRS (.sl (strs l)) (i + 1))
      unfold sameRS
      exact yM K_1p []
    case neg =>
      have f1 : decide ((i : Int) < ((strs l).length : Nat)) = false := decide_eq_false (by rw [vT]; omega)
      repeat' ((refine zZ.is ?_; first | refine zZ.seq ?_ | (refine zZ.isR (id := 4) ?_; refine zZ.zN [0, 1, 4, 5, 6, 15, 28] [] (by repeat' first | exact zX.nil | apply zX.p rfl | apply zX.skip) (by repeat' exact zW.nil) ?_; (refine zY.v rfl rfl (zK rfl rfl rfl (by decide)) ?_); (refine zY.v rfl rfl (zK rfl rfl rfl (by decide)) ?_); (refine zY.v rfl rfl (qE rfl rfl rfl (by decide)) ?_); (refine zY.v rfl rfl (by exact xP rfl rfl rfl (by exact f1) rfl (by decide)) ?_); refine zY.nil ?_) | (refine zZ.isR (id := 9) ?_; refine zZ.zN [4] [] (by repeat' first | exact zX.nil | apply zX.skip) (by repeat' exact zW.nil) ?_; (refine zY.v rfl rfl (zV rfl rfl rfl (by decide)) ?_); refine zY.nil ?_) | refine zZ.yP rfl (by first | assumption | with_reducible rfl) ?_ | refine zZ.exit ?_ | refine zZ.ret ?_))
      all_goals exact ⟨by first | exact .inl rfl | exact .inr rfl, _, Sub.refl _, .p rfl (.tmp rfl)⟩
theorem diskSame_fn (root : Int) (r0 r1 : List (List Int × Int)) (h0 : r0.length ≤ 1000000) (h1 : r1.length ≤ 1000000) : Fn Tryd.prog 29 [wH root r0 r1, wH root r0 r1] (.p (.val (.bool true))) := by
  have g1 : decide (root = root) = true := by simp
  have c1 := rowSame_fn r0 h0
  have c2 := rowSame_fn r1 h1
  refine yL Tryd.func29 rfl Tryd.ntmps29 (Nat.le_of_ble_eq_true rfl) ?_
  repeat' ((refine zZ.is ?_; first | refine zZ.seq ?_ | (refine zZ.iq 0 ?_; refine zZ.rqb _ K_7 K_6 ?_; (refine zY.m rfl rfl (yE rfl rfl rfl (by decide)) ?_); (refine zY.m rfl rfl (yE rfl rfl rfl (by decide)) ?_); (refine zY.v rfl rfl (zV rfl rfl rfl (by decide)) ?_); refine zY.nil ?_) | (refine zZ.iq 1 ?_; refine zZ.rqa _ K_p K_6 ?_; (refine zY.v rfl rfl (zJ rfl rfl rfl (by decide)) ?_); (refine zY.v rfl rfl (by exact wV rfl rfl rfl (by omega) rfl (by decide)) ?_); (refine zY.v rfl rfl (zC rfl rfl rfl (by rfl) rfl (by decide)) ?_); (refine zY.v rfl rfl (zJ rfl rfl rfl (by decide)) ?_); (refine zY.v rfl rfl (by exact wV rfl rfl rfl (by omega) rfl (by decide)) ?_); (refine zY.v rfl rfl (zC rfl rfl rfl (by rfl) rfl (by decide)) ?_); (refine zY.v rfl rfl (by exact zT (c1) rfl rfl rfl (by decide)) ?_); (refine zY.v rfl rfl (zV rfl rfl rfl (by decide)) ?_); refine zY.nil ?_) | (refine zZ.iq 2 ?_; refine zZ.rqa _ K_8 K_6 ?_; (refine zY.v rfl rfl (zJ rfl rfl rfl (by decide)) ?_); (refine zY.v rfl rfl (by exact wV rfl rfl rfl (by omega) rfl (by decide)) ?_); (refine zY.v rfl rfl (zC rfl rfl rfl (by rfl) rfl (by decide)) ?_); (refine zY.v rfl rfl (zJ rfl rfl rfl (by decide)) ?_); (refine zY.v rfl rfl (by exact wV rfl rfl rfl (by omega) rfl (by decide)) ?_); (refine zY.v rfl rfl (zC rfl rfl rfl (by rfl) rfl (by decide)) ?_); (refine zY.v rfl rfl (by exact zT (c2) rfl rfl rfl (by decide)) ?_); (refine zY.v rfl rfl (zV rfl rfl rfl (by decide)) ?_); refine zY.nil ?_) | (refine zZ.iq 3 ?_; refine zZ.rqa _ K_18 K_6 ?_; all_goals (refine zY.v rfl rfl (zJ rfl rfl rfl (by decide)) ?_); all_goals (refine zY.v rfl rfl (zC rfl rfl rfl (by rfl) rfl (by decide)) ?_); all_goals (refine zY.v rfl rfl (zJ rfl rfl rfl (by decide)) ?_); all_goals (refine zY.v rfl rfl (zC rfl rfl rfl (by rfl) rfl (by decide)) ?_); all_goals (refine zY.v rfl rfl (by exact r_eql rfl rfl rfl (by exact g1) rfl (by decide)) ?_); all_goals (refine zY.v rfl rfl (zK rfl rfl rfl (by decide)) ?_); all_goals (refine zY.gY rfl rfl (by decide) rfl (by with_reducible rfl) rfl (by decide) (zK rfl rfl rfl (by decide)) ?_); all_goals (refine zY.v rfl rfl (by exact xC rfl rfl (by with_reducible rfl) rfl rfl (by decide)) ?_); all_goals (refine zY.v rfl rfl (zK rfl rfl rfl (by decide)) ?_); all_goals (refine zY.gY rfl rfl (by decide) rfl (by with_reducible rfl) rfl (by decide) (zK rfl rfl rfl (by decide)) ?_); all_goals (refine zY.v rfl rfl (by exact xC rfl rfl (by with_reducible rfl) rfl rfl (by decide)) ?_); all_goals (refine zY.v rfl rfl (zV rfl rfl rfl (by decide)) ?_); all_goals (refine zY.nil ?_)) | refine zZ.ret ?_))
  all_goals exact ⟨by first | exact .inl rfl | exact .inr rfl, _, Sub.refl _, .p rfl (.tmp rfl)⟩
theorem worldSame_fn (W : Wd) (hl : W.ws.length ≤ 1000000) (h0 : W.r0.length ≤ 1000000) (h1 : W.r1.length ≤ 1000000) : Fn Tryd.prog 15 [W.pv, W.pv] (.p (.val (.bool true))) := by
  have c1 := memSame_fn W.t W.c W.ws hl
  have c2 := diskSame_fn W.root W.r0 W.r1 h0 h1
  refine yL Tryd.func15 rfl Tryd.ntmps15 (Nat.le_of_ble_eq_true rfl) ?_
  repeat' ((refine zZ.is ?_; first | refine zZ.seq ?_ | (refine zZ.iq 0 ?_; refine zZ.rqb _ K_7 K_6 ?_; (refine zY.m rfl rfl (yE rfl rfl rfl (by decide)) ?_); (refine zY.m rfl rfl (yE rfl rfl rfl (by decide)) ?_); (refine zY.v rfl rfl (zV rfl rfl rfl (by decide)) ?_); refine zY.nil ?_) | (refine zZ.iq 1 ?_; refine zZ.rqa _ K_p K_6 ?_; (refine zY.v rfl rfl (zJ rfl rfl rfl (by decide)) ?_); (refine zY.v rfl rfl (zS rfl rfl rfl (by rfl) (by rfl) rfl (by decide)) ?_); (refine zY.v rfl rfl (zJ rfl rfl rfl (by decide)) ?_); (refine zY.v rfl rfl (zS rfl rfl rfl (by rfl) (by rfl) rfl (by decide)) ?_); (refine zY.v rfl rfl (by exact zT (c1) rfl rfl rfl (by decide)) ?_); (refine zY.v rfl rfl (zV rfl rfl rfl (by decide)) ?_); refine zY.nil ?_) | (refine zZ.iq 2 ?_; refine zZ.rqa _ K_8 K_6 ?_; (refine zY.v rfl rfl (zJ rfl rfl rfl (by decide)) ?_); (refine zY.v rfl rfl (zS rfl rfl rfl (by rfl) (by rfl) rfl (by decide)) ?_); (refine zY.v rfl rfl (zJ rfl rfl rfl (by decide)) ?_); (refine zY.v rfl rfl (zS rfl rfl rfl (by rfl) (by rfl) rfl (by decide)) ?_); (refine zY.v rfl rfl (by exact zT (c2) rfl rfl rfl (by decide)) ?_); (refine zY.v rfl rfl (zV rfl rfl rfl (by decide)) ?_); refine zY.nil ?_) | (refine zZ.isR (id := 3) ?_; refine zZ.zN [4, 5, 6] [2, 3] (by repeat' first | exact zX.nil | apply zX.p rfl) (by repeat' first | exact zW.nil | apply zW.boxP rfl rfl) ?_; all_goals (refine zY.v rfl rfl (zK rfl rfl rfl (by decide)) ?_); all_goals (refine zY.v rfl rfl (zK rfl rfl rfl (by decide)) ?_); all_goals (refine zY.gY rfl rfl (by decide) rfl (by with_reducible rfl) rfl (by decide) (zK rfl rfl rfl (by decide)) ?_); all_goals (refine zY.v rfl rfl (by exact xC rfl rfl (by with_reducible rfl) rfl rfl (by decide)) ?_); all_goals (refine zY.v rfl rfl (zV rfl rfl rfl (by decide)) ?_); all_goals (refine zY.nil ?_)) | refine zZ.ret ?_))
  all_goals exact ⟨by first | exact .inl rfl | exact .inr rfl, _, Sub.refl _, .p rfl (.tmp rfl)⟩
end Go.Proofs.YteadaggehndacaaDoor
/- The list's example: contract. -/
namespace Go.Proofs.YteadaggehndacaaDoor
set_option maxRecDepth 100000
set_option maxHeartbeats 16000000
open Go Go.RowKit
set_option linter.unusedSimpArgs false
set_option linter.unusedVariables false
attribute [local irreducible] zY zZ Step zQ Sub zI zM Fn zO yJ
theorem shown15_fn : Fn Tryd.prog 7 [] (.p (.val (.bool true))) := by
  have c0 := new10A_fn 1 2 (by decide) (by decide) (by decide) (by decide)
  have c6 : Fn Tryd.prog 10 [.val (.int .i64 1), .val (.int .i64 1), .val (.int .i64 1)] (.p (.val (.int .i64 10))) := qB 1 1 1 (by unfold Small; omega) (by omega) (by unfold Small; omega)
  obtain ⟨a1, a2, a3, a4, a5⟩ := al_sl
  have c1 := a1.fn
  have c2 := a2.fn
  have c3 := a3.fn
  have c4 := a4.fn
  have c5 := a5.fn
  clear a1 a2 a3 a4 a5
  obtain ⟨z1, ⟨z2, z3, z4⟩, ⟨z5, z6⟩, ⟨z7, z8, z9⟩, z10, z11⟩ := sl6
  generalize slV = q1 at *
  generalize slB = q2 at *
  generalize slD = q3 at *
  generalize slE = q4 at *
  generalize slF = q5 at *
  obtain ⟨⟨e1, s1, n1, w1⟩, ⟨t1, u1, ws1, root1, r01, r11⟩, m1⟩ := q1
  obtain ⟨⟨e2, s2, n2, w2⟩, ⟨t2, u2, ws2, root2, r02, r12⟩, m2⟩ := q2
  obtain ⟨⟨e3, s3, n3, w3⟩, ⟨t3, u3, ws3, root3, r03, r13⟩, m3⟩ := q3
  obtain ⟨⟨e4, s4, n4, w4⟩, ⟨t4, u4, ws4, root4, r04, r14⟩, m4⟩ := q4
  obtain ⟨⟨e5, s5, n5, w5⟩, ⟨t5, u5, ws5, root5, r05, r15⟩, m5⟩ := q5
  dsimp only at z1 z2 z3 z4 z5 z6 z7 z8 z9 z10 z11
  subst z1 z2 z3 z4 z5 z6 z7 z8 z9 z10 z11
  have hl := newW_len 1 2
  have g0 : slW = ⟨1, 2, (newW 1 2).set 10 5, 0, [([], 0)], [([], 0)]⟩ := rfl
  rw [g0] at c1
  have e0 : (wds (newW 1 2)).set (10 : Int).toNat (.val (.int .u64 5)) = wds ((newW 1 2).set 10 5) := vG _ _ _
  unfold Wd.pv wK at c1
  dsimp only at c1
  rw [← e0] at c1
  have g1 := vZ (newW 1 2)
  have g2 : (0 : Int) ≤ 10 ∧ (10 : Int) < (wds (newW 1 2)).length := by rw [xM, hl]; omega
  have g3 : (10 : Int).toNat < (wds (newW 1 2)).length := by rw [xM, hl]; decide
  generalize newW 1 2 = nw at *
  clear e0 g0
  dsimp only [Wd.pv, wK] at c2 c3 c4 c5
  refine yL Tryd.func7 rfl Tryd.ntmps7 (Nat.le_of_ble_eq_true rfl) ?_
  repeat' (first | (refine zY.is ?_; first | refine zY.nil ?_ | (refine zY.at_ 1 rfl ?_; refine zY.rc (.m yG (.w yB .e)) ?_) | (refine zY.at_ 23 rfl ?_; refine zY.rc (.v v0_4 (.v yT (.v yT (.v yT (.m yG (.m yG (.w yB (.w yB (.v zR .e))))))))) ?_) | (refine zY.at_ 30 rfl ?_; refine zY.rc (.v v0_4 (.v yT (.v yT (.v yT (.m yG (.m yG (.w yB (.w yB (.v zR .e))))))))) ?_) | (refine zY.at_ 37 rfl ?_; refine zY.rc (.v v0_4 (.v yT (.v yT (.v yT (.m yG (.m yG (.w yB (.w yB (.v zR .e))))))))) ?_) | (refine zY.at_ 44 rfl ?_; refine zY.rc (.v v0_4 (.v yT (.v yT (.v yT (.m yG (.m yG (.w yB (.w yB (.v zR .e))))))))) ?_) | (refine zY.at_ 51 rfl ?_; refine zY.rc (.v v0_4 (.v yT (.v yT (.v yT (.m yG (.m yG (.w yB (.w yB (.v zR .e))))))))) ?_) | (refine zY.in_ [26] rfl ?_; refine zY.v rfl rfl (yO (c1) rfl rfl rfl (by decide)) ?_) | (refine zY.in_ [33] rfl ?_; refine zY.v rfl rfl (yO (c2) rfl rfl rfl (by decide)) ?_) | (refine zY.in_ [40] rfl ?_; refine zY.v rfl rfl (yO (c3) rfl rfl rfl (by decide)) ?_) | (refine zY.in_ [47] rfl ?_; refine zY.v rfl rfl (yO (c4) rfl rfl rfl (by decide)) ?_) | (refine zY.in_ [54] rfl ?_; refine zY.v rfl rfl (yO (c5) rfl rfl rfl (by decide)) ?_) | (refine zY.in_ [17] rfl ?_; refine zY.m rfl rfl (w_callAg c0 rfl rfl rfl (by decide)) ?_)) | (refine zZ.is ?_; first | refine zZ.seq ?_ | (refine zZ.isR (id := 0) ?_; refine zZ.rc [] [1, 2, 3, 5, 6, 8, 9, 11, 12, 14, 15, 17, 21, 26, 33, 40, 47, 54] (r := (.v zR .e)) (h := ?_)) | (refine zZ.isR (id := 1) ?_; refine zZ.rc [0] [1, 2, 3, 5, 6, 8, 9, 11, 12, 14, 15, 17, 21, 26, 33, 40, 47, 54] (r := .e) (h := ?_)) | (refine zZ.isR (id := 2) ?_; refine zZ.rk [0, 1] [1, 2, 3, 5, 6, 8, 9, 11, 12, 14, 15, 17, 21, 26, 33, 40, 47, 54] ?_; refine zZ.draws ?_) | (refine zZ.isR (id := 3) ?_; refine zZ.sub ((sub_frzE 17 27 1 ((wds nw).set (Int.toNat 10) (.val (.int .u64 5))) rfl)) ?_; refine zZ.rc [0, 1] [1, 2, 3, 5, 6, 8, 9, 11, 12, 14, 15, 17, 21, 26, 33, 40, 47, 54] (r := (.v qV (.v vO .e))) (h := ?_)) | (refine zZ.isR (id := 4) ?_; refine zZ.rc [0, 2, 3, 4] [1, 2, 3, 5, 6, 8, 9, 11, 12, 14, 15, 17, 21, 26, 33, 40, 47, 54] (r := (.v qV (.v vO .e))) (h := ?_)) | (refine zZ.isR (id := 5) ?_; refine zZ.rc [0, 2, 3, 4, 6, 7] [1, 2, 3, 5, 6, 8, 9, 11, 12, 14, 15, 17, 21, 26, 33, 40, 47, 54] (r := (.v qV (.v vO .e))) (h := ?_)) | (refine zZ.isR (id := 6) ?_; refine zZ.rc [0, 2, 3, 4, 6, 7, 9, 10] [1, 2, 3, 5, 6, 8, 9, 11, 12, 14, 15, 17, 21, 26, 33, 40, 47, 54] (r := (.v qV (.v vO .e))) (h := ?_)) | (refine zZ.isR (id := 7) ?_; refine zZ.rc [0, 2, 3, 4, 6, 7, 9, 10, 12, 13] [1, 2, 3, 5, 6, 8, 9, 11, 12, 14, 15, 17, 21, 26, 33, 40, 47, 54] (r := (.v qV (.v vO .e))) (h := ?_)) | (refine zZ.isR (id := 8) ?_; refine zZ.rc [0, 3, 4, 6, 7, 9, 10, 12, 13, 15, 16] [1, 2, 3, 5, 6, 8, 9, 11, 12, 14, 15, 17, 21, 26, 33, 40, 47, 54] (r := (.v zD (.v zD (.gY zD (.v vY (.v zD (.gY zD (.v vY (.v zD (.gY zD (.v vY (.v zD (.gY zD (.v vY (.v zD (.gY yI (.gY yF (.v vY (.v zD (.gY yI (.gY yF (.gY v41_4 (.v vY (.v zD (.gY yI (.gY yF (.gY v41_4 (.v vY (.v zD (.gY yI (.gY yF (.v vY (.v zD (.gY yI (.gY yF (.gY v41_4 (.v vY (.v zD (.gY yI (.gY yF (.gY v52_4 (.v vY (.v zD (.gY yI (.gY yF (.gY v41_4 (.v vY (.v zD (.gY yI (.gY yF (.gY v41_4 (.v vY (.v zD (.gY yI (.gY yF (.gY v52_4 (.v vY (.v zD (.gY yI (.gY yF (.gY v41_4 (.v vY (.v zD (.gY yI (.gY yF (.v vY (.v zR .e))))))))))))))))))))))))))))))))))))))))))))))))))))))))))))))))))) (h := ?_)) | refine zZ.ret ?_) | refine zO.n ?_ | (refine Draws.is ?_; first | refine Draws.rc (.v yI (.v yI (.v v2_8 .e))) ?_ | refine Draws.rc (.v v7_38 .e) ?_ | (refine Draws.in_ [21] rfl ?_; refine Draws.v rfl rfl (zT (c6) rfl rfl rfl (by decide)) ?_) | refine Draws.done (by kernel_rfl) (by kernel_rfl) (by kernel_rfl) ?_) | (refine zI.is ?_; first | refine zI.nil ?_ | refine zI.rc (.w w24_1 .e) ?_))
  all_goals exact ⟨by first | exact .inl rfl | exact .inr rfl, _, Sub.refl _, .p rfl (.tmp rfl)⟩
end Go.Proofs.YteadaggehndacaaDoor
/- The law ListSeeks: a round of its loop. -/
namespace Go.Proofs.YteadaggehndacaaDoor
set_option maxRecDepth 100000
set_option maxHeartbeats 16000000
open Go Go.RowKit
set_option linter.unusedSimpArgs false
set_option linter.unusedVariables false
attribute [local irreducible] zY zZ Step zQ Sub zI zM Fn zO yJ
def bools (l : List Bool) : List PV := l.map fun b => .val (.bool b)
theorem bools_len (l : List Bool) : (bools l).length = l.length := by simp [bools]
theorem bools_one (l : List Bool) : ∀ e ∈ bools l, e.cells.length = 1 := fun e he => by
  obtain ⟨x, _, rfl⟩ := List.mem_map.1 he
  rfl
def skAt (k : Int) (gs : List Int) (bs : List Bool) : Nat → SkS
  | 0 => ⟨memOf (newW 1 10), 0, 0, false⟩
  | i + 1 => skStep k i (gs.getD i 0) (bs.getD i false) (skAt k gs bs i)
def skF (gs : List Int) (bs : List Bool) (k : Int) (i : Nat) (s : SkS) : AS :=
  { t := [(0, .p (.sl (byts gs))), (1, .p (.sl (bools bs))), (2, .p (.val (.int .u16 k))), (7, .p (.val (.bool true))), (8, .p (.val (.int .i64 (gs.length : Nat)))), (9, .ptr 9 0), (10, .p (.val (.int .u64 s.key))), (11, .p (.val (.int .i64 s.want))), (12, .p (.val (.bool s.any))), (13, .p (.val (.int .i64 (i : Nat))))],
    s := [(9, .box 33 ([.p (.val (.int .i64 1)), .p (.val (.int .i64 10)), .own 33] ++ (wH 0 [([], 0)] [([], 0)]).cells.map .p)), (33, vL 27 1 (wds (ofM 89 s.m)))] }
theorem listSeeks_start (gs : List Int) (bs : List Bool) (k : Int) (hn : gs.length ≤ 10) (hb : gs.length ≤ bs.length) (hk : 0 ≤ k ∧ k < 65536) (hg : ∀ x ∈ gs, 0 ≤ x ∧ x < 256) : Fn Tryd.prog 5 [.sl (byts gs), .sl (bools bs), .val (.int .u16 k)] (.p (.val (.bool true))) := by
  have c0 := shown15_fn
  have c1 := new10A_fn 1 10 (by decide) (by decide) (by decide) (by decide)
  have f1 : decide ((10 : Int) < (gs.length : Nat)) = false := decide_eq_false (by omega)
  have f2 : decide (((bools bs).length : Int) < (gs.length : Nat)) = false := decide_eq_false (by rw [bools_len]; omega)
  refine yL Tryd.func5 rfl Tryd.ntmps5 (Nat.le_of_ble_eq_true rfl) ?_
  repeat' (first | (refine zY.is ?_; first | refine zY.nil ?_ | (refine zY.at_ 7 rfl ?_; refine zY.rc (.v zR .e) ?_) | (refine zY.at_ 9 rfl ?_; refine zY.rc (.m yG (.w yB .e)) ?_) | (refine zY.in_ [21] rfl ?_; refine zY.v rfl rfl (zT (c0) rfl rfl rfl (by decide)) ?_) | (refine zY.in_ [33] rfl ?_; refine zY.m rfl rfl (w_callAg c1 rfl rfl rfl (by decide)) ?_)) | (refine zZ.is ?_; first | refine zZ.seq ?_ | (refine zZ.isR (id := 0) ?_; refine zZ.rc [0, 1, 2] [9, 15, 16, 18, 19, 21, 23, 28, 33, 53, 60, 69, 74, 90, 106, 115, 134, 164, 165] (r := (.v zR .e)) (h := ?_)) | (refine zZ.isR (id := 1) ?_; refine zZ.rc [0, 1, 2, 6] [9, 15, 16, 18, 19, 21, 23, 28, 33, 53, 60, 69, 74, 90, 106, 115, 134, 164, 165] (r := .e) (h := ?_)) | (refine zZ.isR (id := 2) ?_; refine zZ.rc [0, 1, 2, 6, 7] [9, 15, 16, 18, 19, 21, 23, 28, 33, 53, 60, 69, 74, 90, 106, 115, 134, 164, 165] (r := (.v zD (.v v57_0 (.v zR .e)))) (h := ?_)) | (refine zZ.isR (id := 3) ?_; refine zZ.rc [0, 1, 2, 6, 7, 8] [9, 15, 16, 18, 19, 21, 23, 28, 33, 53, 60, 69, 74, 90, 106, 115, 134, 164, 165] (r := (.v zD (.v v45_0 (.v zD (.gY zD (.gY v57_1 (.gY zD (.gY v43_0 (.v v5_1 .e))))))))) (h := ?_)) | (refine zZ.isR (id := 5) ?_; refine zZ.rc [0, 1, 2, 6, 7, 8] [9, 15, 16, 18, 19, 21, 23, 28, 33, 53, 60, 69, 74, 90, 106, 115, 134, 164, 165] (r := .e) (h := ?_)) | (refine zZ.isR (id := 6) ?_; refine zZ.rc [0, 1, 2, 6, 7, 8, 9] [9, 15, 16, 18, 19, 21, 23, 28, 33, 53, 60, 69, 74, 90, 106, 115, 134, 164, 165] (r := (.v zR .e)) (h := ?_)) | (refine zZ.isR (id := 7) ?_; refine zZ.rc [0, 1, 2, 6, 7, 8, 9, 10] [9, 15, 16, 18, 19, 21, 23, 28, 33, 53, 60, 69, 74, 90, 106, 115, 134, 164, 165] (r := (.v zR .e)) (h := ?_)) | (refine zZ.isR (id := 8) ?_; refine zZ.rc [0, 1, 2, 6, 7, 8, 9, 10, 11] [9, 15, 16, 18, 19, 21, 23, 28, 33, 53, 60, 69, 74, 90, 106, 115, 134, 164, 165] (r := (.v zR .e)) (h := ?_)) | (refine zZ.isR (id := 9) ?_; refine zZ.rc [0, 1, 2, 6, 7, 8, 9, 10, 11, 12] [9, 15, 16, 18, 19, 21, 23, 28, 33, 53, 60, 69, 74, 90, 106, 115, 134, 164, 165] (r := (.v zR .e)) (h := ?_)) | refine zZ.yP rfl bA ?_ | refine zZ.skip ?_ | refine zZ.block ?_) | refine zO.n ?_)
  refine zZ.loop (fun i => skF gs bs k i (skAt k gs bs i)) (fun i => i ≤ gs.length ∧ SkOK k (bs.take i) (skAt k gs bs i)) (fun i => gs.length - i) 0 ?h0 ?i0 ?rd
  case i0 => exact ⟨Nat.zero_le _, skOK0 k⟩
  case h0 =>
    have e1 : wds (ofM 89 (memOf (newW 1 10))) = wds (newW 1 10) := congrArg wds (by have := ofM_mem (newW 1 10); rwa [newW_len] at this)
    show Sub _ (skF gs bs k 0 ⟨memOf (newW 1 10), 0, 0, false⟩)
    unfold skF
    dsimp only
    rw [e1]
    exact yM K_20 K_21
  case rd =>
    rintro i ⟨hi, hs⟩
    by_cases hlt : i < gs.length
    case neg =>
      have f3 : decide ((i : Int) < (gs.length : Nat)) = false := decide_eq_false (by omega)
      show zZ _ _ _ (skF gs bs k i (skAt k gs bs i)) _
      generalize skAt k gs bs i = s at *
      generalize bs.take i = b0 at *
      have hkU : U k := ⟨hk.1, by omega⟩
      have cA := seek_al hs hkU
      obtain ⟨W', cB⟩ := search_al hs hkU
      have hq := sekN_is (fun r => s.m (zL 1 r 1)) k (skL 0 b0) hs.l.pos
      have hsw := hs.w
      have hlen := hs.len
      have hsr : s.any = false → (srch (fun r => s.m (zL 1 r 1)) k 0 (skL 0 b0)).x = (vW (fun r => s.m (zL 1 r 1)) k (skL 0 b0)).1 ∧ (srch (fun r => s.m (zL 1 r 1)) k 0 (skL 0 b0)).is = (vW (fun r => s.m (zL 1 r 1)) k (skL 0 b0)).2 := fun ha => srch_sekN _ _ _ _ (skL_any b0 0 fun b hb => by
        have h2 : b0.any id = false := hs.a.symm.trans ha
        have := List.any_eq_false.1 h2 b hb
        simpa using this)
      have cS := worldSame_fn (skWd s.m) (by show (ofM 89 s.m).length ≤ _; rw [wS]; decide) (by show 1 ≤ 1000000; decide) (by show 1 ≤ 1000000; decide)
      have hqr : (vW (fun r => s.m (zL 1 r 1)) k (skL 0 b0)).1 ≤ 10 := by
        rcases hq.2.2 with h | h
        · rw [h]; decide
        · have := (skL_nms b0 0 _).1 h; omega
      obtain ⟨m, key, want, any⟩ := s
      dsimp only at hsw hsr hq hqr cA cB cS
      clear hs
      generalize vW (fun r => m (zL 1 r 1)) k (skL 0 b0) = q at *
      generalize srch (fun r => m (zL 1 r 1)) k 0 (skL 0 b0) = fq at *
      obtain ⟨q1, isq⟩ := q
      obtain ⟨fp, fx, fis, fok⟩ := fq
      obtain ⟨t', c', ws', root', r0', r1'⟩ := W'
      dsimp only at hsw hsr hq hqr cA cB
      subst hsw
      obtain ⟨hq0, hqi, -⟩ := hq
      obtain ⟨pn, hpn⟩ : ∃ pn : Nat, zL 1 (max want 1) 1 = (pn : Int) := ⟨(zL 1 (max want 1) 1).toNat, by rw [xV]; omega⟩
      have hpl : pn < 89 := by have := hpn; rw [xV] at this; omega
      have c6 := qB 1 (max want 1) 1 (by unfold Small; omega) (by omega) (by unfold Small; omega)
      rw [hpn] at c6
      dsimp only [Wd.pv, wK, skWd] at cA cB cS
      have v1 := vZ (ofM 89 m)
      have v2 : (wds (ofM 89 m))[pn]? = some (.val (.int .u64 (m (pn : Int)))) := wds_at (ofM_at _ _ hpl)
      have v3 : decide (want = want) = true := decide_eq_true rfl
      have v4 : (!decide (want = want)) = false := by rw [v3]; rfl
      have v5 : (isq == isq) = true := by simp
      generalize hR : wds (ofM 89 m) = R at *
      by_cases hw0 : 0 < want
      case pos =>
        have hm1 : max want 1 = want := by omega
        have g1 : decide (0 < want) = true := decide_eq_true hw0
        have g2 : decide (m (pn : Int) = k) = isq := by
          rw [hqi, g1, Bool.true_and]
          rw [← hpn, hm1]
        cases any
        case false =>
          obtain ⟨rfl, rfl⟩ := hsr rfl
          unfold skF
          rw [hR]
          repeat' (first | (refine zY.is ?_; first | refine zY.nil ?_ | (refine zY.at_ 101 rfl ?_; refine zY.rc (.v v0_4 (.v yT (.v yT (.v yT (.m yG (.m yG (.w yB (.w yB (.v zR .e))))))))) ?_) | (refine zY.at_ 110 rfl ?_; refine zY.rc (.v v0_4 (.v yT (.v yT (.v yT (.m yG (.m yG (.w yB (.w yB (.v zR .e))))))))) ?_) | (refine zY.at_ 135 rfl ?_; refine zY.rc (.gY v52_5 (.v v5_1 .e)) ?_) | (refine zY.in_ [106] rfl ?_; refine zY.v rfl rfl (yO (cA) rfl rfl rfl (by decide)) ?_) | (refine zY.in_ [115] rfl ?_; refine zY.v rfl rfl (yO (cB) rfl rfl rfl (by decide)) ?_) | (refine zY.in_ [134] rfl ?_; refine zY.gY rfl rfl (by decide) rfl bA rfl (by decide) (zT (cS) rfl rfl rfl (by decide)) ?_)) | (refine zZ.is ?_; first | refine zZ.seq ?_ | (refine zZ.isR (id := 10) ?_; refine zZ.rc [0, 1, 2, 6, 7, 8, 9, 10, 11, 12, 13, 14, 36, 85, 99] [9, 15, 16, 18, 19, 21, 23, 28, 33, 53, 60, 69, 74, 90, 106, 115, 134, 164, 165] (r := (.v zD (.v zD (.v v43_0 .e)))) (h := ?_)) | (refine zZ.isR (id := 22) ?_; refine zZ.sub ((sub_frzE 33 27 1 R rfl)) ?_; refine zZ.rc [2, 6, 7, 9, 11, 12] [9, 15, 16, 18, 19, 21, 23, 28, 33, 53, 60, 69, 74, 90, 106, 115, 134, 164, 165] (r := (.v qV (.v zD (.v v6_5 (.v vO .e))))) (h := ?_)) | (refine zZ.isR (id := 23) ?_; refine zZ.rc [2, 6, 7, 9, 11, 12, 15, 16, 17] [9, 15, 16, 18, 19, 21, 23, 28, 33, 53, 60, 69, 74, 90, 106, 115, 134, 164, 165] (r := (.v qV (.v zD (.v v6_5 (.v vO .e))))) (h := ?_)) | (refine zZ.isR (id := 24) ?_; refine zZ.rc [2, 6, 7, 9, 11, 12, 15, 16, 17, 19, 20] [9, 15, 16, 18, 19, 21, 23, 28, 33, 53, 60, 69, 74, 90, 106, 115, 134, 164, 165] (r := (.v zD (.v v52_5 (.v zD (.gY zD (.gY v52_5 (.v v5_1 (.v zD (.gY yI (.gY yF (.gY zD (.gY v42_0 (.v v5_1 (.v zD (.gY qV (.gY qV .e)))))))))))))))) (h := ?_)) | (refine zZ.isR (id := 26) ?_; refine zZ.rk [2, 6, 7, 9, 11, 12, 16, 19] [9, 15, 16, 18, 19, 21, 23, 28, 33, 53, 60, 69, 74, 90, 106, 115, 134, 164, 165] ?_; refine zZ.draws ?_) | refine zZ.yP rfl bA ?_ | refine zZ.skip ?_ | refine zZ.exit ?_ | refine zZ.ret ?_) | refine zO.n ?_ | refine yJ.eY ?_ | refine zO.e ?_ | (refine Draws.is ?_; first | refine Draws.rc (.v zD (.v zD (.gY zD (.gY zD (.gY yI (.gY yF (.gY zD (.gY v41_0 (.gY zD (.gY yI (.gY yF (.gY yI (.gY yF (.gY v41_9 (.gY vY (.gY v5_1 (.v vY (.v zD (.gY yI (.gY yF (.gY zD (.gY v45_0 (.gY zD (.gY yI (.gY yI (.gY yF (.gY zD .e))))))))))))))))))))))))))) ?_ | refine Draws.rc (.gY v7_18 (.gY v2_1 (.gY zD (.gY v6_5 (.gY v41_0 (.gY vY (.gY v41_9 (.v vY (.v zR .e))))))))) ?_ | (refine Draws.in_ [165] rfl ?_; refine Draws.gY rfl rfl (by decide) rfl bA rfl (zT (c6) rfl rfl rfl (by decide)) ?_) | (refine Draws.in_ [164] rfl ?_; refine Draws.gY rfl rfl (by decide) rfl bA rfl (w_max2 rfl rfl rfl rfl (by decide)) ?_) | refine Draws.done (by kernel_rfl) (by kernel_rfl) (by kernel_rfl) ?_) | (refine zI.nil ?_))
          all_goals exact ⟨by first | exact .inl rfl | exact .inr rfl, _, Sub.refl _, .p rfl (.tmp rfl)⟩
        case true =>
          unfold skF
          rw [hR]
          repeat' (first | (refine zY.is ?_; first | refine zY.nil ?_ | (refine zY.at_ 101 rfl ?_; refine zY.rc (.v v0_4 (.v yT (.v yT (.v yT (.m yG (.m yG (.w yB (.w yB (.v zR .e))))))))) ?_) | (refine zY.at_ 110 rfl ?_; refine zY.rc (.v v0_4 (.v yT (.v yT (.v yT (.m yG (.m yG (.w yB (.w yB (.v zR .e))))))))) ?_) | (refine zY.at_ 135 rfl ?_; refine zY.rc (.gY v52_5 (.v v5_1 .e)) ?_) | (refine zY.in_ [106] rfl ?_; refine zY.v rfl rfl (yO (cA) rfl rfl rfl (by decide)) ?_) | (refine zY.in_ [115] rfl ?_; refine zY.v rfl rfl (yO (cB) rfl rfl rfl (by decide)) ?_) | (refine zY.in_ [134] rfl ?_; refine zY.gY rfl rfl (by decide) rfl bA rfl (by decide) (zT (cS) rfl rfl rfl (by decide)) ?_)) | (refine zZ.is ?_; first | refine zZ.seq ?_ | (refine zZ.isR (id := 10) ?_; refine zZ.rc [0, 1, 2, 6, 7, 8, 9, 10, 11, 12, 13, 14, 36, 85, 99] [9, 15, 16, 18, 19, 21, 23, 28, 33, 53, 60, 69, 74, 90, 106, 115, 134, 164, 165] (r := (.v zD (.v zD (.v v43_0 .e)))) (h := ?_)) | (refine zZ.isR (id := 22) ?_; refine zZ.sub ((sub_frzE 33 27 1 R rfl)) ?_; refine zZ.rc [2, 6, 7, 9, 11, 12] [9, 15, 16, 18, 19, 21, 23, 28, 33, 53, 60, 69, 74, 90, 106, 115, 134, 164, 165] (r := (.v qV (.v zD (.v v6_5 (.v vO .e))))) (h := ?_)) | (refine zZ.isR (id := 23) ?_; refine zZ.rc [2, 6, 7, 9, 11, 12, 15, 16, 17] [9, 15, 16, 18, 19, 21, 23, 28, 33, 53, 60, 69, 74, 90, 106, 115, 134, 164, 165] (r := (.v qV (.v zD (.v v6_5 (.v vO .e))))) (h := ?_)) | (refine zZ.isR (id := 24) ?_; refine zZ.rc [2, 6, 7, 9, 11, 12, 15, 16, 17, 19, 20] [9, 15, 16, 18, 19, 21, 23, 28, 33, 53, 60, 69, 74, 90, 106, 115, 134, 164, 165] (r := (.v zD (.v v52_5 (.v zD (.gY zD (.gY v52_5 (.v v5_1 (.v zD (.gY yI (.gY yF (.gY zD (.gY v42_0 (.v v5_1 (.v zD (.gY qV (.gY qV .e)))))))))))))))) (h := ?_)) | (refine zZ.isR (id := 26) ?_; refine zZ.rk [2, 6, 7, 9, 11, 12, 16, 19] [9, 15, 16, 18, 19, 21, 23, 28, 33, 53, 60, 69, 74, 90, 106, 115, 134, 164, 165] ?_; refine zZ.draws ?_) | refine zZ.yP rfl bA ?_ | refine zZ.skip ?_ | refine zZ.exit ?_ | refine zZ.ret ?_) | refine zO.n ?_ | refine yJ.eY ?_ | refine zO.e ?_ | (refine Draws.is ?_; first | refine Draws.rc (.v zD (.v zD (.gY zD (.gY zD (.gF (.gF (.gF (.gF (.gF (.gU (.gU (.gU (.gU (.gU (.gF (.gY vY (.v vY (.v zD (.gY yI (.gY yF (.gY zD (.gY v45_0 (.gY zD (.gY yI (.gY yI (.gY yF (.gY zD .e))))))))))))))))))))))))))) ?_ | refine Draws.rc (.gY v7_18 (.gY v2_1 (.gY zD (.gY v6_5 (.gY v41_0 (.gY vY (.gY v41_9 (.v vY (.v zR .e))))))))) ?_ | (refine Draws.in_ [165] rfl ?_; refine Draws.gY rfl rfl (by decide) rfl bA rfl (zT (c6) rfl rfl rfl (by decide)) ?_) | (refine Draws.in_ [164] rfl ?_; refine Draws.gY rfl rfl (by decide) rfl bA rfl (w_max2 rfl rfl rfl rfl (by decide)) ?_) | refine Draws.done (by kernel_rfl) (by kernel_rfl) (by kernel_rfl) ?_) | (refine zI.nil ?_))
          all_goals exact ⟨by first | exact .inl rfl | exact .inr rfl, _, Sub.refl _, .p rfl (.tmp rfl)⟩
      case neg =>
        have g1 : decide (0 < want) = false := decide_eq_false hw0
        have g2 : isq = false := by rw [hqi, g1]; rfl
        subst g2
        cases any
        case false =>
          obtain ⟨rfl, rfl⟩ := hsr rfl
          unfold skF
          rw [hR]
          repeat' (first | (refine zY.is ?_; first | refine zY.nil ?_ | (refine zY.at_ 101 rfl ?_; refine zY.rc (.v v0_4 (.v yT (.v yT (.v yT (.m yG (.m yG (.w yB (.w yB (.v zR .e))))))))) ?_) | (refine zY.at_ 110 rfl ?_; refine zY.rc (.v v0_4 (.v yT (.v yT (.v yT (.m yG (.m yG (.w yB (.w yB (.v zR .e))))))))) ?_) | (refine zY.at_ 135 rfl ?_; refine zY.rc (.gY v52_5 (.v v5_1 .e)) ?_) | (refine zY.in_ [106] rfl ?_; refine zY.v rfl rfl (yO (cA) rfl rfl rfl (by decide)) ?_) | (refine zY.in_ [115] rfl ?_; refine zY.v rfl rfl (yO (cB) rfl rfl rfl (by decide)) ?_) | (refine zY.in_ [134] rfl ?_; refine zY.gY rfl rfl (by decide) rfl bA rfl (by decide) (zT (cS) rfl rfl rfl (by decide)) ?_)) | (refine zZ.is ?_; first | refine zZ.seq ?_ | (refine zZ.isR (id := 10) ?_; refine zZ.rc [0, 1, 2, 6, 7, 8, 9, 10, 11, 12, 13, 14, 36, 85, 99] [9, 15, 16, 18, 19, 21, 23, 28, 33, 53, 60, 69, 74, 90, 106, 115, 134, 164, 165] (r := (.v zD (.v zD (.v v43_0 .e)))) (h := ?_)) | (refine zZ.isR (id := 22) ?_; refine zZ.sub ((sub_frzE 33 27 1 R rfl)) ?_; refine zZ.rc [2, 6, 7, 9, 11, 12] [9, 15, 16, 18, 19, 21, 23, 28, 33, 53, 60, 69, 74, 90, 106, 115, 134, 164, 165] (r := (.v qV (.v zD (.v v6_5 (.v vO .e))))) (h := ?_)) | (refine zZ.isR (id := 23) ?_; refine zZ.rc [2, 6, 7, 9, 11, 12, 15, 16, 17] [9, 15, 16, 18, 19, 21, 23, 28, 33, 53, 60, 69, 74, 90, 106, 115, 134, 164, 165] (r := (.v qV (.v zD (.v v6_5 (.v vO .e))))) (h := ?_)) | (refine zZ.isR (id := 24) ?_; refine zZ.rc [2, 6, 7, 9, 11, 12, 15, 16, 17, 19, 20] [9, 15, 16, 18, 19, 21, 23, 28, 33, 53, 60, 69, 74, 90, 106, 115, 134, 164, 165] (r := (.v zD (.v v52_5 (.v zD (.gY zD (.gY v52_5 (.v v5_1 (.v zD (.gY yI (.gY yF (.gY zD (.gY v42_0 (.v v5_1 (.v zD (.gY qV (.gY qV .e)))))))))))))))) (h := ?_)) | (refine zZ.isR (id := 26) ?_; refine zZ.rk [2, 6, 7, 9, 11, 12, 16, 19] [9, 15, 16, 18, 19, 21, 23, 28, 33, 53, 60, 69, 74, 90, 106, 115, 134, 164, 165] ?_; refine zZ.draws ?_) | refine zZ.yP rfl bA ?_ | refine zZ.skip ?_ | refine zZ.exit ?_ | refine zZ.ret ?_) | refine zO.n ?_ | refine yJ.eY ?_ | refine zO.e ?_ | (refine Draws.is ?_; first | refine Draws.rc (.v zD (.v zD (.gY zD (.gY zD (.gY yI (.gY yF (.gY zD (.gY v41_0 (.gY zD (.gY yI (.gY yF (.gY yI (.gY yF (.gY v41_9 (.gY vY (.gY v5_1 (.v vY (.v zD (.gY yI (.gY yF (.gY zD (.gY v45_0 (.gY zD (.gT (.gT (.gT (.gT (.gT (.gT (.gT (.gT (.gT (.gT (.gT (.gY v5_1 (.gY v41_9 (.v vY (.v zR .e)))))))))))))))))))))))))))))))))))))) ?_ | refine Draws.done (by kernel_rfl) (by kernel_rfl) (by kernel_rfl) ?_) | (refine zI.nil ?_))
          all_goals exact ⟨by first | exact .inl rfl | exact .inr rfl, _, Sub.refl _, .p rfl (.tmp rfl)⟩
        case true =>
          unfold skF
          rw [hR]
          repeat' (first | (refine zY.is ?_; first | refine zY.nil ?_ | (refine zY.at_ 101 rfl ?_; refine zY.rc (.v v0_4 (.v yT (.v yT (.v yT (.m yG (.m yG (.w yB (.w yB (.v zR .e))))))))) ?_) | (refine zY.at_ 110 rfl ?_; refine zY.rc (.v v0_4 (.v yT (.v yT (.v yT (.m yG (.m yG (.w yB (.w yB (.v zR .e))))))))) ?_) | (refine zY.at_ 135 rfl ?_; refine zY.rc (.gY v52_5 (.v v5_1 .e)) ?_) | (refine zY.in_ [106] rfl ?_; refine zY.v rfl rfl (yO (cA) rfl rfl rfl (by decide)) ?_) | (refine zY.in_ [115] rfl ?_; refine zY.v rfl rfl (yO (cB) rfl rfl rfl (by decide)) ?_) | (refine zY.in_ [134] rfl ?_; refine zY.gY rfl rfl (by decide) rfl bA rfl (by decide) (zT (cS) rfl rfl rfl (by decide)) ?_)) | (refine zZ.is ?_; first | refine zZ.seq ?_ | (refine zZ.isR (id := 10) ?_; refine zZ.rc [0, 1, 2, 6, 7, 8, 9, 10, 11, 12, 13, 14, 36, 85, 99] [9, 15, 16, 18, 19, 21, 23, 28, 33, 53, 60, 69, 74, 90, 106, 115, 134, 164, 165] (r := (.v zD (.v zD (.v v43_0 .e)))) (h := ?_)) | (refine zZ.isR (id := 22) ?_; refine zZ.sub ((sub_frzE 33 27 1 R rfl)) ?_; refine zZ.rc [2, 6, 7, 9, 11, 12] [9, 15, 16, 18, 19, 21, 23, 28, 33, 53, 60, 69, 74, 90, 106, 115, 134, 164, 165] (r := (.v qV (.v zD (.v v6_5 (.v vO .e))))) (h := ?_)) | (refine zZ.isR (id := 23) ?_; refine zZ.rc [2, 6, 7, 9, 11, 12, 15, 16, 17] [9, 15, 16, 18, 19, 21, 23, 28, 33, 53, 60, 69, 74, 90, 106, 115, 134, 164, 165] (r := (.v qV (.v zD (.v v6_5 (.v vO .e))))) (h := ?_)) | (refine zZ.isR (id := 24) ?_; refine zZ.rc [2, 6, 7, 9, 11, 12, 15, 16, 17, 19, 20] [9, 15, 16, 18, 19, 21, 23, 28, 33, 53, 60, 69, 74, 90, 106, 115, 134, 164, 165] (r := (.v zD (.v v52_5 (.v zD (.gY zD (.gY v52_5 (.v v5_1 (.v zD (.gY yI (.gY yF (.gY zD (.gY v42_0 (.v v5_1 (.v zD (.gY qV (.gY qV .e)))))))))))))))) (h := ?_)) | (refine zZ.isR (id := 26) ?_; refine zZ.rk [2, 6, 7, 9, 11, 12, 16, 19] [9, 15, 16, 18, 19, 21, 23, 28, 33, 53, 60, 69, 74, 90, 106, 115, 134, 164, 165] ?_; refine zZ.draws ?_) | refine zZ.yP rfl bA ?_ | refine zZ.skip ?_ | refine zZ.exit ?_ | refine zZ.ret ?_) | refine zO.n ?_ | refine yJ.eY ?_ | refine zO.e ?_ | (refine Draws.is ?_; first | refine Draws.rc (.v zD (.v zD (.gY zD (.gY zD (.gF (.gF (.gF (.gF (.gF (.gU (.gU (.gU (.gU (.gU (.gF (.gY vY (.v vY (.v zD (.gY yI (.gY yF (.gY zD (.gY v45_0 (.gY zD (.gT (.gT (.gT (.gT (.gT (.gT (.gT (.gT (.gT (.gT (.gT (.gY v5_1 (.gY v41_9 (.v vY (.v zR .e)))))))))))))))))))))))))))))))))))))) ?_ | refine Draws.done (by kernel_rfl) (by kernel_rfl) (by kernel_rfl) ?_) | (refine zI.nil ?_))
          all_goals exact ⟨by first | exact .inl rfl | exact .inr rfl, _, Sub.refl _, .p rfl (.tmp rfl)⟩
    case pos =>
      have hgi : gs.getD i 0 = gs[i]'hlt := by simp [List.getD, hlt]
      have hbi : bs.getD i false = bs[i]'(by omega) := by simp [List.getD, show i < bs.length by omega]
      have hg1 := hg _ (List.getElem_mem hlt)
      have htl : (bs.take i).length = i := by rw [List.length_take]; omega
      have hst := skStep_ok hs (g := gs.getD i 0) (by rw [hgi]; omega) (bs.getD i false) (by rw [htl]; omega)
      have hnx := Lnk.lastw hs.l
      have hz : lastN 0 (skL 0 (bs.take i)) = (i : Int) := by have := skL_last (bs.take i) 0; rw [Nat.zero_add, htl] at this; exact this
      rw [hz] at hnx
      have hk0 := hs.k0
      have hk1 := hs.k1
      rw [htl] at hst hk1
      have htk : bs.take (i + 1) = bs.take i ++ [bs.getD i false] := by rw [List.take_add_one, hbi, List.getElem?_eq_getElem (by omega)]; rfl
      rw [← htk] at hst
      show zZ _ _ _ (skF gs bs k i (skAt k gs bs i)) _
      generalize hsk : skAt k gs bs i = s at *
      generalize hgg : gs.getD i 0 = g at *
      generalize hbb : bs.getD i false = b at *
      obtain ⟨m, key, want, any⟩ := s
      dsimp only at hk0 hk1 hnx
      have f3 : decide ((i : Int) < (gs.length : Nat)) = true := decide_eq_true (by omega)
      have w1 : IntKind.i64.wrap ((i : Int) + 1) = (i : Int) + 1 := wrap_i64 _ (by omega)
      have w2 : IntKind.u64.wrap (key + 1) = key + 1 := wrap_u64 _ (by omega)
      have w3 : IntKind.u64.wrap g = g := wrap_u64 _ (by omega)
      have w4 : IntKind.u64.wrap (key + 1 + g) = key + 1 + g := wrap_u64 _ (by omega)
      have w5 : IntKind.i64.wrap (4 * ((i : Int) + 1)) = 4 * ((i : Int) + 1) := wrap_i64 _ (by omega)
      have w6 : IntKind.u64.wrap (4 * ((i : Int) + 1)) = 4 * ((i : Int) + 1) := wrap_u64 _ (by omega)
      have w7 : IntKind.i64.wrap (2 * ((i : Int) + 1)) = 2 * ((i : Int) + 1) := wrap_i64 _ (by omega)
      have w8 : IntKind.u64.wrap (2 * ((i : Int) + 1)) = 2 * ((i : Int) + 1) := wrap_u64 _ (by omega)
      have i1 : (0 : Int) ≤ (i : Int) ∧ (i : Int) < (byts gs).length := by rw [qG]; omega
      have i2 : (byts gs)[(i : Int).toNat]? = some (.val (.int .u8 g)) := by rw [Int.toNat_natCast, hgi]; simp [byts, hlt]
      have i3 := byts_one gs
      have i4 : (0 : Int) ≤ (i : Int) ∧ (i : Int) < (bools bs).length := by rw [bools_len]; omega
      have i5 : (bools bs)[i]? = some (.val (.bool b)) := by rw [hbi]; simp [bools, show i < bs.length by omega]
      have i6 := bools_one bs
      have hsm : Small 1 := by unfold Small; omega
      have c2 := qB 1 ((i : Int) + 1) 1 hsm (by omega) (by unfold Small; omega)
      have c3 := qB 1 ((i : Int) + 1) 2 hsm (by omega) (by unfold Small; omega)
      have c4 := cnextRef_fn 1 (i : Int) hsm (by omega)
      have c5 := cnextRef_fn 1 ((i : Int) + 1) hsm (by omega)
      have a1 : 0 ≤ zL 1 ((i : Int) + 1) 1 ∧ zL 1 ((i : Int) + 1) 1 < 89 := by rw [xV]; omega
      have a2 : 0 ≤ zL 1 ((i : Int) + 1) 2 ∧ zL 1 ((i : Int) + 1) 2 < 89 := by rw [xV]; omega
      have a3 : 0 ≤ yV 1 (i : Int) ∧ yV 1 (i : Int) < 89 := by rw [wT]; split <;> omega
      have a4 : 0 ≤ yV 1 ((i : Int) + 1) ∧ yV 1 ((i : Int) + 1) < 89 := by rw [wT]; split <;> omega
      have e1 := ofM_set 89 m a1.1 (show zL 1 ((i : Int) + 1) 1 < (89 : Nat) from a1.2) (key + 1 + g)
      have e2 := ofM_set 89 (vX m (zL 1 ((i : Int) + 1) 1) (key + 1 + g)) a2.1 (show zL 1 ((i : Int) + 1) 2 < (89 : Nat) from a2.2) (4 * ((i : Int) + 1))
      have hm2 : skM i (key + 1 + g) m (yV 1 i) = m (yV 1 i) := by
        unfold skM
        rw [zU _ _ (nf_ne _ _ 2 (by omega) (by omega) (by decide)), zU _ _ (nf_ne _ _ 1 (by omega) (by omega) (by decide))]
      have e3 := ofM_set 89 (skM i (key + 1 + g) m) a3.1 (show yV 1 (i : Int) < (89 : Nat) from a3.2) (m (yV 1 i) + 2 * ((i : Int) + 1))
      have e4 := ofM_set 89 (skN i (skM i (key + 1 + g) m)) a4.1 (show yV 1 ((i : Int) + 1) < (89 : Nat) from a4.2) 1
      have w9 : IntKind.u64.wrap (m (yV 1 i) + 2 * ((i : Int) + 1)) = m (yV 1 i) + 2 * ((i : Int) + 1) := wrap_u64 _ (by omega)
      generalize hc1 : zL 1 ((i : Int) + 1) 1 = p1 at *
      generalize hc2 : zL 1 ((i : Int) + 1) 2 = p2 at *
      generalize hc3 : yV 1 (i : Int) = p3 at *
      generalize hc4 : yV 1 ((i : Int) + 1) = p4 at *
      have r1 : (0 : Int) ≤ p1 ∧ p1 < (wds (ofM 89 m)).length := by rw [xM, wS]; exact a1
      have r1' : p1.toNat < (wds (ofM 89 m)).length := by rw [xM, wS]; omega
      have r2 : (0 : Int) ≤ p2 ∧ p2 < ((wds (ofM 89 m)).set p1.toNat (.val (.int .u64 (key + 1 + g)))).length := by rw [List.length_set, xM, wS]; exact a2
      have r2' : p2.toNat < ((wds (ofM 89 m)).set p1.toNat (.val (.int .u64 (key + 1 + g)))).length := by rw [List.length_set, xM, wS]; omega
      have k0 := vZ (ofM 89 m)
      have k1 : ∀ e ∈ ((wds (ofM 89 m)).set p1.toNat (.val (.int .u64 (key + 1 + g)))), e.cells.length = 1 := by rw [vG]; exact vZ _
      have R2e : ((wds (ofM 89 m)).set p1.toNat (.val (.int .u64 (key + 1 + g)))).set p2.toNat (.val (.int .u64 (4 * ((i : Int) + 1)))) = wds (ofM 89 (skM i (key + 1 + g) m)) := by rw [vG, e1, vG, e2]; unfold skM; rw [hc1, hc2]
      have r3 : (0 : Int) ≤ p3 ∧ p3 < (((wds (ofM 89 m)).set p1.toNat (.val (.int .u64 (key + 1 + g)))).set p2.toNat (.val (.int .u64 (4 * ((i : Int) + 1))))).length := by rw [R2e, xM, wS]; exact a3
      have r3' : p3.toNat < (((wds (ofM 89 m)).set p1.toNat (.val (.int .u64 (key + 1 + g)))).set p2.toNat (.val (.int .u64 (4 * ((i : Int) + 1))))).length := by rw [R2e, xM, wS]; omega
      have r3g : (((wds (ofM 89 m)).set p1.toNat (.val (.int .u64 (key + 1 + g)))).set p2.toNat (.val (.int .u64 (4 * ((i : Int) + 1)))))[p3.toNat * 1]? = some (.val (.int .u64 (m p3))) := by
        rw [R2e, Nat.mul_one]
        refine wds_at ?_
        rw [ofM_at _ _ (by omega), show ((p3.toNat : Nat) : Int) = p3 by omega, hm2]
      have k2 : ∀ e ∈ (((wds (ofM 89 m)).set p1.toNat (.val (.int .u64 (key + 1 + g)))).set p2.toNat (.val (.int .u64 (4 * ((i : Int) + 1))))), e.cells.length = 1 := by rw [R2e]; exact vZ _
      have k2' : ∀ e ∈ (((wds (ofM 89 m)).set p1.toNat (.val (.int .u64 (key + 1 + g)))).set p2.toNat (.val (.int .u64 (4 * ((i : Int) + 1))))), e.cells = [e] := by
        rw [R2e]
        intro e he
        obtain ⟨x, _, rfl⟩ := List.mem_map.1 he
        rfl
      have k3 : ∀ e ∈ ((((wds (ofM 89 m)).set p1.toNat (.val (.int .u64 (key + 1 + g)))).set p2.toNat (.val (.int .u64 (4 * ((i : Int) + 1))))).set p3.toNat (.val (.int .u64 (m p3 + 2 * ((i : Int) + 1))))), e.cells.length = 1 := by rw [R2e, vG]; exact vZ _
      have r4 : (0 : Int) ≤ p4 ∧ p4 < ((((wds (ofM 89 m)).set p1.toNat (.val (.int .u64 (key + 1 + g)))).set p2.toNat (.val (.int .u64 (4 * ((i : Int) + 1))))).set p3.toNat (.val (.int .u64 (m p3 + 2 * ((i : Int) + 1))))).length := by rw [List.length_set, R2e, xM, wS]; exact a4
      have r4' : p4.toNat < ((((wds (ofM 89 m)).set p1.toNat (.val (.int .u64 (key + 1 + g)))).set p2.toNat (.val (.int .u64 (4 * ((i : Int) + 1))))).set p3.toNat (.val (.int .u64 (m p3 + 2 * ((i : Int) + 1))))).length := by rw [List.length_set, R2e, xM, wS]; omega
      have R3e : (((((wds (ofM 89 m)).set p1.toNat (.val (.int .u64 (key + 1 + g)))).set p2.toNat (.val (.int .u64 (4 * ((i : Int) + 1))))).set p3.toNat (.val (.int .u64 (m p3 + 2 * ((i : Int) + 1)))))) = wds (ofM 89 (skN i (skM i (key + 1 + g) m))) := by rw [R2e, vG, e3]; unfold skN; rw [hc3, hm2]
      have R4e : ((((((wds (ofM 89 m)).set p1.toNat (.val (.int .u64 (key + 1 + g)))).set p2.toNat (.val (.int .u64 (4 * ((i : Int) + 1))))).set p3.toNat (.val (.int .u64 (m p3 + 2 * ((i : Int) + 1)))))).set p4.toNat (.val (.int .u64 1))) = wds (ofM 89 (vX (skN i (skM i (key + 1 + g) m)) p4 1)) := by rw [R3e, vG, e4]
      have hnx2 : skAt k gs bs (i + 1) = skStep k i g b ⟨m, key, want, any⟩ := by
        show skStep k i (gs.getD i 0) (bs.getD i false) (skAt k gs bs i) = _
        rw [hgg, hbb, hsk]
      have hgg' : gs.getD (i : Int).toNat 0 = g := hgg
      clear hgg hgi hbb hbi
      subst hgg'
      unfold skF
      dsimp only
      repeat' (first | (refine zY.is ?_; first | refine zY.nil ?_ | (refine zY.at_ 95 rfl ?_; refine zY.rc (.gY zD (.gY zD (.gY v6_5 (.gY v46_8 (.v vY .e))))) ?_) | (refine zY.at_ 95 rfl ?_; refine zY.rc (.gT (.gT (.gT (.gT (.v v5_1 .e))))) ?_) | (fail_if_success refine zY.known rfl rfl rfl (by fail) ?_); refine zY.split rfl rfl rfl (fun h => ?_) (fun h => ?_)) | (refine zZ.is ?_; first | refine zZ.seq ?_ | (refine zZ.isR (id := 10) ?_; refine zZ.rc [0, 1, 2, 6, 7, 8, 9, 10, 11, 12, 13, 14, 36, 85, 99] [9, 15, 16, 18, 19, 21, 23, 28, 33, 53, 60, 69, 74, 90, 106, 115, 134, 164, 165] (r := (.v zD (.v zD (.v v43_0 .e)))) (h := ?_)) | (refine zZ.isR (id := 12) ?_; refine zZ.rc [0, 1, 2, 6, 7, 8, 9, 10, 11, 12, 13, 14, 36, 85, 99] [9, 15, 16, 18, 19, 21, 23, 28, 33, 53, 60, 69, 74, 90, 106, 115, 134, 164, 165] (r := (.v zD (.v v30_0 (.v zR .e)))) (h := ?_)) | (refine zZ.isR (id := 13) ?_; refine zZ.rc [0, 1, 2, 6, 7, 8, 9, 10, 11, 12, 13, 14, 36, 85, 99] [9, 15, 16, 18, 19, 21, 23, 28, 33, 53, 60, 69, 74, 90, 106, 115, 134, 164, 165] (r := (.v zD (.v v30_0 (.v zD (.v zD (.v v7_4 (.v v2_1 (.v v6_0 (.v v30_0 (.v zR .e)))))))))) (h := ?_)) | (refine zZ.isR (id := 14) ?_; refine zZ.rk [0, 1, 2, 6, 7, 8, 9, 10, 11, 12, 13, 14, 36, 85, 99] [9, 15, 16, 18, 19, 21, 23, 28, 33, 53, 60, 69, 74, 90, 106, 115, 134, 164, 165] ?_; refine zZ.draws ?_) | (refine zZ.isR (id := 15) ?_; refine zZ.rk [0, 1, 2, 6, 7, 8, 9, 10, 11, 12, 13, 14, 36, 85, 99] [9, 15, 16, 18, 19, 21, 23, 28, 33, 53, 60, 69, 74, 90, 106, 115, 134, 164, 165] ?_; refine zZ.draws ?_) | (refine zZ.isR (id := 16) ?_; refine zZ.rk [0, 1, 2, 6, 7, 8, 9, 10, 11, 12, 13, 14, 36, 85, 99] [9, 15, 16, 18, 19, 21, 23, 28, 33, 53, 60, 69, 74, 90, 106, 115, 134, 164, 165] ?_; refine zZ.draws ?_) | (refine zZ.isR (id := 17) ?_; refine zZ.rc [0, 1, 2, 6, 7, 8, 9, 10, 11, 12, 13, 14, 36, 85, 99] [9, 15, 16, 18, 19, 21, 23, 28, 33, 53, 60, 69, 74, 90, 106, 115, 134, 164, 165] (r := (.v zD (.v zD (.v v7_18 (.v v2_1 .e))))) (h := ?_)) | (refine zZ.isR (id := 18) ?_; refine zZ.rk [0, 1, 2, 6, 7, 8, 9, 10, 11, 12, 13, 14, 36, 85, 99] [9, 15, 16, 18, 19, 21, 23, 28, 33, 53, 60, 69, 74, 90, 106, 115, 134, 164, 165] ?_; refine zZ.draws ?_) | (refine zZ.isR (id := 19) ?_; refine zZ.rc [0, 1, 2, 6, 7, 8, 9, 10, 11, 12, 13, 14, 36, 85, 99] [9, 15, 16, 18, 19, 21, 23, 28, 33, 53, 60, 69, 74, 90, 106, 115, 134, 164, 165] (r := (.v zR .e)) (h := ?_)) | (refine zZ.isR (id := 20) ?_; refine zZ.rc [0, 1, 2, 6, 7, 8, 9, 10, 11, 12, 13, 14, 36, 85, 99] [9, 15, 16, 18, 19, 21, 23, 28, 33, 53, 60, 69, 74, 90, 106, 115, 134, 164, 165] (r := (.v zD (.v v41_8 (.v zD .e)))) (h := ?_)) | (refine zZ.isR (id := 21) ?_; refine zZ.rc [0, 1, 2, 6, 7, 8, 9, 10, 11, 12, 13, 14, 36, 85, 99] [9, 15, 16, 18, 19, 21, 23, 28, 33, 53, 60, 69, 74, 90, 106, 115, 134, 164, 165] (r := (.v zD (.v zR .e))) (h := ?_)) | (refine zZ.isR (id := 11) ?_; refine zZ.rc [0, 1, 2, 6, 7, 8, 9, 10, 11, 12, 13, 14, 36, 85, 99] [9, 15, 16, 18, 19, 21, 23, 28, 33, 53, 60, 69, 74, 90, 106, 115, 134, 164, 165] (r := (.v zD (.v v30_0 (.v zR .e)))) (h := ?_)) | refine zZ.y8 rfl bA ?_ | refine zZ.yP rfl bA ?_ | refine zZ.cond rfl (fun h => ?_) (fun h => ?_) | refine zZ.skip ?_ | refine zZ.block ?_) | refine zO.n ?_ | refine yJ.n ?_ | (refine Draws.is ?_; first | refine Draws.rc (.v zD (.v v7_38 .e)) ?_ | refine Draws.rc (.v zD (.v v32_0 (.v v6_0 (.v v7_38 .e)))) ?_ | refine Draws.rc (.v yI (.v yI (.v v2_8 (.v zD .e)))) ?_ | refine Draws.rc (.v v7_38 (.v v2_15 (.v zD (.v v32_0 (.v v6_0 (.v v30_0 (.v v7_38 .e))))))) ?_ | refine Draws.rc (.v v7_38 .e) ?_ | (refine Draws.in_ [53] rfl ?_; refine Draws.v rfl rfl (zT (c2) rfl rfl rfl (by decide)) ?_) | (refine Draws.in_ [60] rfl ?_; refine Draws.v rfl rfl (zT (c3) rfl rfl rfl (by decide)) ?_) | (refine Draws.in_ [69, 74] rfl ?_; refine Draws.v rfl rfl (zT (c4) rfl rfl rfl (by decide)) ?_) | (refine Draws.in_ [90] rfl ?_; refine Draws.v rfl rfl (zT (c5) rfl rfl rfl (by decide)) ?_) | refine Draws.done (by kernel_rfl) (by kernel_rfl) (by kernel_rfl) ?_) | (refine zI.is ?_; first | refine zI.nil ?_ | refine zI.rc (.w w24_1 .e) ?_))
      all_goals
        refine ⟨i + 1, ?_, ⟨by omega, by rw [hnx2]; exact hst⟩, by omega⟩
        first | rw [R4e] | rw [R3e]
        clear R4e R3e R2e
        simp only [hnx2, skStep]
        simp only [*, cond_true, cond_false, Bool.true_and, Bool.false_and, Bool.true_or, Bool.false_or]
        refine yU (is := [0, 1, 2, 7, 8, 9, 10, 11, 12, 13]) (js := [9, 33]) ?_ ?_
        case refine_1 =>
          repeat' first | exact zX.nil | apply zX.p rfl | apply zX.ptr rfl | apply zX.own rfl | apply zX.clo rfl | apply zX.ifp rfl | apply zX.pt rfl | apply zX.tup rfl | apply zX.skip
        case refine_2 =>
          repeat' first | exact zW.nil | apply zW.boxP rfl rfl | apply zW.xG rfl | apply zW.some rfl | apply zW.skip
end Go.Proofs.YteadaggehndacaaDoor
/- The law ListSeeks: its contract. -/
namespace Go.Proofs.YteadaggehndacaaDoor
set_option maxRecDepth 100000
set_option maxHeartbeats 16000000
open Go Go.RowKit
set_option linter.unusedSimpArgs false
set_option linter.unusedVariables false
attribute [local irreducible] zY zZ Step zQ Sub zI zM Fn zO yJ
theorem listSeeks_fn (gs : List Int) (bs : List Bool) (k : Int) (hg : ∀ x ∈ gs, 0 ≤ x ∧ x < 256) (hl : gs.length ≤ maxLen) (hk : 0 ≤ k ∧ k < 65536) : Fn Tryd.prog 5 [.sl (byts gs), .sl (bools bs), .val (.int .u16 k)] (.p (.val (.bool true))) := by
  by_cases h1 : gs.length ≤ 10 ∧ gs.length ≤ bs.length
  · exact listSeeks_start gs bs k h1.1 h1.2 hk hg
  · have c0 := shown15_fn
    have fb : (bools bs).length = bs.length := bools_len bs
    by_cases h10 : gs.length ≤ 10
    case pos =>
      have f1 : decide ((10 : Int) < (gs.length : Nat)) = false := decide_eq_false (by omega)
      have f2 : decide (((bools bs).length : Int) < (gs.length : Nat)) = true := decide_eq_true (by rw [fb]; omega)
      refine yL Tryd.func5 rfl Tryd.ntmps5 (Nat.le_of_ble_eq_true rfl) ?_
      repeat' (first | (refine zY.is ?_; first | refine zY.nil ?_ | (refine zY.at_ 7 rfl ?_; refine zY.rc (.v zR .e) ?_) | (refine zY.in_ [21] rfl ?_; refine zY.v rfl rfl (zT (c0) rfl rfl rfl (by decide)) ?_)) | (refine zZ.is ?_; first | refine zZ.seq ?_ | (refine zZ.isR (id := 0) ?_; refine zZ.rc [0, 1, 2] [9, 15, 16, 18, 19] (r := (.v zR .e)) (h := ?_)) | (refine zZ.isR (id := 1) ?_; refine zZ.rc [0, 1, 2, 6] [9, 15, 16, 18, 19] (r := .e) (h := ?_)) | (refine zZ.isR (id := 2) ?_; refine zZ.rc [0, 1, 2, 6, 7] [9, 15, 16, 18, 19] (r := (.v zD (.v v57_0 (.v zR .e)))) (h := ?_)) | (refine zZ.isR (id := 3) ?_; refine zZ.rc [0, 1, 2, 6, 7, 8] [9, 15, 16, 18, 19] (r := (.v zD (.v v45_0 (.v zD (.gY zD (.gY v57_1 (.gY zD (.gY v43_0 (.v v5_1 .e))))))))) (h := ?_)) | (refine zZ.isR (id := 4) ?_; refine zZ.rc [0, 1, 2, 6, 7, 8] [9, 15, 16, 18, 19] (r := (.v zD (.v zR .e))) (h := ?_)) | refine zZ.y8 rfl bA ?_ | refine zZ.ret ?_) | refine zO.n ?_ | refine zO.r ?_)
      all_goals exact ⟨by first | exact .inl rfl | exact .inr rfl, _, Sub.refl _, .p rfl (.tmp rfl)⟩
    case neg =>
      have f1 : decide ((10 : Int) < (gs.length : Nat)) = true := decide_eq_true (by omega)
      refine yL Tryd.func5 rfl Tryd.ntmps5 (Nat.le_of_ble_eq_true rfl) ?_
      repeat' (first | (refine zY.is ?_; first | refine zY.nil ?_ | (refine zY.at_ 7 rfl ?_; refine zY.rc (.v zR .e) ?_) | (refine zY.in_ [21] rfl ?_; refine zY.v rfl rfl (zT (c0) rfl rfl rfl (by decide)) ?_)) | (refine zZ.is ?_; first | refine zZ.seq ?_ | (refine zZ.isR (id := 0) ?_; refine zZ.rc [0, 1, 2] [9, 15, 16, 18, 19] (r := (.v zR .e)) (h := ?_)) | (refine zZ.isR (id := 1) ?_; refine zZ.rc [0, 1, 2, 6] [9, 15, 16, 18, 19] (r := .e) (h := ?_)) | (refine zZ.isR (id := 2) ?_; refine zZ.rc [0, 1, 2, 6, 7] [9, 15, 16, 18, 19] (r := (.v zD (.v v57_0 (.v zR .e)))) (h := ?_)) | (refine zZ.isR (id := 3) ?_; refine zZ.rc [0, 1, 2, 6, 7, 8] [9, 15, 16, 18, 19] (r := (.v zD (.v v45_0 (.v zD (.gF (.gF (.gF (.gF (.v vY .e))))))))) (h := ?_)) | (refine zZ.isR (id := 4) ?_; refine zZ.rc [0, 1, 2, 6, 7, 8] [9, 15, 16, 18, 19] (r := (.v zD (.v zR .e))) (h := ?_)) | refine zZ.y8 rfl bA ?_ | refine zZ.ret ?_) | refine zO.n ?_ | refine zO.r ?_)
      all_goals exact ⟨by first | exact .inl rfl | exact .inr rfl, _, Sub.refl _, .p rfl (.tmp rfl)⟩
end Go.Proofs.YteadaggehndacaaDoor
/- A law's arguments, as they come in, by their shapes. Generic over the program. -/
namespace Go.Proofs.YteadaggehndacaaDoor
set_option maxRecDepth 100000
set_option maxHeartbeats 16000000
open Go Go.RowKit Go.ChangeShapes Go.WideShapes Go.ChangeAt
def NoM : Nat → Nat → Prop := fun _ _ => False
/-- what a cell may hold -/
inductive Leaf where
  | int (k : IntKind)
  | bool
  | any
deriving DecidableEq
def leafOK : Leaf → Value → Prop
  | .int k, v => ∃ n, v = .int k n ∧ (Lit.int k n).wf = true
  | .bool, v => ∃ b, v = .bool b
  | .any, v => v.oneCell' = true
/-- type t's cells, one behind the other, are of these kinds (any: a slice) -/
def flatB (P : Program) : Nat → TypeId → List Leaf → Bool
  | 0, _, _ => false
  | d + 1, t, ls => match P.underlying t with
    | some (.int k) => decide (ls = [.int k])
    | some .bool => decide (ls = [.bool])
    | some (.slice _) => decide (ls = [.any])
    | some (.struct fs) => (ls.length == P.cellsOf t) && (fs.toList.all fun f => flatB P d f.type ((ls.drop f.offset).take (P.cellsOf f.type)) && (((ls.drop f.offset).take (P.cellsOf f.type)).length == P.cellsOf f.type)) &&
      (List.range ls.length).all fun c => fs.toList.any fun f => decide (f.offset ≤ c) && decide (c < f.offset + P.cellsOf f.type)
    | _ => false
section
variable {H : Type} {enc : TypeId × Value → H} {P : Program} {W : World} {base : Nat} {spare : Nat → Bool} {held : Bool}
theorem flat_trod : ∀ (d : Nat) {t : TypeId} {ls : List Leaf}, flatB P d t ls = true → ∀ {fuel : Nat} {cs : List Value} {x : DataW H × List MemPlace}, DataW.trod enc P W base spare held fuel t cs = some x →
    cs.length = ls.length ∧ ∀ (i : Nat) l v, ls[i]? = some l → cs[i]? = some v → leafOK l v
  | 0, _, _, h, _, _, _, _ => by cases h
  | d + 1, t, ls, h, fuel, cs, x, hx => by
    unfold flatB at h
    cases hu : P.underlying t with
    | none => rw [hu] at h; cases h
    | some ds =>
      rw [hu] at h
      cases ds with
      | int k =>
        obtain rfl : ls = [.int k] := of_decide_eq_true h
        obtain ⟨n, rfl, _, hw⟩ := DataW.trod_int hu hx
        refine ⟨rfl, fun i l v hl hv => ?_⟩
        match i with
        | 0 => simp at hl hv; subst hl hv; exact ⟨n, rfl, hw⟩
        | i + 1 => simp at hl
      | bool =>
        obtain rfl : ls = [.bool] := of_decide_eq_true h
        obtain ⟨b, rfl, _⟩ := DataW.trod_bool hu hx
        refine ⟨rfl, fun i l v hl hv => ?_⟩
        match i with
        | 0 => simp at hl hv; subst hl hv; exact ⟨b, rfl⟩
        | i + 1 => simp at hl
      | slice e =>
        obtain rfl : ls = [.any] := of_decide_eq_true h
        have key : ∀ w : Value, w.oneCell' = true → cs = [w] → cs.length = [Leaf.any].length ∧ ∀ (i : Nat) l v, [Leaf.any][i]? = some l → cs[i]? = some v → leafOK l v := fun w hw e => by
          subst e
          refine ⟨rfl, fun i l v hl hv => ?_⟩
          match i with
          | 0 => simp at hl hv; subst hl hv; exact hw
          | i + 1 => simp at hl
        rcases DataW.trod_slice hu hx with ⟨e, _⟩ | ⟨a, len, cap, _, _, _, _, e, _⟩
        · exact key _ rfl e
        · exact key _ rfl e
      | struct fs =>
        simp only [Bool.and_eq_true, beq_iff_eq, List.all_eq_true, List.mem_range, List.any_eq_true, decide_eq_true_eq] at h
        obtain ⟨⟨hlen, hfs⟩, hcov⟩ := h
        obtain ⟨xs, n, _, _, hcl, hxl, hg⟩ := DataW.trod_struct hu hx
        refine ⟨by omega, fun i l v hl hv => ?_⟩
        have hil : i < ls.length := (List.getElem?_eq_some_iff.1 hl).1
        obtain ⟨f, hf, hf1, hf2⟩ := hcov i hil
        obtain ⟨hfl, hfn⟩ := hfs f hf
        obtain ⟨j, hj, hfj⟩ := List.getElem_of_mem hf
        have hfj2 : fs[j]? = some f := by
          rw [← hfj, Array.getElem_toList]
          exact Array.getElem?_eq_getElem _
        have h2 := hg j f hfj2
        have hjx : j < xs.length := by rw [hxl]; simpa using hj
        rw [List.getElem?_eq_getElem hjx] at h2
        obtain ⟨_, h3⟩ := flat_trod d hfl h2
        refine h3 (i - f.offset) l v ?_ ?_
        · rw [List.getElem?_take_of_lt (by omega), List.getElem?_drop, show f.offset + (i - f.offset) = i by omega]
          exact hl
        · rw [List.getElem?_take_of_lt (by omega), List.getElem?_drop, show f.offset + (i - f.offset) = i by omega]
          exact hv
      | _ => cases h
theorem has_block {r : Reach} {a : Addr} {e : TypeId} {n : Nat} (h : W.has P r base a e n) : a.spot = none ∧ a.block < W.heap.size := by
  obtain ⟨_, h1, row, cells, h2, _⟩ := h
  refine ⟨h1, ?_⟩
  unfold World.shape? at h2
  cases hb : W.heap[a.block]? with
  | none => rw [hb] at h2; cases h2
  | some o => exact (Array.getElem?_eq_some_iff.1 hb).1
theorem cell_slice {t e : TypeId} {a : Addr} {len cap : Nat} (ht : P.underlying t = some (.slice e)) (h : Cell.okWide P W .any base t (.slice (some a) len cap)) : a.spot = none ∧ a.block < W.heap.size ∧ len ≤ cap := by
  simp only [Cell.okWide, ht, Cell.ok] at h
  exact ⟨(has_block h.2.2).1, (has_block h.2.2).2, h.1⟩
theorem wide_slice {t e : TypeId} {a : Addr} {len cap : Nat} (ht : P.underlying t = some (.slice e)) (h : Value.okWide P W .any base t (.slice (some a) len cap)) : a.spot = none ∧ a.block < W.heap.size ∧ len ≤ cap :=
  cell_slice ht (by simpa only [Value.okWide, ht] using h)
theorem leaf_one {l : Leaf} {v : Value} (h : leafOK l v) : v.oneCell' = true := by
  cases l with
  | int k => obtain ⟨n, rfl, _⟩ := h; rfl
  | bool => obtain ⟨b, rfl⟩ := h; rfl
  | any => exact h
theorem flatten_len {n : Nat} : ∀ {rs : List (List Value)}, (∀ r ∈ rs, r.length = n) → rs.flatten.length = rs.length * n
  | [], _ => by simp
  | r :: rs, h => by
    rw [List.flatten_cons, List.length_append, h r (by simp), flatten_len fun x hx => h x (by simp [hx]), List.length_cons, Nat.add_mul]
    omega
theorem flatten_get {n : Nat} : ∀ {rs : List (List Value)}, (∀ r ∈ rs, r.length = n) → ∀ (i c : Nat), c < n → rs.flatten[i * n + c]? = (rs[i]?).bind (·[c]?)
  | [], _, i, c, _ => by simp
  | r :: rs, h, 0, c, hc => by
    rw [List.flatten_cons, Nat.zero_mul, Nat.zero_add, List.getElem?_append_left (by rw [h r (by simp)]; exact hc)]
    rfl
  | r :: rs, h, i + 1, c, hc => by
    have hr := h r (by simp)
    rw [List.flatten_cons, List.getElem?_append_right (by rw [hr, Nat.add_mul]; omega), hr]
    have e : (i + 1) * n + c - n = i * n + c := by rw [Nat.add_mul]; omega
    rw [e, flatten_get (fun x hx => h x (by simp [hx])) i c hc]
    rfl
/-- a slice of plain structs (of slices, as they are) that came in -/
theorem arg_rows {t e : TypeId} {ls : List Leaf} {dep : Nat} {v : Value} {fuel : Nat} {x : DataW H × List MemPlace} (ht : P.underlying t = some (.slice e)) (hfl : flatB P dep e ls = true) (hn : P.cellsOf e = ls.length)
    (hok : ∀ a len cap, v = .slice (some a) len cap → a.spot = none ∧ a.block < W.heap.size) (h : DataW.trod enc P W base (fun _ => true) held fuel t [v] = some x) :
    ∃ rows : List (List Value), (∀ r ∈ rows, r.length = ls.length ∧ ∀ (i : Nat) l u, ls[i]? = some l → r[i]? = some u → leafOK l u) ∧ rows.length ≤ maxLen ∧
      ∀ es : List PV, es.map PV.cells = rows.map (fun r => r.map PV.val) → Rep NoM W (.sl es) v := by
  rcases DataW.trod_slice ht h with ⟨hv, _⟩ | ⟨a, len, cap, elems, rest, n, _, hv, _, hb, hlc, hm, hlen, hel, _⟩
  · simp only [List.cons.injEq, and_true] at hv
    subst hv
    refine ⟨[], fun r hr => by simp at hr, Nat.zero_le _, fun es he => ?_⟩
    have : es = [] := by simpa using he
    subst this
    exact .nil
  · simp only [List.cons.injEq, and_true] at hv
    subst hv
    obtain ⟨hs, hbk⟩ := hok a len cap rfl
    obtain ⟨g, off, spot⟩ := a
    simp only at hs hbk
    subst hs
    have row : ∀ i, i < len → ∃ r : List Value, W.cells? base (Addr.add ⟨g, off, none⟩ (i * P.cellsOf e)) (P.cellsOf e) = some r ∧ r.length = ls.length ∧ ∀ (j : Nat) l u, ls[j]? = some l → r[j]? = some u → leafOK l u := by
      intro i hi
      have h1 := hel i hi
      rw [List.getElem?_eq_getElem (by omega : i < elems.length)] at h1
      obtain ⟨r, hr, h2⟩ := Option.bind_eq_some_iff.1 h1
      obtain ⟨h3, h4⟩ := flat_trod dep hfl h2
      exact ⟨r, hr, h3, h4⟩
    have rows : ∀ m, m ≤ len → ∃ rs : List (List Value), rs.length = m ∧ ∀ (i : Nat) r, rs[i]? = some r → W.cells? base (Addr.add ⟨g, off, none⟩ (i * P.cellsOf e)) (P.cellsOf e) = some r ∧ r.length = ls.length ∧ ∀ (j : Nat) l u, ls[j]? = some l → r[j]? = some u → leafOK l u := by
      intro m
      induction m with
      | zero => exact fun _ => ⟨[], rfl, fun i r h => by simp at h⟩
      | succ m ih =>
        intro hm2
        obtain ⟨rs, h1, h2⟩ := ih (by omega)
        obtain ⟨r, hr⟩ := row m (by omega)
        refine ⟨rs ++ [r], by simp [h1], fun i r' hi => ?_⟩
        rcases Nat.lt_or_ge i rs.length with h3 | h3
        · rw [List.getElem?_append_left h3] at hi
          exact h2 i r' hi
        · rw [List.getElem?_append_right h3] at hi
          have e0 : i - rs.length = 0 := by
            rcases Nat.eq_zero_or_pos (i - rs.length) with h | h
            · exact h
            · rw [List.getElem?_eq_none (by simp; omega)] at hi; cases hi
          rw [e0] at hi
          simp at hi
          subst hi
          rw [show i = m by omega]
          exact hr
    obtain ⟨rs, hrl, hrs⟩ := rows len (Nat.le_refl _)
    refine ⟨rs, fun r hr => ?_, by omega, fun es he => ?_⟩
    · obtain ⟨i, hi, rfl⟩ := List.getElem_of_mem hr
      exact (hrs i _ (List.getElem?_eq_getElem hi)).2
    · have hn0 : P.cellsOf e = ls.length := hn
      have hesl : es.length = rs.length := by simpa using congrArg List.length he
      have hflat : flat es = rs.flatten.map PV.val := by
        show es.flatMap PV.cells = _
        rw [List.flatMap_def, he, List.map_flatten]
      have hrn : ∀ r ∈ rs, r.length = ls.length := fun r hr => by
        obtain ⟨i, hi, rfl⟩ := List.getElem_of_mem hr
        exact (hrs i _ (List.getElem?_eq_getElem hi)).2.1
      have hyl : rs.flatten.length = rs.length * ls.length := flatten_len hrn
      have at_ : ∀ (j : Nat) y, rs.flatten[j]? = some y → ∃ i c r, j = i * ls.length + c ∧ rs[i]? = some r ∧ r[c]? = some y := fun j y hy => by
        have hj : j < rs.length * ls.length := by rw [← hyl]; exact (List.getElem?_eq_some_iff.1 hy).1
        have hpos : 0 < ls.length := by
          rcases Nat.eq_zero_or_pos ls.length with h | h
          · rw [h] at hj; omega
          · exact h
        have e1 : j = (j / ls.length) * ls.length + j % ls.length := by
          have := Nat.div_add_mod j ls.length
          rw [Nat.mul_comm] at this
          omega
        have hi : j / ls.length < rs.length := (Nat.div_lt_iff_lt_mul hpos).2 hj
        have hc : j % ls.length < ls.length := Nat.mod_lt _ hpos
        have h1 := flatten_get hrn (j / ls.length) (j % ls.length) hc
        rw [← e1, hy, List.getElem?_eq_getElem hi] at h1
        exact ⟨_, _, _, e1, List.getElem?_eq_getElem hi, h1.symm⟩
      refine .sl es g off len cap rs.flatten (by omega) (by rw [hflat, List.length_map]) (fun j y hy => ?_) (fun j c y hc hy => ?_) (fun y hy => ?_) (fun _ _ h => h) hbk hlc hm
      · obtain ⟨i, c, r, rfl, hr, hc⟩ := at_ j y hy
        have h1 := World.cells?_some (hrs i r hr).1
        have hcl : c < P.cellsOf e := by
          rw [hn0, ← (hrs i r hr).2.1]
          exact (List.getElem?_eq_some_iff.1 hc).1
        have h2 := h1.2.2 c hcl
        rw [hc, add_lit, add_lit, hn0, Nat.add_assoc] at h2
        exact h2
      · rw [hflat, List.getElem?_map, hy] at hc
        simp only [Option.map_some, Option.some.injEq] at hc
        subst hc
        exact .val _
      · obtain ⟨j, hj, rfl⟩ := List.getElem_of_mem hy
        obtain ⟨i, c, r, _, hr, hc⟩ := at_ j _ (List.getElem?_eq_getElem hj)
        have hcl : c < ls.length := by
          rw [← (hrs i r hr).2.1]
          exact (List.getElem?_eq_some_iff.1 hc).1
        exact leaf_one ((hrs i r hr).2.2 c _ _ (List.getElem?_eq_getElem hcl) hc)
end
end Go.Proofs.YteadaggehndacaaDoor
/- A law's call, by its contract; the table that the row lists; a world that fits. -/
namespace Go.Proofs.YteadaggehndacaaDoor
set_option maxRecDepth 100000
set_option maxHeartbeats 16000000
open Go Go.RowKit Go.ChangeShapes Go.WideShapes Go.ChangeAt
set_option linter.unusedVariables false
theorem ownT : ownKnob Tryd.prog.godebug = none := by kernel_rfl
theorem laidOutT : laidOutB Tryd.prog = true := by kernel_rfl
section
variable {P : Program} {W : World}
/-- A law's call, by its contract. -/
theorem Fn.law {f : FuncId} {args : List PV} (h : Fn P f args (.p (.val (.bool true)))) (hlay : Lays W) {vs : List Value} (hl : vs.length = args.length) (hr : ∀ (i : Nat) x v, args[i]? = some x → vs[i]? = some v → Rep NoM W x v) :
    Calls P f vs.toArray W fun e W' => e = .returned (.bool true) ∧ Below W.heap.size W W' :=
  (h NoM W vs ⟨hlay, fun _ _ _ h => h⟩ (fun _ _ h => h.elim) hl hr).mono fun e W' ⟨v, he, hv, hb⟩ => by
    cases hv
    exact ⟨he, hb⟩
theorem reps1 {M : Nat → Nat → Prop} {x0 : PV} {v0 : Value} (h0 : Rep M W x0 v0) : ∀ (i : Nat) x v, [x0][i]? = some x → [v0][i]? = some v → Rep M W x v := by
  intro i x v hx hv
  match i with
  | 0 => simp at hx hv; subst hx; subst hv; exact h0
  | i + 1 => simp at hx
theorem repsC {M : Nat → Nat → Prop} {x0 : PV} {v0 : Value} {xs : List PV} {vs : List Value} (h0 : Rep M W x0 v0) (h : ∀ (i : Nat) x v, xs[i]? = some x → vs[i]? = some v → Rep M W x v) : ∀ (i : Nat) x v, (x0 :: xs)[i]? = some x → (v0 :: vs)[i]? = some v → Rep M W x v := by
  intro i x v hx hv
  match i with
  | 0 => simp at hx hv; subst hx; subst hv; exact h0
  | i + 1 => exact h i x v (by simpa using hx) (by simpa using hv)
end
/-! ### The listed table -/
theorem gTbl : Tryd.prog.globalNamed "weald/crc.halves" = some 0 := by kernel_rfl
theorem tTbl : (Tryd.prog.globals[0]?).map (·.type) = some 161 := by kernel_rfl
def laidL : List (String × DataW Unit) := [("weald/crc.halves", Rows.laid_weald_crc_halves)]
theorem lays_of_laid {W : World} (h : laidMetH Tryd.prog laidL W) : Lays W := by
  rw [MakeChecks.laidMetH_plain _ _ _ (by kernel_rfl)] at h
  obtain ⟨ps, ⟨g0, t0, cs0, f0, p0, q0, hg0, ht0, hv0, hd0, _, _⟩, _⟩ := h
  obtain rfl := Option.some.inj (gTbl.symm.trans hg0)
  obtain rfl := Option.some.inj (tTbl.symm.trans ht0)
  have hcell := World.var?_cell hg0 hv0
  obtain ⟨xs, m1, _, hx1, hlen, hn, hel⟩ := DataW.trod_array Tryd.underlying161 hd0
  have c1 : Tryd.prog.cellsOf 155 = 1 := by kernel_rfl
  have c16 : Tryd.prog.cellsOf 161 = 16 := by kernel_rfl
  rw [c16] at hlen
  have hdat : Rows.laid_weald_crc_halves (H := Unit) = .agg (tbl0.map fun p => .lit (.int p.1 p.2)) := by kernel_rfl
  simp only [Prod.mk.injEq] at hx1
  have hxs : xs.map (·.1) = tbl0.map fun p => .lit (.int p.1 p.2) := by
    have := hx1.1
    rw [hdat] at this
    simpa using this.symm
  have hk : ∀ p ∈ tbl0, p.1 = .u32 := by decide +kernel
  intro g ys hg
  have hgy : g = 0 ∧ ys = tbl0 := by
    unfold seatTbl at hg
    split at hg
    · next h => exact ⟨h, (Option.some.inj hg).symm⟩
    · cases hg
  obtain ⟨rfl, rfl⟩ := hgy
  have at_ : ∀ (j : Nat) p, tbl0[j]? = some p → W.cell? ⟨0, j, none⟩ = some (.int p.1 p.2) := by
    intro j p hp
    have hj : j < 16 := (List.getElem?_eq_some_iff.1 hp).1
    have h1 := hel j hj
    have hxj : xs[j]? = some xs[j] := List.getElem?_eq_getElem (by omega)
    rw [hxj, c1, Nat.mul_one] at h1
    obtain ⟨k, e1, e2, _⟩ := DataW.trod_int Tryd.underlying155 h1
    have h3 : (xs.map (·.1))[j]? = some (.lit (.int .u32 k)) := by rw [List.getElem?_map, hxj, e2]; rfl
    rw [hxs, List.getElem?_map, hp] at h3
    simp only [Option.map_some, Option.some.injEq, DataW.lit.injEq, Lit.int.injEq] at h3
    obtain ⟨h4, h5⟩ := h3
    have h6 : cs0[j]? = some (.int .u32 k) := by
      have : (cs0.toList.drop j).take 1 = [cs0.toList[j]'(by rw [hlen]; exact hj)] := by
        rw [List.drop_eq_getElem_cons (by rw [hlen]; exact hj)]
        rfl
      rw [this] at e1
      simp only [List.cons.injEq, and_true] at e1
      rw [← e1]
      simp [Array.getElem?_eq_getElem (show j < cs0.size by simpa using (by rw [hlen]; exact hj : j < cs0.toList.length))]
    rw [hcell j, h6, h4, h5]
  refine ⟨?_, at_⟩
  have h0 := at_ 0 _ rfl
  unfold World.cell? at h0
  cases hh : W.heap[0]? with
  | none => rw [hh] at h0; cases h0
  | some o => exact (Array.getElem?_eq_some_iff.1 hh).1
/-- The door's own heap fits. -/
theorem door_met (os : Os) (args : Array Value) : laidMetH Tryd.prog laidL ((World.doorLaid Tryd.prog 400 os).forCall (fun _ _ => 0) ⟨#[], args, []⟩).memory :=
  laidMetH_of_parts3 (fuel := 8) (laidMet_of_run' 8 (by kernel_rfl) (by kernel_rfl)) (by kernel_rfl) (by kernel_rfl)
end Go.Proofs.YteadaggehndacaaDoor
/- Arguments: rows of truth values, and of bytes. Generic over the program. -/
namespace Go.Proofs.YteadaggehndacaaDoor
set_option maxRecDepth 100000
set_option maxHeartbeats 16000000
open Go Go.RowKit Go.ChangeShapes Go.WideShapes Go.ChangeAt
set_option linter.unusedVariables false
section
variable {P : Program} {W : World} {H : Type} {enc : TypeId × Value → H}
theorem arg_one {t e : TypeId} {l : Leaf} {v : Value} {d : DataW H} {p : List MemPlace} {base : Nat} (ht : P.underlying t = some (.slice e)) (hfl : flatB P 3 e [l] = true) (hn : P.cellsOf e = 1) (hv : Value.okWide P W .any base t v)
    (h : DataW.Trod enc P W 0 (fun _ => true) true t v d p) : ∃ xs : List Value, (∀ x ∈ xs, leafOK l x) ∧ xs.length ≤ maxLen ∧ Rep NoM W (.sl (xs.map PV.val)) v := by
  obtain ⟨a, len, cap, rfl⟩ := okWide_slice ht hv
  obtain ⟨fuel, hf⟩ := h
  have hf' : DataW.trod enc P W 0 (fun _ => true) true fuel t [Value.slice a len cap] = some (d, p) := hf
  obtain ⟨rows, h1, h2, h3⟩ := arg_rows (ls := [l]) ht hfl hn (fun a' len' cap' e' => by
    injection e' with e1 e2 e3
    subst e1 e2 e3
    have := wide_slice ht hv
    exact ⟨this.1, this.2.1⟩) hf'
  have hr : ∀ r ∈ rows, ∃ x, r = [x] ∧ leafOK l x := fun r hr => by
    obtain ⟨hl, hx⟩ := h1 r hr
    match r, hl with
    | [x], _ => exact ⟨x, rfl, hx 0 l x rfl rfl⟩
  refine ⟨rows.flatten, fun x hx => ?_, ?_, h3 _ ?_⟩
  · obtain ⟨r, h4, h5⟩ := List.mem_flatten.1 hx
    obtain ⟨y, rfl, h6⟩ := hr r h4
    simp at h5; subst h5; exact h6
  · have : rows.flatten.length = rows.length * 1 := flatten_len fun r h => (h1 r h).1
    omega
  · clear h3 h2 h1 hf hf'
    induction rows with
    | nil => rfl
    | cons r rs ih =>
      obtain ⟨y, rfl, _⟩ := hr r (by simp)
      have := ih fun r h => hr r (by simp [h])
      show (PV.val y).cells :: (rs.flatten.map PV.val).map PV.cells = [PV.val y] :: rs.map fun r => r.map PV.val
      rw [this]
      rfl
theorem arg_bools {t e : TypeId} {v : Value} {d : DataW H} {p : List MemPlace} {base : Nat} (ht : P.underlying t = some (.slice e)) (hfl : flatB P 3 e [.bool] = true) (hn : P.cellsOf e = 1) (hv : Value.okWide P W .any base t v)
    (h : DataW.Trod enc P W 0 (fun _ => true) true t v d p) : ∃ l : List Bool, Rep NoM W (.sl (l.map fun b => .val (.bool b))) v := by
  obtain ⟨xs, h1, h2, h3⟩ := arg_one ht hfl hn hv h
  suffices ∃ l : List Bool, xs = l.map Value.bool by
    obtain ⟨l, rfl⟩ := this
    exact ⟨l, by rw [List.map_map] at h3; exact h3⟩
  clear h3 h2
  induction xs with
  | nil => exact ⟨[], rfl⟩
  | cons x r ih =>
    obtain ⟨b, rfl⟩ := h1 x (by simp)
    obtain ⟨l, rfl⟩ := ih fun y hy => h1 y (by simp [hy])
    exact ⟨b :: l, rfl⟩
theorem arg_u8s {t e : TypeId} {v : Value} {d : DataW H} {p : List MemPlace} {base : Nat} (ht : P.underlying t = some (.slice e)) (hfl : flatB P 3 e [.int .u8] = true) (hn : P.cellsOf e = 1) (hv : Value.okWide P W .any base t v)
    (h : DataW.Trod enc P W 0 (fun _ => true) true t v d p) : ∃ l : List Int, Rep NoM W (.sl (byts l)) v ∧ (∀ x ∈ l, 0 ≤ x ∧ x < 256) ∧ l.length ≤ maxLen := by
  obtain ⟨xs, h1, h2, h3⟩ := arg_one ht hfl hn hv h
  suffices ∃ l : List Int, xs = l.map (Value.int .u8) ∧ ∀ x ∈ l, 0 ≤ x ∧ x < 256 by
    obtain ⟨l, rfl, h4⟩ := this
    exact ⟨l, by rw [List.map_map] at h3; exact h3, h4, by simpa using h2⟩
  clear h3 h2
  induction xs with
  | nil => exact ⟨[], rfl, fun x hx => by simp at hx⟩
  | cons x r ih =>
    obtain ⟨b, rfl, hb⟩ := h1 x (by simp)
    obtain ⟨l, rfl, hl⟩ := ih fun y hy => h1 y (by simp [hy])
    refine ⟨b :: l, rfl, fun y hy => ?_⟩
    rcases List.mem_cons.1 hy with rfl | hy
    · have := bounds_u8 hb
      omega
    · exact hl y hy
end
end Go.Proofs.YteadaggehndacaaDoor
/- For every input ListSeeks returns true, and leaves its arguments as they were; tied: Rows.ListSeeksCardSaid. Conditions: none beyond the given statement's own. -/
namespace Go.Proofs.YteadaggehndacaaDoor
set_option maxRecDepth 100000
set_option maxHeartbeats 16000000
open Go Go.RowKit Go.ChangeShapes Go.WideShapes Go.ChangeAt
set_option linter.unusedVariables false
theorem wf_u16 {n : Int} (h : (Lit.int .u16 n).wf = true) : 0 ≤ n ∧ n < 65536 := by have := bounds_u16 h; omega
theorem listSeeks_lifted (os : Os) (started : os.Started) (H : Type) (enc : TypeId × Value → H) :
    ReturnsInHanded {} Tryd.checked os 5 .any (fun w args => (Rows.listSeeksSpec.pre enc Tryd.prog Tryd.f5 [] false w args ∧ laidMetH Tryd.prog laidL w) ∧ sizedMet enc Tryd.prog Tryd.f5 (OpenSpec.ofChange Rows.listSeeksSpec) false w args)
      (Rows.listSeeksSpec.post enc Tryd.prog Tryd.f5 false true false false) := by
  refine returnsInHanded_of_change_and (C := Tryd.checked) (X := fun w _ => laidMetH Tryd.prog laidL w) (fun _ _ _ hh h => h.of_heap hh) ownT started (by kernel_rfl) Tryd.func5
    (ChangeSpec.witness_shaped (enc := enc) (C := Tryd.checked) (os := os) (X := fun w _ => laidMetH Tryd.prog laidL w) false (World.doorLaid Tryd.prog 400 os) #[.slice none 0 0, .slice none 0 0, .int .u16 0] 8 rfl (World.shaped_of_RefB (by kernel_rfl) (by kernel_rfl)) (by kernel_rfl) (by kernel_rfl) (by kernel_rfl) (door_met os _)) ?_
  intro W base args ds gs before hval0 hW hcnd hwt hL _
  have hval : ∀ (j : Nat) t v, Tryd.f5.params[j]? = some t → args[j]? = some v → Value.okWide Tryd.prog W .any base t v := hval0
  have hW' := hW
  obtain ⟨p, q, hA0, hV, rfl, hfz, hnd⟩ := hW
  have hA : DataW.TrodAll enc Tryd.prog W 0 (fun _ => true) true Tryd.f5.params.toList args.toList ds p := hA0
  rw [Tryd.params5] at hA hval
  obtain ⟨v0, vs0, d0, ds0, p0, q0, hargs, rfl, rfl, h0, r0⟩ := trodAll_cons hA
  obtain ⟨v1, vs1, d1, ds1, p1, q1, rfl, rfl, rfl, h1, r1⟩ := trodAll_cons r0
  obtain ⟨v2, vs2, d2, ds2, p2, q2, rfl, rfl, rfl, h2, r2⟩ := trodAll_cons r1
  obtain ⟨rfl, rfl, rfl⟩ := trodAll_nil r2
  obtain rfl : args = #[v0, v1, v2] := by cases args; simp_all
  obtain ⟨rfl, rfl⟩ := trodVars_none hV
  have lt0 : ∀ x ∈ p0, x.block < W.heap.size := by obtain ⟨m, hm⟩ := h0; exact DataW.trod_lt m _ _ _ hm
  have lt1 : ∀ x ∈ p1, x.block < W.heap.size := by obtain ⟨m, hm⟩ := h1; exact DataW.trod_lt m _ _ _ hm
  have lt2 : ∀ x ∈ p2, x.block < W.heap.size := by obtain ⟨m, hm⟩ := h2; exact DataW.trod_lt m _ _ _ hm
  have o0 := hval 0 22 v0 rfl rfl
  obtain ⟨a0, rp0, g0, l0⟩ := arg_u8s Tryd.underlying22 (by kernel_rfl) (by kernel_rfl) o0 h0
  have o1 := hval 1 47 v1 rfl rfl
  obtain ⟨a1, rp1⟩ := arg_bools Tryd.underlying47 (by kernel_rfl) (by kernel_rfl) o1 h1
  have o2 := hval 2 51 v2 rfl rfl
  obtain ⟨a2, e2, _, _, wf2⟩ := open_int Tryd.underlying51 o2 h2
  have rp2 : Rep NoM W (.val (.int .u16 a2)) v2 := e2 ▸ .val _
  have g2 := wf_u16 wf2
  clear hA0 hval0
  refine ((listSeeks_fn a0 a1 a2 g0 l0 g2).law (lays_of_laid hL) (vs := [v0, v1, v2]) rfl (repsC rp0 (repsC rp1 (reps1 rp2)))).mono fun e W' ⟨he, bel⟩ => ?_
  subst he
  exact ⟨_, rfl, _, _, _, [], _, [], hW', trodAll_mk1 (shut_bool Tryd.underlying4 _), (trodAll_cons_mk (Below.trod laidOutT (by kernel_rfl) (of_decide_eq_true (by kernel_rfl)) h0 bel lt0) (trodAll_cons_mk (Below.trod laidOutT (by kernel_rfl) (of_decide_eq_true (by kernel_rfl)) h1 bel lt1) (trodAll_cons_mk (Below.trod laidOutT (by kernel_rfl) (of_decide_eq_true (by kernel_rfl)) h2 bel lt2) trodAll_mk0))), rfl, bel.frame _, fun h => by cases h⟩
theorem listSeeks_holds : Rows.ListSeeksSaid :=
  OpenClaim.holds_of_wide 5 Tryd.f5 rfl rfl rfl rfl rfl rfl rfl ⟨rfl, rfl, rfl, rfl, rfl⟩ rfl rfl rfl rfl rfl (by kernel_rfl) Tryd.func5 (by kernel_rfl)
    (of_decide_eq_true (by kernel_rfl)) (by unfold Func.isWrapper; first | (rw [if_pos (by decide +kernel)]; kernel_rfl) | (rw [if_neg (by decide +kernel)]; exact ⟨rfl, rfl⟩))
    (fun os started H enc _ => listSeeks_lifted os started H enc)
theorem listSeeksCard_holds : Rows.ListSeeksCardSaid :=
  Claim7.holds_tied_plain_at .later [] [.data] true _ true
    listSeeks_holds (fun _ h => by cases h) (by kernel_rfl) (fun _ h => by cases h) listSeeks_row_tie rfl ⟨rfl, rfl⟩ (by kernel_rfl) rfl
    (fun f fn hf hfn => by
      obtain rfl : f = 5 := Option.some.inj ((show Tryd.prog.funcNamed "weald/wealdlaw15.ListSeeks" = some 5 by kernel_rfl).symm.trans hf) |>.symm
      obtain rfl : fn = Tryd.f5 := (Option.some.inj (Tryd.func5.symm.trans hfn)).symm
      exact ⟨by kernel_rfl, fun j t ht => by
        rw [Tryd.params5] at ht
        have hm : t ∈ [22, 47, 51] := by simpa using Array.mem_of_getElem? ht
        have hall : ([22, 47, 51].all fun u => !Tryd.prog.wantsStandIn u) = true := by kernel_rfl
        exact (show Tryd.prog.wantsStandIn t = false by simpa using List.all_eq_true.1 hall t hm)⟩)
    (by kernel_rfl)
#print axioms listSeeksCard_holds
end Go.Proofs.YteadaggehndacaaDoor
